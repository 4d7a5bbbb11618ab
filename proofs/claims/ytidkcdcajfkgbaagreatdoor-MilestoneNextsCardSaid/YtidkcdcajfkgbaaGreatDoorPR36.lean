/- Texts of the mirror and contracts, put together. -/
import Derived.Test.YtidkcdcajfkgbaaGreatDoorPR30
import Derived.Test.YtidkcdcajfkgbaaGreatDoorChecked
import Derived.Test.YtidkcdcajfkgbaaGreatDoorPR33
import Derived.LoopN
import Derived.Test.YtidkcdcajfkgbaaGreatDoorRows
import Derived.ProofKit
import Derived.OpenShut
import Derived.Test.YtidkcdcajfkgbaaGreatDoorPR35
import Derived.Test.YtidkcdcajfkgbaaGreatDoorTie
import Derived.SizedLaws
import Derived.LaidMore

/- The seat's type table for the mirror. Written by a tool of mine (gen_types.py). -/
namespace Go.Mir

def tblL : List (Option TD) := [
  none,
  none,
  some { kind := .int .i64, size := 1, bytes := 8, zero := [.int .i64 0], ty := some (.int .i64) },
  some { kind := .int .i64, size := 1, bytes := 8, zero := [.int .i64 0], ty := some (.int .i64) },
  some { kind := .bool, size := 1, bytes := 1, zero := [.kb false], ty := some (.bool) },
  some { kind := .int .u8, size := 1, bytes := 1, zero := [.int .u8 0], ty := some (.int .u8) },
  none,
  none,
  none,
  some { kind := .str, size := 1, bytes := 16, zero := [.str ByteArray.empty], ty := some (.str) },
  none,
  none,
  some { kind := .int .u64, size := 1, bytes := 8, zero := [.int .u64 0], ty := some (.int .u64) },
  none,
  none,
  none,
  none,
  none,
  none,
  none,
  none,
  some { kind := .int .i32, size := 1, bytes := 4, zero := [.int .i32 0], ty := some (.int .i32) },
  none,
  some { kind := .int .i64, size := 1, bytes := 8, zero := [.int .i64 0], ty := some (.int .i64) },
  none,
  none,
  none,
  some { kind := .slice 147, size := 1, bytes := 24, zero := [.nilsl], ty := some (.slice (.nm .Phase)) },
  some { kind := .struct [(0, 9), (1, 3), (2, 3), (3, 3), (4, 3), (5, 3), (6, 3), (7, 3), (8, 4), (9, 3), (10, 3), (11, 3), (12, 3), (13, 27)], size := 14, bytes := 136, zero := [.str ByteArray.empty, .int .i64 0, .int .i64 0, .int .i64 0, .int .i64 0, .int .i64 0, .int .i64 0, .int .i64 0, .kb false, .int .i64 0, .int .i64 0, .int .i64 0, .int .i64 0, .nilsl], ty := some (.prod (.str) (.prod (.int .i64) (.prod (.int .i64) (.prod (.int .i64) (.prod (.int .i64) (.prod (.int .i64) (.prod (.int .i64) (.prod (.int .i64) (.prod (.bool) (.prod (.int .i64) (.prod (.int .i64) (.prod (.int .i64) (.prod (.int .i64) (.prod (.slice (.nm .Phase)) (.unit))))))))))))))) },
  some { kind := .struct [(0, 9), (1, 3), (2, 3), (3, 3), (4, 3), (5, 3), (6, 3), (7, 3), (8, 4), (9, 3), (10, 3), (11, 3), (12, 3), (13, 27)], size := 14, bytes := 136, zero := [.str ByteArray.empty, .int .i64 0, .int .i64 0, .int .i64 0, .int .i64 0, .int .i64 0, .int .i64 0, .int .i64 0, .kb false, .int .i64 0, .int .i64 0, .int .i64 0, .int .i64 0, .nilsl], ty := some (.nm .Rules) },
  some { kind := .slice 100, size := 1, bytes := 24, zero := [.nilsl], ty := some (.slice (.nm .Event)) },
  none,
  some { kind := .struct [(0, 3), (1, 3), (2, 3), (3, 3)], size := 4, bytes := 32, zero := [.int .i64 0, .int .i64 0, .int .i64 0, .int .i64 0], ty := some (.prod (.int .i64) (.prod (.int .i64) (.prod (.int .i64) (.prod (.int .i64) (.unit))))) },
  some { kind := .struct [(0, 3), (1, 3), (2, 3), (3, 3)], size := 4, bytes := 32, zero := [.int .i64 0, .int .i64 0, .int .i64 0, .int .i64 0], ty := some (.nm .milestone_Steps) },
  some { kind := .slice 38, size := 1, bytes := 24, zero := [.nilsl], ty := some (.slice (.nm .Mark)) },
  none,
  none,
  some { kind := .struct [(0, 3), (1, 3), (2, 3), (3, 3)], size := 4, bytes := 32, zero := [.int .i64 0, .int .i64 0, .int .i64 0, .int .i64 0], ty := some (.prod (.int .i64) (.prod (.int .i64) (.prod (.int .i64) (.prod (.int .i64) (.unit))))) },
  some { kind := .struct [(0, 3), (1, 3), (2, 3), (3, 3)], size := 4, bytes := 32, zero := [.int .i64 0, .int .i64 0, .int .i64 0, .int .i64 0], ty := some (.nm .Mark) },
  none,
  none,
  none,
  none,
  some { kind := .struct [(0, 3), (1, 3), (2, 3), (3, 3)], size := 4, bytes := 32, zero := [.int .i64 0, .int .i64 0, .int .i64 0, .int .i64 0], ty := some (.nm .ref28_Steps) },
  none,
  none,
  none,
  none,
  none,
  some { kind := .slice 51, size := 1, bytes := 24, zero := [.nilsl], ty := some (.slice (.prod (.int .i64) (.prod (.int .i64) (.unit)))) },
  none,
  some { kind := .arr 2 3, size := 2, bytes := 16, zero := [.int .i64 0, .int .i64 0], ty := some (.prod (.int .i64) (.prod (.int .i64) (.unit))) },
  some { kind := .slice 57, size := 1, bytes := 24, zero := [.nilsl], ty := some (.slice (.nm .BatLine)) },
  none,
  none,
  some { kind := .int .u8, size := 1, bytes := 1, zero := [.int .u8 0], ty := some (.int .u8) },
  some { kind := .struct [(0, 3), (1, 3), (2, 3), (3, 3), (4, 3), (5, 4), (6, 55), (7, 3), (8, 3), (9, 4)], size := 10, bytes := 72, zero := [.int .i64 0, .int .i64 0, .int .i64 0, .int .i64 0, .int .i64 0, .kb false, .int .u8 0, .int .i64 0, .int .i64 0, .kb false], ty := some (.prod (.int .i64) (.prod (.int .i64) (.prod (.int .i64) (.prod (.int .i64) (.prod (.int .i64) (.prod (.bool) (.prod (.int .u8) (.prod (.int .i64) (.prod (.int .i64) (.prod (.bool) (.unit))))))))))) },
  some { kind := .struct [(0, 3), (1, 3), (2, 3), (3, 3), (4, 3), (5, 4), (6, 55), (7, 3), (8, 3), (9, 4)], size := 10, bytes := 72, zero := [.int .i64 0, .int .i64 0, .int .i64 0, .int .i64 0, .int .i64 0, .kb false, .int .u8 0, .int .i64 0, .int .i64 0, .kb false], ty := some (.nm .BatLine) },
  none,
  none,
  none,
  none,
  none,
  none,
  none,
  none,
  none,
  none,
  some { kind := .slice 3, size := 1, bytes := 24, zero := [.nilsl], ty := some (.slice (.int .i64)) },
  some { kind := .slice 90, size := 1, bytes := 24, zero := [.nilsl], ty := some (.slice (.nm .Delivered)) },
  some { kind := .int .u8, size := 1, bytes := 1, zero := [.int .u8 0], ty := some (.int .u8) },
  some { kind := .slice 131, size := 1, bytes := 24, zero := [.nilsl], ty := some (.slice (.nm .Innings)) },
  some { kind := .int .u8, size := 1, bytes := 1, zero := [.int .u8 0], ty := some (.int .u8) },
  some { kind := .struct [(0, 72), (1, 3), (2, 3)], size := 3, bytes := 24, zero := [.int .u8 0, .int .i64 0, .int .i64 0], ty := some (.prod (.int .u8) (.prod (.int .i64) (.prod (.int .i64) (.unit)))) },
  some { kind := .struct [(0, 72), (1, 3), (2, 3)], size := 3, bytes := 24, zero := [.int .u8 0, .int .i64 0, .int .i64 0], ty := some (.nm .Result) },
  some { kind := .struct [(0, 29), (14, 70), (15, 3), (16, 4), (17, 71), (18, 51), (20, 74)], size := 23, bytes := 224, zero := [.str ByteArray.empty, .int .i64 0, .int .i64 0, .int .i64 0, .int .i64 0, .int .i64 0, .int .i64 0, .int .i64 0, .kb false, .int .i64 0, .int .i64 0, .int .i64 0, .int .i64 0, .nilsl, .int .u8 0, .int .i64 0, .kb false, .nilsl, .int .i64 0, .int .i64 0, .int .u8 0, .int .i64 0, .int .i64 0], ty := some (.prod (.nm .Rules) (.prod (.int .u8) (.prod (.int .i64) (.prod (.bool) (.prod (.slice (.nm .Innings)) (.prod (.prod (.int .i64) (.prod (.int .i64) (.unit))) (.prod (.nm .Result) (.unit)))))))) },
  some { kind := .struct [(0, 29), (14, 70), (15, 3), (16, 4), (17, 71), (18, 51), (20, 74)], size := 23, bytes := 224, zero := [.str ByteArray.empty, .int .i64 0, .int .i64 0, .int .i64 0, .int .i64 0, .int .i64 0, .int .i64 0, .int .i64 0, .kb false, .int .i64 0, .int .i64 0, .int .i64 0, .int .i64 0, .nilsl, .int .u8 0, .int .i64 0, .kb false, .nilsl, .int .i64 0, .int .i64 0, .int .u8 0, .int .i64 0, .int .i64 0], ty := some (.nm .Match) },
  some { kind := .int .i64, size := 1, bytes := 8, zero := [.int .i64 0], ty := some (.int .i64) },
  none,
  none,
  none,
  some { kind := .map 94 3, size := 1, bytes := 8, zero := [.nilmap], ty := none },
  some { kind := .map 3 3, size := 1, bytes := 8, zero := [.nilmap], ty := none },
  some { kind := .int .u8, size := 1, bytes := 1, zero := [.int .u8 0], ty := some (.int .u8) },
  some { kind := .int .u8, size := 1, bytes := 1, zero := [.int .u8 0], ty := some (.int .u8) },
  some { kind := .struct [(0, 83), (1, 84), (2, 3), (3, 3), (4, 3), (5, 4), (6, 55), (7, 3), (8, 3), (9, 3), (10, 4), (11, 3)], size := 12, bytes := 80, zero := [.int .u8 0, .int .u8 0, .int .i64 0, .int .i64 0, .int .i64 0, .kb false, .int .u8 0, .int .i64 0, .int .i64 0, .int .i64 0, .kb false, .int .i64 0], ty := some (.prod (.int .u8) (.prod (.int .u8) (.prod (.int .i64) (.prod (.int .i64) (.prod (.int .i64) (.prod (.bool) (.prod (.int .u8) (.prod (.int .i64) (.prod (.int .i64) (.prod (.int .i64) (.prod (.bool) (.prod (.int .i64) (.unit))))))))))))) },
  some { kind := .struct [(0, 83), (1, 84), (2, 3), (3, 3), (4, 3), (5, 4), (6, 55), (7, 3), (8, 3), (9, 3), (10, 4), (11, 3)], size := 12, bytes := 80, zero := [.int .u8 0, .int .u8 0, .int .i64 0, .int .i64 0, .int .i64 0, .kb false, .int .u8 0, .int .i64 0, .int .i64 0, .int .i64 0, .kb false, .int .i64 0], ty := some (.nm .Delivery) },
  some { kind := .struct [(0, 3), (1, 3), (2, 3), (3, 3), (4, 3), (5, 3), (6, 4), (7, 4), (8, 4), (9, 4)], size := 10, bytes := 56, zero := [.int .i64 0, .int .i64 0, .int .i64 0, .int .i64 0, .int .i64 0, .int .i64 0, .kb false, .kb false, .kb false, .kb false], ty := some (.prod (.int .i64) (.prod (.int .i64) (.prod (.int .i64) (.prod (.int .i64) (.prod (.int .i64) (.prod (.int .i64) (.prod (.bool) (.prod (.bool) (.prod (.bool) (.prod (.bool) (.unit))))))))))) },
  some { kind := .struct [(0, 3), (1, 3), (2, 3), (3, 3), (4, 3), (5, 3), (6, 4), (7, 4), (8, 4), (9, 4)], size := 10, bytes := 56, zero := [.int .i64 0, .int .i64 0, .int .i64 0, .int .i64 0, .int .i64 0, .int .i64 0, .kb false, .kb false, .kb false, .kb false], ty := some (.nm .Credit) },
  some { kind := .struct [(0, 3), (1, 3), (2, 3), (3, 3), (4, 3), (5, 3), (6, 3), (7, 4), (8, 86), (20, 88), (30, 3), (31, 3)], size := 32, bytes := 216, zero := [.int .i64 0, .int .i64 0, .int .i64 0, .int .i64 0, .int .i64 0, .int .i64 0, .int .i64 0, .kb false, .int .u8 0, .int .u8 0, .int .i64 0, .int .i64 0, .int .i64 0, .kb false, .int .u8 0, .int .i64 0, .int .i64 0, .int .i64 0, .kb false, .int .i64 0, .int .i64 0, .int .i64 0, .int .i64 0, .int .i64 0, .int .i64 0, .int .i64 0, .kb false, .kb false, .kb false, .kb false, .int .i64 0, .int .i64 0], ty := some (.prod (.int .i64) (.prod (.int .i64) (.prod (.int .i64) (.prod (.int .i64) (.prod (.int .i64) (.prod (.int .i64) (.prod (.int .i64) (.prod (.bool) (.prod (.nm .Delivery) (.prod (.nm .Credit) (.prod (.int .i64) (.prod (.int .i64) (.unit))))))))))))) },
  some { kind := .struct [(0, 3), (1, 3), (2, 3), (3, 3), (4, 3), (5, 3), (6, 3), (7, 4), (8, 86), (20, 88), (30, 3), (31, 3)], size := 32, bytes := 216, zero := [.int .i64 0, .int .i64 0, .int .i64 0, .int .i64 0, .int .i64 0, .int .i64 0, .int .i64 0, .kb false, .int .u8 0, .int .u8 0, .int .i64 0, .int .i64 0, .int .i64 0, .kb false, .int .u8 0, .int .i64 0, .int .i64 0, .int .i64 0, .kb false, .int .i64 0, .int .i64 0, .int .i64 0, .int .i64 0, .int .i64 0, .int .i64 0, .int .i64 0, .kb false, .kb false, .kb false, .kb false, .int .i64 0, .int .i64 0], ty := some (.nm .Delivered) },
  none,
  none,
  some { kind := .struct [(0, 3), (1, 3)], size := 2, bytes := 16, zero := [.int .i64 0, .int .i64 0], ty := some (.prod (.int .i64) (.prod (.int .i64) (.unit))) },
  some { kind := .struct [(0, 3), (1, 3)], size := 2, bytes := 16, zero := [.int .i64 0, .int .i64 0], ty := some (.nm .milestone_who) },
  none,
  none,
  none,
  some { kind := .int .u8, size := 1, bytes := 1, zero := [.int .u8 0], ty := some (.int .u8) },
  some { kind := .struct [(0, 98), (1, 3), (2, 3), (3, 3), (4, 4), (5, 3), (6, 3), (7, 86)], size := 19, bytes := 136, zero := [.int .u8 0, .int .i64 0, .int .i64 0, .int .i64 0, .kb false, .int .i64 0, .int .i64 0, .int .u8 0, .int .u8 0, .int .i64 0, .int .i64 0, .int .i64 0, .kb false, .int .u8 0, .int .i64 0, .int .i64 0, .int .i64 0, .kb false, .int .i64 0], ty := some (.prod (.int .u8) (.prod (.int .i64) (.prod (.int .i64) (.prod (.int .i64) (.prod (.bool) (.prod (.int .i64) (.prod (.int .i64) (.prod (.nm .Delivery) (.unit))))))))) },
  some { kind := .struct [(0, 98), (1, 3), (2, 3), (3, 3), (4, 4), (5, 3), (6, 3), (7, 86)], size := 19, bytes := 136, zero := [.int .u8 0, .int .i64 0, .int .i64 0, .int .i64 0, .kb false, .int .i64 0, .int .i64 0, .int .u8 0, .int .u8 0, .int .i64 0, .int .i64 0, .int .i64 0, .kb false, .int .u8 0, .int .i64 0, .int .i64 0, .int .i64 0, .kb false, .int .i64 0], ty := some (.nm .Event) },
  none,
  some { kind := .ptr 57, size := 1, bytes := 8, zero := [.nilptr], ty := none },
  none,
  none,
  none,
  none,
  some { kind := .slice 9, size := 1, bytes := 24, zero := [.nilsl], ty := some (.slice (.str)) },
  none,
  none,
  none,
  some { kind := .arr 3 3, size := 3, bytes := 24, zero := [.int .i64 0, .int .i64 0, .int .i64 0], ty := some (.prod (.int .i64) (.prod (.int .i64) (.prod (.int .i64) (.unit)))) },
  none,
  none,
  none,
  none,
  none,
  none,
  none,
  none,
  none,
  none,
  none,
  none,
  none,
  some { kind := .struct [(0, 3), (1, 3), (2, 3), (3, 3), (4, 3)], size := 5, bytes := 40, zero := [.int .i64 0, .int .i64 0, .int .i64 0, .int .i64 0, .int .i64 0], ty := some (.prod (.int .i64) (.prod (.int .i64) (.prod (.int .i64) (.prod (.int .i64) (.prod (.int .i64) (.unit)))))) },
  some { kind := .struct [(0, 3), (1, 3), (2, 3), (3, 3), (4, 3)], size := 5, bytes := 40, zero := [.int .i64 0, .int .i64 0, .int .i64 0, .int .i64 0, .int .i64 0], ty := some (.nm .Extras) },
  some { kind := .slice 230, size := 1, bytes := 24, zero := [.nilsl], ty := some (.slice (.int .u8)) },
  some { kind := .slice 4, size := 1, bytes := 24, zero := [.nilsl], ty := some (.slice (.bool)) },
  some { kind := .int .u8, size := 1, bytes := 1, zero := [.int .u8 0], ty := some (.int .u8) },
  some { kind := .struct [(0, 3), (1, 3), (2, 3), (3, 3), (4, 3), (5, 126), (10, 3), (11, 3), (12, 3), (13, 3), (14, 127), (15, 3), (16, 68), (17, 68), (18, 4), (19, 68), (20, 4), (21, 3), (22, 3), (23, 3), (24, 128), (25, 51), (27, 129)], size := 28, bytes := 304, zero := [.int .i64 0, .int .i64 0, .int .i64 0, .int .i64 0, .int .i64 0, .int .i64 0, .int .i64 0, .int .i64 0, .int .i64 0, .int .i64 0, .int .i64 0, .int .i64 0, .int .i64 0, .int .i64 0, .nilsl, .int .i64 0, .nilsl, .nilsl, .kb false, .nilsl, .kb false, .int .i64 0, .int .i64 0, .int .i64 0, .nilsl, .int .i64 0, .int .i64 0, .int .u8 0], ty := some (.prod (.int .i64) (.prod (.int .i64) (.prod (.int .i64) (.prod (.int .i64) (.prod (.int .i64) (.prod (.nm .Extras) (.prod (.int .i64) (.prod (.int .i64) (.prod (.int .i64) (.prod (.int .i64) (.prod (.slice (.int .u8)) (.prod (.int .i64) (.prod (.slice (.int .i64)) (.prod (.slice (.int .i64)) (.prod (.bool) (.prod (.slice (.int .i64)) (.prod (.bool) (.prod (.int .i64) (.prod (.int .i64) (.prod (.int .i64) (.prod (.slice (.bool)) (.prod (.prod (.int .i64) (.prod (.int .i64) (.unit))) (.prod (.int .u8) (.unit)))))))))))))))))))))))) },
  some { kind := .struct [(0, 3), (1, 3), (2, 3), (3, 3), (4, 3), (5, 126), (10, 3), (11, 3), (12, 3), (13, 3), (14, 127), (15, 3), (16, 68), (17, 68), (18, 4), (19, 68), (20, 4), (21, 3), (22, 3), (23, 3), (24, 128), (25, 51), (27, 129)], size := 28, bytes := 304, zero := [.int .i64 0, .int .i64 0, .int .i64 0, .int .i64 0, .int .i64 0, .int .i64 0, .int .i64 0, .int .i64 0, .int .i64 0, .int .i64 0, .int .i64 0, .int .i64 0, .int .i64 0, .int .i64 0, .nilsl, .int .i64 0, .nilsl, .nilsl, .kb false, .nilsl, .kb false, .int .i64 0, .int .i64 0, .int .i64 0, .nilsl, .int .i64 0, .int .i64 0, .int .u8 0], ty := some (.nm .Innings) },
  none,
  none,
  none,
  none,
  none,
  none,
  none,
  none,
  none,
  none,
  some { kind := .int .u64, size := 1, bytes := 8, zero := [.int .u64 0], ty := some (.int .u64) },
  none,
  none,
  none,
  some { kind := .struct [(0, 3), (1, 3), (2, 3)], size := 3, bytes := 24, zero := [.int .i64 0, .int .i64 0, .int .i64 0], ty := some (.prod (.int .i64) (.prod (.int .i64) (.prod (.int .i64) (.unit)))) },
  some { kind := .struct [(0, 3), (1, 3), (2, 3)], size := 3, bytes := 24, zero := [.int .i64 0, .int .i64 0, .int .i64 0], ty := some (.nm .Phase) },
  none,
  none,
  none,
  none,
  none,
  none,
  none,
  none,
  none,
  none,
  none,
  none,
  some { kind := .slice 5, size := 1, bytes := 24, zero := [.nilsl], ty := some (.slice (.int .u8)) },
  none,
  none,
  some { kind := .ptr 76, size := 1, bytes := 8, zero := [.nilptr], ty := none },
  none,
  none,
  some { kind := .struct [(0, 4), (1, 4), (2, 4), (3, 4), (4, 4), (5, 4), (6, 4)], size := 7, bytes := 7, zero := [.kb false, .kb false, .kb false, .kb false, .kb false, .kb false, .kb false], ty := some (.prod (.bool) (.prod (.bool) (.prod (.bool) (.prod (.bool) (.prod (.bool) (.prod (.bool) (.prod (.bool) (.unit)))))))) },
  some { kind := .struct [(0, 4), (1, 4), (2, 4), (3, 4), (4, 4), (5, 4), (6, 4)], size := 7, bytes := 7, zero := [.kb false, .kb false, .kb false, .kb false, .kb false, .kb false, .kb false], ty := some (.nm .ref08_Uses) },
  none,
  none,
  none,
  none,
  none,
  none,
  none,
  none,
  none,
  some { kind := .arr 24 5, size := 24, bytes := 24, zero := [.int .u8 0, .int .u8 0, .int .u8 0, .int .u8 0, .int .u8 0, .int .u8 0, .int .u8 0, .int .u8 0, .int .u8 0, .int .u8 0, .int .u8 0, .int .u8 0, .int .u8 0, .int .u8 0, .int .u8 0, .int .u8 0, .int .u8 0, .int .u8 0, .int .u8 0, .int .u8 0, .int .u8 0, .int .u8 0, .int .u8 0, .int .u8 0], ty := none },
  none,
  none,
  none,
  none,
  none,
  none,
  none,
  none,
  none,
  some { kind := .arr 256 4, size := 256, bytes := 256, zero := [.kb false, .kb false, .kb false, .kb false, .kb false, .kb false, .kb false, .kb false, .kb false, .kb false, .kb false, .kb false, .kb false, .kb false, .kb false, .kb false, .kb false, .kb false, .kb false, .kb false, .kb false, .kb false, .kb false, .kb false, .kb false, .kb false, .kb false, .kb false, .kb false, .kb false, .kb false, .kb false, .kb false, .kb false, .kb false, .kb false, .kb false, .kb false, .kb false, .kb false, .kb false, .kb false, .kb false, .kb false, .kb false, .kb false, .kb false, .kb false, .kb false, .kb false, .kb false, .kb false, .kb false, .kb false, .kb false, .kb false, .kb false, .kb false, .kb false, .kb false, .kb false, .kb false, .kb false, .kb false, .kb false, .kb false, .kb false, .kb false, .kb false, .kb false, .kb false, .kb false, .kb false, .kb false, .kb false, .kb false, .kb false, .kb false, .kb false, .kb false, .kb false, .kb false, .kb false, .kb false, .kb false, .kb false, .kb false, .kb false, .kb false, .kb false, .kb false, .kb false, .kb false, .kb false, .kb false, .kb false, .kb false, .kb false, .kb false, .kb false, .kb false, .kb false, .kb false, .kb false, .kb false, .kb false, .kb false, .kb false, .kb false, .kb false, .kb false, .kb false, .kb false, .kb false, .kb false, .kb false, .kb false, .kb false, .kb false, .kb false, .kb false, .kb false, .kb false, .kb false, .kb false, .kb false, .kb false, .kb false, .kb false, .kb false, .kb false, .kb false, .kb false, .kb false, .kb false, .kb false, .kb false, .kb false, .kb false, .kb false, .kb false, .kb false, .kb false, .kb false, .kb false, .kb false, .kb false, .kb false, .kb false, .kb false, .kb false, .kb false, .kb false, .kb false, .kb false, .kb false, .kb false, .kb false, .kb false, .kb false, .kb false, .kb false, .kb false, .kb false, .kb false, .kb false, .kb false, .kb false, .kb false, .kb false, .kb false, .kb false, .kb false, .kb false, .kb false, .kb false, .kb false, .kb false, .kb false, .kb false, .kb false, .kb false, .kb false, .kb false, .kb false, .kb false, .kb false, .kb false, .kb false, .kb false, .kb false, .kb false, .kb false, .kb false, .kb false, .kb false, .kb false, .kb false, .kb false, .kb false, .kb false, .kb false, .kb false, .kb false, .kb false, .kb false, .kb false, .kb false, .kb false, .kb false, .kb false, .kb false, .kb false, .kb false, .kb false, .kb false, .kb false, .kb false, .kb false, .kb false, .kb false, .kb false, .kb false, .kb false, .kb false, .kb false, .kb false, .kb false, .kb false, .kb false, .kb false, .kb false, .kb false, .kb false, .kb false, .kb false, .kb false, .kb false, .kb false, .kb false, .kb false, .kb false, .kb false, .kb false, .kb false, .kb false, .kb false, .kb false, .kb false, .kb false, .kb false, .kb false, .kb false, .kb false, .kb false, .kb false], ty := none },
  some { kind := .arr 256 4, size := 256, bytes := 256, zero := [.kb false, .kb false, .kb false, .kb false, .kb false, .kb false, .kb false, .kb false, .kb false, .kb false, .kb false, .kb false, .kb false, .kb false, .kb false, .kb false, .kb false, .kb false, .kb false, .kb false, .kb false, .kb false, .kb false, .kb false, .kb false, .kb false, .kb false, .kb false, .kb false, .kb false, .kb false, .kb false, .kb false, .kb false, .kb false, .kb false, .kb false, .kb false, .kb false, .kb false, .kb false, .kb false, .kb false, .kb false, .kb false, .kb false, .kb false, .kb false, .kb false, .kb false, .kb false, .kb false, .kb false, .kb false, .kb false, .kb false, .kb false, .kb false, .kb false, .kb false, .kb false, .kb false, .kb false, .kb false, .kb false, .kb false, .kb false, .kb false, .kb false, .kb false, .kb false, .kb false, .kb false, .kb false, .kb false, .kb false, .kb false, .kb false, .kb false, .kb false, .kb false, .kb false, .kb false, .kb false, .kb false, .kb false, .kb false, .kb false, .kb false, .kb false, .kb false, .kb false, .kb false, .kb false, .kb false, .kb false, .kb false, .kb false, .kb false, .kb false, .kb false, .kb false, .kb false, .kb false, .kb false, .kb false, .kb false, .kb false, .kb false, .kb false, .kb false, .kb false, .kb false, .kb false, .kb false, .kb false, .kb false, .kb false, .kb false, .kb false, .kb false, .kb false, .kb false, .kb false, .kb false, .kb false, .kb false, .kb false, .kb false, .kb false, .kb false, .kb false, .kb false, .kb false, .kb false, .kb false, .kb false, .kb false, .kb false, .kb false, .kb false, .kb false, .kb false, .kb false, .kb false, .kb false, .kb false, .kb false, .kb false, .kb false, .kb false, .kb false, .kb false, .kb false, .kb false, .kb false, .kb false, .kb false, .kb false, .kb false, .kb false, .kb false, .kb false, .kb false, .kb false, .kb false, .kb false, .kb false, .kb false, .kb false, .kb false, .kb false, .kb false, .kb false, .kb false, .kb false, .kb false, .kb false, .kb false, .kb false, .kb false, .kb false, .kb false, .kb false, .kb false, .kb false, .kb false, .kb false, .kb false, .kb false, .kb false, .kb false, .kb false, .kb false, .kb false, .kb false, .kb false, .kb false, .kb false, .kb false, .kb false, .kb false, .kb false, .kb false, .kb false, .kb false, .kb false, .kb false, .kb false, .kb false, .kb false, .kb false, .kb false, .kb false, .kb false, .kb false, .kb false, .kb false, .kb false, .kb false, .kb false, .kb false, .kb false, .kb false, .kb false, .kb false, .kb false, .kb false, .kb false, .kb false, .kb false, .kb false, .kb false, .kb false, .kb false, .kb false, .kb false, .kb false, .kb false, .kb false, .kb false, .kb false, .kb false, .kb false, .kb false, .kb false, .kb false, .kb false, .kb false, .kb false, .kb false, .kb false, .kb false, .kb false, .kb false, .kb false], ty := none },
  none,
  none,
  none,
  some { kind := .ptr 188, size := 1, bytes := 8, zero := [.nilptr], ty := none },
  none,
  none,
  none,
  some { kind := .int .u64, size := 1, bytes := 8, zero := [.int .u64 0], ty := some (.int .u64) },
  some { kind := .ptr 220, size := 1, bytes := 8, zero := [.nilptr], ty := none },
  none,
  none,
  none,
  some { kind := .struct [(0, 5), (1, 4), (2, 4)], size := 3, bytes := 3, zero := [.int .u8 0, .kb false, .kb false], ty := some (.prod (.int .u8) (.prod (.bool) (.prod (.bool) (.unit)))) },
  some { kind := .slice 201, size := 1, bytes := 24, zero := [.nilsl], ty := some (.slice (.prod (.int .u8) (.prod (.bool) (.prod (.bool) (.unit))))) },
  none,
  none,
  none,
  none,
  none,
  none,
  none,
  some { kind := .arr 20 142, size := 20, bytes := 160, zero := [.int .u64 0, .int .u64 0, .int .u64 0, .int .u64 0, .int .u64 0, .int .u64 0, .int .u64 0, .int .u64 0, .int .u64 0, .int .u64 0, .int .u64 0, .int .u64 0, .int .u64 0, .int .u64 0, .int .u64 0, .int .u64 0, .int .u64 0, .int .u64 0, .int .u64 0, .int .u64 0], ty := none },
  some { kind := .int .u32, size := 1, bytes := 4, zero := [.int .u32 0], ty := some (.int .u32) },
  some { kind := .arr 65 5, size := 65, bytes := 65, zero := [.int .u8 0, .int .u8 0, .int .u8 0, .int .u8 0, .int .u8 0, .int .u8 0, .int .u8 0, .int .u8 0, .int .u8 0, .int .u8 0, .int .u8 0, .int .u8 0, .int .u8 0, .int .u8 0, .int .u8 0, .int .u8 0, .int .u8 0, .int .u8 0, .int .u8 0, .int .u8 0, .int .u8 0, .int .u8 0, .int .u8 0, .int .u8 0, .int .u8 0, .int .u8 0, .int .u8 0, .int .u8 0, .int .u8 0, .int .u8 0, .int .u8 0, .int .u8 0, .int .u8 0, .int .u8 0, .int .u8 0, .int .u8 0, .int .u8 0, .int .u8 0, .int .u8 0, .int .u8 0, .int .u8 0, .int .u8 0, .int .u8 0, .int .u8 0, .int .u8 0, .int .u8 0, .int .u8 0, .int .u8 0, .int .u8 0, .int .u8 0, .int .u8 0, .int .u8 0, .int .u8 0, .int .u8 0, .int .u8 0, .int .u8 0, .int .u8 0, .int .u8 0, .int .u8 0, .int .u8 0, .int .u8 0, .int .u8 0, .int .u8 0, .int .u8 0, .int .u8 0], ty := none },
  none,
  none,
  none,
  none,
  none,
  none,
  none,
  none,
  none,
  none,
  none,
  none,
  some { kind := .struct [(0, 9), (1, 9), (2, 9), (3, 9)], size := 4, bytes := 64, zero := [.str ByteArray.empty, .str ByteArray.empty, .str ByteArray.empty, .str ByteArray.empty], ty := some (.prod (.str) (.prod (.str) (.prod (.str) (.prod (.str) (.unit))))) },
  some { kind := .struct [(0, 9), (1, 9), (2, 9), (3, 9)], size := 4, bytes := 64, zero := [.str ByteArray.empty, .str ByteArray.empty, .str ByteArray.empty, .str ByteArray.empty], ty := some (.nm .event_form) },
  some { kind := .slice 226, size := 1, bytes := 24, zero := [.nilsl], ty := some (.slice (.nm .event_form)) },
  none,
  none,
  some { kind := .int .u8, size := 1, bytes := 1, zero := [.int .u8 0], ty := some (.int .u8) },
  none,
  none,
  none,
  none,
  none,
  none,
  some { kind := .arr 256 5, size := 256, bytes := 256, zero := [.int .u8 0, .int .u8 0, .int .u8 0, .int .u8 0, .int .u8 0, .int .u8 0, .int .u8 0, .int .u8 0, .int .u8 0, .int .u8 0, .int .u8 0, .int .u8 0, .int .u8 0, .int .u8 0, .int .u8 0, .int .u8 0, .int .u8 0, .int .u8 0, .int .u8 0, .int .u8 0, .int .u8 0, .int .u8 0, .int .u8 0, .int .u8 0, .int .u8 0, .int .u8 0, .int .u8 0, .int .u8 0, .int .u8 0, .int .u8 0, .int .u8 0, .int .u8 0, .int .u8 0, .int .u8 0, .int .u8 0, .int .u8 0, .int .u8 0, .int .u8 0, .int .u8 0, .int .u8 0, .int .u8 0, .int .u8 0, .int .u8 0, .int .u8 0, .int .u8 0, .int .u8 0, .int .u8 0, .int .u8 0, .int .u8 0, .int .u8 0, .int .u8 0, .int .u8 0, .int .u8 0, .int .u8 0, .int .u8 0, .int .u8 0, .int .u8 0, .int .u8 0, .int .u8 0, .int .u8 0, .int .u8 0, .int .u8 0, .int .u8 0, .int .u8 0, .int .u8 0, .int .u8 0, .int .u8 0, .int .u8 0, .int .u8 0, .int .u8 0, .int .u8 0, .int .u8 0, .int .u8 0, .int .u8 0, .int .u8 0, .int .u8 0, .int .u8 0, .int .u8 0, .int .u8 0, .int .u8 0, .int .u8 0, .int .u8 0, .int .u8 0, .int .u8 0, .int .u8 0, .int .u8 0, .int .u8 0, .int .u8 0, .int .u8 0, .int .u8 0, .int .u8 0, .int .u8 0, .int .u8 0, .int .u8 0, .int .u8 0, .int .u8 0, .int .u8 0, .int .u8 0, .int .u8 0, .int .u8 0, .int .u8 0, .int .u8 0, .int .u8 0, .int .u8 0, .int .u8 0, .int .u8 0, .int .u8 0, .int .u8 0, .int .u8 0, .int .u8 0, .int .u8 0, .int .u8 0, .int .u8 0, .int .u8 0, .int .u8 0, .int .u8 0, .int .u8 0, .int .u8 0, .int .u8 0, .int .u8 0, .int .u8 0, .int .u8 0, .int .u8 0, .int .u8 0, .int .u8 0, .int .u8 0, .int .u8 0, .int .u8 0, .int .u8 0, .int .u8 0, .int .u8 0, .int .u8 0, .int .u8 0, .int .u8 0, .int .u8 0, .int .u8 0, .int .u8 0, .int .u8 0, .int .u8 0, .int .u8 0, .int .u8 0, .int .u8 0, .int .u8 0, .int .u8 0, .int .u8 0, .int .u8 0, .int .u8 0, .int .u8 0, .int .u8 0, .int .u8 0, .int .u8 0, .int .u8 0, .int .u8 0, .int .u8 0, .int .u8 0, .int .u8 0, .int .u8 0, .int .u8 0, .int .u8 0, .int .u8 0, .int .u8 0, .int .u8 0, .int .u8 0, .int .u8 0, .int .u8 0, .int .u8 0, .int .u8 0, .int .u8 0, .int .u8 0, .int .u8 0, .int .u8 0, .int .u8 0, .int .u8 0, .int .u8 0, .int .u8 0, .int .u8 0, .int .u8 0, .int .u8 0, .int .u8 0, .int .u8 0, .int .u8 0, .int .u8 0, .int .u8 0, .int .u8 0, .int .u8 0, .int .u8 0, .int .u8 0, .int .u8 0, .int .u8 0, .int .u8 0, .int .u8 0, .int .u8 0, .int .u8 0, .int .u8 0, .int .u8 0, .int .u8 0, .int .u8 0, .int .u8 0, .int .u8 0, .int .u8 0, .int .u8 0, .int .u8 0, .int .u8 0, .int .u8 0, .int .u8 0, .int .u8 0, .int .u8 0, .int .u8 0, .int .u8 0, .int .u8 0, .int .u8 0, .int .u8 0, .int .u8 0, .int .u8 0, .int .u8 0, .int .u8 0, .int .u8 0, .int .u8 0, .int .u8 0, .int .u8 0, .int .u8 0, .int .u8 0, .int .u8 0, .int .u8 0, .int .u8 0, .int .u8 0, .int .u8 0, .int .u8 0, .int .u8 0, .int .u8 0, .int .u8 0, .int .u8 0, .int .u8 0, .int .u8 0, .int .u8 0, .int .u8 0, .int .u8 0, .int .u8 0, .int .u8 0, .int .u8 0, .int .u8 0, .int .u8 0, .int .u8 0, .int .u8 0, .int .u8 0, .int .u8 0, .int .u8 0, .int .u8 0, .int .u8 0, .int .u8 0, .int .u8 0, .int .u8 0, .int .u8 0, .int .u8 0, .int .u8 0, .int .u8 0], ty := none },
  some { kind := .struct [(0, 5), (1, 5)], size := 2, bytes := 2, zero := [.int .u8 0, .int .u8 0], ty := some (.prod (.int .u8) (.prod (.int .u8) (.unit))) },
  some { kind := .struct [(0, 5), (1, 5)], size := 2, bytes := 2, zero := [.int .u8 0, .int .u8 0], ty := some (.prod (.int .u8) (.prod (.int .u8) (.unit))) },
  some { kind := .arr 16 239, size := 32, bytes := 32, zero := [.int .u8 0, .int .u8 0, .int .u8 0, .int .u8 0, .int .u8 0, .int .u8 0, .int .u8 0, .int .u8 0, .int .u8 0, .int .u8 0, .int .u8 0, .int .u8 0, .int .u8 0, .int .u8 0, .int .u8 0, .int .u8 0, .int .u8 0, .int .u8 0, .int .u8 0, .int .u8 0, .int .u8 0, .int .u8 0, .int .u8 0, .int .u8 0, .int .u8 0, .int .u8 0, .int .u8 0, .int .u8 0, .int .u8 0, .int .u8 0, .int .u8 0, .int .u8 0], ty := none },
  none,
  none,
  none,
  some { kind := .ptr 5, size := 1, bytes := 8, zero := [.nilptr], ty := none },
  some { kind := .ptr 247, size := 1, bytes := 8, zero := [.nilptr], ty := none },
  some { kind := .struct [(0, 9)], size := 1, bytes := 16, zero := [.str ByteArray.empty], ty := some (.prod (.str) (.unit)) },
  some { kind := .struct [(0, 9)], size := 1, bytes := 16, zero := [.str ByteArray.empty], ty := some (.prod (.str) (.unit)) },
  none,
  none,
  none,
  none,
  none,
  none,
  none,
  none,
  none,
  none,
  some { kind := .arr 32 5, size := 32, bytes := 32, zero := [.int .u8 0, .int .u8 0, .int .u8 0, .int .u8 0, .int .u8 0, .int .u8 0, .int .u8 0, .int .u8 0, .int .u8 0, .int .u8 0, .int .u8 0, .int .u8 0, .int .u8 0, .int .u8 0, .int .u8 0, .int .u8 0, .int .u8 0, .int .u8 0, .int .u8 0, .int .u8 0, .int .u8 0, .int .u8 0, .int .u8 0, .int .u8 0, .int .u8 0, .int .u8 0, .int .u8 0, .int .u8 0, .int .u8 0, .int .u8 0, .int .u8 0, .int .u8 0], ty := none },
  some { kind := .arr 64 5, size := 64, bytes := 64, zero := [.int .u8 0, .int .u8 0, .int .u8 0, .int .u8 0, .int .u8 0, .int .u8 0, .int .u8 0, .int .u8 0, .int .u8 0, .int .u8 0, .int .u8 0, .int .u8 0, .int .u8 0, .int .u8 0, .int .u8 0, .int .u8 0, .int .u8 0, .int .u8 0, .int .u8 0, .int .u8 0, .int .u8 0, .int .u8 0, .int .u8 0, .int .u8 0, .int .u8 0, .int .u8 0, .int .u8 0, .int .u8 0, .int .u8 0, .int .u8 0, .int .u8 0, .int .u8 0, .int .u8 0, .int .u8 0, .int .u8 0, .int .u8 0, .int .u8 0, .int .u8 0, .int .u8 0, .int .u8 0, .int .u8 0, .int .u8 0, .int .u8 0, .int .u8 0, .int .u8 0, .int .u8 0, .int .u8 0, .int .u8 0, .int .u8 0, .int .u8 0, .int .u8 0, .int .u8 0, .int .u8 0, .int .u8 0, .int .u8 0, .int .u8 0, .int .u8 0, .int .u8 0, .int .u8 0, .int .u8 0, .int .u8 0, .int .u8 0, .int .u8 0, .int .u8 0], ty := none },
  none,
  none,
  none,
  none,
  none,
  none,
  none,
  none,
  none,
  none,
  none,
  none,
  none,
  none,
  none,
  none,
  none,
  none,
  some { kind := .ptr 131, size := 1, bytes := 8, zero := [.nilptr], ty := none },
  none,
  none,
  none,
  none,
  none,
  some { kind := .slice 77, size := 1, bytes := 24, zero := [.nilsl], ty := some (.slice (.int .i64)) },
  some { kind := .struct [(0, 55), (1, 9), (2, 4), (3, 4), (4, 4), (5, 4), (6, 4)], size := 7, bytes := 32, zero := [.int .u8 0, .str ByteArray.empty, .kb false, .kb false, .kb false, .kb false, .kb false], ty := some (.prod (.int .u8) (.prod (.str) (.prod (.bool) (.prod (.bool) (.prod (.bool) (.prod (.bool) (.prod (.bool) (.unit)))))))) },
  some { kind := .struct [(0, 55), (1, 9), (2, 4), (3, 4), (4, 4), (5, 4), (6, 4)], size := 7, bytes := 32, zero := [.int .u8 0, .str ByteArray.empty, .kb false, .kb false, .kb false, .kb false, .kb false], ty := some (.nm .dismissal_way) },
  none,
  none,
  some { kind := .slice 55, size := 1, bytes := 24, zero := [.nilsl], ty := some (.slice (.int .u8)) },
  none,
  none,
  some { kind := .slice 286, size := 1, bytes := 24, zero := [.nilsl], ty := some (.slice (.nm .dismissal_way)) },
  none,
  none,
  none,
  none,
  none,
  none,
  none,
  none,
  none,
  none,
  none,
  none,
  none,
  none,
  none,
  none,
  none,
  none]

def tbl (t : TypeId) : Option TD := (tblL[t]?).getD none

theorem tbl_ok : TblOK Go.Proofs.Tryz.prog tbl := tblOK_of_check tblL (by kernel_rfl)

end Go.Mir

/- The mirror, part 26: a state under other names, and weaker. -/
namespace Go.Mir
open Go.RowKit

variable {P : Program}

/-- how names are changed: 'σ' from the new to the old, 'Z' the new handles of rows that have no block -/
structure Nam where
  σ : List (Nat × Nat)
  Z : List Nat
  nx : Nat

def Nam.at (M : Nam) (n : Nat) : Nat := match find M.σ n with | some k => k | none => n

/-- is the new name n the old one k -/
def Nam.is (M : Nam) (n k : Nat) : Bool := Nat.blt n M.nx && (Nat.beq (M.at n) k && !memN M.Z n)
/-- a version's name -/
def Nam.vs (M : Nam) (n k : Nat) : Bool := Nat.blt n M.nx && Nat.beq (M.at n) k

mutual
/-- the old value, the new one -/
def subV (M : Nam) : V → V → Prop
  | _, .any => True
  | .int k n, .int k' n' => ifB (decide (k = k')) (n = n')
  | .bool b, .bool b' => b = b'
  | .bool b, .kb b' => b = b'
  | .kb b, .bool b' => b = b'
  | .kb b, .kb b' => b = b'
  | .str s, .str s' => s = s'
  | .nilptr, .nilptr => True
  | .nilfn, .nilfn => True
  | .nilmap, .nilmap => True
  | .nilsl, .nilsl => True
  | .esl, .esl => True
  | .nilsl, .esl => True
  | .nilsl, .fsl _ xs => xs = []
  | .esl, .fsl _ xs => xs = []
  | .fsl t xs, .fsl t' xs' => RowD.mk t xs = RowD.mk t' xs'
  | .ptr h off, .ptr h' off' => ifB (M.is h' h && Nat.beq off off') True
  | .fp t xs i off, .fp t' xs' i' off' => ifB (Nat.beq off off') (RowD.mk t xs = RowD.mk t' xs' ∧ i = i')
  | .rp h ver i off, .rp h' ver' i' off' => ifB (M.is h' h && M.vs ver' ver && Nat.beq off off') (i = i')
  | .osl h ver, .osl h' ver' => ifB (M.is h' h && M.vs ver' ver) True
  | .gsl h ver e o l, .gsl h' ver' e' o' l' => ifB (M.is h' h && M.vs ver' ver && (Nat.beq e e' && Nat.beq o o' && Nat.beq l l')) True
  | .nilsl, .osl h' ver' => ifB (memN M.Z h' && Nat.blt h' M.nx && Nat.blt ver' M.nx) True
  | .esl, .osl h' ver' => ifB (memN M.Z h' && Nat.blt h' M.nx && Nat.blt ver' M.nx) True
  | .fn f cs, .fn f' cs' => ifB (Nat.beq f f') (subVs M cs cs')
  | .agg cs, .agg cs' => subVs M cs cs'
  | .tup cs, .tup cs' => subVs M cs cs'
  | _, _ => False
def subVs (M : Nam) : List V → List V → Prop
  | [], [] => True
  | x :: xs, y :: ys => subV M x y ∧ subVs M xs ys
  | _, _ => False
end

def subK (M : Nam) : Blk → Blk → Prop
  | .cells cs, .cells cs' => subVs M cs cs'
  | .row ver rw t xs, .row ver' rw' t' xs' => ifB (M.vs ver' ver && (rw == rw')) (RowD.mk t xs = RowD.mk t' xs')
  | .grow ver e cs, .grow ver' e' cs' => ifB (M.vs ver' ver && Nat.beq e e') (subVs M cs cs')
  | _, _ => False

def subTm (M : Nam) (tm : List (Nat × V)) : List (Nat × V) → Prop
  | [] => True
  | (s, v) :: r => subV M (lookV tm s) v ∧ subTm M tm r

def zeroB (M : Nam) : Blk → Prop
  | .row ver _ _ xs => ifB (Nat.blt ver M.nx) (xs = [])
  | _ => False

def subHp (M : Nam) (H : Heap) : List (Nat × Blk) → Prop
  | [] => True
  | (h, k) :: r => ifB (Nat.blt h M.nx) (match memN M.Z h with
      | true => zeroB M k
      | false => match H (M.at h) with
        | some k0 => subK M k0 k
        | none => False) ∧ subHp M H r

def nodupN : List Nat → Bool
  | [] => true
  | x :: xs => !memN xs x && nodupN xs

theorem nodupN_iff {l : List Nat} : nodupN l = true ↔ l.Nodup := by
  induction l with
  | nil => simp [nodupN]
  | cons x xs ih =>
    simp only [nodupN, Bool.and_eq_true, ih, List.nodup_cons, Bool.not_eq_true']
    constructor
    · rintro ⟨h1, h2⟩; exact ⟨(fun h => by rw [memN_iff.2 h] at h1; cases h1), h2⟩
    · rintro ⟨h1, h2⟩; exact ⟨by cases h : memN xs x with | true => exact absurd (memN_iff.1 h) h1 | false => rfl, h2⟩

theorem nodup_map_inj {α β : Type} {f : α → β} : ∀ {l : List α}, (l.map f).Nodup → ∀ {x y : α}, x ∈ l → y ∈ l → f x = f y → x = y
  | [], _, _, _, hx, _, _ => by simp at hx
  | a :: l, h, x, y, hx, hy, e => by
    simp only [List.map_cons, List.nodup_cons, List.mem_map, not_exists, not_and] at h
    rcases List.mem_cons.1 hx with h1 | h1
    · rcases List.mem_cons.1 hy with h2 | h2
      · rw [h1, h2]
      · exact absurd (by rw [← e, h1]) (h.1 y h2)
    · rcases List.mem_cons.1 hy with h2 | h2
      · exact absurd (by rw [e, h2]) (h.1 x h1)
      · exact nodup_map_inj h.2 h1 h2 e

def Sub (M : Nam) (s : St) (tm : List (Nat × V)) (hp : List (Nat × Blk)) : Prop :=
  ifB (nodupN (((hp.map (·.1)).filter fun h => !memN M.Z h).map M.at)) (subTm M s.tm tm ∧ subHp M s.H hp)

/-- the state that is named anew -/
def subE (M : Nam) (E : Env) (hp : List (Nat × Blk)) : Env := ⟨fun n => n < M.nx, fun h => if memN M.Z h then none else E.ρ (M.at h), E.S, E.w, hset (fun _ => none) hp⟩

theorem subHp_find {M : Nam} {H : Heap} : ∀ {hp : List (Nat × Blk)} {h : Nat} {k : Blk}, subHp M H hp → (h, k) ∈ hp → h < M.nx ∧ ((memN M.Z h = true ∧ zeroB M k) ∨ (memN M.Z h = false ∧ ∃ k0, H (M.at h) = some k0 ∧ subK M k0 k))
  | [], _, _, _, hm => by simp at hm
  | (n, v) :: r, h, k, hs, hm => by
    simp only [subHp] at hs
    rcases List.mem_cons.1 hm with hm | hm
    · cases hm
      obtain ⟨h1, h2⟩ := ifB_iff.1 hs.1
      refine ⟨by simpa using h1, ?_⟩
      cases hz : memN M.Z n with
      | true => rw [hz] at h2; exact .inl ⟨rfl, h2⟩
      | false =>
        rw [hz] at h2
        simp only at h2
        split at h2
        · rename_i k0 hk; exact .inr ⟨rfl, k0, hk, h2⟩
        · exact h2.elim
    · exact subHp_find hs.2 hm

section
variable {M : Nam} {E : Env} {hp : List (Nat × Blk)}

theorem is_iff {n k : Nat} : M.is n k = true ↔ n < M.nx ∧ M.at n = k ∧ memN M.Z n = false := by
  simp only [Nam.is, Bool.and_eq_true, Nat.blt_eq, Nat.beq_eq, Bool.not_eq_true']
theorem vs_iff {n k : Nat} : M.vs n k = true ↔ n < M.nx ∧ M.at n = k := by
  simp only [Nam.vs, Bool.and_eq_true, Nat.blt_eq, Nat.beq_eq]

/-- what the new heap knows of a name: by the texts of both -/
theorem synt_row (hh : subHp M E.H hp) {h ver : Nat} {rw : Bool} {t : Ty} {xs : List (Den t)} (hx : hset (fun _ => none) hp h = some (.row ver rw t xs)) :
    (memN M.Z h = true ∧ xs = []) ∨ (memN M.Z h = false ∧ E.H (M.at h) = some (.row (M.at ver) rw t xs)) := by
  have hf : find hp h = some (.row ver rw t xs) := by unfold hset at hx; cases hf : find hp h with | some k => rw [hf] at hx; exact hx | none => rw [hf] at hx; cases hx
  obtain ⟨_, h2⟩ := subHp_find hh (find_mem hf)
  rcases h2 with ⟨hz, h3⟩ | ⟨hz, k0, h3, h4⟩
  · simp only [zeroB] at h3
    exact .inl ⟨hz, (ifB_iff.1 h3).2⟩
  · cases k0 with
    | cells => simp [subK] at h4
    | grow => simp [subK] at h4
    | mp => simp [subK] at h4
    | row ver0 rw0 t0 xs0 =>
      simp only [subK] at h4
      obtain ⟨h5, h6⟩ := ifB_iff.1 h4
      simp only [Bool.and_eq_true, beq_iff_eq] at h5
      obtain ⟨_, h7⟩ := vs_iff.1 h5.1
      cases h6
      rw [h3, ← h7, h5.2]
      exact .inr ⟨hz, rfl⟩

theorem synt_cells (hh : subHp M E.H hp) {h : Nat} {cs : List V} (hx : hset (fun _ => none) hp h = some (.cells cs)) : memN M.Z h = false ∧ ∃ cs0, E.H (M.at h) = some (.cells cs0) ∧ subVs M cs0 cs := by
  have hf : find hp h = some (.cells cs) := by unfold hset at hx; cases hf : find hp h with | some k => rw [hf] at hx; exact hx | none => rw [hf] at hx; cases hx
  obtain ⟨_, h2⟩ := subHp_find hh (find_mem hf)
  rcases h2 with ⟨hz, h3⟩ | ⟨hz, k0, h3, h4⟩
  · simp [zeroB] at h3
  · cases k0 with
    | cells cs0 => exact ⟨hz, cs0, h3, h4⟩
    | row => simp [subK] at h4
    | grow => simp [subK] at h4
    | mp => simp [subK] at h4

theorem synt_nomp (hh : subHp M E.H hp) {h : Nat} {es : List (V × V)} (hx : hset (fun _ => none) hp h = some (.mp es)) : False := by
  have hf : find hp h = some (.mp es) := by unfold hset at hx; cases hf : find hp h with | some k => rw [hf] at hx; exact hx | none => rw [hf] at hx; cases hx
  obtain ⟨_, h2⟩ := subHp_find hh (find_mem hf)
  rcases h2 with ⟨_, h3⟩ | ⟨_, k0, _, h4⟩
  · simp [zeroB] at h3
  · cases k0 <;> simp [subK] at h4

theorem synt_grow (hh : subHp M E.H hp) {h ver esz : Nat} {cs : List V} (hx : hset (fun _ => none) hp h = some (.grow ver esz cs)) : memN M.Z h = false ∧ ver < M.nx ∧ ∃ cs0, E.H (M.at h) = some (.grow (M.at ver) esz cs0) ∧ subVs M cs0 cs := by
  have hf : find hp h = some (.grow ver esz cs) := by unfold hset at hx; cases hf : find hp h with | some k => rw [hf] at hx; exact hx | none => rw [hf] at hx; cases hx
  obtain ⟨_, h2⟩ := subHp_find hh (find_mem hf)
  rcases h2 with ⟨hz, h3⟩ | ⟨hz, k0, h3, h4⟩
  · simp [zeroB] at h3
  · cases k0 with
    | cells => simp [subK] at h4
    | row => simp [subK] at h4
    | mp => simp [subK] at h4
    | grow ver0 esz0 cs0 =>
      simp only [subK] at h4
      obtain ⟨h5, h6⟩ := ifB_iff.1 h4
      simp only [Bool.and_eq_true, Nat.beq_eq] at h5
      obtain ⟨h7, h8⟩ := vs_iff.1 h5.1
      rw [h3, h8, ← h5.2]
      exact ⟨hz, h7, cs0, rfl, h6⟩

/-- what the new heap knows of a name -/
structure HSub0 (M : Nam) (E : Env) (hp : List (Nat × Blk)) : Prop where
  lt : ∀ h k, find hp h = some k → h < M.nx
  row : ∀ (h ver : Nat) (rw : Bool) (t : Ty) (xs : List (Den t)), find hp h = some (.row ver rw t xs) → ver < M.nx ∧ ((memN M.Z h = true ∧ xs = []) ∨ (memN M.Z h = false ∧ E.H (M.at h) = some (.row (M.at ver) rw t xs)))
  cells : ∀ h cs, find hp h = some (.cells cs) → memN M.Z h = false ∧ ∃ cs0, E.H (M.at h) = some (.cells cs0)
  grow : ∀ h ver esz cs, find hp h = some (.grow ver esz cs) → memN M.Z h = false ∧ ver < M.nx ∧ ∃ cs0, E.H (M.at h) = some (.grow (M.at ver) esz cs0) ∧ cs0.length = cs.length
  nomp : ∀ h es, find hp h = some (.mp es) → False

theorem find_of_hset {hp : List (Nat × Blk)} {h : Nat} {k : Blk} (hx : hset (fun _ => none) hp h = some k) : find hp h = some k := by
  unfold hset at hx; cases hf : find hp h with | some k => rw [hf] at hx; exact hx | none => rw [hf] at hx; cases hx

theorem hset_of_find {hp : List (Nat × Blk)} {h : Nat} {k : Blk} (hx : find hp h = some k) : hset (fun _ => none) hp h = some k := by
  unfold hset; rw [hx]

theorem sub_row (hh : HSub0 M E hp) {h ver : Nat} {rw : Bool} {t : Ty} {xs : List (Den t)} (hx : hset (fun _ => none) hp h = some (.row ver rw t xs)) :
    (memN M.Z h = true ∧ xs = []) ∨ (memN M.Z h = false ∧ E.H (M.at h) = some (.row (M.at ver) rw t xs)) := (hh.row _ _ _ _ _ (find_of_hset hx)).2
theorem sub_cells (hh : HSub0 M E hp) {h : Nat} {cs : List V} (hx : hset (fun _ => none) hp h = some (.cells cs)) : memN M.Z h = false ∧ ∃ cs0, E.H (M.at h) = some (.cells cs0) := hh.cells _ _ (find_of_hset hx)
theorem sub_grow (hh : HSub0 M E hp) {h ver esz : Nat} {cs : List V} (hx : hset (fun _ => none) hp h = some (.grow ver esz cs)) : memN M.Z h = false ∧ ver < M.nx ∧ ∃ cs0, E.H (M.at h) = some (.grow (M.at ver) esz cs0) ∧ cs0.length = cs.length := hh.grow _ _ _ _ (find_of_hset hx)

theorem subVs_len {M : Nam} : ∀ {xs ys : List V}, subVs M xs ys → xs.length = ys.length
  | [], [], _ => rfl
  | _ :: _, [], h => by simp [subVs] at h
  | [], _ :: _, h => by simp [subVs] at h
  | x :: xs, y :: ys, h => by simp only [subVs] at h; simp [subVs_len h.2]

mutual
theorem subV_sound (hh : HSub0 M E hp) : ∀ (x v : V) (u : Value), subV M x v → vrel E x u → vrel (subE M E hp) v u
  | x, .any, u, _, _ => by simp [vrel]
  | x, .int k n, u, h, hv => by
    cases x <;> simp only [subV] at h
    obtain ⟨h1, rfl⟩ := ifB_iff.1 h
    obtain rfl := of_decide_eq_true h1
    simpa [vrel] using hv
  | x, .bool b, u, h, hv => by
    cases x <;> simp only [subV] at h
    all_goals subst h; simpa [vrel] using hv
  | x, .kb b, u, h, hv => by
    cases x <;> simp only [subV] at h
    all_goals subst h; simpa [vrel] using hv
  | x, .str s, u, h, hv => by
    cases x <;> simp only [subV] at h
    subst h; simpa [vrel] using hv
  | x, .nilptr, u, h, hv => by cases x <;> simp only [subV] at h; simpa [vrel] using hv
  | x, .hint _ _, u, h, hv => by cases x <;> simp only [subV] at h
  | x, .nilfn, u, h, hv => by cases x <;> simp only [subV] at h; simpa [vrel] using hv
  | x, .nilmap, u, h, hv => by cases x <;> simp only [subV] at h; simpa [vrel] using hv
  | x, .nilsl, u, h, hv => by cases x <;> simp only [subV] at h; simpa [vrel] using hv
  | x, .esl, u, h, hv => by
    cases x <;> simp only [subV] at h
    · simp only [vrel] at hv ⊢; exact ⟨_, hv⟩
    · simpa [vrel] using hv
  | x, .fsl t xs, u, h, hv => by
    cases x <;> simp only [subV] at h
    · subst h; simp only [vrel] at hv ⊢; subst hv; exact .nil
    · subst h; simp only [vrel] at hv ⊢; obtain ⟨a, rfl⟩ := hv; exact .nil
    · cases h; simpa [vrel, subE] using hv
  | x, .ptr h0 off, u, h, hv => by
    cases x <;> simp only [subV] at h
    obtain ⟨h1, _⟩ := ifB_iff.1 h
    simp only [Bool.and_eq_true, Nat.beq_eq] at h1
    obtain ⟨h2, rfl⟩ := h1
    obtain ⟨h3, rfl, hz⟩ := is_iff.1 h2
    simp only [vrel] at hv ⊢
    refine ⟨h3, hv.2.1, fun cs hx => ?_⟩
    obtain ⟨_, cs0, hx0⟩ := sub_cells hh hx
    obtain ⟨b, hb, hu⟩ := hv.2.2 _ hx0
    exact ⟨b, by simp only [subE, hz, Bool.false_eq_true, if_false]; exact hb, hu⟩
  | x, .fp t xs i off, u, h, hv => by
    cases x <;> simp only [subV] at h
    obtain ⟨h1, h2, rfl⟩ := ifB_iff.1 h
    simp only [Nat.beq_eq] at h1
    subst h1
    cases h2
    simpa [vrel, subE] using hv
  | x, .rp h0 ver i off, u, h, hv => by
    cases x <;> simp only [subV] at h
    obtain ⟨h1, rfl⟩ := ifB_iff.1 h
    simp only [Bool.and_eq_true, Nat.beq_eq] at h1
    obtain ⟨⟨h2, h4⟩, rfl⟩ := h1
    obtain ⟨h3, rfl, hz⟩ := is_iff.1 h2
    obtain ⟨h5, rfl⟩ := vs_iff.1 h4
    simp only [vrel] at hv ⊢
    refine ⟨h3, h5, hv.2.2.1, fun rw t xs hx => ?_⟩
    rcases sub_row hh hx with ⟨hz', _⟩ | ⟨_, hx0⟩
    · rw [hz] at hz'; cases hz'
    · obtain ⟨b, hb, hu⟩ := hv.2.2.2 _ _ _ hx0
      exact ⟨b, by simp only [subE, hz, Bool.false_eq_true, if_false]; exact hb, hu⟩
  | x, .osl h0 ver, u, h, hv => by
    have zero : ∀ (a : Option Addr), u = .slice a 0 0 → (memN M.Z h0 && Nat.blt h0 M.nx && Nat.blt ver M.nx) = true → vrel (subE M E hp) (.osl h0 ver) u := fun a hu h1 => by
      simp only [Bool.and_eq_true, Nat.blt_eq] at h1
      simp only [vrel]
      refine ⟨h1.1.2, h1.2, ⟨_, _, _, hu⟩, fun rw t xs hx => .inl ⟨by simp only [subE, h1.1.1, if_true], a, hu⟩⟩
    cases x <;> simp only [subV] at h
    · simp only [vrel] at hv; exact zero none hv (ifB_iff.1 h).1
    · simp only [vrel] at hv; obtain ⟨a, hv⟩ := hv; exact zero a hv (ifB_iff.1 h).1
    · obtain ⟨h1, _⟩ := ifB_iff.1 h
      simp only [Bool.and_eq_true] at h1
      obtain ⟨h3, rfl, hz⟩ := is_iff.1 h1.1
      obtain ⟨h5, rfl⟩ := vs_iff.1 h1.2
      simp only [vrel] at hv ⊢
      refine ⟨h3, h5, hv.2.2.1, fun rw t xs hx => ?_⟩
      rcases sub_row hh hx with ⟨hz', _⟩ | ⟨_, hx0⟩
      · rw [hz] at hz'; cases hz'
      · have e : (subE M E hp).ρ h0 = E.ρ (M.at h0) := by simp only [subE, hz, Bool.false_eq_true, if_false]
        rw [e]
        exact hv.2.2.2 _ _ _ hx0
  | x, .fn f cs, u, h, hv => by
    cases x <;> simp only [subV] at h
    obtain ⟨h1, h2⟩ := ifB_iff.1 h
    simp only [Nat.beq_eq] at h1
    subst h1
    simp only [vrel] at hv ⊢
    obtain ⟨l, rfl, hl⟩ := hv
    exact ⟨l, rfl, subVs_sound hh _ _ _ h2 hl⟩
  | x, .agg cs, u, h, hv => by
    cases x <;> simp only [subV] at h
    simp only [vrel] at hv ⊢
    obtain ⟨l, rfl, hl⟩ := hv
    exact ⟨l, rfl, subVs_sound hh _ _ _ h hl⟩
  | x, .tup cs, u, h, hv => by
    cases x <;> simp only [subV] at h
    simp only [vrel] at hv ⊢
    obtain ⟨l, rfl, hl⟩ := hv
    exact ⟨l, rfl, subVs_sound hh _ _ _ h hl⟩
  | x, .gsl h0 ver e o l, u, h, hv => by
    cases x <;> simp only [subV] at h
    obtain ⟨h1, _⟩ := ifB_iff.1 h
    simp only [Bool.and_eq_true, Nat.beq_eq] at h1
    obtain ⟨⟨h2, h4⟩, ⟨rfl, rfl⟩, rfl⟩ := h1
    obtain ⟨h3, rfl, hz⟩ := is_iff.1 h2
    obtain ⟨h5, rfl⟩ := vs_iff.1 h4
    simp only [vrel] at hv ⊢
    refine ⟨h3, h5, hv.2.2.1, fun cs hx => ?_⟩
    obtain ⟨_, _, cs0, hx0, hs⟩ := sub_grow hh hx
    obtain ⟨b, cap, c, T, fr, q1, q2, q3, q4, q5, q6⟩ := hv.2.2.2 _ hx0
    exact ⟨b, cap, c, T, fr, by simp only [subE, hz, Bool.false_eq_true, if_false]; exact q1, q2, q3, q4, q5, by rw [← hs]; exact q6⟩
  | x, .gp _ _ _, u, h, hv => by cases x <;> simp only [subV] at h
  | x, .mpv _, u, h, hv => by cases x <;> simp only [subV] at h
theorem subVs_sound (hh : HSub0 M E hp) : ∀ (xs vs : List V) (us : List Value), subVs M xs vs → vrels E xs us → vrels (subE M E hp) vs us
  | [], [], us, _, hv => by cases us <;> simp_all [vrels]
  | [], _ :: _, _, h, _ => by simp [subVs] at h
  | _ :: _, [], _, h, _ => by simp [subVs] at h
  | x :: xs, v :: vs, us, h, hv => by
    cases us with
    | nil => simp [vrels] at hv
    | cons u us =>
      simp only [subVs] at h
      simp only [vrels] at hv ⊢
      exact ⟨subV_sound hh _ _ _ h.1 hv.1, subVs_sound hh _ _ _ h.2 hv.2⟩
end

theorem subTm_find {tm : List (Nat × V)} : ∀ {tm' : List (Nat × V)} {s : Nat} {v : V}, subTm M tm tm' → (s, v) ∈ tm' → subV M (lookV tm s) v
  | [], _, _, _, hm => by simp at hm
  | (n, x) :: r, s, v, h, hm => by
    simp only [subTm] at h
    rcases List.mem_cons.1 hm with hm | hm
    · cases hm; exact h.1
    · exact subTm_find h.2 hm

/-- the contents, too -/
structure HSub (M : Nam) (E : Env) (hp : List (Nat × Blk)) : Prop extends HSub0 M E hp where
  rcells : ∀ h cs cs0, find hp h = some (.cells cs) → E.H (M.at h) = some (.cells cs0) → ∀ l, vrels E cs0 l → vrels (subE M E hp) cs l
  rgrow : ∀ h ver esz cs cs0, find hp h = some (.grow ver esz cs) → E.H (M.at h) = some (.grow (M.at ver) esz cs0) → ∀ l, vrels E cs0 l → vrels (subE M E hp) cs l

theorem subHp_sub (hh : subHp M E.H hp) : HSub M E hp := by
  have h0 : HSub0 M E hp := by
    refine ⟨fun h k hf => (subHp_find hh (find_mem hf)).1, fun h ver rw t xs hf => ⟨?_, synt_row hh (hset_of_find hf)⟩, fun h cs hf => ?_, fun h ver esz cs hf => ?_, fun h es hf => synt_nomp hh (hset_of_find hf)⟩
    · obtain ⟨_, h2⟩ := subHp_find hh (find_mem hf)
      rcases h2 with ⟨_, h3⟩ | ⟨_, k0, _, h4⟩
      · simp only [zeroB] at h3; simpa using (ifB_iff.1 h3).1
      · cases k0 with
        | cells => simp [subK] at h4
        | grow => simp [subK] at h4
        | mp => simp [subK] at h4
        | row =>
          simp only [subK] at h4
          have := (ifB_iff.1 h4).1
          simp only [Bool.and_eq_true] at this
          exact (vs_iff.1 this.1).1
    · obtain ⟨hz, cs0, hx, _⟩ := synt_cells hh (hset_of_find hf)
      exact ⟨hz, cs0, hx⟩
    · obtain ⟨hz, hv, cs0, hx, hs⟩ := synt_grow hh (hset_of_find hf)
      exact ⟨hz, hv, cs0, hx, subVs_len hs⟩
  refine ⟨h0, fun h cs cs0 hf hx l hl => ?_, fun h ver esz cs cs0 hf hx l hl => ?_⟩
  · obtain ⟨_, cs1, hx1, hs⟩ := synt_cells hh (hset_of_find hf)
    rw [hx] at hx1; cases hx1
    exact subVs_sound h0 _ _ _ hs hl
  · obtain ⟨_, _, cs1, hx1, hs⟩ := synt_grow hh (hset_of_find hf)
    rw [hx] at hx1; cases hx1
    exact subVs_sound h0 _ _ _ hs hl

theorem subE_rel {B : Base} (hE : HRel B E) (hh : HSub M E hp) (hn : nodupN (((hp.map (·.1)).filter fun h => !memN M.Z h).map M.at) = true) : HRel B (subE M E hp) := by
  have hfind : ∀ h k, (subE M E hp).H h = some k → find hp h = some k := fun h k hx => find_of_hset hx
  have old : ∀ h k b, (subE M E hp).H h = some k → (subE M E hp).ρ h = some b → memN M.Z h = false ∧ (∃ k0, E.H (M.at h) = some k0) ∧ E.ρ (M.at h) = some b := fun h k b hx hb => by
    have hf := hfind _ _ hx
    have hz : memN M.Z h = false := by
      cases hz : memN M.Z h with
      | false => rfl
      | true => simp only [subE, hz, if_true] at hb; cases hb
    simp only [subE, hz, Bool.false_eq_true, if_false] at hb
    refine ⟨hz, ?_, hb⟩
    cases k with
    | cells cs => obtain ⟨_, cs0, h⟩ := hh.cells _ _ hf; exact ⟨_, h⟩
    | row ver rw t xs =>
      rcases (hh.row _ _ _ _ _ hf).2 with ⟨hz', _⟩ | ⟨_, h⟩
      · rw [hz] at hz'; cases hz'
      · exact ⟨_, h⟩
    | grow ver esz cs => obtain ⟨_, _, cs0, h, _⟩ := hh.grow _ _ _ _ hf; exact ⟨_, h⟩
    | mp es => exact (hh.nomp _ _ hf).elim
  refine ⟨fun h k hx => hh.lt _ _ (hfind _ _ hx), hE.stab, fun h k b hx hb => ?_, fun h h' k k' b h1 h2 b1 b2 => ?_, fun h k hx => ?_, hE.keeps, fun h k b hx hb => ?_, hE.s0, hE.sb⟩
  · obtain ⟨_, ⟨k0, h1⟩, h2⟩ := old h k b hx hb
    exact hE.lt _ _ _ h1 h2
  · obtain ⟨z1, ⟨q1, x1⟩, y1⟩ := old h k b h1 b1
    obtain ⟨z2, ⟨q2, x2⟩, y2⟩ := old h' k' b h2 b2
    have e := hE.inj _ _ _ _ _ x1 x2 y1 y2
    have nd := nodupN_iff.1 hn
    have mem : ∀ {h k}, (h, k) ∈ hp → memN M.Z h = false → h ∈ ((hp.map (·.1)).filter fun h => !memN M.Z h) := fun {h k} hm hz => by
      rw [List.mem_filter]
      exact ⟨List.mem_map.2 ⟨_, hm, rfl⟩, by simp [hz]⟩
    exact nodup_map_inj nd (mem (find_mem (hfind _ _ h1)) z1) (mem (find_mem (hfind _ _ h2)) z2) e
  · cases k with
    | cells cs =>
      obtain ⟨hz, cs0, hx0⟩ := hh.cells _ _ (hfind _ _ hx)
      obtain ⟨b, c, T, fr, h1, h2, h3, h4, h5⟩ := hE.blk _ _ hx0
      exact ⟨b, c, T, fr, by simp only [subE, hz, Bool.false_eq_true, if_false]; exact h1, h2, h3, h4, hh.rcells _ _ _ (hfind _ _ hx) hx0 _ h5⟩
    | row ver rw t xs =>
      obtain ⟨hv, hr⟩ := hh.row _ _ _ _ _ (hfind _ _ hx)
      refine ⟨hv, ?_⟩
      rcases hr with ⟨hz, rfl⟩ | ⟨hz, hx0⟩
      · exact .inl ⟨by simp only [subE, hz, if_true], rfl⟩
      · have e : (subE M E hp).ρ h = E.ρ (M.at h) := by simp only [subE, hz, Bool.false_eq_true, if_false]
        rw [e]
        exact (hE.blk _ _ hx0).2
    | grow ver esz cs =>
      obtain ⟨hz, hv, cs0, hx0, hl⟩ := hh.grow _ _ _ _ (hfind _ _ hx)
      obtain ⟨_, b, c, T, fr, h1, h2, h3, h4, h5⟩ := hE.blk _ _ hx0
      exact ⟨hv, b, c, T, fr, by simp only [subE, hz, Bool.false_eq_true, if_false]; exact h1, h2, h3, h4, by rw [← hl]; exact hh.rgrow _ _ _ _ _ (hfind _ _ hx) hx0 _ h5⟩
    | mp => exact (hh.nomp _ _ (hfind _ _ hx)).elim
  · obtain ⟨_, ⟨k0, h1⟩, h2⟩ := old h k b hx hb
    exact hE.own _ _ _ h1 h2

/-- names below p stay -/
def pinsOK (p : Nat) (M : Nam) : Bool := Nat.ble p M.nx && (List.range p).all fun n => Nat.beq (M.at n) n && !memN M.Z n

theorem pinsOK_iff {p : Nat} {M : Nam} (h : pinsOK p M = true) {n : Nat} (hn : n < p) : n < M.nx ∧ M.at n = n ∧ memN M.Z n = false := by
  simp only [pinsOK, Bool.and_eq_true, List.all_eq_true, List.mem_range, Nat.beq_eq, Bool.not_eq_true'] at h
  have h1 := Nat.le_of_ble_eq_true h.1
  exact ⟨by omega, h.2 n hn⟩

/-- what the base asks for beyond stays where names below p stay -/
def Base.pins (p : Nat) (B : Base) : Prop := ∀ M E hp, pinsOK p M = true → HSub M E hp → B.G E → B.G (subE M E hp)

theorem Base.free.pins {B : Base} (h : B.free) (p : Nat) : B.pins p := fun _ _ _ _ _ _ => h _

theorem sub_here {B : Base} (hB : B.free) {N : Nat} {s : St} {tm : List (Nat × V)} (h : Sub M s tm hp) {a : Act} {w : World} (hs : here B N s a w) : here B N ⟨tm, hp, fun _ => none, M.nx⟩ a w := by
  obtain ⟨hn, ht, hh⟩ := ifB_iff.1 h
  obtain ⟨⟨E, hE, rfl, hH, _, hT⟩, hsz, hdf⟩ := hs
  rw [← hH] at hh
  have hs := subHp_sub hh
  refine ⟨⟨subE M E hp, subE_rel hE hs hn, rfl, rfl, ⟨hB _, fun n hn => hn⟩, fun sl v hv => ?_⟩, hsz, hdf⟩
  exact subV_sound hs.toHSub0 _ _ _ (subTm_find ht (find_mem hv)) (lookV_sound hT sl)
end

end Go.Mir

/- The mirror, part 27: loops. -/
namespace Go.Mir
open Go.RowKit

variable {P : Program}

def maskTm : List (Nat × V) → List (Nat × V)
  | [] => []
  | (s, _) :: r => (s, .any) :: maskTm r
def maskHp (n : Nat) : List (Nat × Blk) → List (Nat × Blk)
  | [] => []
  | (h, _) :: r => (h, .row n true .unit []) :: maskHp n r

/-- leaves that stand by themselves, after a state of which nothing is kept -/
def maskT (st : St) : Tr → Tr
  | .leaf e d nx => .leaf e ⟨d.tm ++ maskTm st.tm, d.hp ++ maskHp (Nat.max nx st.nx) st.hp⟩ (Nat.max nx st.nx + 1)
  | .br b t e => .br b (maskT st t) (maskT st e)
  | .need p t => .need p (maskT st t)
  | .both t u => .both (maskT st t) (maskT st u)
  | .when b t => .when b (maskT st t)
  | .done => .done
  | .bad => .bad

theorem maskT_sat {st : St} {Q : Lf → Dl → Nat → Prop} : ∀ {t : Tr}, (maskT st t).sat Q → t.sat fun e d nx => Q e ⟨d.tm ++ maskTm st.tm, d.hp ++ maskHp (Nat.max nx st.nx) st.hp⟩ (Nat.max nx st.nx + 1)
  | .leaf _ _ _, h => h
  | .br _ _ _, h => ⟨fun hb => maskT_sat (h.1 hb), fun hb => maskT_sat (h.2 hb)⟩
  | .need _ _, h => ⟨h.1, maskT_sat h.2⟩
  | .both _ _, h => ⟨maskT_sat h.1, maskT_sat h.2⟩
  | .when _ _, h => fun hb => maskT_sat (h hb)
  | .done, h => h
  | .bad, h => h

def ltAll (n : Nat) : List (Nat × Blk) → Bool
  | [] => true
  | (h, _) :: r => Nat.blt h n && ltAll n r

theorem ltAll_find {n : Nat} : ∀ {l : List (Nat × Blk)} {h : Nat} {k : Blk}, ltAll n l = true → find l h = some k → h < n
  | [], _, _, _, hf => by simp [find] at hf
  | (x, v) :: r, h, k, hl, hf => by
    simp only [ltAll, Bool.and_eq_true, Nat.blt_eq] at hl
    simp only [find] at hf
    cases hb : Nat.beq x h with
    | true => obtain rfl := Nat.eq_of_beq_eq_true hb; exact hl.1
    | false => rw [hb] at hf; exact ltAll_find hl.2 hf

theorem find_maskTm : ∀ {l : List (Nat × V)} {s : Nat}, find (maskTm l) s = (find l s).map fun _ => .any
  | [], s => rfl
  | (x, v) :: r, s => by
    simp only [maskTm, find]
    cases Nat.beq x s with
    | true => rfl
    | false => exact find_maskTm

theorem find_maskHp {n : Nat} : ∀ {l : List (Nat × Blk)} {s : Nat}, find (maskHp n l) s = (find l s).map fun _ => Blk.row n true .unit []
  | [], s => rfl
  | (x, v) :: r, s => by
    simp only [maskHp, find]
    cases Nat.beq x s with
    | true => rfl
    | false => exact find_maskHp

def noH0 (H : Heap) : Prop := H = fun _ => none

def loopSum (M : Nam) (J : St) (T : Tr) : LoopSum :=
  ⟨fun st => noH0 st.H0 ∧ ifB (ltAll st.nx st.hp) (Sub M st J.tm J.hp), fun st => maskT st T⟩

theorem mask_at {B : Base} {N : Nat} {st : St} (h0 : st.H0 = fun _ => none) (hl : ltAll st.nx st.hp = true) {tm : List (Nat × V)} {hp : List (Nat × Blk)} {nx : Nat} {a : Act} {w : World} (hs : here B N ⟨tm, hp, fun _ => none, nx⟩ a w) :
    at_ B N st ⟨tm ++ maskTm st.tm, hp ++ maskHp (Nat.max nx st.nx) st.hp⟩ (Nat.max nx st.nx + 1) a w := by
  obtain ⟨⟨E, hE, rfl, hH, hU, hT⟩, hsz, hdf⟩ := hs
  let m := Nat.max nx st.nx
  have hm1 : nx ≤ m := Nat.le_max_left _ _
  have hm2 : st.nx ≤ m := Nat.le_max_right _ _
  have hH : E.H = hset (fun _ => none) hp := hH
  have hG := hU.1
  have hU : ∀ n, E.U n → n < nx := hU.2
  have hT : ∀ s v, find tm s = some v → vrel E v (a.tmps.getD s undef) := hT
  let E' : Env := ⟨fun n => n < m + 1, fun h => match find hp h with | some _ => E.ρ h | none => none, E.S, E.w, hset st.H (hp ++ maskHp m st.hp)⟩
  -- the new heap
  have hnew : ∀ h, E'.H h = match find hp h with | some k => some k | none => (match find st.hp h with | some _ => some (.row m true .unit []) | none => none) := fun h => by
    show hset st.H (hp ++ maskHp m st.hp) h = _
    unfold hset
    rw [find_append, find_maskHp]
    cases find hp h with
    | some k => rfl
    | none =>
      simp only
      cases hf : find st.hp h with
      | some k => rfl
      | none =>
        simp only [Option.map_none]
        unfold St.H hset
        rw [hf, h0]
  have hold : ∀ h k, find hp h = some k → E.H h = some k := fun h k hf => by rw [hH]; unfold hset; rw [hf]
  have cases' : ∀ h k, E'.H h = some k → (find hp h = some k ∧ E'.ρ h = E.ρ h) ∨ (k = .row m true .unit [] ∧ E'.ρ h = none ∧ h < st.nx) := fun h k hk => by
    rw [hnew h] at hk
    cases hf : find hp h with
    | some k' =>
      rw [hf] at hk
      simp only [Option.some.injEq] at hk
      subst hk
      exact .inl ⟨rfl, by show (match find hp h with | some _ => E.ρ h | none => none) = _; rw [hf]⟩
    | none =>
      rw [hf] at hk
      simp only at hk
      cases hg : find st.hp h with
      | none => rw [hg] at hk; cases hk
      | some k' =>
        rw [hg] at hk
        simp only [Option.some.injEq] at hk
        exact .inr ⟨hk.symm, by show (match find hp h with | some _ => E.ρ h | none => none) = _; rw [hf], ltAll_find hl hg⟩
  have X : Ext E E' := by
    refine ⟨fun n hn => ?_, fun _ h => h, fun _ _ => rfl, fun h cs hu hx => ?_, fun h ver rw t xs hu hv hx => ?_, fun h ver esz cs hu hv hx => ?_, fun h es hu hx => ?_⟩
    · have := hU n hn; show n < m + 1; omega
    · rcases cases' _ _ hx with ⟨h1, h2⟩ | ⟨h1, _⟩
      · exact ⟨⟨cs, hold _ _ h1⟩, h2⟩
      · cases h1
    · rcases cases' _ _ hx with ⟨h1, h2⟩ | ⟨h1, _⟩
      · exact ⟨rw, xs, hold _ _ h1, rfl, h2, fun b c T fr _ hw => ⟨c, T, fr, hw, rfl⟩⟩
      · cases h1
        have := hU _ hv
        omega
    · rcases cases' _ _ hx with ⟨h1, h2⟩ | ⟨h1, _⟩
      · exact ⟨cs, hold _ _ h1, rfl, h2, fun b c T fr _ hw => ⟨c, T, fr, hw, rfl⟩⟩
      · cases h1
    · rcases cases' _ _ hx with ⟨h1, h2⟩ | ⟨h1, _⟩
      · exact ⟨⟨es, hold _ _ h1⟩, h2⟩
      · cases h1
  have R : HRel B E' := by
    refine ⟨fun h k hx => ?_, hE.stab, fun h k b hx hb => ?_, fun h h' k k' b h1 h2 b1 b2 => ?_, fun h k hx => ?_, hE.keeps, fun h k b hx hb => ?_, hE.s0, hE.sb⟩
    · rcases cases' _ _ hx with ⟨h1, _⟩ | ⟨_, _, h3⟩
      · exact X.u _ (hE.used _ _ (hold _ _ h1))
      · show h < m + 1; omega
    · rcases cases' _ _ hx with ⟨h1, h2⟩ | ⟨_, h2, _⟩
      · rw [h2] at hb; exact hE.lt _ _ _ (hold _ _ h1) hb
      · rw [h2] at hb; cases hb
    · rcases cases' _ _ h1 with ⟨x1, x2⟩ | ⟨_, x2, _⟩
      · rcases cases' _ _ h2 with ⟨y1, y2⟩ | ⟨_, y2, _⟩
        · rw [x2] at b1; rw [y2] at b2; exact hE.inj _ _ _ _ _ (hold _ _ x1) (hold _ _ y1) b1 b2
        · rw [y2] at b2; cases b2
      · rw [x2] at b1; cases b1
    · rcases cases' _ _ hx with ⟨h1, h2⟩ | ⟨rfl, h2, _⟩
      · exact brel_ext X h2 (fun _ _ => rfl) (fun _ _ _ h => h) (hE.blk _ _ (hold _ _ h1))
      · exact ⟨Nat.lt_succ_self m, .inl ⟨h2, rfl⟩⟩
    · rcases cases' _ _ hx with ⟨h1, h2⟩ | ⟨_, h2, _⟩
      · rw [h2] at hb; exact hE.own _ _ _ (hold _ _ h1) hb
      · rw [h2] at hb; cases hb
  refine ⟨⟨E', R, rfl, rfl, ⟨B.clo _ _ hG X, fun n hn => hn⟩, fun s v hv => ?_⟩, hsz, hdf⟩
  simp only [List.append_assoc] at hv
  rw [find_append] at hv
  cases hf : find tm s with
  | some v' =>
    rw [hf] at hv
    simp only [Option.some.injEq] at hv
    subst hv
    exact vrel_ext X _ _ (hT _ _ hf)
  | none =>
    rw [hf] at hv
    simp only at hv
    rw [find_append, find_maskTm] at hv
    cases hg : find st.tm s with
    | none => rw [hg] at hv; simp at hv
    | some v' =>
      rw [hg] at hv
      simp only [Option.map_some, Option.some.injEq] at hv
      subst hv
      simp [vrel]

/-- THE LOOP: a family of states, one for each round's data -/
theorem loop_ok {C : Cfg} (hC : CfgOK P C) (hP : P.follows .mixedOrders = true) {body : Code} {α : Type} (I : α → St) (hI : ∀ a, (I a).H0 = fun _ => none) (inv : α → Prop) (μ : α → Nat) (Λ : α → Nat → Option LoopSum)
    (hΛ : ∀ a, inv a → ∀ b ∈ loopsIn (Λ a) body, ∀ L, Λ a (rid b) = some L → LoopOK P C.N b L) {T : Tr} {M0 : Nam} {a0 : α} (h0 : inv a0) (hM : M0.nx = (I a0).nx)
    (step : ∀ a, inv a → (evCode C (Λ a) body (I a)).sat fun e d nx => match e with
      | .nrm => ∃ (a' : α) (M : Nam), inv a' ∧ μ a' < μ a ∧ M.nx = (I a').nx ∧ Sub M ((I a).app d nx) (I a').tm (I a').hp
      | e => ∃ (M : Nam) (tm : List (Nat × V)) (hp : List (Nat × Blk)), Sub M ((I a).app d nx) tm hp ∧ ∀ Q : Lf → Dl → Nat → Prop, T.sat Q → Q e ⟨tm, hp⟩ M.nx) :
    LoopOK P C.N body (loopSum M0 (I a0) T) := by
  intro B hB st Q CQ hpre hT hQ a w hs
  obtain ⟨hH0, hpre⟩ := hpre
  obtain ⟨hl, hsub⟩ := ifB_iff.1 hpre
  have hT := maskT_sat hT
  have eqI : ∀ (x : α) (M : Nam), M.nx = (I x).nx → (⟨(I x).tm, (I x).hp, fun _ => none, M.nx⟩ : St) = I x := fun x M hx => by rw [hx, ← hI x]
  have start : here B C.N (I a0) a w := by have := sub_here hB hsub hs; rw [eqI a0 M0 hM] at this; exact this
  have key : ∀ n x a w, inv x → μ x < n → here B C.N (I x) a w → Code.rounds P body CQ n a w := by
    intro n
    induction n with
    | zero => intro x a w _ hlt _; omega
    | succ n ih =>
      intro x a w hx hlt hs
      rw [rounds_succ]
      refine evCode_sound hC hP (B := B) body (fun b hb L hL => (hΛ x hx b hb L hL).at_free hB) (I x) _ _ (step x hx) (fun e d nx a w hq hat => ?_) a w hs
      have hat := at_here.1 hat
      have out : ∀ e : Lf, (∃ (M : Nam) (tm : List (Nat × V)) (hp : List (Nat × Blk)), Sub M ((I x).app d nx) tm hp ∧ ∀ Q : Lf → Dl → Nat → Prop, T.sat Q → Q e ⟨tm, hp⟩ M.nx) → CQ (exitOf e) a w := fun e ⟨M, tm, hp, h1, h2⟩ =>
        hQ e _ _ a w (h2 (fun e d nx => Q e ⟨d.tm ++ maskTm st.tm, d.hp ++ maskHp (Nat.max nx st.nx) st.hp⟩ (Nat.max nx st.nx + 1)) hT) (mask_at hH0 hl (sub_here hB h1 hat))
      cases e with
      | nrm =>
        obtain ⟨x', M, h1, h2, h3, h4⟩ := hq
        have := sub_here hB h4 hat
        rw [eqI x' M h3] at this
        exact ih x' a w h1 (by omega) this
      | ext id => exact out (.ext id) hq
      | ret => exact out .ret hq
  exact wp_loop_rounds (μ a0 + 1) (key _ a0 a w h0 (Nat.lt_succ_self _) start)

end Go.Mir

/- The mirror, part 28: what a call is handed, read; and the law's contract. -/
namespace Go.Mir
open Go.RowKit Go.ChangeShapes Go.WideShapes

/-- does a type of the program have the shape of a type of the mirror -/
def shpFs (sh : TypeId → Ty → Bool) (P : Program) : List Field → Nat → Ty → Bool
  | [], _, .unit => true
  | fd :: r, o, .prod a b => Nat.beq fd.offset o && (Nat.beq (P.cellsOf fd.type) (sz a) && (sh fd.type a && shpFs sh P r (o + sz a) b))
  | _, _, _ => false
def shpArr (sh : TypeId → Ty → Bool) (P : Program) (e : TypeId) : Nat → Ty → Bool
  | 0, .unit => true
  | n + 1, .prod a b => Nat.beq (P.cellsOf e) (sz a) && (sh e a && shpArr sh P e n b)
  | _, _ => false
def shp (P : Program) : Nat → TypeId → Ty → Bool
  | 0, _, _ => false
  | f + 1, T, t => match P.underlying T, t with
    | some (.int k), .int k' => decide (k = k')
    | some .bool, .bool => true
    | some .string, .str => true
    | some (.slice e), .slice t => shp P f e t && (Nat.beq (P.cellsOf e) (sz t) && (Nat.blt 0 (sz t) && Nat.blt 0 (P.bytesOf e)))
    | some (.struct fs), .nm n => shpFs (shp P f) P fs.toList 0 n.flds && Nat.beq (P.cellsOf T) n.size
    | some (.struct fs), .prod a b => shpFs (shp P f) P fs.toList 0 (.prod a b) && Nat.beq (P.cellsOf T) (sz (.prod a b))
    | some (.array n e), .prod a b => shpArr (shp P f) P e n (.prod a b) && Nat.beq (P.cellsOf T) (sz (.prod a b))
    | _, _ => false

/-- how much a datum holds -/
def bulkD : Nat → (t : Ty) → Den t → Nat
  | 0, _, _ => 0
  | _ + 1, .int _, _ => 1
  | _ + 1, .bool, _ => 1
  | _ + 1, .str, s => s.size + 1
  | _ + 1, .unit, _ => 0
  | f + 1, .prod a b, x => bulkD f a x.1 + bulkD f b x.2
  | f + 1, .slice t, xs => (xs.map (bulkD f t)).sum + 1
  | f + 1, .nm n, x => bulkD f n.flds (n.to x)

open Go.Proofs.YtidkcdcajfkgbaaGreatDoor.Rows (uptoBulk uptoBulkAll)

section
variable {H : Type} {enc : TypeId × Value → H} {P : Program} {w : World}

def blocks (w : World) : Nat → Prop := fun b => b < w.heap.size

/-- what is asked of a reading: its weights are small -/
def light (P : Program) (T : TypeId) (d : DataW H) : Prop := ∀ n ∈ d.weights P T, n ≤ lenB

/-- what comes of a reading -/
def Opens (w : World) (t : Ty) (cs : List Value) (d : DataW H) : Prop := ∃ x : Den t, Rd (blocks w) w t x cs ∧ ∀ g, bulkD g t x ≤ uptoBulk d

def OpenAt (enc : TypeId × Value → H) (P : Program) (w : World) (f : Nat) : Prop := ∀ (T : TypeId) (t : Ty) (fuel : Nat) (cs : List Value) (z : DataW H × List MemPlace), shp P f T t = true → DataW.trod enc P w 0 (fun _ => true) true fuel T cs = some z → light P T z.1 → Opens w t cs z.1

theorem take_add_drop (cs : List Value) (o a b : Nat) : (cs.drop o).take (a + b) = (cs.drop o).take a ++ (cs.drop (o + a)).take b := by
  rw [List.take_add, List.drop_drop]

theorem bulkAll_append (l r : List (DataW H)) : uptoBulkAll (l ++ r) = uptoBulkAll l + uptoBulkAll r := by
  induction l with
  | nil => simp [uptoBulkAll]
  | cons x l ih => simp only [List.cons_append, uptoBulkAll, ih]; omega

theorem open_fs {f n : Nat} (ih : OpenAt enc P w f) {cs : List Value} : ∀ (l : List Field) (ys : List (DataW H × List MemPlace)) (o : Nat) (t : Ty), shpFs (shp P f) P l o t = true → ys.length = l.length →
    (∀ (i : Nat) (fd : Field), l[i]? = some fd → DataW.trod enc P w 0 (fun _ => true) true n fd.type ((cs.drop fd.offset).take (P.cellsOf fd.type)) = ys[i]?) →
    (∀ m ∈ DataW.weightsEach P (l.map (·.type)) (ys.map (·.1)), m ≤ lenB) → ∃ x : Den t, Rd (blocks w) w t x ((cs.drop o).take (sz t)) ∧ ∀ g, bulkD g t x ≤ uptoBulkAll (ys.map (·.1))
  | [], ys, o, t, hs, hl, _, _ => by
    cases t <;> simp only [shpFs, Bool.false_eq_true] at hs
    refine ⟨(), by simpa [sz] using Rd.unit, fun g => ?_⟩
    cases g <;> simp [bulkD]
  | fd :: l, ys, o, t, hs, hl, hy, hw => by
    cases t <;> simp only [shpFs, Bool.false_eq_true] at hs
    rename_i a b
    simp only [Bool.and_eq_true, Nat.beq_eq] at hs
    obtain ⟨rfl, h2, h3, h4⟩ := hs
    cases ys with
    | nil => simp at hl
    | cons y ys =>
      have h0 := hy 0 fd rfl
      simp only [List.getElem?_cons_zero] at h0
      simp only [List.map_cons, DataW.weightsEach, List.mem_append] at hw
      obtain ⟨x, hx, bx⟩ := ih fd.type a _ _ y h3 h0 (fun m hm => hw m (.inl hm))
      obtain ⟨z, hz, bz⟩ := open_fs ih l ys (fd.offset + sz a) b h4 (by simpa using hl) (fun i f' hf => by simpa using hy (i + 1) f' (by simpa using hf)) (fun m hm => hw m (.inr hm))
      refine ⟨(x, z), ?_, fun g => ?_⟩
      · show Rd _ _ (.prod a b) (x, z) ((cs.drop fd.offset).take (sz a + sz b))
        rw [take_add_drop]
        rw [h2] at hx
        exact .prod hx hz
      · cases g with
        | zero => simp [bulkD]
        | succ g => simp only [bulkD, List.map_cons, uptoBulkAll]; have := bx g; have := bz g; omega

theorem open_arr {f n : Nat} (ih : OpenAt enc P w f) {cs : List Value} {e : TypeId} : ∀ (k j : Nat) (ys : List (DataW H × List MemPlace)) (t : Ty), shpArr (shp P f) P e k t = true → ys.length = k →
    (∀ i : Nat, i < k → DataW.trod enc P w 0 (fun _ => true) true n e ((cs.drop ((j + i) * P.cellsOf e)).take (P.cellsOf e)) = ys[i]?) →
    (∀ m ∈ DataW.weightsAll P e (ys.map (·.1)), m ≤ lenB) → ∃ x : Den t, Rd (blocks w) w t x ((cs.drop (j * P.cellsOf e)).take (sz t)) ∧ ∀ g, bulkD g t x ≤ uptoBulkAll (ys.map (·.1))
  | 0, j, ys, t, hs, hl, _, _ => by
    cases t <;> simp only [shpArr, Bool.false_eq_true] at hs
    refine ⟨(), by simpa [sz] using Rd.unit, fun g => ?_⟩
    cases g <;> simp [bulkD]
  | k + 1, j, ys, t, hs, hl, hy, hw => by
    cases t <;> simp only [shpArr, Bool.false_eq_true] at hs
    rename_i a b
    simp only [Bool.and_eq_true, Nat.beq_eq] at hs
    obtain ⟨h2, h3, h4⟩ := hs
    cases ys with
    | nil => simp at hl
    | cons y ys =>
      have h0 := hy 0 (by omega)
      simp only [List.getElem?_cons_zero, Nat.add_zero] at h0
      simp only [List.map_cons, DataW.weightsAll, List.mem_append] at hw
      obtain ⟨x, hx, bx⟩ := ih e a _ _ y h3 h0 (fun m hm => hw m (.inl hm))
      obtain ⟨z, hz, bz⟩ := open_arr ih k (j + 1) ys b h4 (by simpa using hl) (fun i hi => by
        have := hy (i + 1) (by omega)
        simpa [Nat.add_assoc, Nat.add_comm 1 i] using this) (fun m hm => hw m (.inr hm))
      refine ⟨(x, z), ?_, fun g => ?_⟩
      · show Rd _ _ (.prod a b) (x, z) ((cs.drop (j * P.cellsOf e)).take (sz a + sz b))
        rw [take_add_drop]
        rw [h2] at hx hz ⊢
        rw [Nat.add_mul, Nat.one_mul] at hz
        exact .prod hx hz
      · cases g with
        | zero => simp [bulkD]
        | succ g => simp only [bulkD, List.map_cons, uptoBulkAll]; have := bx g; have := bz g; omega

theorem mapM_cells {α : Type} (f : Nat → Option α) : ∀ (l : List Nat) (r : List α), l.mapM f = some r → r.length = l.length ∧ ∀ (i j : Nat), l[i]? = some j → r[i]? = f j
  | [], r, h => by simp at h; subst h; simp
  | x :: l, r, h => by
    rw [List.mapM_cons] at h
    cases hx : f x with
    | none => rw [hx] at h; cases h
    | some v =>
      rw [hx] at h
      cases hl : l.mapM f with
      | none => simp [hl] at h
      | some r' =>
        simp [hl] at h
        subst h
        obtain ⟨h1, h2⟩ := mapM_cells f l r' hl
        refine ⟨by simp [h1], fun i j hi => ?_⟩
        cases i with
        | zero => simp at hi; subst hi; simp [hx]
        | succ i => simpa using h2 i j (by simpa using hi)

/-- cells of a row, read -/
theorem cells_seg {a : Addr} {n : Nat} {r : List Value} (h : w.cells? 0 a n = some r) (hn : 0 < n) : a.spot = none ∧ ∃ c T fr, w.heap[a.block]? = some (.cells c T fr) ∧ a.off + n ≤ c.size ∧ r = seg c a.off n := by
  unfold World.cells? at h
  rw [if_pos (Nat.zero_le _)] at h
  obtain ⟨h1, h2⟩ := mapM_cells _ _ _ h
  simp only [List.length_range] at h1
  have h0 := h2 0 0 (by simp [hn])
  have hr0 : r[0]? = some (r[0]'(by omega)) := List.getElem?_eq_getElem _
  rw [hr0] at h0
  simp only [Addr.add, if_true] at h0
  unfold World.cell? at h0
  split at h0
  case h_2 => cases h0
  rename_i c T fr hb
  split at h0
  case isTrue => cases h0
  rename_i hsp
  have hsp : a.spot = none := by simpa using hsp
  have get : ∀ i, i < n → ∃ v, r[i]? = some v ∧ c.toList[a.off + i]? = some v := fun i hi => by
    have h3 := h2 i i (by simp [hi])
    have hri : r[i]? = some (r[i]'(by omega)) := List.getElem?_eq_getElem _
    have e : a.add i = ⟨a.block, a.off + i, none⟩ := by
      unfold Addr.add
      split
      · rename_i e; subst e; cases a; simp_all
      · rfl
    rw [e, hri] at h3
    unfold World.cell? at h3
    simp only [hb, Option.isSome_none, Bool.false_eq_true, if_false] at h3
    exact ⟨_, hri, by rw [Array.getElem?_toList]; exact h3.symm⟩
  have hsz : a.off + n ≤ c.size := by
    obtain ⟨v, _, hv⟩ := get (n - 1) (by omega)
    have : a.off + (n - 1) < c.toList.length := by
      rcases Nat.lt_or_ge (a.off + (n - 1)) c.toList.length with h4 | h4
      · exact h4
      · rw [List.getElem?_eq_none h4] at hv; cases hv
    simp at this; omega
  refine ⟨hsp, c, T, fr, hb, hsz, ?_⟩
  apply List.ext_getElem?
  intro i
  by_cases hi : i < n
  · obtain ⟨v, h3, h4⟩ := get i hi
    rw [h3]
    simp only [seg, List.getElem?_take, if_pos hi, List.getElem?_drop, h4]
  · rw [List.getElem?_eq_none (by omega), List.getElem?_eq_none]
    simp [seg]; omega

theorem open_list {f n : Nat} (ih : OpenAt enc P w f) {e : TypeId} {t : Ty} (hs : shp P f e t = true) (hc : P.cellsOf e = sz t) (hpos : 0 < sz t) {a : Addr} : ∀ (k j : Nat) (ys : List (DataW H × List MemPlace)), ys.length = k →
    (∀ i, i < k → (w.cells? 0 (a.add ((j + i) * sz t)) (sz t)).bind (DataW.trod enc P w 0 (fun _ => true) true n e) = ys[i]?) →
    (∀ m ∈ DataW.weightsAll P e (ys.map (·.1)), m ≤ lenB) →
    ∃ xs : List (Den t), xs.length = k ∧ (∀ (i : Nat) (hi : i < xs.length), ∃ r, w.cells? 0 (a.add ((j + i) * sz t)) (sz t) = some r ∧ Rd (blocks w) w t xs[i] r) ∧ ∀ g, (xs.map (bulkD g t)).sum ≤ uptoBulkAll (ys.map (·.1))
  | 0, j, ys, hl, _, _ => ⟨[], rfl, fun i hi => by simp at hi, fun g => by simp⟩
  | k + 1, j, ys, hl, hy, hw => by
    cases ys with
    | nil => simp at hl
    | cons y ys =>
      have h0 := hy 0 (by omega)
      simp only [List.getElem?_cons_zero, Nat.add_zero] at h0
      simp only [List.map_cons, DataW.weightsAll, List.mem_append] at hw
      cases hr : w.cells? 0 (a.add (j * sz t)) (sz t) with
      | none => rw [hr] at h0; cases h0
      | some r =>
        rw [hr] at h0
        simp only [Option.bind_some] at h0
        obtain ⟨x, hx, bx⟩ := ih e t _ _ y hs h0 (fun m hm => hw m (.inl hm))
        obtain ⟨xs, h1, h2, h3⟩ := open_list ih hs hc hpos k (j + 1) ys (by simpa using hl) (fun i hi => by
          have := hy (i + 1) (by omega)
          simpa [Nat.add_assoc, Nat.add_comm 1 i] using this) (fun m hm => hw m (.inr hm))
        refine ⟨x :: xs, by simp [h1], fun i hi => ?_, fun g => ?_⟩
        · cases i with
          | zero => exact ⟨r, by simpa using hr, hx⟩
          | succ i =>
            obtain ⟨r', h4, h5⟩ := h2 i (by simpa using hi)
            exact ⟨r', by rw [← h4]; simp [Nat.add_assoc, Nat.add_comm 1 i], by simpa using h5⟩
        · simp only [List.map_cons, List.sum_cons, uptoBulkAll]; have := bx g; have := h3 g; omega

theorem weightsAll_append (e : TypeId) : ∀ (l r : List (DataW H)), DataW.weightsAll P e (l ++ r) = DataW.weightsAll P e l ++ DataW.weightsAll P e r
  | [], r => by simp [DataW.weightsAll]
  | x :: l, r => by simp [DataW.weightsAll, weightsAll_append e l r]

theorem open_at : ∀ f, OpenAt enc P w f
  | 0 => fun T t fuel cs z hs _ _ => by simp [shp] at hs
  | f + 1 => fun T t fuel cs z hs h hw => by
    have ih := open_at f
    unfold shp at hs
    split at hs
    · rename_i k k' hT
      obtain ⟨n, rfl, rfl, hwf⟩ := DataW.trod_int hT h
      have e : k = k' := by simpa using hs
      subst e
      refine ⟨n, .int ?_, fun g => ?_⟩
      · simpa [Lit.wf, ok] using hwf
      · cases g <;> simp [bulkD, uptoBulk]
    · rename_i hT
      obtain ⟨b, rfl, rfl⟩ := DataW.trod_bool hT h
      refine ⟨b, .bool, fun g => ?_⟩
      cases g <;> simp [bulkD, uptoBulk]
    · rename_i hT
      obtain ⟨s, rfl, rfl, hwf⟩ := DataW.trod_string hT h
      have hl : s.size ≤ lenB := hw _ (by show s.size ∈ [s.data.toList.length]; rw [Array.length_toList]; exact List.mem_singleton.2 rfl)
      refine ⟨s, .str hl, fun g => ?_⟩
      cases g with
      | zero => exact Nat.zero_le _
      | succ g =>
        show s.size + 1 ≤ s.data.toList.length + 1
        rw [Array.length_toList]
        exact Nat.le_refl _
    · rename_i e t' hT
      simp only [Bool.and_eq_true, Nat.beq_eq, Nat.blt_eq] at hs
      obtain ⟨h1, h2, h3, h4⟩ := hs
      rcases DataW.trod_slice hT h with ⟨rfl, rfl⟩ | ⟨a, len, cap, elems, rest, n, rfl, rfl, rfl, hb, hl, hm, hlen, hel, hsp, _⟩
      · refine ⟨[], .nil, fun g => ?_⟩
        cases g <;> simp [bulkD, uptoBulk]
      · simp only [light, DataW.weights, hT] at hw
        rw [h2] at hel
        obtain ⟨xs, k1, k2, k3⟩ := open_list ih h1 h2 h3 len 0 elems hlen (fun i hi => by simpa using hel i hi) (fun m hm => hw m (List.mem_cons_of_mem _ (List.mem_append_left _ hm)))
        have hlb : xs.length ≤ lenB := by
          have hw0 := hw _ List.mem_cons_self
          rw [List.length_map, List.length_map] at hw0
          have h5 : (elems.length + rest.length) * 1 ≤ (elems.length + rest.length) * P.bytesOf e := Nat.mul_le_mul_left _ h4
          omega
        refine ⟨xs, ?_, fun g => ?_⟩
        · cases hx : len with
          | zero =>
            have : xs = [] := List.eq_nil_of_length_eq_zero (by omega)
            subst this
            exact .nil
          | succ len' =>
            obtain ⟨r0, q1, q2⟩ := k2 0 (by omega)
            simp only [Nat.zero_add, Nat.zero_mul] at q1
            have ha0 : a.add 0 = a := rfl
            rw [ha0] at q1
            obtain ⟨hspot, c, T0, fr, hblk, hsz0, _⟩ := cells_seg q1 h3
            have hat : ∀ i, a.add (i * sz t') = ⟨a.block, a.off + i * sz t', none⟩ := fun i => by
              unfold Addr.add
              split
              · rename_i e0; cases a; simp_all
              · rfl
            have hread : ∀ (i : Nat) (hi : i < xs.length), a.off + i * sz t' + sz t' ≤ c.size ∧ Rd (blocks w) w t' xs[i] (seg c (a.off + i * sz t') (sz t')) := fun i hi => by
              obtain ⟨r, q3, q4⟩ := k2 i hi
              rw [Nat.zero_add, hat] at q3
              obtain ⟨_, c', T', fr', hblk', hsz', rfl⟩ := cells_seg q3 h3
              simp only at hblk' hsz' q4
              rw [hblk] at hblk'
              cases hblk'
              exact ⟨hsz', q4⟩
            have ea : a = ⟨a.block, a.off, none⟩ := by cases a; simp_all
            rw [ea, ← hx, ← k1]
            have hlast := (hread (xs.length - 1) (by omega)).1
            have hmul : (xs.length - 1) * sz t' + sz t' = xs.length * sz t' := by
              rw [← Nat.succ_mul]; congr 1; omega
            refine .slice ?_ hblk (by omega) (by omega) hlb (fun i hi => (hread i hi).2)
            show a.block < w.heap.size
            rcases Nat.lt_or_ge a.block w.heap.size with h6 | h6
            · exact h6
            · rw [Array.getElem?_eq_none h6] at hblk; cases hblk
        · cases g with
          | zero => simp [bulkD]
          | succ g => simp only [bulkD, uptoBulk]; have := k3 g; omega
    · rename_i fs n hT
      simp only [Bool.and_eq_true, Nat.beq_eq] at hs
      obtain ⟨xs, m, rfl, rfl, hlen, hl, hx⟩ := DataW.trod_struct hT h
      simp only [light, DataW.weights, hT] at hw
      obtain ⟨x, h1, h2⟩ := open_fs ih (cs := cs) fs.toList xs 0 n.flds hs.1 (by simpa using hl) (fun i fd hf => hx i fd (by simpa using hf)) hw
      have hsz : sz n.flds = n.size := n.size_flds
      rw [hsz, List.drop_zero, List.take_of_length_le (by omega)] at h1
      refine ⟨n.of x, .nm (by rw [n.to_of]; exact h1), fun g => ?_⟩
      cases g with
      | zero => simp [bulkD]
      | succ g => simp only [bulkD, uptoBulk, n.to_of]; have := h2 g; omega
    · rename_i fs a b hT
      simp only [Bool.and_eq_true, Nat.beq_eq] at hs
      obtain ⟨xs, m, rfl, rfl, hlen, hl, hx⟩ := DataW.trod_struct hT h
      simp only [light, DataW.weights, hT] at hw
      obtain ⟨x, h1, h2⟩ := open_fs ih (cs := cs) fs.toList xs 0 (.prod a b) hs.1 (by simpa using hl) (fun i fd hf => hx i fd (by simpa using hf)) hw
      rw [List.drop_zero, List.take_of_length_le (by omega)] at h1
      refine ⟨x, h1, fun g => ?_⟩
      have := h2 g; simp only [uptoBulk]; omega
    · rename_i n e a b hT
      simp only [Bool.and_eq_true, Nat.beq_eq] at hs
      obtain ⟨xs, m, rfl, rfl, hlen, hl, hx⟩ := DataW.trod_array hT h
      simp only [light, DataW.weights, hT] at hw
      obtain ⟨x, h1, h2⟩ := open_arr ih (cs := cs) n 0 xs (.prod a b) hs.1 hl (fun i hi => by simpa using hx i hi) hw
      rw [Nat.zero_mul, List.drop_zero, List.take_of_length_le (by omega)] at h1
      refine ⟨x, h1, fun g => ?_⟩
      have := h2 g; simp only [uptoBulk]; omega
    · cases hs
end

end Go.Mir

/- The mirror, part 29: a law's contract, and its row. -/
namespace Go.Mir
open Go.RowKit Go.ChangeShapes Go.WideShapes
open Go.Proofs.YtidkcdcajfkgbaaGreatDoor.Rows (uptoBulk uptoBulkAll)

section
variable {H : Type} {enc : TypeId × Value → H} {P : Program} {w : World}

def shpAll (P : Program) : List TypeId → Ty → Bool
  | [], .unit => true
  | T :: Ts, .prod a b => shp P 32 T a && shpAll P Ts b
  | _, _ => false

theorem shp_form {f : Nat} {T : TypeId} {t : Ty} (hs : shp P f T t = true) {r : Reach} {b : Nat} {v : Value} (hv : Value.okWide P w r b T v) : (aggT t = true ∧ ∃ l, v = .agg l) ∨ (aggT t = false ∧ v.cells.toList = [v]) := by
  cases f with
  | zero => simp [shp] at hs
  | succ f =>
    unfold shp at hs
    split at hs
    · rename_i k k' hT
      obtain ⟨n, rfl⟩ := okWide_int hT hv
      exact .inr ⟨rfl, rfl⟩
    · rename_i hT
      obtain ⟨n, rfl⟩ := okWide_bool hT hv
      exact .inr ⟨rfl, rfl⟩
    · rename_i hT
      obtain ⟨n, rfl⟩ := okWide_string hT hv
      exact .inr ⟨rfl, rfl⟩
    · rename_i hT
      obtain ⟨a, l, c, rfl⟩ := okWide_slice hT hv
      exact .inr ⟨rfl, rfl⟩
    · rename_i fs n hT
      obtain ⟨cs, rfl, _⟩ := okWide_struct hT hv
      exact .inl ⟨rfl, cs, rfl⟩
    · rename_i fs a b hT
      obtain ⟨cs, rfl, _⟩ := okWide_struct hT hv
      exact .inl ⟨rfl, cs, rfl⟩
    · rename_i n e a b hT
      simp only [Value.okWide, hT] at hv
      obtain ⟨cs, rfl, _⟩ := hv
      exact .inl ⟨rfl, cs, rfl⟩
    · cases hs

/-- the world of a law's call: all blocks frozen -/
def env0 (w : World) : Env := ⟨fun _ => False, fun _ => none, blocks w, w, fun _ => none⟩
def base0 (w : World) : Base := base3 w (fun _ => False) (blocks w)

theorem env0_rel (w : World) : HRel (base0 w) (env0 w) := by
  refine ⟨fun h b hx => ?_, fun b hb => hb, fun h k b hx => ?_, fun h h' k k' b hx => ?_, fun h k hx => ?_, Keeps.refl _ _, fun h k b hx => ?_, fun _ h => h, fun _ h => .inl h⟩ <;> cases hx

theorem argV_rel {E : Env} {t : Ty} {x : Den t} {v : Value} (h : Rd E.S E.w t x v.cells.toList) (hf : (aggT t = true ∧ ∃ l, v = .agg l) ∨ (aggT t = false ∧ v.cells.toList = [v])) : vrel E (argV t x) v := by
  rcases hf with ⟨h1, l, rfl⟩ | ⟨h1, h2⟩
  · cases t <;> simp only [aggT, Bool.false_eq_true] at h1
    · simp only [argV, vrel]
      refine ⟨l, rfl, ?_⟩
      have h0 : l.toList = [] := List.eq_nil_of_length_eq_zero h.len
      rw [h0]; simp [vrels]
    · simp only [argV, vrel]; exact ⟨l, rfl, h.flat FUEL⟩
    · simp only [argV, vrel]; exact ⟨l, rfl, h.flat FUEL⟩
  · rw [h2] at h
    cases t <;> simp only [aggT, reduceCtorEq] at h1
    · cases h with | int hk => exact vint hk
    · cases h with | bool => simp only [argV, vrel]
    · cases h with | str hk => exact vstr hk
    · simp only [argV, vrel]; exact h

theorem args_open : ∀ {Ts : List TypeId} {vs : List Value} {ds : List (DataW H)} {p : List MemPlace} {ps : Ty}, DataW.TrodAll enc P w 0 (fun _ => true) true Ts vs ds p → shpAll P Ts ps = true →
    (∀ (j : Nat) (t : TypeId) (v : Value), Ts[j]? = some t → vs[j]? = some v → ∃ r b, Value.okWide P w r b t v) → (∀ m ∈ DataW.weightsEach P Ts ds, m ≤ lenB) →
    ∃ x : Den ps, vrels (env0 w) (argsV ps x) vs ∧ (∃ cs, Rd (blocks w) w ps x cs) ∧ (∀ g, bulkD g ps x ≤ uptoBulkAll ds) ∧ vs.length = Ts.length ∧ ds.length = Ts.length
  | [], vs, ds, p, ps, ht, hs, _, _ => by
    cases ps <;> simp only [shpAll, Bool.false_eq_true] at hs
    cases vs with
    | cons => cases ds <;> simp [DataW.TrodAll] at ht
    | nil =>
      cases ds with
      | cons => simp [DataW.TrodAll] at ht
      | nil => exact ⟨(), trivial, ⟨[], .unit⟩, fun g => by cases g <;> simp [bulkD], rfl, rfl⟩
  | T :: Ts, vs, ds, p, ps, ht, hs, hv, hw => by
    cases ps <;> simp only [shpAll, Bool.false_eq_true] at hs
    rename_i a b
    simp only [Bool.and_eq_true] at hs
    cases vs with
    | nil => cases ds <;> simp [DataW.TrodAll] at ht
    | cons v vs =>
      cases ds with
      | nil => simp [DataW.TrodAll] at ht
      | cons d ds =>
        simp only [DataW.TrodAll] at ht
        obtain ⟨p1, q, ⟨fuel, h1⟩, h2, _⟩ := ht
        simp only [DataW.weightsEach, List.mem_append] at hw
        obtain ⟨x, hx, bx⟩ := open_at 32 T a fuel _ _ hs.1 h1 (fun m hm => hw m (.inl hm))
        obtain ⟨y, k1, ⟨cs, k2⟩, k3, k4, k5⟩ := args_open h2 hs.2 (fun j t v h3 h4 => hv (j + 1) t v (by simpa using h3) (by simpa using h4)) (fun m hm => hw m (.inr hm))
        obtain ⟨r, b0, hok⟩ := hv 0 T v rfl rfl
        refine ⟨(x, y), ?_, ⟨_, .prod hx k2⟩, fun g => ?_, by simp [k4], by simp [k5]⟩
        · simp only [argsV, vrels]
          exact ⟨argV_rel (E := env0 w) hx (shp_form hs.1 hok), k1⟩
        · cases g with
          | zero => simp [bulkD]
          | succ g =>
            simp only [bulkD, uptoBulkAll]
            have h1 : bulkD g a x ≤ uptoBulk d := bx g
            have := k3 g
            omega

def isTrue : V → Prop
  | .bool b => b = true
  | .kb b => b = true
  | _ => False

theorem isTrue_rel {E : Env} {v : V} {u : Value} (h : isTrue v) (hv : vrel E v u) : u = .bool true := by
  cases v <;> simp only [isTrue] at h <;> subst h <;> simpa [vrel] using hv

/-- a law's call -/
theorem law_calls {C : Cfg} (hC : CfgOK P C) (hP : P.follows .mixedOrders = true) {f : FuncId} {fn : Func} (hf : P.funcs[f]? = some fn) (hN : C.N = fn.ntmps) {ps : Ty} (hps : shpAll P fn.params.toList ps = true) (hle : fn.params.size ≤ fn.ntmps)
    {Λ : Den ps → Nat → Option LoopSum} {bound : Nat}
    (hΛ : ∀ x : Den ps, wfD ps x → bulkD FUEL ps x ≤ bound → ∀ c, fn.body = some c → ∀ b ∈ loopsIn (Λ x) c, ∀ L, Λ x (rid b) = some L → LoopOK P C.N b L)
    (h : ∀ x : Den ps, wfD ps x → bulkD FUEL ps x ≤ bound → (evFn C (Λ x) fn (argsV ps x)).sat fun v _ => isTrue v)
    {args : Array Value} {ds : List (DataW H)} {p : List MemPlace} (hA : DataW.TrodAll enc P w 0 (fun _ => true) true fn.params.toList args.toList ds p) (hval : ∀ (j : Nat) t v, fn.params[j]? = some t → args[j]? = some v → ∃ r b, Value.okWide P w r b t v)
    (hw : ∀ m ∈ DataW.weightsEach P fn.params.toList ds, m ≤ lenB) (hb : uptoBulkAll ds ≤ bound) :
    Calls P f args w fun e w' => e = .returned (.bool true) ∧ Keeps w (fun _ => False) w' := by
  obtain ⟨x, k1, ⟨cs, k2⟩, k3, k4, k5⟩ := args_open hA hps (fun j t v h1 h2 => hval j t v (by simpa using h1) (by simpa using h2)) hw
  have hwf : wfD ps x := ⟨_, _, _, k2⟩
  have hbd := Nat.le_trans (k3 FUEL) hb
  have hc := evFn_sound hC hP hf hN (hΛ x hwf hbd) (h x hwf hbd) (env0_rel w) (fun _ => trivial) rfl (fun _ h => h) k1 (by rw [k4]; simpa using hle)
  have e : args.toList.toArray = args := by simp
  rw [e] at hc
  refine Calls.mono hc fun e w' hr => ?_
  obtain ⟨Ec, v', v0, v, acc, rfl, hEc, rfl, hv, hcan, hq⟩ := hr
  have hcs := canV_sound hEc 0 v0 [] v acc v' hcan hv
  refine ⟨?_, hEc.keeps⟩
  have hnf : v.noF = true := by cases v <;> simp only [isTrue] at hq <;> rfl
  have hrel := hcs.rel { Ec with U := fun _ => True, ρ := fun i => (acc[i]?).bind fun q => Ec.ρ q.1, H := fun i => (acc[i]?).map fun q => .row i true q.2.t q.2.xs } rfl (.inr hnf) (fun i h r hi => by simp [hi])
  have this : v' = .bool true := by
    have e : v.shift 0 = v := by cases v <;> simp only [isTrue] at hq <;> rfl
    rw [e] at hrel
    exact isTrue_rel hq hrel
  rw [this]

theorem keptBut_of {w' : World} (h : Keeps w (fun _ => False) w') (may : MemPlace → Prop) : w.keptBut w' may := by
  refine ⟨h.os, h.output, fun i hi => ?_⟩
  rw [h.block i hi (fun h => h)]
  split
  · rename_i a b c d e f h1 h2
    rw [h1] at h2; cases h2
    exact ⟨rfl, rfl, rfl, fun _ _ => rfl⟩
  · rename_i h1 h2
    rw [h1] at h2; cases h2
    exact .inr ⟨rfl, rfl⟩
  · rfl

theorem trodAll_stays (hl : laidOutB P = true) {w' : World} (hk : Keeps w (fun _ => False) w') {sp : Nat → Bool} : ∀ {Ts : List TypeId} {vs : List Value} {ds : List (DataW H)} {p : List MemPlace}, DataW.TrodAll enc P w 0 (fun _ => true) true Ts vs ds p →
    (∀ t ∈ Ts, P.readableRec t = true ∧ t < P.types.size) → (∀ x ∈ p, x.block < w.heap.size) → (∀ x ∈ p, sp x.block = true) → DataW.TrodAll enc P w' 0 sp true Ts vs ds p
  | [], vs, ds, p, h, _, _, _ => by cases vs <;> cases ds <;> simp_all [DataW.TrodAll]
  | T :: Ts, vs, ds, p, h, hr, hp, hs => by
    cases vs with
    | nil => cases ds <;> simp [DataW.TrodAll] at h
    | cons v vs =>
      cases ds with
      | nil => simp [DataW.TrodAll] at h
      | cons d ds =>
        simp only [DataW.TrodAll] at h ⊢
        obtain ⟨p1, q, h1, h2, rfl⟩ := h
        have hb : Below w.heap.size w w' := ⟨hk.os, hk.tape, hk.output, hk.size, fun k hk' => hk.block k hk' (fun h => h)⟩
        refine ⟨p1, q, ?_, trodAll_stays hl hk h2 (fun t ht => hr t (by simp [ht])) (fun x hx => hp x (by simp [hx])) (fun x hx => hs x (by simp [hx])), rfl⟩
        exact WideElems.Trod_stays hl (hr T (by simp)).1 (hr T (by simp)).2 h1 (fun x hx => hb.same (hp x (by simp [hx]))) (fun x hx => hs x (by simp [hx]))

/-- a law's row: what it leaves behind -/
theorem law_post (hl : laidOutB P = true) {fn : Func} {s : ChangeSpec} {TB : TypeId} (hres : fn.resultTypes = #[TB]) (hTB : P.underlying TB = some .bool) (hread : ∀ t ∈ fn.params.toList, P.readableRec t = true ∧ t < P.types.size)
    (hsv : s.vars = []) {args : Array Value} {ds gs : List (DataW H)} {before : List MemPlace} (hW : DataW.Whole enc P fn.params.toList s.vars false w args.toList ds gs before)
    (hs : (s.fn H (ds ++ gs)).results = [.lit (.bool true)] ∧ (s.fn H (ds ++ gs)).args = ds ∧ (s.fn H (ds ++ gs)).vars = []) {w' : World} (hk : Keeps w (fun _ => False) w') :
    s.post enc P fn false true false false w args (.bool true) w' := by
  have hlt := hW.lt
  have hW' := hW
  obtain ⟨p, q, hA, hV, rfl, hfz, hnd⟩ := hW
  rw [hsv] at hV
  obtain ⟨rfl, rfl⟩ := trodVars_none hV
  simp only [List.append_nil] at hlt hW' hs ⊢
  refine ⟨ds, [], p, [], p, [], by simpa using hW', ?_, ?_, ?_, keptBut_of hk _, fun h => by cases h⟩
  · rw [List.append_nil, hs.1, hres]
    exact trodAll_mk1 (shut_bool hTB true)
  · rw [List.append_nil, hs.2.1]
    exact trodAll_stays hl hk hA hread hlt (fun x hx => by simpa using hlt x hx)
  · rw [List.append_nil, hs.2.2, hsv]
    rfl
end

end Go.Mir

/- The mirror, part 30: what a loop's round asks, computed. -/
namespace Go.Mir
open Go.RowKit

variable {P : Program}

/-- what becomes of an end of a round: the next round's data, or an end of the loop -/
inductive Lspec (α : Type) where
  | next (a : α) (σ : List (Nat × Nat)) (Z : List Nat)
  | out (path : List Bool) (σ : List (Nat × Nat)) (Z : List Nat)

def lfEq : Lf → Lf → Bool
  | .nrm, .nrm => true
  | .ret, .ret => true
  | .ext n, .ext m => Nat.beq n m
  | _, _ => false

theorem lfEq_iff {e e' : Lf} (h : lfEq e e' = true) : e = e' := by
  cases e <;> cases e' <;> simp only [lfEq, Bool.false_eq_true, Nat.beq_eq] at h
  · rfl
  · subst h; rfl
  · rfl

def conj : List Prop → Prop
  | [] => True
  | [p] => p
  | p :: q :: r => p ∧ conj (q :: r)

theorem conj_all : ∀ {l : List Prop}, conj l → ∀ p ∈ l, p
  | [], _, p, hp => by simp at hp
  | [q], h, p, hp => by rw [List.mem_singleton] at hp; subst hp; exact h
  | q :: q' :: r, h, p, hp => by
    rcases List.mem_cons.1 hp with rfl | hp
    · exact h.1
    · exact conj_all h.2 p hp

/-- an end of a tree, by its path, with what is asked on the way -/
def Tr.walk : Tr → List Bool → Option (List Prop × Lf × Dl × Nat)
  | .leaf e d nx, _ => some ([], e, d, nx)
  | .br b t u, p => match p with
    | true :: p => (match t.walk p with | some (ps, z) => some ((b = true) :: ps, z) | none => none)
    | false :: p => (match u.walk p with | some (ps, z) => some ((b = false) :: ps, z) | none => none)
    | [] => none
  | .need _ t, p => t.walk p
  | .both t u, p => match p with
    | true :: p => t.walk p
    | false :: p => u.walk p
    | [] => none
  | .when b t, p => match t.walk p with | some (ps, z) => some ((b = true) :: ps, z) | none => none
  | .done, _ => none
  | .bad, _ => none

theorem walk_sat {Q : Lf → Dl → Nat → Prop} : ∀ {t : Tr} {p : List Bool} {ps : List Prop} {e : Lf} {d : Dl} {nx : Nat}, t.walk p = some (ps, e, d, nx) → (∀ q ∈ ps, q) → t.sat Q → Q e d nx
  | .leaf e d nx, p, ps, e', d', nx', h, _, hs => by simp only [Tr.walk, Option.some.injEq, Prod.mk.injEq] at h; obtain ⟨_, rfl, rfl, rfl⟩ := h; exact hs
  | .br b t u, p, ps, e', d', nx', h, hp, hs => by
    cases p with
    | nil => simp [Tr.walk] at h
    | cons x p =>
      cases x with
      | true =>
        simp only [Tr.walk] at h
        split at h
        case h_2 => cases h
        rename_i ps' z hz
        simp only [Option.some.injEq, Prod.mk.injEq] at h
        obtain ⟨rfl, rfl⟩ := h
        exact walk_sat hz (fun q hq => hp q (by simp [hq])) (hs.1 (hp _ (by simp)))
      | false =>
        simp only [Tr.walk] at h
        split at h
        case h_2 => cases h
        rename_i ps' z hz
        simp only [Option.some.injEq, Prod.mk.injEq] at h
        obtain ⟨rfl, rfl⟩ := h
        exact walk_sat hz (fun q hq => hp q (by simp [hq])) (hs.2 (hp _ (by simp)))
  | .need q t, p, ps, e', d', nx', h, hp, hs => walk_sat (t := t) h hp hs.2
  | .both t u, p, ps, e', d', nx', h, hp, hs => by
    cases p with
    | nil => simp [Tr.walk] at h
    | cons x p =>
      cases x with
      | true => exact walk_sat (t := t) h hp hs.1
      | false => exact walk_sat (t := u) h hp hs.2
  | .when b t, p, ps, e', d', nx', h, hp, hs => by
    simp only [Tr.walk] at h
    split at h
    case h_2 => cases h
    rename_i ps' z hz
    simp only [Option.some.injEq, Prod.mk.injEq] at h
    obtain ⟨rfl, rfl⟩ := h
    exact walk_sat hz (fun q hq => hp q (by simp [hq])) (hs (hp _ (by simp)))
  | .done, p, _, _, _, _, h, _, _ => by simp [Tr.walk] at h
  | .bad, p, _, _, _, _, h, _, _ => by simp [Tr.walk] at h

section
variable {α : Type} (I : α → St) (inv : α → Prop) (μ : α → Nat) (a : α) (T : Tr)

def leafObl (e : Lf) (d : Dl) (nx : Nat) : Lspec α → Prop
  | .next a' σ Z => match e with
    | .nrm => inv a' ∧ μ a' < μ a ∧ Sub ⟨σ, Z, (I a').nx⟩ ((I a).app d nx) (I a').tm (I a').hp
    | _ => False
  | .out p σ Z => match e with
    | .nrm => False
    | e => match T.walk p with
      | some (ps, e', d', nx') => ifB (lfEq e e') (conj ps ∧ Sub ⟨σ, Z, nx'⟩ ((I a).app d nx) d'.tm d'.hp)
      | none => False

def stepObl : Tr → List (Lspec α) → Prop × List (Lspec α)
  | .leaf e d nx, l => match l with
    | [] => (False, [])
    | s :: r => (leafObl I inv μ a T e d nx s, r)
  | .br b t u, l => ((b = true → (stepObl t l).1) ∧ (b = false → (stepObl u (stepObl t l).2).1), (stepObl u (stepObl t l).2).2)
  | .need p t, l => (p ∧ (stepObl t l).1, (stepObl t l).2)
  | .both t u, l => ((stepObl t l).1 ∧ (stepObl u (stepObl t l).2).1, (stepObl u (stepObl t l).2).2)
  | .when b t, l => ((b = true → (stepObl t l).1), (stepObl t l).2)
  | .done, l => (True, l)
  | .bad, l => (False, l)

def stepQ : Lf → Dl → Nat → Prop := fun e d nx => match e with
  | .nrm => ∃ (a' : α) (M : Nam), inv a' ∧ μ a' < μ a ∧ M.nx = (I a').nx ∧ Sub M ((I a).app d nx) (I a').tm (I a').hp
  | e => ∃ (M : Nam) (tm : List (Nat × V)) (hp : List (Nat × Blk)), Sub M ((I a).app d nx) tm hp ∧ ∀ Q : Lf → Dl → Nat → Prop, T.sat Q → Q e ⟨tm, hp⟩ M.nx

variable {I inv μ a T}

theorem leafObl_sat {e : Lf} {d : Dl} {nx : Nat} : ∀ {s : Lspec α}, leafObl I inv μ a T e d nx s → stepQ I inv μ a T e d nx
  | .next a' σ Z, h => by
    cases e with
    | nrm => exact ⟨a', ⟨σ, Z, (I a').nx⟩, h.1, h.2.1, rfl, h.2.2⟩
    | ext id => exact h.elim
    | ret => exact h.elim
  | .out p σ Z, h => by
    have key : ∀ e : Lf, (match T.walk p with
      | some (ps, e', d', nx') => ifB (lfEq e e') (conj ps ∧ Sub ⟨σ, Z, nx'⟩ ((I a).app d nx) d'.tm d'.hp)
      | none => False) → ∃ (M : Nam) (tm : List (Nat × V)) (hp : List (Nat × Blk)), Sub M ((I a).app d nx) tm hp ∧ ∀ Q : Lf → Dl → Nat → Prop, T.sat Q → Q e ⟨tm, hp⟩ M.nx := fun e h => by
      split at h
      case h_2 => exact h.elim
      rename_i ps e' d' nx' hw
      obtain ⟨h1, h2, h3⟩ := ifB_iff.1 h
      obtain rfl := lfEq_iff h1
      exact ⟨⟨σ, Z, nx'⟩, d'.tm, d'.hp, h3, fun Q hT => walk_sat hw (conj_all h2) hT⟩
    cases e with
    | nrm => exact h.elim
    | ext id => exact key _ h
    | ret => exact key _ h

theorem stepObl_sat : ∀ {t : Tr} {l : List (Lspec α)}, (stepObl I inv μ a T t l).1 → t.sat (stepQ I inv μ a T)
  | .leaf e d nx, l, h => by
    cases l with
    | nil => exact h.elim
    | cons s r => exact leafObl_sat h
  | .br b t u, l, h => ⟨fun hb => stepObl_sat (h.1 hb), fun hb => stepObl_sat (h.2 hb)⟩
  | .need p t, l, h => ⟨h.1, stepObl_sat h.2⟩
  | .both t u, l, h => ⟨stepObl_sat h.1, stepObl_sat h.2⟩
  | .when b t, l, h => fun hb => stepObl_sat (h hb)
  | .done, _, h => h
  | .bad, _, h => h.elim
end

/-- THE LOOP, its rounds' obligations computed -/
theorem loop_by {C : Cfg} (hC : CfgOK P C) (hP : P.follows .mixedOrders = true) {body : Code} {α : Type} (I : α → St) (hI : ∀ a, (I a).H0 = fun _ => none) (inv : α → Prop) (μ : α → Nat) (Λ : α → Nat → Option LoopSum)
    (hΛ : ∀ a, inv a → ∀ b ∈ loopsIn (Λ a) body, ∀ L, Λ a (rid b) = some L → LoopOK P C.N b L) (T : Tr) (σ : List (Nat × Nat)) (Z : List Nat) (a0 : α) (h0 : inv a0) (L : α → List (Lspec α))
    (step : ∀ a, inv a → (stepObl I inv μ a T (evCode C (Λ a) body (I a)) (L a)).1) :
    LoopOK P C.N body (loopSum ⟨σ, Z, (I a0).nx⟩ (I a0) T) :=
  loop_ok hC hP I hI inv μ Λ hΛ h0 rfl fun a ha => stepObl_sat (step a ha)

/-- a loop that is entered only where something holds -/
def LoopSum.under (p : Prop) (L : LoopSum) : LoopSum := ⟨fun st => p ∧ L.pre st, L.T⟩
theorem LoopOK.under {N : Nat} {b : Code} {L : LoopSum} {p : Prop} (h : p → LoopOK P N b L) : LoopOK P N b (L.under p) := fun B hB st Q CQ hp => h hp.1 B hB st Q CQ hp.2

/-- a summary picked by the state -/
def selSum (F : St → LoopSum) : LoopSum := ⟨fun st => (F st).pre st, fun st => (F st).T st⟩
theorem selSum_ok {N : Nat} {b : Code} {F : St → LoopSum} (h : ∀ st, LoopOK P N b (F st)) : LoopOK P N b (selSum F) := fun B hB st Q CQ => h st B hB st Q CQ

/-- a number in a slot -/
def slotI (st : St) (s : Nat) : Int := match lookV st.tm s with
  | .int _ n => n
  | _ => -1

/-- all loops of a code are summed up rightly -/
def LoopsOK (P : Program) (N : Nat) (l : List Code) (Λ : Nat → Option LoopSum) : Prop := ∀ b ∈ l, ∀ L, Λ (rid b) = some L → LoopOK P N b L

theorem LoopsOK.nil {N : Nat} {Λ : Nat → Option LoopSum} : LoopsOK P N [] Λ := fun b hb => by simp at hb
theorem LoopsOK.cons {N : Nat} {b : Code} {l : List Code} {Λ : Nat → Option LoopSum} {L : LoopSum} (h0 : Λ (rid b) = some L) (h1 : LoopOK P N b L) (h2 : LoopsOK P N l Λ) : LoopsOK P N (b :: l) Λ := fun b' hb L' hL => by
  rcases List.mem_cons.1 hb with rfl | hb
  · rw [h0] at hL; cases hL; exact h1
  · exact h2 b' hb L' hL

theorem LoopsOK.skip {N : Nat} {b : Code} {l : List Code} {Λ : Nat → Option LoopSum} (h0 : Λ (rid b) = none) (h2 : LoopsOK P N l Λ) : LoopsOK P N (b :: l) Λ := fun b' hb L' hL => by
  rcases List.mem_cons.1 hb with rfl | hb
  · rw [h0] at hL; cases hL
  · exact h2 b' hb L' hL

def bodyOf (fn : Func) : Code := match fn.body with | some c => c | none => .skip
def loopN (fn : Func) (k : Nat) : Code := match (loopsOf (bodyOf fn))[k]? with | some c => c | none => .skip

/-- a loop inside a loop -/
def loopIn (fn : Func) (k j : Nat) : Code := match (loopsOf (loopN fn k))[j]? with | some c => c | none => .skip

theorem LoopsOK.at {N : Nat} {fn : Func} {l : List Code} {Λ : Nat → Option LoopSum} (he : loopsIn Λ (bodyOf fn) = l) (h : LoopsOK P N l Λ) : ∀ c, fn.body = some c → ∀ b ∈ loopsIn Λ c, ∀ L, Λ (rid b) = some L → LoopOK P N b L := fun c hc => by
  have : bodyOf fn = c := by unfold bodyOf; rw [hc]
  rw [← this, he]
  exact h

/-! ## a tree whose Bools are all known -/
def RT.chk (Q : V → List RowD → Prop) : RT → List Prop
  | .ret v rows => [Q v rows]
  | .br b t e => match b with | true => t.chk Q | false => e.chk Q
  | .need p t => p :: t.chk Q
  | .both t u => t.chk Q ++ u.chk Q
  | .when b t => match b with | true => t.chk Q | false => []
  | .done => []
  | .bad => [False]

theorem chk_sat {Q : V → List RowD → Prop} : ∀ (t : RT), (∀ p ∈ t.chk Q, p) → t.sat Q
  | .ret v rows, h => h (Q v rows) (List.mem_singleton.2 rfl)
  | .br b t e, h => by
    cases b with
    | true => exact ⟨fun _ => chk_sat t h, fun hb => Bool.noConfusion hb⟩
    | false => exact ⟨fun hb => Bool.noConfusion hb, fun _ => chk_sat e h⟩
  | .need p t, h => ⟨h p List.mem_cons_self, chk_sat t fun q hq => h q (List.mem_cons_of_mem _ hq)⟩
  | .both t u, h => ⟨chk_sat t fun q hq => h q (List.mem_append_left _ hq), chk_sat u fun q hq => h q (List.mem_append_right _ hq)⟩
  | .when b t, h => by
    cases b with
    | true => exact fun _ => chk_sat t h
    | false => exact fun hb => Bool.noConfusion hb
  | .done, _ => trivial
  | .bad, h => (h False (List.mem_singleton.2 rfl)).elim

theorem conj_sat {Q : V → List RowD → Prop} {t : RT} (h : conj (t.chk Q)) : t.sat Q := chk_sat t (conj_all h)

/-! ## contracts, one behind the other -/

abbrev Ctrs := List (FuncId × Ctr)
def CtrsOK (P : Program) (K : Nat) (l : Ctrs) : Prop := ∀ f c, find l f = some c → CtrOK P K f c
theorem CtrsOK.nil {K : Nat} : CtrsOK P K [] := fun f c h => by simp [find] at h
theorem CtrsOK.cons {K : Nat} {f : FuncId} {c : Ctr} {l : Ctrs} (h : CtrOK P K f c) (hl : CtrsOK P K l) : CtrsOK P K ((f, c) :: l) := fun g c' hg => by
  simp only [find] at hg
  cases hb : Nat.beq f g with
  | true => rw [hb] at hg; obtain rfl := Nat.eq_of_beq_eq_true hb; simp only [cond_true, Option.some.injEq] at hg; subst hg; exact h
  | false => rw [hb] at hg; exact hl g c' hg

end Go.Mir

/- The setting of the contracts. -/
namespace Go.Proofs.YtidkcdcajfkgbaaGreatDoor
open Go Go.Mir

abbrev KK : Nat := 4
def cfg (l : Ctrs) (n : Nat) : Cfg := ⟨tbl, find l, KK, n⟩
def cfgF (l : Ctrs) (fn : Func) : Cfg := cfg l fn.ntmps
theorem mixed : Tryz.prog.follows .mixedOrders = true := by kernel_rfl
theorem cfgOK {l : Ctrs} (h : CtrsOK Tryz.prog KK l) (n : Nat) : CfgOK Tryz.prog (cfg l n) := ⟨tbl_ok, by show 1 ≤ KK; decide, h⟩

theorem wrap64 {n : Int} (h1 : -9223372036854775808 ≤ n) (h2 : n ≤ 9223372036854775807) : IntKind.i64.wrap n = n := by
  simp only [IntKind.wrap, IntKind.bits, IntKind.signed]
  simp
  omega

def okStep (n v : Int) : Bool := decide (1 ≤ n) && decide (n ≤ 1000) && decide (0 ≤ v) && decide (v ≤ 1000000)
/-- the next milestone, and the error -/
def nextW (n v : Int) : Int := bif okStep n v then n * (v / n + 1) else 0
def nextE (n v : Int) : Int := bif okStep n v then 0 else 2
abbrev ps2 : Ty := .prod (.int .i64) (.prod (.int .i64) .unit)
abbrev ps1 : Ty := .prod (.int .i64) .unit
def stepB (n : Int) : Bool := decide (1 ≤ n) && decide (n ≤ 1000)
def spec28 : Den ps1 → PRes := fun x => ⟨[], .bool (stepB x.1), []⟩
def specN : Den ps2 → PRes := fun x => ⟨[], .tup [.int .i64 (nextW x.1 x.2.1), .int .i64 (nextE x.1 x.2.1)], []⟩
def specT : Den .unit → PRes := fun _ => ⟨[], .bool true, []⟩
def k28 : FuncId × Ctr := (28, pureCtr KK ps1 spec28)
def k8 : FuncId × Ctr := (8, pureCtr KK .unit specT)
def k9 : FuncId × Ctr := (9, pureCtr KK ps2 specN)
def k10 : FuncId × Ctr := (10, pureCtr KK ps2 specN)

end Go.Proofs.YtidkcdcajfkgbaaGreatDoor

/- The law's check of the chapter's examples gives true: the kernel carries the call out. -/
namespace Go.Proofs.YtidkcdcajfkgbaaGreatDoor
open Go Go.Mir Go.RowKit

/-- the temporaries that each function keeps, as bits -/
noncomputable def awMask : List Nat := [
  0, 0, 0, 35478577350131, 19005472018444410831, 275947460591, 39943213691701394906798012407, 9709197017995036628221943, 492585504211071, 1572915,
  196659, 5, 229786911192726524957656195779962633215967989231, 19, 8454671, 42535295864844185184087449101176660975, 87, 33518643, 1, 1, 135333885,
  3138565648224763670668681267812426431784336595167699812303, 276897448031, 276897448031, 11826076493352957, 9443004713507618954749, 1, 31039, 5,
  33624375, 432600376175263735, 537934973, 4294963327, 7, 68531, 33624247, 154653373227835051981125359370231, 20765383902033018592160609786666995,
  4400731683703, 511, 68531, 15, 67791, 1, 5, 1, 5, 19, 536875975, 101191923, 2478602523605874885703778247, 7, 584132333839, 100215, 287, 751,
  1125899906781167, 730729220306227659762194183914400919200083747103, 33271, 287, 18154794255615, 1157496576784466559, 4311875891, 7, 2146960431, 15,
  19, 50467315, 1141361790201615, 65805, 393671, 2203355973565, 7, 18013866068819231, 7, 1074266623, 157734642905710068991, 17661509535773, 71,
  537427959, 7, 30767, 10680565413657634966791598749211705311, 1748372298083039162489419473994526981374079, 613909102082408237765055, 23,
  4611685889574277119, 9690297247829818509099023, 29, 7, 17188391667, 8804716774131, 285246067, 19, 19, 17714647155, 594912002450663878599,
  17247509535, 71, 21, 5574585500266620241506278819022995797836279, 45798598826349314118952776107391, 30767, 1166414994787599451,
  30468223768147948836066781331485, 41619509458458402374926480527327247, 5, 7, 35184338929599, 313835791421, 189, 71, 2436141435116378390535, 5,
  72110370594031615, 10625322633999130018815, 270007, 2658455675924155280183567316963852351, 71, 17314119695, 21, 141,
  3288334866514706593133645328825960668421405409267, 20426029832823244530989399071, 85, 1037, 0, 702345484717335833347805173187876055236595, 147, 8467,
  65811, 66109, 4243, 33171, 262771, 201458291, 749019592093908130998168547243858079179057434181575, 2035, 2035, 711, 711,
  39696297806334883182330020991, 147511, 545799231, 189, 71, 16403, 2436141435116378390535, 8388487, 5, 37742254529999670338043, 4718529,
  18330886059069691, 270007, 166153420561695367707252321293500543, 549823021095, 7, 101442647862428755572662893270609959105484889768075967, 147511, 71,
  16527, 30791694323487, 72268425669383167, 7, 5, 540949, 13, 5, 5, 167646794486930362006707544072189, 19, 0, 5, 152001198347852507514867, 1043, 19,
  19, 281518060864637, 5, 3259340307738458011409318461, 77, 5, 5, 71, 9942831655231632527697442807, 17041395, 89478431, 19, 8191, 71, 21, 21, 21,
  281473366116127, 8380695, 4726978173286391744511, 39, 1125899890069523, 71, 1137188723, 290623467576168319, 9175,
  145025710296123410904321674198368924715718399, 18272502847, 21, 21, 0, 1107366397, 15663183425078192791428758033914457634011265410594242675, 5, 5,
  19, 19, 5, 7, 5233021378056568784808409033611007, 18272502847, 15, 67650767, 66015, 669319516925162926939791635824639, 8311, 8396919,
  577588028814460111, 134199, 17318199, 2276601635023, 33882175, 176160575, 153157571569583935, 39, 526271, 1037, 68531, 68531, 19, 5, 4393886845391,
  132063, 2502854235920920419110911, 16631, 16793847, 20268951531555279, 268407, 34636407, 18212808952271, 67764351, 264703, 4327551, 2449471999,
  19221507316027580516863, 39, 526271, 151, 180457415182559, 1069614111, 5465788277392579832897814308109687003511, 4434693189791, 18281528828543,
  72057680004915423, 7, 8406071, 151, 16535, 31, 68531, 8388487, 7, 151, 8388487, 739154422722068959, 9663669631, 148638630510879231,
  72057680004907231, 4047, 8406071, 65795, 8388487, 151, 279, 31, 151, 34357774559, 34771, 34082647, 61, 538972275, 5, 5, 151, 34357772511, 4278323263,
  623371976811471490270839, 4434693189791, 34082647, 16885, 19, 34359873459, 69868716031, 255, 68531, 526359, 5, 0, 0, 0, 0, 0, 0, 0, 0, 0, 0, 0, 0, 0,
  0, 0, 0, 0, 0, 0, 0, 0, 0, 0, 0, 0, 0, 0, 0, 8]
noncomputable def awK (f : FuncId) : Nat := (awMask[f]?).getD 0
noncomputable def awX : ExtV := fun f => Bool.rec (motive := fun _ => Option (List U → Option U)) none (some ixB) (Nat.beq f 206)
noncomputable def awP (f : FuncId) : Option Func := Tryz.prog.funcs[f]?

theorem awNames : namesOK Tryz.prog = true := by kernel_rfl
theorem awXOK : XOK Tryz.prog awX := fun g x hx args u _ h => by
  have hx : (Bool.rec (motive := fun _ => Option (List U → Option U)) none (some ixB) (Nat.beq g 206) : Option (List U → Option U)) = some x := hx
  cases hb : Nat.beq g 206 with
  | false => rw [hb] at hx; cases hx
  | true =>
    rw [hb] at hx
    cases hx
    obtain rfl := beq_of hb
    exact ixB_ok Tryz.func206 (by kernel_rfl) (by kernel_rfl) (by kernel_rfl) (by kernel_rfl) h
theorem awCall (d : Nat) : CallVOK Tryz.prog (callV (tblN tbl) awP awX awK d) := callV_ok (tblN_ok tbl_ok) mixed (names_of awNames) (fun _ _ h => h) awXOK awK d
theorem awRun : isBf true (callV (tblN tbl) awP awX awK 40 8 [] hp0 0) = true := by kernel_rfl
theorem awOK (K : Nat) : CtrOK Tryz.prog K 8 (pureCtr K .unit fun _ => ⟨[], .bool true, []⟩) := closedV_ok (awCall 40) awRun

end Go.Proofs.YtidkcdcajfkgbaaGreatDoor

/- The next milestone of the program. -/
namespace Go.Proofs.YtidkcdcajfkgbaaGreatDoor
open Go Go.Mir
attribute [local irreducible] Go.Mir.RT.sat Go.Mir.evFn Go.Mir.stepObl

theorem ok_eq (n v : Int) : (bif decide (n < (1 : Int)) then true else bif decide (n > (1000 : Int)) then true else bif decide (v < (0 : Int)) then true else decide (v > (1000000 : Int))) = !okStep n v := by
  unfold okStep
  have d1 : decide (n < (1 : Int)) = !decide (1 ≤ n) := by by_cases h : 1 ≤ n <;> simp [h] <;> omega
  have d2 : decide (n > (1000 : Int)) = !decide (n ≤ 1000) := by by_cases h : n ≤ 1000 <;> simp [h] <;> omega
  have d3 : decide (v < (0 : Int)) = !decide (0 ≤ v) := by by_cases h : 0 ≤ v <;> simp [h] <;> omega
  have d4 : decide (v > (1000000 : Int)) = !decide (v ≤ 1000000) := by by_cases h : v ≤ 1000000 <;> simp [h] <;> omega
  rw [d1, d2, d3, d4]
  cases decide (1 ≤ n) <;> cases decide (n ≤ 1000) <;> cases decide (0 ≤ v) <;> cases decide (v ≤ 1000000) <;> rfl
theorem okStep_of {n v : Int} (h : okStep n v = true) : 1 ≤ n ∧ n ≤ 1000 ∧ 0 ≤ v ∧ v ≤ 1000000 := by
  unfold okStep at h
  simp only [Bool.and_eq_true, decide_eq_true_eq] at h
  exact ⟨h.1.1.1, h.1.1.2, h.1.2, h.2⟩
theorem next_lt {n v : Int} (h1 : 1 ≤ n) (h2 : 0 ≤ v) : n * (v / n + 1) ≤ v + n ∧ v < n * (v / n + 1) ∧ 0 ≤ v / n ∧ v / n ≤ v := by
  have e1 := Int.mul_ediv_add_emod v n
  have e2 := Int.emod_nonneg v (show n ≠ 0 by omega)
  have e3 := Int.emod_lt_of_pos v (show 0 < n by omega)
  have e4 : 0 ≤ v / n := Int.ediv_nonneg h2 (by omega)
  have e5 : v / n ≤ v := Int.ediv_le_self n h2
  rw [Int.mul_add, Int.mul_one]
  omega
theorem next_wrap {n v : Int} (h : okStep n v = true) : n ≠ 0 ∧ IntKind.i64.wrap (n * IntKind.i64.wrap (IntKind.i64.wrap (v.tdiv n) + 1)) = n * (v / n + 1) := by
  obtain ⟨h1, h2, h3, h4⟩ := okStep_of h
  obtain ⟨k1, k2, k3, k4⟩ := next_lt h1 h3
  refine ⟨by omega, ?_⟩
  rw [Int.tdiv_eq_ediv_of_nonneg h3, wrap64 (n := v / n) (by omega) (by omega), wrap64 (n := v / n + 1) (by omega) (by omega), wrap64 (n := n * (v / n + 1)) (by omega) (by omega)]
theorem run28 (n : Int)  : (evFn (cfgF [] Tryz.f28) (fun _ => none) Tryz.f28 (argsV ps1 (n, ()))).sat fun v' rows => leV v' (spec28 (n, ())).v ∧ rows = (spec28 (n, ())).rows := by
  refine cast (by kernel_rfl) (?_ : (bif decide (n ≥ (1 : Int)) then decide (n ≤ (1000 : Int)) else false) = stepB n ∧ ([] : List RowD) = [])
  refine ⟨?_, rfl⟩
  unfold stepB
  by_cases h : 1 ≤ n <;> simp [h]
theorem ok28 : CtrOK Tryz.prog KK 28 (pureCtr KK ps1 spec28) := by
  refine pure_ok (C := cfgF [] Tryz.f28) (cfgOK (CtrsOK.nil) _) mixed (fn := Tryz.f28) Tryz.func28 (by kernel_rfl) (by kernel_rfl) (by kernel_rfl) (Λ := fun _ _ => none) ?_ ?_ ?_
  · exact fun _ _ _ _ _ _ _ _ h => by cases h
  · rintro ⟨n, ⟨⟩⟩
    exact of_decide_eq_true (by kernel_rfl)
  · rintro ⟨n, ⟨⟩⟩ hw hn
    exact run28 n
theorem run9 (n : Int) (v : Int)  : (evFn (cfgF [] Tryz.f9) (fun _ => none) Tryz.f9 (argsV ps2 (n, v, ()))).sat fun v' rows => leV v' (specN (n, v, ())).v ∧ rows = (specN (n, v, ())).rows := by
  refine cast (by kernel_rfl) (?_ : ((bif decide (n < (1 : Int)) then true else bif decide (n > (1000 : Int)) then true else bif decide (v < (0 : Int)) then true else decide (v > (1000000 : Int))) = true → ((0 : Int) = nextW n v ∧ (2 : Int) = nextE n v ∧ True) ∧ ([] : List RowD) = []) ∧ ((bif decide (n < (1 : Int)) then true else bif decide (n > (1000 : Int)) then true else bif decide (v < (0 : Int)) then true else decide (v > (1000000 : Int))) = false → n ≠ (0 : Int) ∧ (IntKind.i64.wrap (n * IntKind.i64.wrap (IntKind.i64.wrap (v.tdiv n) + (1 : Int))) = nextW n v ∧ (0 : Int) = nextE n v ∧ True) ∧ ([] : List RowD) = []))
  rw [ok_eq]
  refine ⟨fun h => ⟨⟨?_, ?_, trivial⟩, rfl⟩, fun h => ?_⟩
  · have h : okStep n v = false := by simpa using h
    simp [nextW, h]
  · have h : okStep n v = false := by simpa using h
    simp [nextE, h]
  · have h : okStep n v = true := by simpa using h
    obtain ⟨h1, h2⟩ := next_wrap h
    exact ⟨h1, ⟨by rw [h2]; simp [nextW, h], by simp [nextE, h], trivial⟩, rfl⟩
theorem ok9 : CtrOK Tryz.prog KK 9 (pureCtr KK ps2 specN) := by
  refine pure_ok (C := cfgF [] Tryz.f9) (cfgOK (CtrsOK.nil) _) mixed (fn := Tryz.f9) Tryz.func9 (by kernel_rfl) (by kernel_rfl) (by kernel_rfl) (Λ := fun _ _ => none) ?_ ?_ ?_
  · exact fun _ _ _ _ _ _ _ _ h => by cases h
  · rintro ⟨n, v, ⟨⟩⟩
    exact of_decide_eq_true (by kernel_rfl)
  · rintro ⟨n, v, ⟨⟩⟩ hw hn
    exact run9 n v

end Go.Proofs.YtidkcdcajfkgbaaGreatDoor

/- The next milestone of the document. -/
namespace Go.Proofs.YtidkcdcajfkgbaaGreatDoor
open Go Go.Mir
attribute [local irreducible] Go.Mir.RT.sat Go.Mir.evFn Go.Mir.stepObl

theorem ok_eq2 (n v : Int) : (bif !stepB n then true else bif decide (v < (0 : Int)) then true else decide (v > (1000000 : Int))) = !okStep n v := by
  unfold okStep stepB
  have d3 : decide (v < (0 : Int)) = !decide (0 ≤ v) := by by_cases h : 0 ≤ v <;> simp [h] <;> omega
  have d4 : decide (v > (1000000 : Int)) = !decide (v ≤ 1000000) := by by_cases h : v ≤ 1000000 <;> simp [h] <;> omega
  rw [d3, d4]
  cases decide (1 ≤ n) <;> cases decide (n ≤ 1000) <;> cases decide (0 ≤ v) <;> cases decide (v ≤ 1000000) <;> rfl
theorem next_law {n v : Int} (h : nextE n v = 0) : n ≠ 0 ∧ nextW n v > v ∧ IntKind.i64.wrap (nextW n v - n) ≤ v ∧ (nextW n v).tmod n = 0 := by
  have hk : okStep n v = true := by
    cases hk : okStep n v with
    | true => rfl
    | false => simp [nextE, hk] at h
  have hw : nextW n v = n * (v / n + 1) := by simp [nextW, hk]
  obtain ⟨h1, h2, h3, h4⟩ := okStep_of hk
  obtain ⟨k1, k2, k3, k4⟩ := next_lt h1 h3
  have e1 := Int.mul_ediv_add_emod v n
  have e2 := Int.emod_nonneg v (show n ≠ 0 by omega)
  have e3 : n * (v / n + 1) - n = n * (v / n) := by rw [Int.mul_add, Int.mul_one]; omega
  refine ⟨by omega, by omega, ?_, ?_⟩
  · rw [hw, e3, wrap64 (by omega) (by omega)]
    omega
  · rw [hw]
    exact Int.mul_tmod_right _ _
theorem run10 (n : Int) (v : Int)  : (evFn (cfgF [k28] Tryz.f10) (fun _ => none) Tryz.f10 (argsV ps2 (n, v, ()))).sat fun v' rows => leV v' (specN (n, v, ())).v ∧ rows = (specN (n, v, ())).rows := by
  refine cast (by kernel_rfl) (?_ : ((bif !stepB n then true else bif decide (v < (0 : Int)) then true else decide (v > (1000000 : Int))) = true → ((0 : Int) = nextW n v ∧ (2 : Int) = nextE n v ∧ True) ∧ ([] : List RowD) = []) ∧ ((bif !stepB n then true else bif decide (v < (0 : Int)) then true else decide (v > (1000000 : Int))) = false → n ≠ (0 : Int) ∧ (IntKind.i64.wrap (n * IntKind.i64.wrap (IntKind.i64.wrap (v.tdiv n) + (1 : Int))) = nextW n v ∧ (0 : Int) = nextE n v ∧ True) ∧ ([] : List RowD) = []))
  rw [ok_eq2]
  refine ⟨fun h => ⟨⟨?_, ?_, trivial⟩, rfl⟩, fun h => ?_⟩
  · have h : okStep n v = false := by simpa using h
    simp [nextW, h]
  · have h : okStep n v = false := by simpa using h
    simp [nextE, h]
  · have h : okStep n v = true := by simpa using h
    obtain ⟨h1, h2⟩ := next_wrap h
    exact ⟨h1, ⟨by rw [h2]; simp [nextW, h], by simp [nextE, h], trivial⟩, rfl⟩
theorem ok10 : CtrOK Tryz.prog KK 10 (pureCtr KK ps2 specN) := by
  refine pure_ok (C := cfgF [k28] Tryz.f10) (cfgOK (.cons ok28 .nil) _) mixed (fn := Tryz.f10) Tryz.func10 (by kernel_rfl) (by kernel_rfl) (by kernel_rfl) (Λ := fun _ _ => none) ?_ ?_ ?_
  · exact fun _ _ _ _ _ _ _ _ h => by cases h
  · rintro ⟨n, v, ⟨⟩⟩
    exact of_decide_eq_true (by kernel_rfl)
  · rintro ⟨n, v, ⟨⟩⟩ hw hn
    exact run10 n v

theorem run3 (n : Int) (v : Int)  : (evFn (cfgF [k8, k9, k10] Tryz.f3) (fun _ => none) Tryz.f3 (argsV ps2 (n, v, ()))).sat fun v _ => isTrue v := by
  refine cast (by kernel_rfl) (?_ : ((!true) = true → false = true) ∧ ((!true) = false → (((nextW n v == nextW n v) = true → ((nextE n v == nextE n v) = true → ((nextE n v != (0 : Int)) = true → True) ∧ ((nextE n v != (0 : Int)) = false → (decide (nextW n v > v) = true → (decide (IntKind.i64.wrap (nextW n v - n) ≤ v) = true → n ≠ (0 : Int) ∧ True) ∧ (decide (IntKind.i64.wrap (nextW n v - n) ≤ v) = false → True)) ∧ (decide (nextW n v > v) = false → True))) ∧ ((nextE n v == nextE n v) = false → True)) ∧ ((nextW n v == nextW n v) = false → True)) ∧ (true = true → (bif nextW n v == nextW n v then bif nextE n v == nextE n v then bif nextE n v != (0 : Int) then true else bif decide (nextW n v > v) then bif decide (IntKind.i64.wrap (nextW n v - n) ≤ v) then (nextW n v).tmod n == (0 : Int) else false else false else false else false) = true)))
  refine ⟨fun h => (by cases h), fun _ => ⟨⟨fun _ => ⟨fun _ => ⟨fun _ => trivial, fun h => ?_⟩, fun _ => trivial⟩, fun _ => trivial⟩, fun _ => ?_⟩⟩
  · have h : nextE n v = 0 := by simpa using h
    exact ⟨fun _ => ⟨fun _ => ⟨(next_law h).1, trivial⟩, fun _ => trivial⟩, fun _ => trivial⟩
  · rw [beq_self_eq_true, beq_self_eq_true]
    by_cases h : nextE n v = 0
    · obtain ⟨h1, h2, h3, h4⟩ := next_law h
      simp [h, h2, h3, h4]
    · simp [h]

end Go.Proofs.YtidkcdcajfkgbaaGreatDoor

/- The witness's world meets the row's condition on the listed variables. -/
namespace Go.Proofs.YtidkcdcajfkgbaaGreatDoor
open Go Go.ChangeShapes Go.WideShapes Go.ChangeAt Go.RowKit

theorem own1 : ownKnob Tryz.prog.godebug = none := by kernel_rfl
abbrev laid3 : List (String × DataW Unit) := [("math/bits.deBruijn32tab", Rows.laid_math_bits_deBruijn32tab), ("math/bits.deBruijn64tab", Rows.laid_math_bits_deBruijn64tab), ("internal/strconv.uint64pow10", Rows.laid_internal_strconv_uint64pow10)]
theorem door_met (os : Os) (args : Array Value) : laidMetH Tryz.prog laid3 ((World.doorLaid Tryz.prog 72 os).forCall (fun _ _ => 0) ⟨#[], args, []⟩).memory :=
  laidMetH_of_parts3 (fuel := 8) (laidMet_of_run' 8 (by kernel_rfl) (by kernel_rfl)) (by kernel_rfl) (by kernel_rfl)


end Go.Proofs.YtidkcdcajfkgbaaGreatDoor
