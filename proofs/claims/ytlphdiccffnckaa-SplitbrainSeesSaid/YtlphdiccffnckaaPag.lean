/- Texts put together: Tys. -/
import Derived.Test.YtlphdiccffnckaaPaf

/- The types of the program, as rules. -/

namespace Go.Proofs.Ytlphdiccffnckaa
open Go Go.Abs
@[go_sem] theorem size1 : ev.T.size 1 = some (1, false) := by kernel_rfl
@[go_sem] theorem size2 : ev.T.size 2 = some (1, false) := by kernel_rfl
@[go_sem] theorem zero2 : ev.T.zero 2 = some [.int .i64 0] := by kernel_rfl
@[go_sem] theorem int2 : ev.T.int 2 = some .i64 := by kernel_rfl
@[go_sem] theorem size3 : ev.T.size 3 = some (1, false) := by kernel_rfl
@[go_sem] theorem zero3 : ev.T.zero 3 = some [.int .i64 0] := by kernel_rfl
@[go_sem] theorem int3 : ev.T.int 3 = some .i64 := by kernel_rfl
@[go_sem] theorem size4 : ev.T.size 4 = some (1, false) := by kernel_rfl
@[go_sem] theorem zero4 : ev.T.zero 4 = some [.bool false] := by kernel_rfl
@[go_sem] theorem bool4 : ev.T.bool 4 = true := by kernel_rfl
@[go_sem] theorem size5 : ev.T.size 5 = some (1, false) := by kernel_rfl
@[go_sem] theorem zero5 : ev.T.zero 5 = some [.int .u8 0] := by kernel_rfl
@[go_sem] theorem int5 : ev.T.int 5 = some .u8 := by kernel_rfl
@[go_sem] theorem size6 : ev.T.size 6 = some (1, false) := by kernel_rfl
@[go_sem] theorem zero6 : ev.T.zero 6 = some [.int .u8 0] := by kernel_rfl
@[go_sem] theorem int6 : ev.T.int 6 = some .u8 := by kernel_rfl
@[go_sem] theorem size7 : ev.T.size 7 = some (4, true) := by kernel_rfl
@[go_sem] theorem zero7 : ev.T.zero 7 = some [.int .i64 0, .int .i64 0, .bool false, .int .u8 0] := by kernel_rfl
@[go_sem] theorem fld7_0 : ev.T.fld 7 0 = some (0, 1, false) := by kernel_rfl
@[go_sem] theorem fld7_1 : ev.T.fld 7 1 = some (1, 1, false) := by kernel_rfl
@[go_sem] theorem fld7_2 : ev.T.fld 7 2 = some (2, 1, false) := by kernel_rfl
@[go_sem] theorem fld7_3 : ev.T.fld 7 3 = some (3, 1, false) := by kernel_rfl
@[go_sem] theorem flds7 : ev.T.flds 7 = some [(0, 1, false), (1, 1, false), (2, 1, false), (3, 1, false)] := by kernel_rfl
@[go_sem] theorem arr7 : ev.T.arr 7 = none := by kernel_rfl
@[go_sem] theorem size8 : ev.T.size 8 = some (4, true) := by kernel_rfl
@[go_sem] theorem zero8 : ev.T.zero 8 = some [.int .i64 0, .int .i64 0, .bool false, .int .u8 0] := by kernel_rfl
@[go_sem] theorem fld8_0 : ev.T.fld 8 0 = some (0, 1, false) := by kernel_rfl
@[go_sem] theorem fld8_1 : ev.T.fld 8 1 = some (1, 1, false) := by kernel_rfl
@[go_sem] theorem fld8_2 : ev.T.fld 8 2 = some (2, 1, false) := by kernel_rfl
@[go_sem] theorem fld8_3 : ev.T.fld 8 3 = some (3, 1, false) := by kernel_rfl
@[go_sem] theorem flds8 : ev.T.flds 8 = some [(0, 1, false), (1, 1, false), (2, 1, false), (3, 1, false)] := by kernel_rfl
@[go_sem] theorem arr8 : ev.T.arr 8 = none := by kernel_rfl
@[go_sem] theorem size9 : ev.T.size 9 = some (1, false) := by kernel_rfl
@[go_sem] theorem size10 : ev.T.size 10 = some (1, false) := by kernel_rfl
@[go_sem] theorem size11 : ev.T.size 11 = some (1, false) := by kernel_rfl
@[go_sem] theorem size12 : ev.T.size 12 = some (1, false) := by kernel_rfl
@[go_sem] theorem zero12 : ev.T.zero 12 = some [.int .u64 0] := by kernel_rfl
@[go_sem] theorem int12 : ev.T.int 12 = some .u64 := by kernel_rfl
@[go_sem] theorem size13 : ev.T.size 13 = some (2, true) := by kernel_rfl
@[go_sem] theorem fld13_0 : ev.T.fld 13 0 = some (0, 1, false) := by kernel_rfl
@[go_sem] theorem fld13_1 : ev.T.fld 13 1 = some (1, 1, false) := by kernel_rfl
@[go_sem] theorem flds13 : ev.T.flds 13 = some [(0, 1, false), (1, 1, false)] := by kernel_rfl
@[go_sem] theorem arr13 : ev.T.arr 13 = none := by kernel_rfl
@[go_sem] theorem size14 : ev.T.size 14 = some (2, true) := by kernel_rfl
@[go_sem] theorem fld14_0 : ev.T.fld 14 0 = some (0, 1, false) := by kernel_rfl
@[go_sem] theorem fld14_1 : ev.T.fld 14 1 = some (1, 1, false) := by kernel_rfl
@[go_sem] theorem flds14 : ev.T.flds 14 = some [(0, 1, false), (1, 1, false)] := by kernel_rfl
@[go_sem] theorem arr14 : ev.T.arr 14 = none := by kernel_rfl
@[go_sem] theorem size15 : ev.T.size 15 = some (1, false) := by kernel_rfl
@[go_sem] theorem size16 : ev.T.size 16 = some (1, false) := by kernel_rfl
@[go_sem] theorem size17 : ev.T.size 17 = some (1, false) := by kernel_rfl
@[go_sem] theorem size18 : ev.T.size 18 = some (1, true) := by kernel_rfl
@[go_sem] theorem fld18_0 : ev.T.fld 18 0 = some (0, 1, false) := by kernel_rfl
@[go_sem] theorem flds18 : ev.T.flds 18 = some [(0, 1, false)] := by kernel_rfl
@[go_sem] theorem arr18 : ev.T.arr 18 = none := by kernel_rfl
@[go_sem] theorem size19 : ev.T.size 19 = some (1, true) := by kernel_rfl
@[go_sem] theorem fld19_0 : ev.T.fld 19 0 = some (0, 1, false) := by kernel_rfl
@[go_sem] theorem flds19 : ev.T.flds 19 = some [(0, 1, false)] := by kernel_rfl
@[go_sem] theorem arr19 : ev.T.arr 19 = none := by kernel_rfl
@[go_sem] theorem size20 : ev.T.size 20 = some (1, false) := by kernel_rfl
@[go_sem] theorem size21 : ev.T.size 21 = some (1, false) := by kernel_rfl
@[go_sem] theorem zero21 : ev.T.zero 21 = some [.int .i32 0] := by kernel_rfl
@[go_sem] theorem int21 : ev.T.int 21 = some .i32 := by kernel_rfl
@[go_sem] theorem size22 : ev.T.size 22 = some (1, false) := by kernel_rfl
@[go_sem] theorem zero22 : ev.T.zero 22 = some [.slice none 0 0] := by kernel_rfl
@[go_sem] theorem elem22 : ev.T.elem 22 = some (1, 8) := by kernel_rfl
@[go_sem] theorem ezero22 : ev.T.ezero 22 = some [.int .i64 0] := by kernel_rfl
@[go_sem] theorem arr22 : ev.T.arr 22 = none := by kernel_rfl
@[go_sem] theorem size23 : ev.T.size 23 = some (1, false) := by kernel_rfl
@[go_sem] theorem zero23 : ev.T.zero 23 = some [.slice none 0 0] := by kernel_rfl
@[go_sem] theorem elem23 : ev.T.elem 23 = some (1, 24) := by kernel_rfl
@[go_sem] theorem ezero23 : ev.T.ezero 23 = some [.slice none 0 0] := by kernel_rfl
@[go_sem] theorem arr23 : ev.T.arr 23 = none := by kernel_rfl
@[go_sem] theorem size24 : ev.T.size 24 = some (1, false) := by kernel_rfl
@[go_sem] theorem zero24 : ev.T.zero 24 = some [.slice none 0 0] := by kernel_rfl
@[go_sem] theorem elem24 : ev.T.elem 24 = some (1, 24) := by kernel_rfl
@[go_sem] theorem ezero24 : ev.T.ezero 24 = some [.slice none 0 0] := by kernel_rfl
@[go_sem] theorem arr24 : ev.T.arr 24 = none := by kernel_rfl
@[go_sem] theorem size25 : ev.T.size 25 = some (1, false) := by kernel_rfl
@[go_sem] theorem size26 : ev.T.size 26 = some (1, false) := by kernel_rfl
@[go_sem] theorem size27 : ev.T.size 27 = some (1, false) := by kernel_rfl
@[go_sem] theorem size28 : ev.T.size 28 = some (1, false) := by kernel_rfl
@[go_sem] theorem size29 : ev.T.size 29 = some (1, false) := by kernel_rfl
@[go_sem] theorem zero29 : ev.T.zero 29 = some [.int .i64 0] := by kernel_rfl
@[go_sem] theorem int29 : ev.T.int 29 = some .i64 := by kernel_rfl
@[go_sem] theorem size31 : ev.T.size 31 = some (1, false) := by kernel_rfl
@[go_sem] theorem size33 : ev.T.size 33 = some (1, false) := by kernel_rfl
@[go_sem] theorem size34 : ev.T.size 34 = some (1, false) := by kernel_rfl
@[go_sem] theorem size35 : ev.T.size 35 = some (1, false) := by kernel_rfl
@[go_sem] theorem size36 : ev.T.size 36 = some (1, false) := by kernel_rfl
@[go_sem] theorem size37 : ev.T.size 37 = some (1, false) := by kernel_rfl
@[go_sem] theorem size38 : ev.T.size 38 = some (1, false) := by kernel_rfl
@[go_sem] theorem zero38 : ev.T.zero 38 = some [.slice none 0 0] := by kernel_rfl
@[go_sem] theorem elem38 : ev.T.elem 38 = some (3, 40) := by kernel_rfl
@[go_sem] theorem ezero38 : ev.T.ezero 38 = some [.int .i64 0, .int .i64 0, .slice none 0 0] := by kernel_rfl
@[go_sem] theorem arr38 : ev.T.arr 38 = none := by kernel_rfl
@[go_sem] theorem size39 : ev.T.size 39 = some (1, false) := by kernel_rfl
@[go_sem] theorem size40 : ev.T.size 40 = some (1, false) := by kernel_rfl
@[go_sem] theorem zero40 : ev.T.zero 40 = some [.slice none 0 0] := by kernel_rfl
@[go_sem] theorem elem40 : ev.T.elem 40 = some (8, 8) := by kernel_rfl
@[go_sem] theorem ezero40 : ev.T.ezero 40 = some [.int .u8 0, .int .u8 0, .int .u8 0, .int .u8 0, .int .u8 0, .int .u8 0, .int .u8 0, .int .u8 0] := by kernel_rfl
@[go_sem] theorem arr40 : ev.T.arr 40 = none := by kernel_rfl
@[go_sem] theorem size41 : ev.T.size 41 = some (3, true) := by kernel_rfl
@[go_sem] theorem zero41 : ev.T.zero 41 = some [.int .i64 0, .int .i64 0, .slice none 0 0] := by kernel_rfl
@[go_sem] theorem fld41_0 : ev.T.fld 41 0 = some (0, 1, false) := by kernel_rfl
@[go_sem] theorem fld41_1 : ev.T.fld 41 1 = some (1, 1, false) := by kernel_rfl
@[go_sem] theorem fld41_2 : ev.T.fld 41 2 = some (2, 1, false) := by kernel_rfl
@[go_sem] theorem flds41 : ev.T.flds 41 = some [(0, 1, false), (1, 1, false), (2, 1, false)] := by kernel_rfl
@[go_sem] theorem arr41 : ev.T.arr 41 = none := by kernel_rfl
@[go_sem] theorem size42 : ev.T.size 42 = some (3, true) := by kernel_rfl
@[go_sem] theorem zero42 : ev.T.zero 42 = some [.int .i64 0, .int .i64 0, .slice none 0 0] := by kernel_rfl
@[go_sem] theorem fld42_0 : ev.T.fld 42 0 = some (0, 1, false) := by kernel_rfl
@[go_sem] theorem fld42_1 : ev.T.fld 42 1 = some (1, 1, false) := by kernel_rfl
@[go_sem] theorem fld42_2 : ev.T.fld 42 2 = some (2, 1, false) := by kernel_rfl
@[go_sem] theorem flds42 : ev.T.flds 42 = some [(0, 1, false), (1, 1, false), (2, 1, false)] := by kernel_rfl
@[go_sem] theorem arr42 : ev.T.arr 42 = none := by kernel_rfl
@[go_sem] theorem size43 : ev.T.size 43 = some (1, false) := by kernel_rfl
@[go_sem] theorem size44 : ev.T.size 44 = some (1, false) := by kernel_rfl
@[go_sem] theorem size46 : ev.T.size 46 = some (1, false) := by kernel_rfl
@[go_sem] theorem size48 : ev.T.size 48 = some (1, false) := by kernel_rfl
@[go_sem] theorem size49 : ev.T.size 49 = some (1, false) := by kernel_rfl
@[go_sem] theorem size50 : ev.T.size 50 = some (1, false) := by kernel_rfl
@[go_sem] theorem size51 : ev.T.size 51 = some (8, true) := by kernel_rfl
@[go_sem] theorem zero51 : ev.T.zero 51 = some [.int .u8 0, .int .u8 0, .int .u8 0, .int .u8 0, .int .u8 0, .int .u8 0, .int .u8 0, .int .u8 0] := by kernel_rfl
@[go_sem] theorem arr51 : ev.T.arr 51 = some (8, 1, false) := by kernel_rfl
@[go_sem] theorem flds51 : ev.T.flds 51 = none := by kernel_rfl
@[go_sem] theorem size52 : ev.T.size 52 = some (8, true) := by kernel_rfl
@[go_sem] theorem zero52 : ev.T.zero 52 = some [.int .u8 0, .int .u8 0, .int .u8 0, .int .u8 0, .int .u8 0, .int .u8 0, .int .u8 0, .int .u8 0] := by kernel_rfl
@[go_sem] theorem arr52 : ev.T.arr 52 = some (8, 1, false) := by kernel_rfl
@[go_sem] theorem flds52 : ev.T.flds 52 = none := by kernel_rfl
@[go_sem] theorem size53 : ev.T.size 53 = some (1, false) := by kernel_rfl
@[go_sem] theorem zero53 : ev.T.zero 53 = some [.slice none 0 0] := by kernel_rfl
@[go_sem] theorem elem53 : ev.T.elem 53 = some (1, 24) := by kernel_rfl
@[go_sem] theorem ezero53 : ev.T.ezero 53 = some [.slice none 0 0] := by kernel_rfl
@[go_sem] theorem arr53 : ev.T.arr 53 = none := by kernel_rfl
@[go_sem] theorem size55 : ev.T.size 55 = some (1, false) := by kernel_rfl
@[go_sem] theorem size56 : ev.T.size 56 = some (1, false) := by kernel_rfl
@[go_sem] theorem size57 : ev.T.size 57 = some (1, false) := by kernel_rfl
@[go_sem] theorem size58 : ev.T.size 58 = some (2, true) := by kernel_rfl
@[go_sem] theorem zero58 : ev.T.zero 58 = some [.int .i64 0, .int .i64 0] := by kernel_rfl
@[go_sem] theorem fld58_0 : ev.T.fld 58 0 = some (0, 1, false) := by kernel_rfl
@[go_sem] theorem fld58_1 : ev.T.fld 58 1 = some (1, 1, false) := by kernel_rfl
@[go_sem] theorem flds58 : ev.T.flds 58 = some [(0, 1, false), (1, 1, false)] := by kernel_rfl
@[go_sem] theorem arr58 : ev.T.arr 58 = none := by kernel_rfl
@[go_sem] theorem size59 : ev.T.size 59 = some (2, true) := by kernel_rfl
@[go_sem] theorem zero59 : ev.T.zero 59 = some [.int .i64 0, .int .i64 0] := by kernel_rfl
@[go_sem] theorem fld59_0 : ev.T.fld 59 0 = some (0, 1, false) := by kernel_rfl
@[go_sem] theorem fld59_1 : ev.T.fld 59 1 = some (1, 1, false) := by kernel_rfl
@[go_sem] theorem flds59 : ev.T.flds 59 = some [(0, 1, false), (1, 1, false)] := by kernel_rfl
@[go_sem] theorem arr59 : ev.T.arr 59 = none := by kernel_rfl
@[go_sem] theorem size61 : ev.T.size 61 = some (1, false) := by kernel_rfl
@[go_sem] theorem size63 : ev.T.size 63 = some (1, false) := by kernel_rfl
@[go_sem] theorem size64 : ev.T.size 64 = some (1, false) := by kernel_rfl
@[go_sem] theorem size65 : ev.T.size 65 = some (1, false) := by kernel_rfl
@[go_sem] theorem size67 : ev.T.size 67 = some (1, false) := by kernel_rfl
@[go_sem] theorem size69 : ev.T.size 69 = some (1, false) := by kernel_rfl
@[go_sem] theorem size71 : ev.T.size 71 = some (1, false) := by kernel_rfl
@[go_sem] theorem size72 : ev.T.size 72 = some (1, false) := by kernel_rfl
@[go_sem] theorem size73 : ev.T.size 73 = some (1, false) := by kernel_rfl
@[go_sem] theorem zero73 : ev.T.zero 73 = some [.slice none 0 0] := by kernel_rfl
@[go_sem] theorem elem73 : ev.T.elem 73 = some (2, 16) := by kernel_rfl
@[go_sem] theorem ezero73 : ev.T.ezero 73 = some [.int .i64 0, .int .i64 0] := by kernel_rfl
@[go_sem] theorem arr73 : ev.T.arr 73 = none := by kernel_rfl
@[go_sem] theorem size74 : ev.T.size 74 = some (1, false) := by kernel_rfl
@[go_sem] theorem zero74 : ev.T.zero 74 = some [.slice none 0 0] := by kernel_rfl
@[go_sem] theorem elem74 : ev.T.elem 74 = some (8, 72) := by kernel_rfl
@[go_sem] theorem ezero74 : ev.T.ezero 74 = some [.int .i64 0, .int .i64 0, .int .i64 0, .int .i64 0, .slice none 0 0, .int .i64 0, .bool false, .bool false] := by kernel_rfl
@[go_sem] theorem arr74 : ev.T.arr 74 = none := by kernel_rfl
@[go_sem] theorem size76 : ev.T.size 76 = some (1, false) := by kernel_rfl
@[go_sem] theorem size77 : ev.T.size 77 = some (1, false) := by kernel_rfl
@[go_sem] theorem size78 : ev.T.size 78 = some (2, true) := by kernel_rfl
@[go_sem] theorem zero78 : ev.T.zero 78 = some [.int .i64 0, .int .i64 0] := by kernel_rfl
@[go_sem] theorem fld78_0 : ev.T.fld 78 0 = some (0, 1, false) := by kernel_rfl
@[go_sem] theorem fld78_1 : ev.T.fld 78 1 = some (1, 1, false) := by kernel_rfl
@[go_sem] theorem flds78 : ev.T.flds 78 = some [(0, 1, false), (1, 1, false)] := by kernel_rfl
@[go_sem] theorem arr78 : ev.T.arr 78 = none := by kernel_rfl
@[go_sem] theorem size79 : ev.T.size 79 = some (2, true) := by kernel_rfl
@[go_sem] theorem zero79 : ev.T.zero 79 = some [.int .i64 0, .int .i64 0] := by kernel_rfl
@[go_sem] theorem fld79_0 : ev.T.fld 79 0 = some (0, 1, false) := by kernel_rfl
@[go_sem] theorem fld79_1 : ev.T.fld 79 1 = some (1, 1, false) := by kernel_rfl
@[go_sem] theorem flds79 : ev.T.flds 79 = some [(0, 1, false), (1, 1, false)] := by kernel_rfl
@[go_sem] theorem arr79 : ev.T.arr 79 = none := by kernel_rfl
@[go_sem] theorem size80 : ev.T.size 80 = some (1, false) := by kernel_rfl
@[go_sem] theorem size81 : ev.T.size 81 = some (8, true) := by kernel_rfl
@[go_sem] theorem zero81 : ev.T.zero 81 = some [.int .i64 0, .int .i64 0, .int .i64 0, .int .i64 0, .int .i64 0, .int .i64 0, .bool false, .bool false] := by kernel_rfl
@[go_sem] theorem fld81_0 : ev.T.fld 81 0 = some (0, 1, false) := by kernel_rfl
@[go_sem] theorem fld81_1 : ev.T.fld 81 1 = some (1, 1, false) := by kernel_rfl
@[go_sem] theorem fld81_2 : ev.T.fld 81 2 = some (2, 1, false) := by kernel_rfl
@[go_sem] theorem fld81_3 : ev.T.fld 81 3 = some (3, 1, false) := by kernel_rfl
@[go_sem] theorem fld81_4 : ev.T.fld 81 4 = some (4, 1, false) := by kernel_rfl
@[go_sem] theorem fld81_5 : ev.T.fld 81 5 = some (5, 1, false) := by kernel_rfl
@[go_sem] theorem fld81_6 : ev.T.fld 81 6 = some (6, 1, false) := by kernel_rfl
@[go_sem] theorem fld81_7 : ev.T.fld 81 7 = some (7, 1, false) := by kernel_rfl
@[go_sem] theorem flds81 : ev.T.flds 81 = some [(0, 1, false), (1, 1, false), (2, 1, false), (3, 1, false), (4, 1, false), (5, 1, false), (6, 1, false), (7, 1, false)] := by kernel_rfl
@[go_sem] theorem arr81 : ev.T.arr 81 = none := by kernel_rfl
@[go_sem] theorem size82 : ev.T.size 82 = some (8, true) := by kernel_rfl
@[go_sem] theorem zero82 : ev.T.zero 82 = some [.int .i64 0, .int .i64 0, .int .i64 0, .int .i64 0, .int .i64 0, .int .i64 0, .bool false, .bool false] := by kernel_rfl
@[go_sem] theorem fld82_0 : ev.T.fld 82 0 = some (0, 1, false) := by kernel_rfl
@[go_sem] theorem fld82_1 : ev.T.fld 82 1 = some (1, 1, false) := by kernel_rfl
@[go_sem] theorem fld82_2 : ev.T.fld 82 2 = some (2, 1, false) := by kernel_rfl
@[go_sem] theorem fld82_3 : ev.T.fld 82 3 = some (3, 1, false) := by kernel_rfl
@[go_sem] theorem fld82_4 : ev.T.fld 82 4 = some (4, 1, false) := by kernel_rfl
@[go_sem] theorem fld82_5 : ev.T.fld 82 5 = some (5, 1, false) := by kernel_rfl
@[go_sem] theorem fld82_6 : ev.T.fld 82 6 = some (6, 1, false) := by kernel_rfl
@[go_sem] theorem fld82_7 : ev.T.fld 82 7 = some (7, 1, false) := by kernel_rfl
@[go_sem] theorem flds82 : ev.T.flds 82 = some [(0, 1, false), (1, 1, false), (2, 1, false), (3, 1, false), (4, 1, false), (5, 1, false), (6, 1, false), (7, 1, false)] := by kernel_rfl
@[go_sem] theorem arr82 : ev.T.arr 82 = none := by kernel_rfl
@[go_sem] theorem size84 : ev.T.size 84 = some (1, false) := by kernel_rfl
@[go_sem] theorem size85 : ev.T.size 85 = some (1, false) := by kernel_rfl
@[go_sem] theorem zero85 : ev.T.zero 85 = some [.slice none 0 0] := by kernel_rfl
@[go_sem] theorem elem85 : ev.T.elem 85 = some (3, 24) := by kernel_rfl
@[go_sem] theorem ezero85 : ev.T.ezero 85 = some [.int .i64 0, .int .i64 0, .int .i64 0] := by kernel_rfl
@[go_sem] theorem arr85 : ev.T.arr 85 = none := by kernel_rfl
@[go_sem] theorem size86 : ev.T.size 86 = some (8, true) := by kernel_rfl
@[go_sem] theorem zero86 : ev.T.zero 86 = some [.int .i64 0, .int .i64 0, .int .i64 0, .int .i64 0, .slice none 0 0, .int .i64 0, .bool false, .bool false] := by kernel_rfl
@[go_sem] theorem fld86_0 : ev.T.fld 86 0 = some (0, 1, false) := by kernel_rfl
@[go_sem] theorem fld86_1 : ev.T.fld 86 1 = some (1, 1, false) := by kernel_rfl
@[go_sem] theorem fld86_2 : ev.T.fld 86 2 = some (2, 1, false) := by kernel_rfl
@[go_sem] theorem fld86_3 : ev.T.fld 86 3 = some (3, 1, false) := by kernel_rfl
@[go_sem] theorem fld86_4 : ev.T.fld 86 4 = some (4, 1, false) := by kernel_rfl
@[go_sem] theorem fld86_5 : ev.T.fld 86 5 = some (5, 1, false) := by kernel_rfl
@[go_sem] theorem fld86_6 : ev.T.fld 86 6 = some (6, 1, false) := by kernel_rfl
@[go_sem] theorem fld86_7 : ev.T.fld 86 7 = some (7, 1, false) := by kernel_rfl
@[go_sem] theorem flds86 : ev.T.flds 86 = some [(0, 1, false), (1, 1, false), (2, 1, false), (3, 1, false), (4, 1, false), (5, 1, false), (6, 1, false), (7, 1, false)] := by kernel_rfl
@[go_sem] theorem arr86 : ev.T.arr 86 = none := by kernel_rfl
@[go_sem] theorem size87 : ev.T.size 87 = some (8, true) := by kernel_rfl
@[go_sem] theorem zero87 : ev.T.zero 87 = some [.int .i64 0, .int .i64 0, .int .i64 0, .int .i64 0, .slice none 0 0, .int .i64 0, .bool false, .bool false] := by kernel_rfl
@[go_sem] theorem fld87_0 : ev.T.fld 87 0 = some (0, 1, false) := by kernel_rfl
@[go_sem] theorem fld87_1 : ev.T.fld 87 1 = some (1, 1, false) := by kernel_rfl
@[go_sem] theorem fld87_2 : ev.T.fld 87 2 = some (2, 1, false) := by kernel_rfl
@[go_sem] theorem fld87_3 : ev.T.fld 87 3 = some (3, 1, false) := by kernel_rfl
@[go_sem] theorem fld87_4 : ev.T.fld 87 4 = some (4, 1, false) := by kernel_rfl
@[go_sem] theorem fld87_5 : ev.T.fld 87 5 = some (5, 1, false) := by kernel_rfl
@[go_sem] theorem fld87_6 : ev.T.fld 87 6 = some (6, 1, false) := by kernel_rfl
@[go_sem] theorem fld87_7 : ev.T.fld 87 7 = some (7, 1, false) := by kernel_rfl
@[go_sem] theorem flds87 : ev.T.flds 87 = some [(0, 1, false), (1, 1, false), (2, 1, false), (3, 1, false), (4, 1, false), (5, 1, false), (6, 1, false), (7, 1, false)] := by kernel_rfl
@[go_sem] theorem arr87 : ev.T.arr 87 = none := by kernel_rfl
@[go_sem] theorem size88 : ev.T.size 88 = some (1, false) := by kernel_rfl
@[go_sem] theorem size89 : ev.T.size 89 = some (1, false) := by kernel_rfl
@[go_sem] theorem size90 : ev.T.size 90 = some (1, false) := by kernel_rfl
@[go_sem] theorem size91 : ev.T.size 91 = some (1, false) := by kernel_rfl
@[go_sem] theorem size92 : ev.T.size 92 = some (1, false) := by kernel_rfl
@[go_sem] theorem zero92 : ev.T.zero 92 = some [.int .u64 0] := by kernel_rfl
@[go_sem] theorem int92 : ev.T.int 92 = some .u64 := by kernel_rfl
@[go_sem] theorem size93 : ev.T.size 93 = some (1, false) := by kernel_rfl
@[go_sem] theorem size94 : ev.T.size 94 = some (1, false) := by kernel_rfl
@[go_sem] theorem zero94 : ev.T.zero 94 = some [.slice none 0 0] := by kernel_rfl
@[go_sem] theorem elem94 : ev.T.elem 94 = some (1, 1) := by kernel_rfl
@[go_sem] theorem ezero94 : ev.T.ezero 94 = some [.int .u8 0] := by kernel_rfl
@[go_sem] theorem arr94 : ev.T.arr 94 = none := by kernel_rfl
@[go_sem] theorem size96 : ev.T.size 96 = some (1, false) := by kernel_rfl
@[go_sem] theorem size97 : ev.T.size 97 = some (1, false) := by kernel_rfl
@[go_sem] theorem size98 : ev.T.size 98 = some (1, false) := by kernel_rfl
@[go_sem] theorem zero98 : ev.T.zero 98 = some [.slice none 0 0] := by kernel_rfl
@[go_sem] theorem elem98 : ev.T.elem 98 = some (1, 1) := by kernel_rfl
@[go_sem] theorem ezero98 : ev.T.ezero 98 = some [.bool false] := by kernel_rfl
@[go_sem] theorem arr98 : ev.T.arr 98 = none := by kernel_rfl
@[go_sem] theorem size100 : ev.T.size 100 = some (1, false) := by kernel_rfl
@[go_sem] theorem size102 : ev.T.size 102 = some (1, false) := by kernel_rfl
@[go_sem] theorem size104 : ev.T.size 104 = some (1, false) := by kernel_rfl
@[go_sem] theorem size106 : ev.T.size 106 = some (1, false) := by kernel_rfl
@[go_sem] theorem size107 : ev.T.size 107 = some (1, false) := by kernel_rfl
@[go_sem] theorem size109 : ev.T.size 109 = some (1, false) := by kernel_rfl
@[go_sem] theorem size110 : ev.T.size 110 = some (1, false) := by kernel_rfl
@[go_sem] theorem size111 : ev.T.size 111 = some (1, false) := by kernel_rfl
@[go_sem] theorem zero111 : ev.T.zero 111 = some [.slice none 0 0] := by kernel_rfl
@[go_sem] theorem elem111 : ev.T.elem 111 = some (1, 24) := by kernel_rfl
@[go_sem] theorem ezero111 : ev.T.ezero 111 = some [.slice none 0 0] := by kernel_rfl
@[go_sem] theorem arr111 : ev.T.arr 111 = none := by kernel_rfl
@[go_sem] theorem size113 : ev.T.size 113 = some (1, false) := by kernel_rfl
@[go_sem] theorem size115 : ev.T.size 115 = some (1, false) := by kernel_rfl
@[go_sem] theorem size117 : ev.T.size 117 = some (1, false) := by kernel_rfl
@[go_sem] theorem size119 : ev.T.size 119 = some (1, false) := by kernel_rfl
@[go_sem] theorem size120 : ev.T.size 120 = some (1, false) := by kernel_rfl
@[go_sem] theorem size121 : ev.T.size 121 = some (1, false) := by kernel_rfl
@[go_sem] theorem size122 : ev.T.size 122 = some (1, false) := by kernel_rfl
@[go_sem] theorem size123 : ev.T.size 123 = some (1, false) := by kernel_rfl
@[go_sem] theorem size124 : ev.T.size 124 = some (1, false) := by kernel_rfl
@[go_sem] theorem size125 : ev.T.size 125 = some (1, false) := by kernel_rfl
@[go_sem] theorem size127 : ev.T.size 127 = some (1, false) := by kernel_rfl
@[go_sem] theorem size129 : ev.T.size 129 = some (1, false) := by kernel_rfl
@[go_sem] theorem size130 : ev.T.size 130 = some (1, false) := by kernel_rfl
@[go_sem] theorem size131 : ev.T.size 131 = some (1, false) := by kernel_rfl
@[go_sem] theorem size132 : ev.T.size 132 = some (1, false) := by kernel_rfl
@[go_sem] theorem size133 : ev.T.size 133 = some (2, true) := by kernel_rfl
@[go_sem] theorem zero133 : ev.T.zero 133 = some [.slice none 0 0, .slice none 0 0] := by kernel_rfl
@[go_sem] theorem fld133_0 : ev.T.fld 133 0 = some (0, 1, false) := by kernel_rfl
@[go_sem] theorem fld133_1 : ev.T.fld 133 1 = some (1, 1, false) := by kernel_rfl
@[go_sem] theorem flds133 : ev.T.flds 133 = some [(0, 1, false), (1, 1, false)] := by kernel_rfl
@[go_sem] theorem arr133 : ev.T.arr 133 = none := by kernel_rfl
@[go_sem] theorem size134 : ev.T.size 134 = some (2, true) := by kernel_rfl
@[go_sem] theorem zero134 : ev.T.zero 134 = some [.slice none 0 0, .slice none 0 0] := by kernel_rfl
@[go_sem] theorem fld134_0 : ev.T.fld 134 0 = some (0, 1, false) := by kernel_rfl
@[go_sem] theorem fld134_1 : ev.T.fld 134 1 = some (1, 1, false) := by kernel_rfl
@[go_sem] theorem flds134 : ev.T.flds 134 = some [(0, 1, false), (1, 1, false)] := by kernel_rfl
@[go_sem] theorem arr134 : ev.T.arr 134 = none := by kernel_rfl
@[go_sem] theorem size135 : ev.T.size 135 = some (1, false) := by kernel_rfl
@[go_sem] theorem zero135 : ev.T.zero 135 = some [.slice none 0 0] := by kernel_rfl
@[go_sem] theorem elem135 : ev.T.elem 135 = some (2, 16) := by kernel_rfl
@[go_sem] theorem ezero135 : ev.T.ezero 135 = some [.int .i64 0, .int .i64 0] := by kernel_rfl
@[go_sem] theorem arr135 : ev.T.arr 135 = none := by kernel_rfl
@[go_sem] theorem size136 : ev.T.size 136 = some (1, false) := by kernel_rfl
@[go_sem] theorem size137 : ev.T.size 137 = some (1, false) := by kernel_rfl
@[go_sem] theorem size138 : ev.T.size 138 = some (1, false) := by kernel_rfl
@[go_sem] theorem size140 : ev.T.size 140 = some (1, false) := by kernel_rfl
@[go_sem] theorem size141 : ev.T.size 141 = some (1, false) := by kernel_rfl
@[go_sem] theorem size142 : ev.T.size 142 = some (3, true) := by kernel_rfl
@[go_sem] theorem zero142 : ev.T.zero 142 = some [.int .i64 0, .int .i64 0, .int .i64 0] := by kernel_rfl
@[go_sem] theorem fld142_0 : ev.T.fld 142 0 = some (0, 1, false) := by kernel_rfl
@[go_sem] theorem fld142_1 : ev.T.fld 142 1 = some (1, 1, false) := by kernel_rfl
@[go_sem] theorem fld142_2 : ev.T.fld 142 2 = some (2, 1, false) := by kernel_rfl
@[go_sem] theorem flds142 : ev.T.flds 142 = some [(0, 1, false), (1, 1, false), (2, 1, false)] := by kernel_rfl
@[go_sem] theorem arr142 : ev.T.arr 142 = none := by kernel_rfl
@[go_sem] theorem size143 : ev.T.size 143 = some (3, true) := by kernel_rfl
@[go_sem] theorem zero143 : ev.T.zero 143 = some [.int .i64 0, .int .i64 0, .int .i64 0] := by kernel_rfl
@[go_sem] theorem fld143_0 : ev.T.fld 143 0 = some (0, 1, false) := by kernel_rfl
@[go_sem] theorem fld143_1 : ev.T.fld 143 1 = some (1, 1, false) := by kernel_rfl
@[go_sem] theorem fld143_2 : ev.T.fld 143 2 = some (2, 1, false) := by kernel_rfl
@[go_sem] theorem flds143 : ev.T.flds 143 = some [(0, 1, false), (1, 1, false), (2, 1, false)] := by kernel_rfl
@[go_sem] theorem arr143 : ev.T.arr 143 = none := by kernel_rfl
@[go_sem] theorem size144 : ev.T.size 144 = some (1, false) := by kernel_rfl
@[go_sem] theorem size145 : ev.T.size 145 = some (1, false) := by kernel_rfl
@[go_sem] theorem size146 : ev.T.size 146 = some (1, false) := by kernel_rfl
@[go_sem] theorem size147 : ev.T.size 147 = some (1, false) := by kernel_rfl
@[go_sem] theorem size148 : ev.T.size 148 = some (1, false) := by kernel_rfl
@[go_sem] theorem size149 : ev.T.size 149 = some (1, false) := by kernel_rfl
@[go_sem] theorem size150 : ev.T.size 150 = some (1, false) := by kernel_rfl
@[go_sem] theorem size151 : ev.T.size 151 = some (1, false) := by kernel_rfl
@[go_sem] theorem size152 : ev.T.size 152 = some (1, false) := by kernel_rfl
@[go_sem] theorem size153 : ev.T.size 153 = some (1, false) := by kernel_rfl
@[go_sem] theorem size154 : ev.T.size 154 = some (1, false) := by kernel_rfl
@[go_sem] theorem size155 : ev.T.size 155 = some (1, false) := by kernel_rfl
@[go_sem] theorem size156 : ev.T.size 156 = some (1, false) := by kernel_rfl
@[go_sem] theorem size157 : ev.T.size 157 = some (1, false) := by kernel_rfl
@[go_sem] theorem size158 : ev.T.size 158 = some (1, false) := by kernel_rfl
@[go_sem] theorem size159 : ev.T.size 159 = some (1, false) := by kernel_rfl
@[go_sem] theorem size160 : ev.T.size 160 = some (1, false) := by kernel_rfl
@[go_sem] theorem size161 : ev.T.size 161 = some (1, false) := by kernel_rfl
@[go_sem] theorem size162 : ev.T.size 162 = some (1, false) := by kernel_rfl
@[go_sem] theorem size163 : ev.T.size 163 = some (1, false) := by kernel_rfl
@[go_sem] theorem size164 : ev.T.size 164 = some (1, false) := by kernel_rfl
@[go_sem] theorem size165 : ev.T.size 165 = some (1, false) := by kernel_rfl
@[go_sem] theorem size166 : ev.T.size 166 = some (1, false) := by kernel_rfl
@[go_sem] theorem size167 : ev.T.size 167 = some (1, false) := by kernel_rfl
@[go_sem] theorem size168 : ev.T.size 168 = some (1, false) := by kernel_rfl
@[go_sem] theorem size169 : ev.T.size 169 = some (1, false) := by kernel_rfl
@[go_sem] theorem size170 : ev.T.size 170 = some (1, false) := by kernel_rfl
@[go_sem] theorem size171 : ev.T.size 171 = some (1, false) := by kernel_rfl
@[go_sem] theorem size172 : ev.T.size 172 = some (1, false) := by kernel_rfl
@[go_sem] theorem size173 : ev.T.size 173 = some (1, false) := by kernel_rfl
@[go_sem] theorem size174 : ev.T.size 174 = some (1, false) := by kernel_rfl
@[go_sem] theorem size175 : ev.T.size 175 = some (1, false) := by kernel_rfl
@[go_sem] theorem size176 : ev.T.size 176 = some (9, true) := by kernel_rfl
@[go_sem] theorem zero176 : ev.T.zero 176 = some [.int .i64 0, .int .i64 0, .int .i64 0, .int .i64 0, .slice none 0 0, .int .i64 0, .bool false, .bool false, .int .i64 0] := by kernel_rfl
@[go_sem] theorem fld176_0 : ev.T.fld 176 0 = some (0, 8, true) := by kernel_rfl
@[go_sem] theorem fld176_1 : ev.T.fld 176 1 = some (8, 1, false) := by kernel_rfl
@[go_sem] theorem flds176 : ev.T.flds 176 = some [(0, 8, true), (8, 1, false)] := by kernel_rfl
@[go_sem] theorem arr176 : ev.T.arr 176 = none := by kernel_rfl
@[go_sem] theorem size177 : ev.T.size 177 = some (9, true) := by kernel_rfl
@[go_sem] theorem zero177 : ev.T.zero 177 = some [.int .i64 0, .int .i64 0, .int .i64 0, .int .i64 0, .slice none 0 0, .int .i64 0, .bool false, .bool false, .int .i64 0] := by kernel_rfl
@[go_sem] theorem fld177_0 : ev.T.fld 177 0 = some (0, 8, true) := by kernel_rfl
@[go_sem] theorem fld177_1 : ev.T.fld 177 1 = some (8, 1, false) := by kernel_rfl
@[go_sem] theorem flds177 : ev.T.flds 177 = some [(0, 8, true), (8, 1, false)] := by kernel_rfl
@[go_sem] theorem arr177 : ev.T.arr 177 = none := by kernel_rfl
@[go_sem] theorem size178 : ev.T.size 178 = some (1, false) := by kernel_rfl
@[go_sem] theorem size179 : ev.T.size 179 = some (1, false) := by kernel_rfl
@[go_sem] theorem size180 : ev.T.size 180 = some (1, false) := by kernel_rfl
@[go_sem] theorem size181 : ev.T.size 181 = some (1, false) := by kernel_rfl
@[go_sem] theorem size182 : ev.T.size 182 = some (1, false) := by kernel_rfl
@[go_sem] theorem size183 : ev.T.size 183 = some (1, false) := by kernel_rfl
@[go_sem] theorem size184 : ev.T.size 184 = some (1, false) := by kernel_rfl
@[go_sem] theorem size185 : ev.T.size 185 = some (1, false) := by kernel_rfl
@[go_sem] theorem size186 : ev.T.size 186 = some (1, false) := by kernel_rfl
@[go_sem] theorem size187 : ev.T.size 187 = some (1, false) := by kernel_rfl
@[go_sem] theorem size188 : ev.T.size 188 = some (2, true) := by kernel_rfl
@[go_sem] theorem zero188 : ev.T.zero 188 = some [.int .i64 0, .int .i64 0] := by kernel_rfl
@[go_sem] theorem fld188_0 : ev.T.fld 188 0 = some (0, 1, false) := by kernel_rfl
@[go_sem] theorem fld188_1 : ev.T.fld 188 1 = some (1, 1, false) := by kernel_rfl
@[go_sem] theorem flds188 : ev.T.flds 188 = some [(0, 1, false), (1, 1, false)] := by kernel_rfl
@[go_sem] theorem arr188 : ev.T.arr 188 = none := by kernel_rfl
@[go_sem] theorem size189 : ev.T.size 189 = some (2, true) := by kernel_rfl
@[go_sem] theorem zero189 : ev.T.zero 189 = some [.int .i64 0, .int .i64 0] := by kernel_rfl
@[go_sem] theorem fld189_0 : ev.T.fld 189 0 = some (0, 1, false) := by kernel_rfl
@[go_sem] theorem fld189_1 : ev.T.fld 189 1 = some (1, 1, false) := by kernel_rfl
@[go_sem] theorem flds189 : ev.T.flds 189 = some [(0, 1, false), (1, 1, false)] := by kernel_rfl
@[go_sem] theorem arr189 : ev.T.arr 189 = none := by kernel_rfl
@[go_sem] theorem size190 : ev.T.size 190 = some (1, false) := by kernel_rfl
@[go_sem] theorem size191 : ev.T.size 191 = some (1, false) := by kernel_rfl
@[go_sem] theorem size192 : ev.T.size 192 = some (1, false) := by kernel_rfl
@[go_sem] theorem size193 : ev.T.size 193 = some (11, true) := by kernel_rfl
@[go_sem] theorem zero193 : ev.T.zero 193 = some [.int .i64 0, .int .i64 0, .int .i64 0, .int .i64 0, .int .i64 0, .int .i64 0, .bool false, .bool false, .slice none 0 0, .bool false, .int .i64 0] := by kernel_rfl
@[go_sem] theorem fld193_0 : ev.T.fld 193 0 = some (0, 8, true) := by kernel_rfl
@[go_sem] theorem fld193_1 : ev.T.fld 193 1 = some (8, 1, false) := by kernel_rfl
@[go_sem] theorem fld193_2 : ev.T.fld 193 2 = some (9, 1, false) := by kernel_rfl
@[go_sem] theorem fld193_3 : ev.T.fld 193 3 = some (10, 1, false) := by kernel_rfl
@[go_sem] theorem flds193 : ev.T.flds 193 = some [(0, 8, true), (8, 1, false), (9, 1, false), (10, 1, false)] := by kernel_rfl
@[go_sem] theorem arr193 : ev.T.arr 193 = none := by kernel_rfl
@[go_sem] theorem size194 : ev.T.size 194 = some (11, true) := by kernel_rfl
@[go_sem] theorem zero194 : ev.T.zero 194 = some [.int .i64 0, .int .i64 0, .int .i64 0, .int .i64 0, .int .i64 0, .int .i64 0, .bool false, .bool false, .slice none 0 0, .bool false, .int .i64 0] := by kernel_rfl
@[go_sem] theorem fld194_0 : ev.T.fld 194 0 = some (0, 8, true) := by kernel_rfl
@[go_sem] theorem fld194_1 : ev.T.fld 194 1 = some (8, 1, false) := by kernel_rfl
@[go_sem] theorem fld194_2 : ev.T.fld 194 2 = some (9, 1, false) := by kernel_rfl
@[go_sem] theorem fld194_3 : ev.T.fld 194 3 = some (10, 1, false) := by kernel_rfl
@[go_sem] theorem flds194 : ev.T.flds 194 = some [(0, 8, true), (8, 1, false), (9, 1, false), (10, 1, false)] := by kernel_rfl
@[go_sem] theorem arr194 : ev.T.arr 194 = none := by kernel_rfl
@[go_sem] theorem size195 : ev.T.size 195 = some (1, false) := by kernel_rfl
@[go_sem] theorem size196 : ev.T.size 196 = some (1, false) := by kernel_rfl
@[go_sem] theorem size197 : ev.T.size 197 = some (4, true) := by kernel_rfl
@[go_sem] theorem zero197 : ev.T.zero 197 = some [.nilFunc, .nilFunc, .nilFunc, .nilFunc] := by kernel_rfl
@[go_sem] theorem arr197 : ev.T.arr 197 = some (4, 1, false) := by kernel_rfl
@[go_sem] theorem flds197 : ev.T.flds 197 = none := by kernel_rfl
@[go_sem] theorem size198 : ev.T.size 198 = some (1, false) := by kernel_rfl
@[go_sem] theorem size199 : ev.T.size 199 = some (1, false) := by kernel_rfl
@[go_sem] theorem size200 : ev.T.size 200 = some (1, false) := by kernel_rfl
@[go_sem] theorem size201 : ev.T.size 201 = some (1, false) := by kernel_rfl
@[go_sem] theorem size202 : ev.T.size 202 = some (1, false) := by kernel_rfl
@[go_sem] theorem size203 : ev.T.size 203 = some (1, false) := by kernel_rfl
@[go_sem] theorem size204 : ev.T.size 204 = some (1, false) := by kernel_rfl
@[go_sem] theorem size205 : ev.T.size 205 = some (1, false) := by kernel_rfl
@[go_sem] theorem size206 : ev.T.size 206 = some (1, false) := by kernel_rfl
@[go_sem] theorem size207 : ev.T.size 207 = some (1, false) := by kernel_rfl
@[go_sem] theorem size208 : ev.T.size 208 = some (1, false) := by kernel_rfl
@[go_sem] theorem size209 : ev.T.size 209 = some (1, false) := by kernel_rfl
@[go_sem] theorem size210 : ev.T.size 210 = some (1, false) := by kernel_rfl
@[go_sem] theorem size211 : ev.T.size 211 = some (1, false) := by kernel_rfl
@[go_sem] theorem size212 : ev.T.size 212 = some (1, false) := by kernel_rfl
@[go_sem] theorem size213 : ev.T.size 213 = some (1, false) := by kernel_rfl
@[go_sem] theorem size214 : ev.T.size 214 = some (1, false) := by kernel_rfl
@[go_sem] theorem size215 : ev.T.size 215 = some (1, false) := by kernel_rfl
@[go_sem] theorem size217 : ev.T.size 217 = some (1, false) := by kernel_rfl
@[go_sem] theorem size218 : ev.T.size 218 = some (1, false) := by kernel_rfl
@[go_sem] theorem size219 : ev.T.size 219 = some (1, false) := by kernel_rfl
@[go_sem] theorem size220 : ev.T.size 220 = some (1, false) := by kernel_rfl
@[go_sem] theorem size221 : ev.T.size 221 = some (1, false) := by kernel_rfl
@[go_sem] theorem size222 : ev.T.size 222 = some (1, false) := by kernel_rfl
@[go_sem] theorem size223 : ev.T.size 223 = some (1, false) := by kernel_rfl
@[go_sem] theorem size224 : ev.T.size 224 = some (1, false) := by kernel_rfl
@[go_sem] theorem size225 : ev.T.size 225 = some (1, false) := by kernel_rfl
@[go_sem] theorem size226 : ev.T.size 226 = some (1, false) := by kernel_rfl
@[go_sem] theorem zero226 : ev.T.zero 226 = some [.slice none 0 0] := by kernel_rfl
@[go_sem] theorem elem226 : ev.T.elem 226 = some (1, 24) := by kernel_rfl
@[go_sem] theorem ezero226 : ev.T.ezero 226 = some [.slice none 0 0] := by kernel_rfl
@[go_sem] theorem arr226 : ev.T.arr 226 = none := by kernel_rfl
@[go_sem] theorem size227 : ev.T.size 227 = some (1, false) := by kernel_rfl
@[go_sem] theorem size228 : ev.T.size 228 = some (1, false) := by kernel_rfl
@[go_sem] theorem size229 : ev.T.size 229 = some (1, false) := by kernel_rfl
@[go_sem] theorem size230 : ev.T.size 230 = some (1, false) := by kernel_rfl
@[go_sem] theorem size231 : ev.T.size 231 = some (1, false) := by kernel_rfl
@[go_sem] theorem size232 : ev.T.size 232 = some (1, false) := by kernel_rfl
@[go_sem] theorem size233 : ev.T.size 233 = some (1, false) := by kernel_rfl
@[go_sem] theorem size234 : ev.T.size 234 = some (1, false) := by kernel_rfl
@[go_sem] theorem size235 : ev.T.size 235 = some (1, false) := by kernel_rfl
@[go_sem] theorem size236 : ev.T.size 236 = some (4, true) := by kernel_rfl
@[go_sem] theorem fld236_0 : ev.T.fld 236 0 = some (0, 1, false) := by kernel_rfl
@[go_sem] theorem fld236_1 : ev.T.fld 236 1 = some (1, 1, false) := by kernel_rfl
@[go_sem] theorem fld236_2 : ev.T.fld 236 2 = some (2, 1, false) := by kernel_rfl
@[go_sem] theorem fld236_3 : ev.T.fld 236 3 = some (3, 1, false) := by kernel_rfl
@[go_sem] theorem flds236 : ev.T.flds 236 = some [(0, 1, false), (1, 1, false), (2, 1, false), (3, 1, false)] := by kernel_rfl
@[go_sem] theorem arr236 : ev.T.arr 236 = none := by kernel_rfl
@[go_sem] theorem size237 : ev.T.size 237 = some (4, true) := by kernel_rfl
@[go_sem] theorem fld237_0 : ev.T.fld 237 0 = some (0, 1, false) := by kernel_rfl
@[go_sem] theorem fld237_1 : ev.T.fld 237 1 = some (1, 1, false) := by kernel_rfl
@[go_sem] theorem fld237_2 : ev.T.fld 237 2 = some (2, 1, false) := by kernel_rfl
@[go_sem] theorem fld237_3 : ev.T.fld 237 3 = some (3, 1, false) := by kernel_rfl
@[go_sem] theorem flds237 : ev.T.flds 237 = some [(0, 1, false), (1, 1, false), (2, 1, false), (3, 1, false)] := by kernel_rfl
@[go_sem] theorem arr237 : ev.T.arr 237 = none := by kernel_rfl
@[go_sem] theorem size238 : ev.T.size 238 = some (1, false) := by kernel_rfl
@[go_sem] theorem size239 : ev.T.size 239 = some (5, true) := by kernel_rfl
@[go_sem] theorem zero239 : ev.T.zero 239 = some [.nilFunc, .nilFunc, .nilFunc, .nilFunc, .nilFunc] := by kernel_rfl
@[go_sem] theorem arr239 : ev.T.arr 239 = some (5, 1, false) := by kernel_rfl
@[go_sem] theorem flds239 : ev.T.flds 239 = none := by kernel_rfl
@[go_sem] theorem size240 : ev.T.size 240 = some (1, false) := by kernel_rfl
@[go_sem] theorem size241 : ev.T.size 241 = some (1, false) := by kernel_rfl
@[go_sem] theorem size242 : ev.T.size 242 = some (1, false) := by kernel_rfl
@[go_sem] theorem size243 : ev.T.size 243 = some (1, false) := by kernel_rfl
@[go_sem] theorem size244 : ev.T.size 244 = some (16, true) := by kernel_rfl
@[go_sem] theorem zero244 : ev.T.zero 244 = some [.int .u8 0, .int .u8 0, .int .u8 0, .int .u8 0, .int .u8 0, .int .u8 0, .int .u8 0, .int .u8 0, .int .u8 0, .int .u8 0, .int .u8 0, .int .u8 0, .int .u8 0, .int .u8 0, .int .u8 0, .int .u8 0] := by kernel_rfl
@[go_sem] theorem arr244 : ev.T.arr 244 = some (16, 1, false) := by kernel_rfl
@[go_sem] theorem flds244 : ev.T.flds 244 = none := by kernel_rfl
@[go_sem] theorem size245 : ev.T.size 245 = some (1, false) := by kernel_rfl
@[go_sem] theorem size246 : ev.T.size 246 = some (1, false) := by kernel_rfl
@[go_sem] theorem size247 : ev.T.size 247 = some (1, false) := by kernel_rfl
@[go_sem] theorem size248 : ev.T.size 248 = some (1, false) := by kernel_rfl
@[go_sem] theorem size249 : ev.T.size 249 = some (1, false) := by kernel_rfl
@[go_sem] theorem size250 : ev.T.size 250 = some (1, false) := by kernel_rfl
@[go_sem] theorem size251 : ev.T.size 251 = some (1, false) := by kernel_rfl
@[go_sem] theorem size252 : ev.T.size 252 = some (1, false) := by kernel_rfl
@[go_sem] theorem size253 : ev.T.size 253 = some (1, false) := by kernel_rfl
@[go_sem] theorem size254 : ev.T.size 254 = some (1, false) := by kernel_rfl
@[go_sem] theorem size255 : ev.T.size 255 = some (2, true) := by kernel_rfl
@[go_sem] theorem zero255 : ev.T.zero 255 = some [.nilFunc, .int .i64 0] := by kernel_rfl
@[go_sem] theorem fld255_0 : ev.T.fld 255 0 = some (0, 1, false) := by kernel_rfl
@[go_sem] theorem fld255_1 : ev.T.fld 255 1 = some (1, 1, false) := by kernel_rfl
@[go_sem] theorem flds255 : ev.T.flds 255 = some [(0, 1, false), (1, 1, false)] := by kernel_rfl
@[go_sem] theorem arr255 : ev.T.arr 255 = none := by kernel_rfl
@[go_sem] theorem size256 : ev.T.size 256 = some (2, true) := by kernel_rfl
@[go_sem] theorem zero256 : ev.T.zero 256 = some [.nilFunc, .int .i64 0] := by kernel_rfl
@[go_sem] theorem fld256_0 : ev.T.fld 256 0 = some (0, 1, false) := by kernel_rfl
@[go_sem] theorem fld256_1 : ev.T.fld 256 1 = some (1, 1, false) := by kernel_rfl
@[go_sem] theorem flds256 : ev.T.flds 256 = some [(0, 1, false), (1, 1, false)] := by kernel_rfl
@[go_sem] theorem arr256 : ev.T.arr 256 = none := by kernel_rfl
@[go_sem] theorem size257 : ev.T.size 257 = some (1, false) := by kernel_rfl
@[go_sem] theorem size258 : ev.T.size 258 = some (1, false) := by kernel_rfl
@[go_sem] theorem zero258 : ev.T.zero 258 = some [.int .i64 0] := by kernel_rfl
@[go_sem] theorem int258 : ev.T.int 258 = some .i64 := by kernel_rfl
@[go_sem] theorem size260 : ev.T.size 260 = some (1, false) := by kernel_rfl
@[go_sem] theorem size261 : ev.T.size 261 = some (1, false) := by kernel_rfl
@[go_sem] theorem zero261 : ev.T.zero 261 = some [.int .u64 0] := by kernel_rfl
@[go_sem] theorem int261 : ev.T.int 261 = some .u64 := by kernel_rfl
@[go_sem] theorem size262 : ev.T.size 262 = some (1, false) := by kernel_rfl
@[go_sem] theorem size263 : ev.T.size 263 = some (1, false) := by kernel_rfl
@[go_sem] theorem zero263 : ev.T.zero 263 = some [.slice none 0 0] := by kernel_rfl
@[go_sem] theorem elem263 : ev.T.elem 263 = some (2, 16) := by kernel_rfl
@[go_sem] theorem ezero263 : ev.T.ezero 263 = some [.nilFunc, .int .i64 0] := by kernel_rfl
@[go_sem] theorem arr263 : ev.T.arr 263 = none := by kernel_rfl
@[go_sem] theorem size264 : ev.T.size 264 = some (1, false) := by kernel_rfl
@[go_sem] theorem size265 : ev.T.size 265 = some (4, true) := by kernel_rfl
@[go_sem] theorem fld265_0 : ev.T.fld 265 0 = some (0, 1, false) := by kernel_rfl
@[go_sem] theorem fld265_1 : ev.T.fld 265 1 = some (1, 1, false) := by kernel_rfl
@[go_sem] theorem fld265_2 : ev.T.fld 265 2 = some (2, 1, false) := by kernel_rfl
@[go_sem] theorem fld265_3 : ev.T.fld 265 3 = some (3, 1, false) := by kernel_rfl
@[go_sem] theorem flds265 : ev.T.flds 265 = some [(0, 1, false), (1, 1, false), (2, 1, false), (3, 1, false)] := by kernel_rfl
@[go_sem] theorem arr265 : ev.T.arr 265 = none := by kernel_rfl
@[go_sem] theorem size266 : ev.T.size 266 = some (4, true) := by kernel_rfl
@[go_sem] theorem fld266_0 : ev.T.fld 266 0 = some (0, 1, false) := by kernel_rfl
@[go_sem] theorem fld266_1 : ev.T.fld 266 1 = some (1, 1, false) := by kernel_rfl
@[go_sem] theorem fld266_2 : ev.T.fld 266 2 = some (2, 1, false) := by kernel_rfl
@[go_sem] theorem fld266_3 : ev.T.fld 266 3 = some (3, 1, false) := by kernel_rfl
@[go_sem] theorem flds266 : ev.T.flds 266 = some [(0, 1, false), (1, 1, false), (2, 1, false), (3, 1, false)] := by kernel_rfl
@[go_sem] theorem arr266 : ev.T.arr 266 = none := by kernel_rfl
@[go_sem] theorem size267 : ev.T.size 267 = some (0, true) := by kernel_rfl
@[go_sem] theorem zero267 : ev.T.zero 267 = some [] := by kernel_rfl
@[go_sem] theorem arr267 : ev.T.arr 267 = some (0, 1, false) := by kernel_rfl
@[go_sem] theorem flds267 : ev.T.flds 267 = none := by kernel_rfl
@[go_sem] theorem size268 : ev.T.size 268 = some (0, true) := by kernel_rfl
@[go_sem] theorem zero268 : ev.T.zero 268 = some [] := by kernel_rfl
@[go_sem] theorem size269 : ev.T.size 269 = some (0, true) := by kernel_rfl
@[go_sem] theorem zero269 : ev.T.zero 269 = some [] := by kernel_rfl
@[go_sem] theorem size270 : ev.T.size 270 = some (1, false) := by kernel_rfl
@[go_sem] theorem size271 : ev.T.size 271 = some (1, false) := by kernel_rfl
@[go_sem] theorem zero271 : ev.T.zero 271 = some [.int .u32 0] := by kernel_rfl
@[go_sem] theorem int271 : ev.T.int 271 = some .u32 := by kernel_rfl
@[go_sem] theorem size272 : ev.T.size 272 = some (1, false) := by kernel_rfl
@[go_sem] theorem zero272 : ev.T.zero 272 = some [.int .u8 0] := by kernel_rfl
@[go_sem] theorem int272 : ev.T.int 272 = some .u8 := by kernel_rfl
@[go_sem] theorem size273 : ev.T.size 273 = some (1, false) := by kernel_rfl
@[go_sem] theorem zero273 : ev.T.zero 273 = some [.int .u8 0] := by kernel_rfl
@[go_sem] theorem int273 : ev.T.int 273 = some .u8 := by kernel_rfl
@[go_sem] theorem size274 : ev.T.size 274 = some (1, false) := by kernel_rfl
@[go_sem] theorem size275 : ev.T.size 275 = some (1, false) := by kernel_rfl
@[go_sem] theorem size276 : ev.T.size 276 = some (1, false) := by kernel_rfl
@[go_sem] theorem zero276 : ev.T.zero 276 = some [.int .i32 0] := by kernel_rfl
@[go_sem] theorem int276 : ev.T.int 276 = some .i32 := by kernel_rfl
@[go_sem] theorem size277 : ev.T.size 277 = some (1, false) := by kernel_rfl
@[go_sem] theorem zero277 : ev.T.zero 277 = some [.int .i32 0] := by kernel_rfl
@[go_sem] theorem int277 : ev.T.int 277 = some .i32 := by kernel_rfl
@[go_sem] theorem size278 : ev.T.size 278 = some (11, true) := by kernel_rfl
@[go_sem] theorem fld278_0 : ev.T.fld 278 0 = some (0, 1, false) := by kernel_rfl
@[go_sem] theorem fld278_1 : ev.T.fld 278 1 = some (1, 1, false) := by kernel_rfl
@[go_sem] theorem fld278_2 : ev.T.fld 278 2 = some (2, 1, false) := by kernel_rfl
@[go_sem] theorem fld278_3 : ev.T.fld 278 3 = some (3, 1, false) := by kernel_rfl
@[go_sem] theorem fld278_4 : ev.T.fld 278 4 = some (4, 1, false) := by kernel_rfl
@[go_sem] theorem fld278_5 : ev.T.fld 278 5 = some (5, 1, false) := by kernel_rfl
@[go_sem] theorem fld278_6 : ev.T.fld 278 6 = some (6, 1, false) := by kernel_rfl
@[go_sem] theorem fld278_7 : ev.T.fld 278 7 = some (7, 1, false) := by kernel_rfl
@[go_sem] theorem fld278_8 : ev.T.fld 278 8 = some (8, 1, false) := by kernel_rfl
@[go_sem] theorem fld278_9 : ev.T.fld 278 9 = some (9, 1, false) := by kernel_rfl
@[go_sem] theorem fld278_10 : ev.T.fld 278 10 = some (10, 1, false) := by kernel_rfl
@[go_sem] theorem flds278 : ev.T.flds 278 = some [(0, 1, false), (1, 1, false), (2, 1, false), (3, 1, false), (4, 1, false), (5, 1, false), (6, 1, false), (7, 1, false), (8, 1, false), (9, 1, false), (10, 1, false)] := by kernel_rfl
@[go_sem] theorem arr278 : ev.T.arr 278 = none := by kernel_rfl
@[go_sem] theorem size279 : ev.T.size 279 = some (11, true) := by kernel_rfl
@[go_sem] theorem fld279_0 : ev.T.fld 279 0 = some (0, 1, false) := by kernel_rfl
@[go_sem] theorem fld279_1 : ev.T.fld 279 1 = some (1, 1, false) := by kernel_rfl
@[go_sem] theorem fld279_2 : ev.T.fld 279 2 = some (2, 1, false) := by kernel_rfl
@[go_sem] theorem fld279_3 : ev.T.fld 279 3 = some (3, 1, false) := by kernel_rfl
@[go_sem] theorem fld279_4 : ev.T.fld 279 4 = some (4, 1, false) := by kernel_rfl
@[go_sem] theorem fld279_5 : ev.T.fld 279 5 = some (5, 1, false) := by kernel_rfl
@[go_sem] theorem fld279_6 : ev.T.fld 279 6 = some (6, 1, false) := by kernel_rfl
@[go_sem] theorem fld279_7 : ev.T.fld 279 7 = some (7, 1, false) := by kernel_rfl
@[go_sem] theorem fld279_8 : ev.T.fld 279 8 = some (8, 1, false) := by kernel_rfl
@[go_sem] theorem fld279_9 : ev.T.fld 279 9 = some (9, 1, false) := by kernel_rfl
@[go_sem] theorem fld279_10 : ev.T.fld 279 10 = some (10, 1, false) := by kernel_rfl
@[go_sem] theorem flds279 : ev.T.flds 279 = some [(0, 1, false), (1, 1, false), (2, 1, false), (3, 1, false), (4, 1, false), (5, 1, false), (6, 1, false), (7, 1, false), (8, 1, false), (9, 1, false), (10, 1, false)] := by kernel_rfl
@[go_sem] theorem arr279 : ev.T.arr 279 = none := by kernel_rfl
@[go_sem] theorem size280 : ev.T.size 280 = some (1, false) := by kernel_rfl

end Go.Proofs.Ytlphdiccffnckaa

