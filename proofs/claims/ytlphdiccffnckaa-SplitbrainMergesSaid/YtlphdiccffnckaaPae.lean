/- Texts put together: Tys, Wor, Fun, Lop, Ima, Imb. -/
import Derived.Test.YtlphdiccffnckaaPad

/- The types of the program, as rules. -/

namespace Go.Proofs.Ytlphdiccffnckaa
open Go Go.Abs
@[go_sem] theorem size1 : ev.T.size 1 = some (1, false) := by kernel_rfl
@[go_sem] theorem size2 : ev.T.size 2 = some (1, false) := by kernel_rfl
@[go_sem] theorem zero2 : ev.T.zero 2 = some [.int .i64 0] := by kernel_rfl
@[go_sem] theorem int2 : ev.T.int 2 = some .i64 := by kernel_rfl
@[go_sem] theorem size3 : ev.T.size 3 = some (1, false) := by kernel_rfl
@[go_sem] theorem zero3 : ev.T.zero 3 = some [.int .i64 0] := by kernel_rfl
@[go_sem] theorem int3 : ev.T.int 3 = some .i64 := by kernel_rfl
@[go_sem] theorem size4 : ev.T.size 4 = some (1, false) := by kernel_rfl
@[go_sem] theorem zero4 : ev.T.zero 4 = some [.bool false] := by kernel_rfl
@[go_sem] theorem bool4 : ev.T.bool 4 = true := by kernel_rfl
@[go_sem] theorem size5 : ev.T.size 5 = some (1, false) := by kernel_rfl
@[go_sem] theorem zero5 : ev.T.zero 5 = some [.int .u8 0] := by kernel_rfl
@[go_sem] theorem int5 : ev.T.int 5 = some .u8 := by kernel_rfl
@[go_sem] theorem size6 : ev.T.size 6 = some (1, false) := by kernel_rfl
@[go_sem] theorem zero6 : ev.T.zero 6 = some [.int .u8 0] := by kernel_rfl
@[go_sem] theorem int6 : ev.T.int 6 = some .u8 := by kernel_rfl
@[go_sem] theorem size7 : ev.T.size 7 = some (4, true) := by kernel_rfl
@[go_sem] theorem zero7 : ev.T.zero 7 = some [.int .i64 0, .int .i64 0, .bool false, .int .u8 0] := by kernel_rfl
@[go_sem] theorem fld7_0 : ev.T.fld 7 0 = some (0, 1, false) := by kernel_rfl
@[go_sem] theorem fld7_1 : ev.T.fld 7 1 = some (1, 1, false) := by kernel_rfl
@[go_sem] theorem fld7_2 : ev.T.fld 7 2 = some (2, 1, false) := by kernel_rfl
@[go_sem] theorem fld7_3 : ev.T.fld 7 3 = some (3, 1, false) := by kernel_rfl
@[go_sem] theorem flds7 : ev.T.flds 7 = some [(0, 1, false), (1, 1, false), (2, 1, false), (3, 1, false)] := by kernel_rfl
@[go_sem] theorem arr7 : ev.T.arr 7 = none := by kernel_rfl
@[go_sem] theorem size8 : ev.T.size 8 = some (4, true) := by kernel_rfl
@[go_sem] theorem zero8 : ev.T.zero 8 = some [.int .i64 0, .int .i64 0, .bool false, .int .u8 0] := by kernel_rfl
@[go_sem] theorem fld8_0 : ev.T.fld 8 0 = some (0, 1, false) := by kernel_rfl
@[go_sem] theorem fld8_1 : ev.T.fld 8 1 = some (1, 1, false) := by kernel_rfl
@[go_sem] theorem fld8_2 : ev.T.fld 8 2 = some (2, 1, false) := by kernel_rfl
@[go_sem] theorem fld8_3 : ev.T.fld 8 3 = some (3, 1, false) := by kernel_rfl
@[go_sem] theorem flds8 : ev.T.flds 8 = some [(0, 1, false), (1, 1, false), (2, 1, false), (3, 1, false)] := by kernel_rfl
@[go_sem] theorem arr8 : ev.T.arr 8 = none := by kernel_rfl
@[go_sem] theorem size9 : ev.T.size 9 = some (1, false) := by kernel_rfl
@[go_sem] theorem size10 : ev.T.size 10 = some (1, false) := by kernel_rfl
@[go_sem] theorem size11 : ev.T.size 11 = some (1, false) := by kernel_rfl
@[go_sem] theorem size12 : ev.T.size 12 = some (1, false) := by kernel_rfl
@[go_sem] theorem zero12 : ev.T.zero 12 = some [.int .u64 0] := by kernel_rfl
@[go_sem] theorem int12 : ev.T.int 12 = some .u64 := by kernel_rfl
@[go_sem] theorem size13 : ev.T.size 13 = some (2, true) := by kernel_rfl
@[go_sem] theorem fld13_0 : ev.T.fld 13 0 = some (0, 1, false) := by kernel_rfl
@[go_sem] theorem fld13_1 : ev.T.fld 13 1 = some (1, 1, false) := by kernel_rfl
@[go_sem] theorem flds13 : ev.T.flds 13 = some [(0, 1, false), (1, 1, false)] := by kernel_rfl
@[go_sem] theorem arr13 : ev.T.arr 13 = none := by kernel_rfl
@[go_sem] theorem size14 : ev.T.size 14 = some (2, true) := by kernel_rfl
@[go_sem] theorem fld14_0 : ev.T.fld 14 0 = some (0, 1, false) := by kernel_rfl
@[go_sem] theorem fld14_1 : ev.T.fld 14 1 = some (1, 1, false) := by kernel_rfl
@[go_sem] theorem flds14 : ev.T.flds 14 = some [(0, 1, false), (1, 1, false)] := by kernel_rfl
@[go_sem] theorem arr14 : ev.T.arr 14 = none := by kernel_rfl
@[go_sem] theorem size15 : ev.T.size 15 = some (1, false) := by kernel_rfl
@[go_sem] theorem size16 : ev.T.size 16 = some (1, false) := by kernel_rfl
@[go_sem] theorem size17 : ev.T.size 17 = some (1, false) := by kernel_rfl
@[go_sem] theorem size18 : ev.T.size 18 = some (1, true) := by kernel_rfl
@[go_sem] theorem fld18_0 : ev.T.fld 18 0 = some (0, 1, false) := by kernel_rfl
@[go_sem] theorem flds18 : ev.T.flds 18 = some [(0, 1, false)] := by kernel_rfl
@[go_sem] theorem arr18 : ev.T.arr 18 = none := by kernel_rfl
@[go_sem] theorem size19 : ev.T.size 19 = some (1, true) := by kernel_rfl
@[go_sem] theorem fld19_0 : ev.T.fld 19 0 = some (0, 1, false) := by kernel_rfl
@[go_sem] theorem flds19 : ev.T.flds 19 = some [(0, 1, false)] := by kernel_rfl
@[go_sem] theorem arr19 : ev.T.arr 19 = none := by kernel_rfl
@[go_sem] theorem size20 : ev.T.size 20 = some (1, false) := by kernel_rfl
@[go_sem] theorem size21 : ev.T.size 21 = some (1, false) := by kernel_rfl
@[go_sem] theorem zero21 : ev.T.zero 21 = some [.int .i32 0] := by kernel_rfl
@[go_sem] theorem int21 : ev.T.int 21 = some .i32 := by kernel_rfl
@[go_sem] theorem size22 : ev.T.size 22 = some (1, false) := by kernel_rfl
@[go_sem] theorem zero22 : ev.T.zero 22 = some [.slice none 0 0] := by kernel_rfl
@[go_sem] theorem elem22 : ev.T.elem 22 = some (1, 8) := by kernel_rfl
@[go_sem] theorem ezero22 : ev.T.ezero 22 = some [.int .i64 0] := by kernel_rfl
@[go_sem] theorem arr22 : ev.T.arr 22 = none := by kernel_rfl
@[go_sem] theorem size23 : ev.T.size 23 = some (1, false) := by kernel_rfl
@[go_sem] theorem zero23 : ev.T.zero 23 = some [.slice none 0 0] := by kernel_rfl
@[go_sem] theorem elem23 : ev.T.elem 23 = some (1, 24) := by kernel_rfl
@[go_sem] theorem ezero23 : ev.T.ezero 23 = some [.slice none 0 0] := by kernel_rfl
@[go_sem] theorem arr23 : ev.T.arr 23 = none := by kernel_rfl
@[go_sem] theorem size24 : ev.T.size 24 = some (1, false) := by kernel_rfl
@[go_sem] theorem zero24 : ev.T.zero 24 = some [.slice none 0 0] := by kernel_rfl
@[go_sem] theorem elem24 : ev.T.elem 24 = some (1, 24) := by kernel_rfl
@[go_sem] theorem ezero24 : ev.T.ezero 24 = some [.slice none 0 0] := by kernel_rfl
@[go_sem] theorem arr24 : ev.T.arr 24 = none := by kernel_rfl
@[go_sem] theorem size25 : ev.T.size 25 = some (1, false) := by kernel_rfl
@[go_sem] theorem size26 : ev.T.size 26 = some (1, false) := by kernel_rfl
@[go_sem] theorem size27 : ev.T.size 27 = some (1, false) := by kernel_rfl
@[go_sem] theorem size28 : ev.T.size 28 = some (1, false) := by kernel_rfl
@[go_sem] theorem size29 : ev.T.size 29 = some (1, false) := by kernel_rfl
@[go_sem] theorem zero29 : ev.T.zero 29 = some [.int .i64 0] := by kernel_rfl
@[go_sem] theorem int29 : ev.T.int 29 = some .i64 := by kernel_rfl
@[go_sem] theorem size31 : ev.T.size 31 = some (1, false) := by kernel_rfl
@[go_sem] theorem size33 : ev.T.size 33 = some (1, false) := by kernel_rfl
@[go_sem] theorem size34 : ev.T.size 34 = some (1, false) := by kernel_rfl
@[go_sem] theorem size35 : ev.T.size 35 = some (1, false) := by kernel_rfl
@[go_sem] theorem size36 : ev.T.size 36 = some (1, false) := by kernel_rfl
@[go_sem] theorem size37 : ev.T.size 37 = some (1, false) := by kernel_rfl
@[go_sem] theorem size38 : ev.T.size 38 = some (1, false) := by kernel_rfl
@[go_sem] theorem zero38 : ev.T.zero 38 = some [.slice none 0 0] := by kernel_rfl
@[go_sem] theorem elem38 : ev.T.elem 38 = some (3, 40) := by kernel_rfl
@[go_sem] theorem ezero38 : ev.T.ezero 38 = some [.int .i64 0, .int .i64 0, .slice none 0 0] := by kernel_rfl
@[go_sem] theorem arr38 : ev.T.arr 38 = none := by kernel_rfl
@[go_sem] theorem size39 : ev.T.size 39 = some (1, false) := by kernel_rfl
@[go_sem] theorem size40 : ev.T.size 40 = some (1, false) := by kernel_rfl
@[go_sem] theorem zero40 : ev.T.zero 40 = some [.slice none 0 0] := by kernel_rfl
@[go_sem] theorem elem40 : ev.T.elem 40 = some (8, 8) := by kernel_rfl
@[go_sem] theorem ezero40 : ev.T.ezero 40 = some [.int .u8 0, .int .u8 0, .int .u8 0, .int .u8 0, .int .u8 0, .int .u8 0, .int .u8 0, .int .u8 0] := by kernel_rfl
@[go_sem] theorem arr40 : ev.T.arr 40 = none := by kernel_rfl
@[go_sem] theorem size41 : ev.T.size 41 = some (3, true) := by kernel_rfl
@[go_sem] theorem zero41 : ev.T.zero 41 = some [.int .i64 0, .int .i64 0, .slice none 0 0] := by kernel_rfl
@[go_sem] theorem fld41_0 : ev.T.fld 41 0 = some (0, 1, false) := by kernel_rfl
@[go_sem] theorem fld41_1 : ev.T.fld 41 1 = some (1, 1, false) := by kernel_rfl
@[go_sem] theorem fld41_2 : ev.T.fld 41 2 = some (2, 1, false) := by kernel_rfl
@[go_sem] theorem flds41 : ev.T.flds 41 = some [(0, 1, false), (1, 1, false), (2, 1, false)] := by kernel_rfl
@[go_sem] theorem arr41 : ev.T.arr 41 = none := by kernel_rfl
@[go_sem] theorem size42 : ev.T.size 42 = some (3, true) := by kernel_rfl
@[go_sem] theorem zero42 : ev.T.zero 42 = some [.int .i64 0, .int .i64 0, .slice none 0 0] := by kernel_rfl
@[go_sem] theorem fld42_0 : ev.T.fld 42 0 = some (0, 1, false) := by kernel_rfl
@[go_sem] theorem fld42_1 : ev.T.fld 42 1 = some (1, 1, false) := by kernel_rfl
@[go_sem] theorem fld42_2 : ev.T.fld 42 2 = some (2, 1, false) := by kernel_rfl
@[go_sem] theorem flds42 : ev.T.flds 42 = some [(0, 1, false), (1, 1, false), (2, 1, false)] := by kernel_rfl
@[go_sem] theorem arr42 : ev.T.arr 42 = none := by kernel_rfl
@[go_sem] theorem size43 : ev.T.size 43 = some (1, false) := by kernel_rfl
@[go_sem] theorem size44 : ev.T.size 44 = some (1, false) := by kernel_rfl
@[go_sem] theorem size46 : ev.T.size 46 = some (1, false) := by kernel_rfl
@[go_sem] theorem size48 : ev.T.size 48 = some (1, false) := by kernel_rfl
@[go_sem] theorem size49 : ev.T.size 49 = some (1, false) := by kernel_rfl
@[go_sem] theorem size50 : ev.T.size 50 = some (1, false) := by kernel_rfl
@[go_sem] theorem size51 : ev.T.size 51 = some (8, true) := by kernel_rfl
@[go_sem] theorem zero51 : ev.T.zero 51 = some [.int .u8 0, .int .u8 0, .int .u8 0, .int .u8 0, .int .u8 0, .int .u8 0, .int .u8 0, .int .u8 0] := by kernel_rfl
@[go_sem] theorem arr51 : ev.T.arr 51 = some (8, 1, false) := by kernel_rfl
@[go_sem] theorem flds51 : ev.T.flds 51 = none := by kernel_rfl
@[go_sem] theorem size52 : ev.T.size 52 = some (8, true) := by kernel_rfl
@[go_sem] theorem zero52 : ev.T.zero 52 = some [.int .u8 0, .int .u8 0, .int .u8 0, .int .u8 0, .int .u8 0, .int .u8 0, .int .u8 0, .int .u8 0] := by kernel_rfl
@[go_sem] theorem arr52 : ev.T.arr 52 = some (8, 1, false) := by kernel_rfl
@[go_sem] theorem flds52 : ev.T.flds 52 = none := by kernel_rfl
@[go_sem] theorem size53 : ev.T.size 53 = some (1, false) := by kernel_rfl
@[go_sem] theorem zero53 : ev.T.zero 53 = some [.slice none 0 0] := by kernel_rfl
@[go_sem] theorem elem53 : ev.T.elem 53 = some (1, 24) := by kernel_rfl
@[go_sem] theorem ezero53 : ev.T.ezero 53 = some [.slice none 0 0] := by kernel_rfl
@[go_sem] theorem arr53 : ev.T.arr 53 = none := by kernel_rfl
@[go_sem] theorem size55 : ev.T.size 55 = some (1, false) := by kernel_rfl
@[go_sem] theorem size56 : ev.T.size 56 = some (1, false) := by kernel_rfl
@[go_sem] theorem size57 : ev.T.size 57 = some (1, false) := by kernel_rfl
@[go_sem] theorem size58 : ev.T.size 58 = some (2, true) := by kernel_rfl
@[go_sem] theorem zero58 : ev.T.zero 58 = some [.int .i64 0, .int .i64 0] := by kernel_rfl
@[go_sem] theorem fld58_0 : ev.T.fld 58 0 = some (0, 1, false) := by kernel_rfl
@[go_sem] theorem fld58_1 : ev.T.fld 58 1 = some (1, 1, false) := by kernel_rfl
@[go_sem] theorem flds58 : ev.T.flds 58 = some [(0, 1, false), (1, 1, false)] := by kernel_rfl
@[go_sem] theorem arr58 : ev.T.arr 58 = none := by kernel_rfl
@[go_sem] theorem size59 : ev.T.size 59 = some (2, true) := by kernel_rfl
@[go_sem] theorem zero59 : ev.T.zero 59 = some [.int .i64 0, .int .i64 0] := by kernel_rfl
@[go_sem] theorem fld59_0 : ev.T.fld 59 0 = some (0, 1, false) := by kernel_rfl
@[go_sem] theorem fld59_1 : ev.T.fld 59 1 = some (1, 1, false) := by kernel_rfl
@[go_sem] theorem flds59 : ev.T.flds 59 = some [(0, 1, false), (1, 1, false)] := by kernel_rfl
@[go_sem] theorem arr59 : ev.T.arr 59 = none := by kernel_rfl
@[go_sem] theorem size61 : ev.T.size 61 = some (1, false) := by kernel_rfl
@[go_sem] theorem size63 : ev.T.size 63 = some (1, false) := by kernel_rfl
@[go_sem] theorem size64 : ev.T.size 64 = some (1, false) := by kernel_rfl
@[go_sem] theorem size65 : ev.T.size 65 = some (1, false) := by kernel_rfl
@[go_sem] theorem size67 : ev.T.size 67 = some (1, false) := by kernel_rfl
@[go_sem] theorem size69 : ev.T.size 69 = some (1, false) := by kernel_rfl
@[go_sem] theorem size71 : ev.T.size 71 = some (1, false) := by kernel_rfl
@[go_sem] theorem size72 : ev.T.size 72 = some (1, false) := by kernel_rfl
@[go_sem] theorem size73 : ev.T.size 73 = some (1, false) := by kernel_rfl
@[go_sem] theorem zero73 : ev.T.zero 73 = some [.slice none 0 0] := by kernel_rfl
@[go_sem] theorem elem73 : ev.T.elem 73 = some (2, 16) := by kernel_rfl
@[go_sem] theorem ezero73 : ev.T.ezero 73 = some [.int .i64 0, .int .i64 0] := by kernel_rfl
@[go_sem] theorem arr73 : ev.T.arr 73 = none := by kernel_rfl
@[go_sem] theorem size74 : ev.T.size 74 = some (1, false) := by kernel_rfl
@[go_sem] theorem zero74 : ev.T.zero 74 = some [.slice none 0 0] := by kernel_rfl
@[go_sem] theorem elem74 : ev.T.elem 74 = some (8, 72) := by kernel_rfl
@[go_sem] theorem ezero74 : ev.T.ezero 74 = some [.int .i64 0, .int .i64 0, .int .i64 0, .int .i64 0, .slice none 0 0, .int .i64 0, .bool false, .bool false] := by kernel_rfl
@[go_sem] theorem arr74 : ev.T.arr 74 = none := by kernel_rfl
@[go_sem] theorem size76 : ev.T.size 76 = some (1, false) := by kernel_rfl
@[go_sem] theorem size77 : ev.T.size 77 = some (1, false) := by kernel_rfl
@[go_sem] theorem size78 : ev.T.size 78 = some (2, true) := by kernel_rfl
@[go_sem] theorem zero78 : ev.T.zero 78 = some [.int .i64 0, .int .i64 0] := by kernel_rfl
@[go_sem] theorem fld78_0 : ev.T.fld 78 0 = some (0, 1, false) := by kernel_rfl
@[go_sem] theorem fld78_1 : ev.T.fld 78 1 = some (1, 1, false) := by kernel_rfl
@[go_sem] theorem flds78 : ev.T.flds 78 = some [(0, 1, false), (1, 1, false)] := by kernel_rfl
@[go_sem] theorem arr78 : ev.T.arr 78 = none := by kernel_rfl
@[go_sem] theorem size79 : ev.T.size 79 = some (2, true) := by kernel_rfl
@[go_sem] theorem zero79 : ev.T.zero 79 = some [.int .i64 0, .int .i64 0] := by kernel_rfl
@[go_sem] theorem fld79_0 : ev.T.fld 79 0 = some (0, 1, false) := by kernel_rfl
@[go_sem] theorem fld79_1 : ev.T.fld 79 1 = some (1, 1, false) := by kernel_rfl
@[go_sem] theorem flds79 : ev.T.flds 79 = some [(0, 1, false), (1, 1, false)] := by kernel_rfl
@[go_sem] theorem arr79 : ev.T.arr 79 = none := by kernel_rfl
@[go_sem] theorem size80 : ev.T.size 80 = some (1, false) := by kernel_rfl
@[go_sem] theorem size81 : ev.T.size 81 = some (8, true) := by kernel_rfl
@[go_sem] theorem zero81 : ev.T.zero 81 = some [.int .i64 0, .int .i64 0, .int .i64 0, .int .i64 0, .int .i64 0, .int .i64 0, .bool false, .bool false] := by kernel_rfl
@[go_sem] theorem fld81_0 : ev.T.fld 81 0 = some (0, 1, false) := by kernel_rfl
@[go_sem] theorem fld81_1 : ev.T.fld 81 1 = some (1, 1, false) := by kernel_rfl
@[go_sem] theorem fld81_2 : ev.T.fld 81 2 = some (2, 1, false) := by kernel_rfl
@[go_sem] theorem fld81_3 : ev.T.fld 81 3 = some (3, 1, false) := by kernel_rfl
@[go_sem] theorem fld81_4 : ev.T.fld 81 4 = some (4, 1, false) := by kernel_rfl
@[go_sem] theorem fld81_5 : ev.T.fld 81 5 = some (5, 1, false) := by kernel_rfl
@[go_sem] theorem fld81_6 : ev.T.fld 81 6 = some (6, 1, false) := by kernel_rfl
@[go_sem] theorem fld81_7 : ev.T.fld 81 7 = some (7, 1, false) := by kernel_rfl
@[go_sem] theorem flds81 : ev.T.flds 81 = some [(0, 1, false), (1, 1, false), (2, 1, false), (3, 1, false), (4, 1, false), (5, 1, false), (6, 1, false), (7, 1, false)] := by kernel_rfl
@[go_sem] theorem arr81 : ev.T.arr 81 = none := by kernel_rfl
@[go_sem] theorem size82 : ev.T.size 82 = some (8, true) := by kernel_rfl
@[go_sem] theorem zero82 : ev.T.zero 82 = some [.int .i64 0, .int .i64 0, .int .i64 0, .int .i64 0, .int .i64 0, .int .i64 0, .bool false, .bool false] := by kernel_rfl
@[go_sem] theorem fld82_0 : ev.T.fld 82 0 = some (0, 1, false) := by kernel_rfl
@[go_sem] theorem fld82_1 : ev.T.fld 82 1 = some (1, 1, false) := by kernel_rfl
@[go_sem] theorem fld82_2 : ev.T.fld 82 2 = some (2, 1, false) := by kernel_rfl
@[go_sem] theorem fld82_3 : ev.T.fld 82 3 = some (3, 1, false) := by kernel_rfl
@[go_sem] theorem fld82_4 : ev.T.fld 82 4 = some (4, 1, false) := by kernel_rfl
@[go_sem] theorem fld82_5 : ev.T.fld 82 5 = some (5, 1, false) := by kernel_rfl
@[go_sem] theorem fld82_6 : ev.T.fld 82 6 = some (6, 1, false) := by kernel_rfl
@[go_sem] theorem fld82_7 : ev.T.fld 82 7 = some (7, 1, false) := by kernel_rfl
@[go_sem] theorem flds82 : ev.T.flds 82 = some [(0, 1, false), (1, 1, false), (2, 1, false), (3, 1, false), (4, 1, false), (5, 1, false), (6, 1, false), (7, 1, false)] := by kernel_rfl
@[go_sem] theorem arr82 : ev.T.arr 82 = none := by kernel_rfl
@[go_sem] theorem size84 : ev.T.size 84 = some (1, false) := by kernel_rfl
@[go_sem] theorem size85 : ev.T.size 85 = some (1, false) := by kernel_rfl
@[go_sem] theorem zero85 : ev.T.zero 85 = some [.slice none 0 0] := by kernel_rfl
@[go_sem] theorem elem85 : ev.T.elem 85 = some (3, 24) := by kernel_rfl
@[go_sem] theorem ezero85 : ev.T.ezero 85 = some [.int .i64 0, .int .i64 0, .int .i64 0] := by kernel_rfl
@[go_sem] theorem arr85 : ev.T.arr 85 = none := by kernel_rfl
@[go_sem] theorem size86 : ev.T.size 86 = some (8, true) := by kernel_rfl
@[go_sem] theorem zero86 : ev.T.zero 86 = some [.int .i64 0, .int .i64 0, .int .i64 0, .int .i64 0, .slice none 0 0, .int .i64 0, .bool false, .bool false] := by kernel_rfl
@[go_sem] theorem fld86_0 : ev.T.fld 86 0 = some (0, 1, false) := by kernel_rfl
@[go_sem] theorem fld86_1 : ev.T.fld 86 1 = some (1, 1, false) := by kernel_rfl
@[go_sem] theorem fld86_2 : ev.T.fld 86 2 = some (2, 1, false) := by kernel_rfl
@[go_sem] theorem fld86_3 : ev.T.fld 86 3 = some (3, 1, false) := by kernel_rfl
@[go_sem] theorem fld86_4 : ev.T.fld 86 4 = some (4, 1, false) := by kernel_rfl
@[go_sem] theorem fld86_5 : ev.T.fld 86 5 = some (5, 1, false) := by kernel_rfl
@[go_sem] theorem fld86_6 : ev.T.fld 86 6 = some (6, 1, false) := by kernel_rfl
@[go_sem] theorem fld86_7 : ev.T.fld 86 7 = some (7, 1, false) := by kernel_rfl
@[go_sem] theorem flds86 : ev.T.flds 86 = some [(0, 1, false), (1, 1, false), (2, 1, false), (3, 1, false), (4, 1, false), (5, 1, false), (6, 1, false), (7, 1, false)] := by kernel_rfl
@[go_sem] theorem arr86 : ev.T.arr 86 = none := by kernel_rfl
@[go_sem] theorem size87 : ev.T.size 87 = some (8, true) := by kernel_rfl
@[go_sem] theorem zero87 : ev.T.zero 87 = some [.int .i64 0, .int .i64 0, .int .i64 0, .int .i64 0, .slice none 0 0, .int .i64 0, .bool false, .bool false] := by kernel_rfl
@[go_sem] theorem fld87_0 : ev.T.fld 87 0 = some (0, 1, false) := by kernel_rfl
@[go_sem] theorem fld87_1 : ev.T.fld 87 1 = some (1, 1, false) := by kernel_rfl
@[go_sem] theorem fld87_2 : ev.T.fld 87 2 = some (2, 1, false) := by kernel_rfl
@[go_sem] theorem fld87_3 : ev.T.fld 87 3 = some (3, 1, false) := by kernel_rfl
@[go_sem] theorem fld87_4 : ev.T.fld 87 4 = some (4, 1, false) := by kernel_rfl
@[go_sem] theorem fld87_5 : ev.T.fld 87 5 = some (5, 1, false) := by kernel_rfl
@[go_sem] theorem fld87_6 : ev.T.fld 87 6 = some (6, 1, false) := by kernel_rfl
@[go_sem] theorem fld87_7 : ev.T.fld 87 7 = some (7, 1, false) := by kernel_rfl
@[go_sem] theorem flds87 : ev.T.flds 87 = some [(0, 1, false), (1, 1, false), (2, 1, false), (3, 1, false), (4, 1, false), (5, 1, false), (6, 1, false), (7, 1, false)] := by kernel_rfl
@[go_sem] theorem arr87 : ev.T.arr 87 = none := by kernel_rfl
@[go_sem] theorem size88 : ev.T.size 88 = some (1, false) := by kernel_rfl
@[go_sem] theorem size89 : ev.T.size 89 = some (1, false) := by kernel_rfl
@[go_sem] theorem size90 : ev.T.size 90 = some (1, false) := by kernel_rfl
@[go_sem] theorem size91 : ev.T.size 91 = some (1, false) := by kernel_rfl
@[go_sem] theorem size92 : ev.T.size 92 = some (1, false) := by kernel_rfl
@[go_sem] theorem zero92 : ev.T.zero 92 = some [.int .u64 0] := by kernel_rfl
@[go_sem] theorem int92 : ev.T.int 92 = some .u64 := by kernel_rfl
@[go_sem] theorem size93 : ev.T.size 93 = some (1, false) := by kernel_rfl
@[go_sem] theorem size94 : ev.T.size 94 = some (1, false) := by kernel_rfl
@[go_sem] theorem zero94 : ev.T.zero 94 = some [.slice none 0 0] := by kernel_rfl
@[go_sem] theorem elem94 : ev.T.elem 94 = some (1, 1) := by kernel_rfl
@[go_sem] theorem ezero94 : ev.T.ezero 94 = some [.int .u8 0] := by kernel_rfl
@[go_sem] theorem arr94 : ev.T.arr 94 = none := by kernel_rfl
@[go_sem] theorem size96 : ev.T.size 96 = some (1, false) := by kernel_rfl
@[go_sem] theorem size97 : ev.T.size 97 = some (1, false) := by kernel_rfl
@[go_sem] theorem size98 : ev.T.size 98 = some (1, false) := by kernel_rfl
@[go_sem] theorem zero98 : ev.T.zero 98 = some [.slice none 0 0] := by kernel_rfl
@[go_sem] theorem elem98 : ev.T.elem 98 = some (1, 1) := by kernel_rfl
@[go_sem] theorem ezero98 : ev.T.ezero 98 = some [.bool false] := by kernel_rfl
@[go_sem] theorem arr98 : ev.T.arr 98 = none := by kernel_rfl
@[go_sem] theorem size100 : ev.T.size 100 = some (1, false) := by kernel_rfl
@[go_sem] theorem size102 : ev.T.size 102 = some (1, false) := by kernel_rfl
@[go_sem] theorem size104 : ev.T.size 104 = some (1, false) := by kernel_rfl
@[go_sem] theorem size106 : ev.T.size 106 = some (1, false) := by kernel_rfl
@[go_sem] theorem size107 : ev.T.size 107 = some (1, false) := by kernel_rfl
@[go_sem] theorem size109 : ev.T.size 109 = some (1, false) := by kernel_rfl
@[go_sem] theorem size110 : ev.T.size 110 = some (1, false) := by kernel_rfl
@[go_sem] theorem size111 : ev.T.size 111 = some (1, false) := by kernel_rfl
@[go_sem] theorem zero111 : ev.T.zero 111 = some [.slice none 0 0] := by kernel_rfl
@[go_sem] theorem elem111 : ev.T.elem 111 = some (1, 24) := by kernel_rfl
@[go_sem] theorem ezero111 : ev.T.ezero 111 = some [.slice none 0 0] := by kernel_rfl
@[go_sem] theorem arr111 : ev.T.arr 111 = none := by kernel_rfl
@[go_sem] theorem size113 : ev.T.size 113 = some (1, false) := by kernel_rfl
@[go_sem] theorem size115 : ev.T.size 115 = some (1, false) := by kernel_rfl
@[go_sem] theorem size117 : ev.T.size 117 = some (1, false) := by kernel_rfl
@[go_sem] theorem size119 : ev.T.size 119 = some (1, false) := by kernel_rfl
@[go_sem] theorem size120 : ev.T.size 120 = some (1, false) := by kernel_rfl
@[go_sem] theorem size121 : ev.T.size 121 = some (1, false) := by kernel_rfl
@[go_sem] theorem size122 : ev.T.size 122 = some (1, false) := by kernel_rfl
@[go_sem] theorem size123 : ev.T.size 123 = some (1, false) := by kernel_rfl
@[go_sem] theorem size124 : ev.T.size 124 = some (1, false) := by kernel_rfl
@[go_sem] theorem size125 : ev.T.size 125 = some (1, false) := by kernel_rfl
@[go_sem] theorem size127 : ev.T.size 127 = some (1, false) := by kernel_rfl
@[go_sem] theorem size129 : ev.T.size 129 = some (1, false) := by kernel_rfl
@[go_sem] theorem size130 : ev.T.size 130 = some (1, false) := by kernel_rfl
@[go_sem] theorem size131 : ev.T.size 131 = some (1, false) := by kernel_rfl
@[go_sem] theorem size132 : ev.T.size 132 = some (1, false) := by kernel_rfl
@[go_sem] theorem size133 : ev.T.size 133 = some (2, true) := by kernel_rfl
@[go_sem] theorem zero133 : ev.T.zero 133 = some [.slice none 0 0, .slice none 0 0] := by kernel_rfl
@[go_sem] theorem fld133_0 : ev.T.fld 133 0 = some (0, 1, false) := by kernel_rfl
@[go_sem] theorem fld133_1 : ev.T.fld 133 1 = some (1, 1, false) := by kernel_rfl
@[go_sem] theorem flds133 : ev.T.flds 133 = some [(0, 1, false), (1, 1, false)] := by kernel_rfl
@[go_sem] theorem arr133 : ev.T.arr 133 = none := by kernel_rfl
@[go_sem] theorem size134 : ev.T.size 134 = some (2, true) := by kernel_rfl
@[go_sem] theorem zero134 : ev.T.zero 134 = some [.slice none 0 0, .slice none 0 0] := by kernel_rfl
@[go_sem] theorem fld134_0 : ev.T.fld 134 0 = some (0, 1, false) := by kernel_rfl
@[go_sem] theorem fld134_1 : ev.T.fld 134 1 = some (1, 1, false) := by kernel_rfl
@[go_sem] theorem flds134 : ev.T.flds 134 = some [(0, 1, false), (1, 1, false)] := by kernel_rfl
@[go_sem] theorem arr134 : ev.T.arr 134 = none := by kernel_rfl
@[go_sem] theorem size135 : ev.T.size 135 = some (1, false) := by kernel_rfl
@[go_sem] theorem zero135 : ev.T.zero 135 = some [.slice none 0 0] := by kernel_rfl
@[go_sem] theorem elem135 : ev.T.elem 135 = some (2, 16) := by kernel_rfl
@[go_sem] theorem ezero135 : ev.T.ezero 135 = some [.int .i64 0, .int .i64 0] := by kernel_rfl
@[go_sem] theorem arr135 : ev.T.arr 135 = none := by kernel_rfl
@[go_sem] theorem size136 : ev.T.size 136 = some (1, false) := by kernel_rfl
@[go_sem] theorem size137 : ev.T.size 137 = some (1, false) := by kernel_rfl
@[go_sem] theorem size138 : ev.T.size 138 = some (1, false) := by kernel_rfl
@[go_sem] theorem size140 : ev.T.size 140 = some (1, false) := by kernel_rfl
@[go_sem] theorem size141 : ev.T.size 141 = some (1, false) := by kernel_rfl
@[go_sem] theorem size142 : ev.T.size 142 = some (3, true) := by kernel_rfl
@[go_sem] theorem zero142 : ev.T.zero 142 = some [.int .i64 0, .int .i64 0, .int .i64 0] := by kernel_rfl
@[go_sem] theorem fld142_0 : ev.T.fld 142 0 = some (0, 1, false) := by kernel_rfl
@[go_sem] theorem fld142_1 : ev.T.fld 142 1 = some (1, 1, false) := by kernel_rfl
@[go_sem] theorem fld142_2 : ev.T.fld 142 2 = some (2, 1, false) := by kernel_rfl
@[go_sem] theorem flds142 : ev.T.flds 142 = some [(0, 1, false), (1, 1, false), (2, 1, false)] := by kernel_rfl
@[go_sem] theorem arr142 : ev.T.arr 142 = none := by kernel_rfl
@[go_sem] theorem size143 : ev.T.size 143 = some (3, true) := by kernel_rfl
@[go_sem] theorem zero143 : ev.T.zero 143 = some [.int .i64 0, .int .i64 0, .int .i64 0] := by kernel_rfl
@[go_sem] theorem fld143_0 : ev.T.fld 143 0 = some (0, 1, false) := by kernel_rfl
@[go_sem] theorem fld143_1 : ev.T.fld 143 1 = some (1, 1, false) := by kernel_rfl
@[go_sem] theorem fld143_2 : ev.T.fld 143 2 = some (2, 1, false) := by kernel_rfl
@[go_sem] theorem flds143 : ev.T.flds 143 = some [(0, 1, false), (1, 1, false), (2, 1, false)] := by kernel_rfl
@[go_sem] theorem arr143 : ev.T.arr 143 = none := by kernel_rfl
@[go_sem] theorem size144 : ev.T.size 144 = some (1, false) := by kernel_rfl
@[go_sem] theorem size145 : ev.T.size 145 = some (1, false) := by kernel_rfl
@[go_sem] theorem size146 : ev.T.size 146 = some (1, false) := by kernel_rfl
@[go_sem] theorem size147 : ev.T.size 147 = some (1, false) := by kernel_rfl
@[go_sem] theorem size148 : ev.T.size 148 = some (1, false) := by kernel_rfl
@[go_sem] theorem size149 : ev.T.size 149 = some (1, false) := by kernel_rfl
@[go_sem] theorem size150 : ev.T.size 150 = some (1, false) := by kernel_rfl
@[go_sem] theorem size151 : ev.T.size 151 = some (1, false) := by kernel_rfl
@[go_sem] theorem size152 : ev.T.size 152 = some (1, false) := by kernel_rfl
@[go_sem] theorem size153 : ev.T.size 153 = some (1, false) := by kernel_rfl
@[go_sem] theorem size154 : ev.T.size 154 = some (1, false) := by kernel_rfl
@[go_sem] theorem size155 : ev.T.size 155 = some (1, false) := by kernel_rfl
@[go_sem] theorem size156 : ev.T.size 156 = some (1, false) := by kernel_rfl
@[go_sem] theorem size157 : ev.T.size 157 = some (1, false) := by kernel_rfl
@[go_sem] theorem size158 : ev.T.size 158 = some (1, false) := by kernel_rfl
@[go_sem] theorem size159 : ev.T.size 159 = some (1, false) := by kernel_rfl
@[go_sem] theorem size160 : ev.T.size 160 = some (1, false) := by kernel_rfl
@[go_sem] theorem size161 : ev.T.size 161 = some (1, false) := by kernel_rfl
@[go_sem] theorem size162 : ev.T.size 162 = some (1, false) := by kernel_rfl
@[go_sem] theorem size163 : ev.T.size 163 = some (1, false) := by kernel_rfl
@[go_sem] theorem size164 : ev.T.size 164 = some (1, false) := by kernel_rfl
@[go_sem] theorem size165 : ev.T.size 165 = some (1, false) := by kernel_rfl
@[go_sem] theorem size166 : ev.T.size 166 = some (1, false) := by kernel_rfl
@[go_sem] theorem size167 : ev.T.size 167 = some (1, false) := by kernel_rfl
@[go_sem] theorem size168 : ev.T.size 168 = some (1, false) := by kernel_rfl
@[go_sem] theorem size169 : ev.T.size 169 = some (1, false) := by kernel_rfl
@[go_sem] theorem size170 : ev.T.size 170 = some (1, false) := by kernel_rfl
@[go_sem] theorem size171 : ev.T.size 171 = some (1, false) := by kernel_rfl
@[go_sem] theorem size172 : ev.T.size 172 = some (1, false) := by kernel_rfl
@[go_sem] theorem size173 : ev.T.size 173 = some (1, false) := by kernel_rfl
@[go_sem] theorem size174 : ev.T.size 174 = some (1, false) := by kernel_rfl
@[go_sem] theorem size175 : ev.T.size 175 = some (1, false) := by kernel_rfl
@[go_sem] theorem size176 : ev.T.size 176 = some (9, true) := by kernel_rfl
@[go_sem] theorem zero176 : ev.T.zero 176 = some [.int .i64 0, .int .i64 0, .int .i64 0, .int .i64 0, .slice none 0 0, .int .i64 0, .bool false, .bool false, .int .i64 0] := by kernel_rfl
@[go_sem] theorem fld176_0 : ev.T.fld 176 0 = some (0, 8, true) := by kernel_rfl
@[go_sem] theorem fld176_1 : ev.T.fld 176 1 = some (8, 1, false) := by kernel_rfl
@[go_sem] theorem flds176 : ev.T.flds 176 = some [(0, 8, true), (8, 1, false)] := by kernel_rfl
@[go_sem] theorem arr176 : ev.T.arr 176 = none := by kernel_rfl
@[go_sem] theorem size177 : ev.T.size 177 = some (9, true) := by kernel_rfl
@[go_sem] theorem zero177 : ev.T.zero 177 = some [.int .i64 0, .int .i64 0, .int .i64 0, .int .i64 0, .slice none 0 0, .int .i64 0, .bool false, .bool false, .int .i64 0] := by kernel_rfl
@[go_sem] theorem fld177_0 : ev.T.fld 177 0 = some (0, 8, true) := by kernel_rfl
@[go_sem] theorem fld177_1 : ev.T.fld 177 1 = some (8, 1, false) := by kernel_rfl
@[go_sem] theorem flds177 : ev.T.flds 177 = some [(0, 8, true), (8, 1, false)] := by kernel_rfl
@[go_sem] theorem arr177 : ev.T.arr 177 = none := by kernel_rfl
@[go_sem] theorem size178 : ev.T.size 178 = some (1, false) := by kernel_rfl
@[go_sem] theorem size179 : ev.T.size 179 = some (1, false) := by kernel_rfl
@[go_sem] theorem size180 : ev.T.size 180 = some (1, false) := by kernel_rfl
@[go_sem] theorem size181 : ev.T.size 181 = some (1, false) := by kernel_rfl
@[go_sem] theorem size182 : ev.T.size 182 = some (1, false) := by kernel_rfl
@[go_sem] theorem size183 : ev.T.size 183 = some (1, false) := by kernel_rfl
@[go_sem] theorem size184 : ev.T.size 184 = some (1, false) := by kernel_rfl
@[go_sem] theorem size185 : ev.T.size 185 = some (1, false) := by kernel_rfl
@[go_sem] theorem size186 : ev.T.size 186 = some (1, false) := by kernel_rfl
@[go_sem] theorem size187 : ev.T.size 187 = some (1, false) := by kernel_rfl
@[go_sem] theorem size188 : ev.T.size 188 = some (2, true) := by kernel_rfl
@[go_sem] theorem zero188 : ev.T.zero 188 = some [.int .i64 0, .int .i64 0] := by kernel_rfl
@[go_sem] theorem fld188_0 : ev.T.fld 188 0 = some (0, 1, false) := by kernel_rfl
@[go_sem] theorem fld188_1 : ev.T.fld 188 1 = some (1, 1, false) := by kernel_rfl
@[go_sem] theorem flds188 : ev.T.flds 188 = some [(0, 1, false), (1, 1, false)] := by kernel_rfl
@[go_sem] theorem arr188 : ev.T.arr 188 = none := by kernel_rfl
@[go_sem] theorem size189 : ev.T.size 189 = some (2, true) := by kernel_rfl
@[go_sem] theorem zero189 : ev.T.zero 189 = some [.int .i64 0, .int .i64 0] := by kernel_rfl
@[go_sem] theorem fld189_0 : ev.T.fld 189 0 = some (0, 1, false) := by kernel_rfl
@[go_sem] theorem fld189_1 : ev.T.fld 189 1 = some (1, 1, false) := by kernel_rfl
@[go_sem] theorem flds189 : ev.T.flds 189 = some [(0, 1, false), (1, 1, false)] := by kernel_rfl
@[go_sem] theorem arr189 : ev.T.arr 189 = none := by kernel_rfl
@[go_sem] theorem size190 : ev.T.size 190 = some (1, false) := by kernel_rfl
@[go_sem] theorem size191 : ev.T.size 191 = some (1, false) := by kernel_rfl
@[go_sem] theorem size192 : ev.T.size 192 = some (1, false) := by kernel_rfl
@[go_sem] theorem size193 : ev.T.size 193 = some (11, true) := by kernel_rfl
@[go_sem] theorem zero193 : ev.T.zero 193 = some [.int .i64 0, .int .i64 0, .int .i64 0, .int .i64 0, .int .i64 0, .int .i64 0, .bool false, .bool false, .slice none 0 0, .bool false, .int .i64 0] := by kernel_rfl
@[go_sem] theorem fld193_0 : ev.T.fld 193 0 = some (0, 8, true) := by kernel_rfl
@[go_sem] theorem fld193_1 : ev.T.fld 193 1 = some (8, 1, false) := by kernel_rfl
@[go_sem] theorem fld193_2 : ev.T.fld 193 2 = some (9, 1, false) := by kernel_rfl
@[go_sem] theorem fld193_3 : ev.T.fld 193 3 = some (10, 1, false) := by kernel_rfl
@[go_sem] theorem flds193 : ev.T.flds 193 = some [(0, 8, true), (8, 1, false), (9, 1, false), (10, 1, false)] := by kernel_rfl
@[go_sem] theorem arr193 : ev.T.arr 193 = none := by kernel_rfl
@[go_sem] theorem size194 : ev.T.size 194 = some (11, true) := by kernel_rfl
@[go_sem] theorem zero194 : ev.T.zero 194 = some [.int .i64 0, .int .i64 0, .int .i64 0, .int .i64 0, .int .i64 0, .int .i64 0, .bool false, .bool false, .slice none 0 0, .bool false, .int .i64 0] := by kernel_rfl
@[go_sem] theorem fld194_0 : ev.T.fld 194 0 = some (0, 8, true) := by kernel_rfl
@[go_sem] theorem fld194_1 : ev.T.fld 194 1 = some (8, 1, false) := by kernel_rfl
@[go_sem] theorem fld194_2 : ev.T.fld 194 2 = some (9, 1, false) := by kernel_rfl
@[go_sem] theorem fld194_3 : ev.T.fld 194 3 = some (10, 1, false) := by kernel_rfl
@[go_sem] theorem flds194 : ev.T.flds 194 = some [(0, 8, true), (8, 1, false), (9, 1, false), (10, 1, false)] := by kernel_rfl
@[go_sem] theorem arr194 : ev.T.arr 194 = none := by kernel_rfl
@[go_sem] theorem size195 : ev.T.size 195 = some (1, false) := by kernel_rfl
@[go_sem] theorem size196 : ev.T.size 196 = some (1, false) := by kernel_rfl
@[go_sem] theorem size197 : ev.T.size 197 = some (4, true) := by kernel_rfl
@[go_sem] theorem zero197 : ev.T.zero 197 = some [.nilFunc, .nilFunc, .nilFunc, .nilFunc] := by kernel_rfl
@[go_sem] theorem arr197 : ev.T.arr 197 = some (4, 1, false) := by kernel_rfl
@[go_sem] theorem flds197 : ev.T.flds 197 = none := by kernel_rfl
@[go_sem] theorem size198 : ev.T.size 198 = some (1, false) := by kernel_rfl
@[go_sem] theorem size199 : ev.T.size 199 = some (1, false) := by kernel_rfl
@[go_sem] theorem size200 : ev.T.size 200 = some (1, false) := by kernel_rfl
@[go_sem] theorem size201 : ev.T.size 201 = some (1, false) := by kernel_rfl
@[go_sem] theorem size202 : ev.T.size 202 = some (1, false) := by kernel_rfl
@[go_sem] theorem size203 : ev.T.size 203 = some (1, false) := by kernel_rfl
@[go_sem] theorem size204 : ev.T.size 204 = some (1, false) := by kernel_rfl
@[go_sem] theorem size205 : ev.T.size 205 = some (1, false) := by kernel_rfl
@[go_sem] theorem size206 : ev.T.size 206 = some (1, false) := by kernel_rfl
@[go_sem] theorem size207 : ev.T.size 207 = some (1, false) := by kernel_rfl
@[go_sem] theorem size208 : ev.T.size 208 = some (1, false) := by kernel_rfl
@[go_sem] theorem size209 : ev.T.size 209 = some (1, false) := by kernel_rfl
@[go_sem] theorem size210 : ev.T.size 210 = some (1, false) := by kernel_rfl
@[go_sem] theorem size211 : ev.T.size 211 = some (1, false) := by kernel_rfl
@[go_sem] theorem size212 : ev.T.size 212 = some (1, false) := by kernel_rfl
@[go_sem] theorem size213 : ev.T.size 213 = some (1, false) := by kernel_rfl
@[go_sem] theorem size214 : ev.T.size 214 = some (1, false) := by kernel_rfl
@[go_sem] theorem size215 : ev.T.size 215 = some (1, false) := by kernel_rfl
@[go_sem] theorem size217 : ev.T.size 217 = some (1, false) := by kernel_rfl
@[go_sem] theorem size218 : ev.T.size 218 = some (1, false) := by kernel_rfl
@[go_sem] theorem size219 : ev.T.size 219 = some (1, false) := by kernel_rfl
@[go_sem] theorem size220 : ev.T.size 220 = some (1, false) := by kernel_rfl
@[go_sem] theorem size221 : ev.T.size 221 = some (1, false) := by kernel_rfl
@[go_sem] theorem size222 : ev.T.size 222 = some (1, false) := by kernel_rfl
@[go_sem] theorem size223 : ev.T.size 223 = some (1, false) := by kernel_rfl
@[go_sem] theorem size224 : ev.T.size 224 = some (1, false) := by kernel_rfl
@[go_sem] theorem size225 : ev.T.size 225 = some (1, false) := by kernel_rfl
@[go_sem] theorem size226 : ev.T.size 226 = some (1, false) := by kernel_rfl
@[go_sem] theorem zero226 : ev.T.zero 226 = some [.slice none 0 0] := by kernel_rfl
@[go_sem] theorem elem226 : ev.T.elem 226 = some (1, 24) := by kernel_rfl
@[go_sem] theorem ezero226 : ev.T.ezero 226 = some [.slice none 0 0] := by kernel_rfl
@[go_sem] theorem arr226 : ev.T.arr 226 = none := by kernel_rfl
@[go_sem] theorem size227 : ev.T.size 227 = some (1, false) := by kernel_rfl
@[go_sem] theorem size228 : ev.T.size 228 = some (1, false) := by kernel_rfl
@[go_sem] theorem size229 : ev.T.size 229 = some (1, false) := by kernel_rfl
@[go_sem] theorem size230 : ev.T.size 230 = some (1, false) := by kernel_rfl
@[go_sem] theorem size231 : ev.T.size 231 = some (1, false) := by kernel_rfl
@[go_sem] theorem size232 : ev.T.size 232 = some (1, false) := by kernel_rfl
@[go_sem] theorem size233 : ev.T.size 233 = some (1, false) := by kernel_rfl
@[go_sem] theorem size234 : ev.T.size 234 = some (1, false) := by kernel_rfl
@[go_sem] theorem size235 : ev.T.size 235 = some (1, false) := by kernel_rfl
@[go_sem] theorem size236 : ev.T.size 236 = some (4, true) := by kernel_rfl
@[go_sem] theorem fld236_0 : ev.T.fld 236 0 = some (0, 1, false) := by kernel_rfl
@[go_sem] theorem fld236_1 : ev.T.fld 236 1 = some (1, 1, false) := by kernel_rfl
@[go_sem] theorem fld236_2 : ev.T.fld 236 2 = some (2, 1, false) := by kernel_rfl
@[go_sem] theorem fld236_3 : ev.T.fld 236 3 = some (3, 1, false) := by kernel_rfl
@[go_sem] theorem flds236 : ev.T.flds 236 = some [(0, 1, false), (1, 1, false), (2, 1, false), (3, 1, false)] := by kernel_rfl
@[go_sem] theorem arr236 : ev.T.arr 236 = none := by kernel_rfl
@[go_sem] theorem size237 : ev.T.size 237 = some (4, true) := by kernel_rfl
@[go_sem] theorem fld237_0 : ev.T.fld 237 0 = some (0, 1, false) := by kernel_rfl
@[go_sem] theorem fld237_1 : ev.T.fld 237 1 = some (1, 1, false) := by kernel_rfl
@[go_sem] theorem fld237_2 : ev.T.fld 237 2 = some (2, 1, false) := by kernel_rfl
@[go_sem] theorem fld237_3 : ev.T.fld 237 3 = some (3, 1, false) := by kernel_rfl
@[go_sem] theorem flds237 : ev.T.flds 237 = some [(0, 1, false), (1, 1, false), (2, 1, false), (3, 1, false)] := by kernel_rfl
@[go_sem] theorem arr237 : ev.T.arr 237 = none := by kernel_rfl
@[go_sem] theorem size238 : ev.T.size 238 = some (1, false) := by kernel_rfl
@[go_sem] theorem size239 : ev.T.size 239 = some (5, true) := by kernel_rfl
@[go_sem] theorem zero239 : ev.T.zero 239 = some [.nilFunc, .nilFunc, .nilFunc, .nilFunc, .nilFunc] := by kernel_rfl
@[go_sem] theorem arr239 : ev.T.arr 239 = some (5, 1, false) := by kernel_rfl
@[go_sem] theorem flds239 : ev.T.flds 239 = none := by kernel_rfl
@[go_sem] theorem size240 : ev.T.size 240 = some (1, false) := by kernel_rfl
@[go_sem] theorem size241 : ev.T.size 241 = some (1, false) := by kernel_rfl
@[go_sem] theorem size242 : ev.T.size 242 = some (1, false) := by kernel_rfl
@[go_sem] theorem size243 : ev.T.size 243 = some (1, false) := by kernel_rfl
@[go_sem] theorem size244 : ev.T.size 244 = some (16, true) := by kernel_rfl
@[go_sem] theorem zero244 : ev.T.zero 244 = some [.int .u8 0, .int .u8 0, .int .u8 0, .int .u8 0, .int .u8 0, .int .u8 0, .int .u8 0, .int .u8 0, .int .u8 0, .int .u8 0, .int .u8 0, .int .u8 0, .int .u8 0, .int .u8 0, .int .u8 0, .int .u8 0] := by kernel_rfl
@[go_sem] theorem arr244 : ev.T.arr 244 = some (16, 1, false) := by kernel_rfl
@[go_sem] theorem flds244 : ev.T.flds 244 = none := by kernel_rfl
@[go_sem] theorem size245 : ev.T.size 245 = some (1, false) := by kernel_rfl
@[go_sem] theorem size246 : ev.T.size 246 = some (1, false) := by kernel_rfl
@[go_sem] theorem size247 : ev.T.size 247 = some (1, false) := by kernel_rfl
@[go_sem] theorem size248 : ev.T.size 248 = some (1, false) := by kernel_rfl
@[go_sem] theorem size249 : ev.T.size 249 = some (1, false) := by kernel_rfl
@[go_sem] theorem size250 : ev.T.size 250 = some (1, false) := by kernel_rfl
@[go_sem] theorem size251 : ev.T.size 251 = some (1, false) := by kernel_rfl
@[go_sem] theorem size252 : ev.T.size 252 = some (1, false) := by kernel_rfl
@[go_sem] theorem size253 : ev.T.size 253 = some (1, false) := by kernel_rfl
@[go_sem] theorem size254 : ev.T.size 254 = some (1, false) := by kernel_rfl
@[go_sem] theorem size255 : ev.T.size 255 = some (2, true) := by kernel_rfl
@[go_sem] theorem zero255 : ev.T.zero 255 = some [.nilFunc, .int .i64 0] := by kernel_rfl
@[go_sem] theorem fld255_0 : ev.T.fld 255 0 = some (0, 1, false) := by kernel_rfl
@[go_sem] theorem fld255_1 : ev.T.fld 255 1 = some (1, 1, false) := by kernel_rfl
@[go_sem] theorem flds255 : ev.T.flds 255 = some [(0, 1, false), (1, 1, false)] := by kernel_rfl
@[go_sem] theorem arr255 : ev.T.arr 255 = none := by kernel_rfl
@[go_sem] theorem size256 : ev.T.size 256 = some (2, true) := by kernel_rfl
@[go_sem] theorem zero256 : ev.T.zero 256 = some [.nilFunc, .int .i64 0] := by kernel_rfl
@[go_sem] theorem fld256_0 : ev.T.fld 256 0 = some (0, 1, false) := by kernel_rfl
@[go_sem] theorem fld256_1 : ev.T.fld 256 1 = some (1, 1, false) := by kernel_rfl
@[go_sem] theorem flds256 : ev.T.flds 256 = some [(0, 1, false), (1, 1, false)] := by kernel_rfl
@[go_sem] theorem arr256 : ev.T.arr 256 = none := by kernel_rfl
@[go_sem] theorem size257 : ev.T.size 257 = some (1, false) := by kernel_rfl
@[go_sem] theorem size258 : ev.T.size 258 = some (1, false) := by kernel_rfl
@[go_sem] theorem zero258 : ev.T.zero 258 = some [.int .i64 0] := by kernel_rfl
@[go_sem] theorem int258 : ev.T.int 258 = some .i64 := by kernel_rfl
@[go_sem] theorem size260 : ev.T.size 260 = some (1, false) := by kernel_rfl
@[go_sem] theorem size261 : ev.T.size 261 = some (1, false) := by kernel_rfl
@[go_sem] theorem zero261 : ev.T.zero 261 = some [.int .u64 0] := by kernel_rfl
@[go_sem] theorem int261 : ev.T.int 261 = some .u64 := by kernel_rfl
@[go_sem] theorem size262 : ev.T.size 262 = some (1, false) := by kernel_rfl
@[go_sem] theorem size263 : ev.T.size 263 = some (1, false) := by kernel_rfl
@[go_sem] theorem zero263 : ev.T.zero 263 = some [.slice none 0 0] := by kernel_rfl
@[go_sem] theorem elem263 : ev.T.elem 263 = some (2, 16) := by kernel_rfl
@[go_sem] theorem ezero263 : ev.T.ezero 263 = some [.nilFunc, .int .i64 0] := by kernel_rfl
@[go_sem] theorem arr263 : ev.T.arr 263 = none := by kernel_rfl
@[go_sem] theorem size264 : ev.T.size 264 = some (1, false) := by kernel_rfl
@[go_sem] theorem size265 : ev.T.size 265 = some (4, true) := by kernel_rfl
@[go_sem] theorem fld265_0 : ev.T.fld 265 0 = some (0, 1, false) := by kernel_rfl
@[go_sem] theorem fld265_1 : ev.T.fld 265 1 = some (1, 1, false) := by kernel_rfl
@[go_sem] theorem fld265_2 : ev.T.fld 265 2 = some (2, 1, false) := by kernel_rfl
@[go_sem] theorem fld265_3 : ev.T.fld 265 3 = some (3, 1, false) := by kernel_rfl
@[go_sem] theorem flds265 : ev.T.flds 265 = some [(0, 1, false), (1, 1, false), (2, 1, false), (3, 1, false)] := by kernel_rfl
@[go_sem] theorem arr265 : ev.T.arr 265 = none := by kernel_rfl
@[go_sem] theorem size266 : ev.T.size 266 = some (4, true) := by kernel_rfl
@[go_sem] theorem fld266_0 : ev.T.fld 266 0 = some (0, 1, false) := by kernel_rfl
@[go_sem] theorem fld266_1 : ev.T.fld 266 1 = some (1, 1, false) := by kernel_rfl
@[go_sem] theorem fld266_2 : ev.T.fld 266 2 = some (2, 1, false) := by kernel_rfl
@[go_sem] theorem fld266_3 : ev.T.fld 266 3 = some (3, 1, false) := by kernel_rfl
@[go_sem] theorem flds266 : ev.T.flds 266 = some [(0, 1, false), (1, 1, false), (2, 1, false), (3, 1, false)] := by kernel_rfl
@[go_sem] theorem arr266 : ev.T.arr 266 = none := by kernel_rfl
@[go_sem] theorem size267 : ev.T.size 267 = some (0, true) := by kernel_rfl
@[go_sem] theorem zero267 : ev.T.zero 267 = some [] := by kernel_rfl
@[go_sem] theorem arr267 : ev.T.arr 267 = some (0, 1, false) := by kernel_rfl
@[go_sem] theorem flds267 : ev.T.flds 267 = none := by kernel_rfl
@[go_sem] theorem size268 : ev.T.size 268 = some (0, true) := by kernel_rfl
@[go_sem] theorem zero268 : ev.T.zero 268 = some [] := by kernel_rfl
@[go_sem] theorem size269 : ev.T.size 269 = some (0, true) := by kernel_rfl
@[go_sem] theorem zero269 : ev.T.zero 269 = some [] := by kernel_rfl
@[go_sem] theorem size270 : ev.T.size 270 = some (1, false) := by kernel_rfl
@[go_sem] theorem size271 : ev.T.size 271 = some (1, false) := by kernel_rfl
@[go_sem] theorem zero271 : ev.T.zero 271 = some [.int .u32 0] := by kernel_rfl
@[go_sem] theorem int271 : ev.T.int 271 = some .u32 := by kernel_rfl
@[go_sem] theorem size272 : ev.T.size 272 = some (1, false) := by kernel_rfl
@[go_sem] theorem zero272 : ev.T.zero 272 = some [.int .u8 0] := by kernel_rfl
@[go_sem] theorem int272 : ev.T.int 272 = some .u8 := by kernel_rfl
@[go_sem] theorem size273 : ev.T.size 273 = some (1, false) := by kernel_rfl
@[go_sem] theorem zero273 : ev.T.zero 273 = some [.int .u8 0] := by kernel_rfl
@[go_sem] theorem int273 : ev.T.int 273 = some .u8 := by kernel_rfl
@[go_sem] theorem size274 : ev.T.size 274 = some (1, false) := by kernel_rfl
@[go_sem] theorem size275 : ev.T.size 275 = some (1, false) := by kernel_rfl
@[go_sem] theorem size276 : ev.T.size 276 = some (1, false) := by kernel_rfl
@[go_sem] theorem zero276 : ev.T.zero 276 = some [.int .i32 0] := by kernel_rfl
@[go_sem] theorem int276 : ev.T.int 276 = some .i32 := by kernel_rfl
@[go_sem] theorem size277 : ev.T.size 277 = some (1, false) := by kernel_rfl
@[go_sem] theorem zero277 : ev.T.zero 277 = some [.int .i32 0] := by kernel_rfl
@[go_sem] theorem int277 : ev.T.int 277 = some .i32 := by kernel_rfl
@[go_sem] theorem size278 : ev.T.size 278 = some (11, true) := by kernel_rfl
@[go_sem] theorem fld278_0 : ev.T.fld 278 0 = some (0, 1, false) := by kernel_rfl
@[go_sem] theorem fld278_1 : ev.T.fld 278 1 = some (1, 1, false) := by kernel_rfl
@[go_sem] theorem fld278_2 : ev.T.fld 278 2 = some (2, 1, false) := by kernel_rfl
@[go_sem] theorem fld278_3 : ev.T.fld 278 3 = some (3, 1, false) := by kernel_rfl
@[go_sem] theorem fld278_4 : ev.T.fld 278 4 = some (4, 1, false) := by kernel_rfl
@[go_sem] theorem fld278_5 : ev.T.fld 278 5 = some (5, 1, false) := by kernel_rfl
@[go_sem] theorem fld278_6 : ev.T.fld 278 6 = some (6, 1, false) := by kernel_rfl
@[go_sem] theorem fld278_7 : ev.T.fld 278 7 = some (7, 1, false) := by kernel_rfl
@[go_sem] theorem fld278_8 : ev.T.fld 278 8 = some (8, 1, false) := by kernel_rfl
@[go_sem] theorem fld278_9 : ev.T.fld 278 9 = some (9, 1, false) := by kernel_rfl
@[go_sem] theorem fld278_10 : ev.T.fld 278 10 = some (10, 1, false) := by kernel_rfl
@[go_sem] theorem flds278 : ev.T.flds 278 = some [(0, 1, false), (1, 1, false), (2, 1, false), (3, 1, false), (4, 1, false), (5, 1, false), (6, 1, false), (7, 1, false), (8, 1, false), (9, 1, false), (10, 1, false)] := by kernel_rfl
@[go_sem] theorem arr278 : ev.T.arr 278 = none := by kernel_rfl
@[go_sem] theorem size279 : ev.T.size 279 = some (11, true) := by kernel_rfl
@[go_sem] theorem fld279_0 : ev.T.fld 279 0 = some (0, 1, false) := by kernel_rfl
@[go_sem] theorem fld279_1 : ev.T.fld 279 1 = some (1, 1, false) := by kernel_rfl
@[go_sem] theorem fld279_2 : ev.T.fld 279 2 = some (2, 1, false) := by kernel_rfl
@[go_sem] theorem fld279_3 : ev.T.fld 279 3 = some (3, 1, false) := by kernel_rfl
@[go_sem] theorem fld279_4 : ev.T.fld 279 4 = some (4, 1, false) := by kernel_rfl
@[go_sem] theorem fld279_5 : ev.T.fld 279 5 = some (5, 1, false) := by kernel_rfl
@[go_sem] theorem fld279_6 : ev.T.fld 279 6 = some (6, 1, false) := by kernel_rfl
@[go_sem] theorem fld279_7 : ev.T.fld 279 7 = some (7, 1, false) := by kernel_rfl
@[go_sem] theorem fld279_8 : ev.T.fld 279 8 = some (8, 1, false) := by kernel_rfl
@[go_sem] theorem fld279_9 : ev.T.fld 279 9 = some (9, 1, false) := by kernel_rfl
@[go_sem] theorem fld279_10 : ev.T.fld 279 10 = some (10, 1, false) := by kernel_rfl
@[go_sem] theorem flds279 : ev.T.flds 279 = some [(0, 1, false), (1, 1, false), (2, 1, false), (3, 1, false), (4, 1, false), (5, 1, false), (6, 1, false), (7, 1, false), (8, 1, false), (9, 1, false), (10, 1, false)] := by kernel_rfl
@[go_sem] theorem arr279 : ev.T.arr 279 = none := by kernel_rfl
@[go_sem] theorem size280 : ev.T.size 280 = some (1, false) := by kernel_rfl

end Go.Proofs.Ytlphdiccffnckaa

/- The words for the functions. -/
namespace Go.Proofs.Ytlphdiccffnckaa
open Go Go.Abs

def w16 : Words := { gh := [(9, .cut [1, 2, 5, 6, 55, 56, 57] 2), (19, .frz 6), (19, .frz 2)] }
def w17 : Words := { fl := [(21, 5, .gen)], gh := [(14, .cut [0, 5, 8, 11, 12, 14, 18, 21, 153, 154] 1), (19, .cut [0, 5, 8, 11, 12, 14, 18, 21, 23, 153, 154, 215, 216] 1)] }
def w18 : Words := { gh := [(8, .weak 10 3), (8, .weak 13 3)] }
def w24 : Words := { fl := [(8, 7, .own)], gh := [(5, .own 5 1)] }
def w31 : Words := { fl := [(4, 1, .gen), (8, 2, .gen)] }
def w32 : Words := { fl := [(4, 1, .gen)] }
def w33 : Words := { fl := [(6, 6, .own), (6, 7, .own), (6, 8, .own)], gh := [(2, .own 3 1)], adopt := true }
def w34 : Words := { fl := [(8, 11, .own)], gh := [(5, .own 7 1)] }
def w36 : Words := { fl := [(9, 9, .cln)] }
def w39 : Words := { fl := [(8, 11, .own)], gh := [(5, .own 7 1)] }
def w40 : Words := { fl := [(8, 3, .gen), (8, 4, .own)], gh := [(5, .own 8 3)] }
def w41 : Words := { fl := [(14, 7, .own)], gh := [(5, .own 8 3)] }
def w51 : Words := { fl := [(5, 7, .own)], gh := [(2, .own 3 1)] }
def w65 : Words := { fl := [(5, 2, .gen), (9, 5, .own)], gh := [(5, .ownAt 5 0 1)] }
def w66 : Words := { gh := [(5, .own 5 1)] }
def w67 : Words := { fl := [(14, 2, .cln), (16, 2, .own), (16, 3, .own)], gh := [(9, .frz 8), (11, .own 9 8), (11, .own 10 1), (12, .cut [0, 1, 8, 9, 10, 43, 44, 45] 3)] }
def w68 : Words := { fl := [(16, 2, .own), (16, 3, .own)], gh := [(9, .frz 8), (11, .own 9 8), (11, .own 10 1), (12, .cut [0, 1, 8, 9, 10, 11] 3)] }
def w70 : Words := { gh := [(4, .cut [1, 2, 15, 16, 17] 0)] }
def w72 : Words := { fl := [(5, 4, .gen), (6, 5, .gen)] }
def w73 : Words := { fl := [(8, 5, .own)], gh := [(5, .own 9 1), (6, .cut [0, 1, 2, 9, 10] 1), (13, .freeze 11)] }
def w75 : Words := { fl := [(4, 1, .gen)] }
def w81 : Words := { fl := [(1, 2, .gen)] }
def w84 : Words := { fl := [(4, 1, .gen)], gh := [(4, .ownAt 5 0 3)] }
def w89 : Words := { fl := [(1, 2, .own), (5, 5, .own)] }
def w98 : Words := { fl := [(1, 1, .gen)], adopt := true }
def w100 : Words := { fl := [(3, 2, .gen), (7, 4, .own)], gh := [(2, .ownAt 5 0 2)] }
def w103 : Words := { fl := [(3, 0, .own), (3, 2, .own)], adopt := true }
def w105 : Words := { fl := [(9, 4, .own)], gh := [(2, .own 5 2)] }
def w106 : Words := { fl := [(1, 2, .own), (5, 3, .gen), (5, 5, .own)] }
def w116 : Words := { fl := [(1, 1, .gen)] }
def w117 : Words := { fl := [(7, 1, .lend)] }
def w119 : Words := { fl := [(5, 7, .own), (9, 7, .own), (10, 1, .lend)], gh := [(2, .own 5 1)] }
def w141 : Words := { fl := [(3, 0, .own), (3, 2, .own)], adopt := true }
def w148 : Words := { fl := [(1, 0, .own), (5, 7, .own)] }
def w155 : Words := { gh := [(4, .cut [9, 10, 11] 0)] }
def w156 : Words := { adopt := true }
def w162 : Words := { fl := [(9, 23, .gen)], gh := [(2, .own 9 1), (3, .cut [0, 1, 2, 3, 9, 13, 14, 15] 1), (6, .own 11 8), (11, .freeze 11)] }
def w166 : Words := { gh := [(2, .own 3 2)] }
def w172 : Words := { fl := [(4, 5, .gen)] }
def w173 : Words := { fl := [(5, 6, .own), (5, 7, .gen), (8, 1, .gen)] }
def w174 : Words := { fl := [(1, 1, .gen), (4, 8, .own), (4, 9, .gen)], gh := [(0, .weak 0 3)] }
def w175 : Words := { adopt := true }
def w177 : Words := { fl := [(1, 2, .own), (5, 5, .own)] }
def w180 : Words := { fl := [(1, 2, .own), (5, 3, .gen), (5, 4, .own), (5, 5, .own)], adopt := true }
def w181 : Words := { adopt := true }
def w195 : Words := { fl := [(1, 1, .gen)] }
def w197 : Words := { fl := [(8, 8, .own)], gh := [(2, .own 3 1)] }
def w212 : Words := { gh := [(0, .weak 0 3)] }
def w213 : Words := { fl := [(4, 2, .gen)], gh := [(2, .cut [0, 5, 6, 7] 0)] }
def w222 : Words := { gh := [(2, .cut [0, 1, 3, 7, 8, 9] 1)] }
def w224 : Words := { fl := [(3, 0, .own), (3, 2, .own)], adopt := true }
def ws : List (Nat × Words) := [(16, w16), (17, w17), (18, w18), (24, w24), (31, w31), (32, w32), (33, w33), (34, w34), (36, w36), (39, w39), (40, w40), (41, w41), (51, w51), (65, w65), (66, w66), (67, w67), (68, w68), (70, w70), (72, w72), (73, w73), (75, w75), (81, w81), (84, w84), (89, w89), (98, w98), (100, w100), (103, w103), (105, w105), (106, w106), (116, w116), (117, w117), (119, w119), (141, w141), (148, w148), (155, w155), (156, w156), (162, w162), (166, w166), (172, w172), (173, w173), (174, w174), (175, w175), (177, w177), (180, w180), (181, w181), (195, w195), (197, w197), (212, w212), (213, w213), (222, w222), (224, w224)]
noncomputable def fs : Nat → Option AFn := fnOf Go.Proofs.Try.prog ws

end Go.Proofs.Ytlphdiccffnckaa

/- Each function, as it is evaluated. -/
namespace Go.Proofs.Ytlphdiccffnckaa
open Go Go.Abs

@[go_sem] theorem w0_gh : ({} : Words).gh = [] := rfl
@[go_sem] theorem w0_fl : ({} : Words).fl = [] := rfl
@[go_sem] theorem w0_ad : ({} : Words).adopt = false := rfl
@[go_sem] theorem w16_gh : w16.gh = [(9, .cut [1, 2, 5, 6, 55, 56, 57] 2), (19, .frz 6), (19, .frz 2)] := rfl
@[go_sem] theorem w16_fl : w16.fl = [] := rfl
@[go_sem] theorem w16_ad : w16.adopt = false := rfl
@[go_sem] theorem w17_gh : w17.gh = [(14, .cut [0, 5, 8, 11, 12, 14, 18, 21, 153, 154] 1), (19, .cut [0, 5, 8, 11, 12, 14, 18, 21, 23, 153, 154, 215, 216] 1)] := rfl
@[go_sem] theorem w17_fl : w17.fl = [(21, 5, .gen)] := rfl
@[go_sem] theorem w17_ad : w17.adopt = false := rfl
@[go_sem] theorem w18_gh : w18.gh = [(8, .weak 10 3), (8, .weak 13 3)] := rfl
@[go_sem] theorem w18_fl : w18.fl = [] := rfl
@[go_sem] theorem w18_ad : w18.adopt = false := rfl
@[go_sem] theorem w24_gh : w24.gh = [(5, .own 5 1)] := rfl
@[go_sem] theorem w24_fl : w24.fl = [(8, 7, .own)] := rfl
@[go_sem] theorem w24_ad : w24.adopt = false := rfl
@[go_sem] theorem w31_gh : w31.gh = [] := rfl
@[go_sem] theorem w31_fl : w31.fl = [(4, 1, .gen), (8, 2, .gen)] := rfl
@[go_sem] theorem w31_ad : w31.adopt = false := rfl
@[go_sem] theorem w32_gh : w32.gh = [] := rfl
@[go_sem] theorem w32_fl : w32.fl = [(4, 1, .gen)] := rfl
@[go_sem] theorem w32_ad : w32.adopt = false := rfl
@[go_sem] theorem w33_gh : w33.gh = [(2, .own 3 1)] := rfl
@[go_sem] theorem w33_fl : w33.fl = [(6, 6, .own), (6, 7, .own), (6, 8, .own)] := rfl
@[go_sem] theorem w33_ad : w33.adopt = true := rfl
@[go_sem] theorem w34_gh : w34.gh = [(5, .own 7 1)] := rfl
@[go_sem] theorem w34_fl : w34.fl = [(8, 11, .own)] := rfl
@[go_sem] theorem w34_ad : w34.adopt = false := rfl
@[go_sem] theorem w36_gh : w36.gh = [] := rfl
@[go_sem] theorem w36_fl : w36.fl = [(9, 9, .cln)] := rfl
@[go_sem] theorem w36_ad : w36.adopt = false := rfl
@[go_sem] theorem w39_gh : w39.gh = [(5, .own 7 1)] := rfl
@[go_sem] theorem w39_fl : w39.fl = [(8, 11, .own)] := rfl
@[go_sem] theorem w39_ad : w39.adopt = false := rfl
@[go_sem] theorem w40_gh : w40.gh = [(5, .own 8 3)] := rfl
@[go_sem] theorem w40_fl : w40.fl = [(8, 3, .gen), (8, 4, .own)] := rfl
@[go_sem] theorem w40_ad : w40.adopt = false := rfl
@[go_sem] theorem w41_gh : w41.gh = [(5, .own 8 3)] := rfl
@[go_sem] theorem w41_fl : w41.fl = [(14, 7, .own)] := rfl
@[go_sem] theorem w41_ad : w41.adopt = false := rfl
@[go_sem] theorem w51_gh : w51.gh = [(2, .own 3 1)] := rfl
@[go_sem] theorem w51_fl : w51.fl = [(5, 7, .own)] := rfl
@[go_sem] theorem w51_ad : w51.adopt = false := rfl
@[go_sem] theorem w65_gh : w65.gh = [(5, .ownAt 5 0 1)] := rfl
@[go_sem] theorem w65_fl : w65.fl = [(5, 2, .gen), (9, 5, .own)] := rfl
@[go_sem] theorem w65_ad : w65.adopt = false := rfl
@[go_sem] theorem w66_gh : w66.gh = [(5, .own 5 1)] := rfl
@[go_sem] theorem w66_fl : w66.fl = [] := rfl
@[go_sem] theorem w66_ad : w66.adopt = false := rfl
@[go_sem] theorem w67_gh : w67.gh = [(9, .frz 8), (11, .own 9 8), (11, .own 10 1), (12, .cut [0, 1, 8, 9, 10, 43, 44, 45] 3)] := rfl
@[go_sem] theorem w67_fl : w67.fl = [(14, 2, .cln), (16, 2, .own), (16, 3, .own)] := rfl
@[go_sem] theorem w67_ad : w67.adopt = false := rfl
@[go_sem] theorem w68_gh : w68.gh = [(9, .frz 8), (11, .own 9 8), (11, .own 10 1), (12, .cut [0, 1, 8, 9, 10, 11] 3)] := rfl
@[go_sem] theorem w68_fl : w68.fl = [(16, 2, .own), (16, 3, .own)] := rfl
@[go_sem] theorem w68_ad : w68.adopt = false := rfl
@[go_sem] theorem w70_gh : w70.gh = [(4, .cut [1, 2, 15, 16, 17] 0)] := rfl
@[go_sem] theorem w70_fl : w70.fl = [] := rfl
@[go_sem] theorem w70_ad : w70.adopt = false := rfl
@[go_sem] theorem w72_gh : w72.gh = [] := rfl
@[go_sem] theorem w72_fl : w72.fl = [(5, 4, .gen), (6, 5, .gen)] := rfl
@[go_sem] theorem w72_ad : w72.adopt = false := rfl
@[go_sem] theorem w73_gh : w73.gh = [(5, .own 9 1), (6, .cut [0, 1, 2, 9, 10] 1), (13, .freeze 11)] := rfl
@[go_sem] theorem w73_fl : w73.fl = [(8, 5, .own)] := rfl
@[go_sem] theorem w73_ad : w73.adopt = false := rfl
@[go_sem] theorem w75_gh : w75.gh = [] := rfl
@[go_sem] theorem w75_fl : w75.fl = [(4, 1, .gen)] := rfl
@[go_sem] theorem w75_ad : w75.adopt = false := rfl
@[go_sem] theorem w81_gh : w81.gh = [] := rfl
@[go_sem] theorem w81_fl : w81.fl = [(1, 2, .gen)] := rfl
@[go_sem] theorem w81_ad : w81.adopt = false := rfl
@[go_sem] theorem w84_gh : w84.gh = [(4, .ownAt 5 0 3)] := rfl
@[go_sem] theorem w84_fl : w84.fl = [(4, 1, .gen)] := rfl
@[go_sem] theorem w84_ad : w84.adopt = false := rfl
@[go_sem] theorem w89_gh : w89.gh = [] := rfl
@[go_sem] theorem w89_fl : w89.fl = [(1, 2, .own), (5, 5, .own)] := rfl
@[go_sem] theorem w89_ad : w89.adopt = false := rfl
@[go_sem] theorem w98_gh : w98.gh = [] := rfl
@[go_sem] theorem w98_fl : w98.fl = [(1, 1, .gen)] := rfl
@[go_sem] theorem w98_ad : w98.adopt = true := rfl
@[go_sem] theorem w100_gh : w100.gh = [(2, .ownAt 5 0 2)] := rfl
@[go_sem] theorem w100_fl : w100.fl = [(3, 2, .gen), (7, 4, .own)] := rfl
@[go_sem] theorem w100_ad : w100.adopt = false := rfl
@[go_sem] theorem w103_gh : w103.gh = [] := rfl
@[go_sem] theorem w103_fl : w103.fl = [(3, 0, .own), (3, 2, .own)] := rfl
@[go_sem] theorem w103_ad : w103.adopt = true := rfl
@[go_sem] theorem w105_gh : w105.gh = [(2, .own 5 2)] := rfl
@[go_sem] theorem w105_fl : w105.fl = [(9, 4, .own)] := rfl
@[go_sem] theorem w105_ad : w105.adopt = false := rfl
@[go_sem] theorem w106_gh : w106.gh = [] := rfl
@[go_sem] theorem w106_fl : w106.fl = [(1, 2, .own), (5, 3, .gen), (5, 5, .own)] := rfl
@[go_sem] theorem w106_ad : w106.adopt = false := rfl
@[go_sem] theorem w116_gh : w116.gh = [] := rfl
@[go_sem] theorem w116_fl : w116.fl = [(1, 1, .gen)] := rfl
@[go_sem] theorem w116_ad : w116.adopt = false := rfl
@[go_sem] theorem w117_gh : w117.gh = [] := rfl
@[go_sem] theorem w117_fl : w117.fl = [(7, 1, .lend)] := rfl
@[go_sem] theorem w117_ad : w117.adopt = false := rfl
@[go_sem] theorem w119_gh : w119.gh = [(2, .own 5 1)] := rfl
@[go_sem] theorem w119_fl : w119.fl = [(5, 7, .own), (9, 7, .own), (10, 1, .lend)] := rfl
@[go_sem] theorem w119_ad : w119.adopt = false := rfl
@[go_sem] theorem w141_gh : w141.gh = [] := rfl
@[go_sem] theorem w141_fl : w141.fl = [(3, 0, .own), (3, 2, .own)] := rfl
@[go_sem] theorem w141_ad : w141.adopt = true := rfl
@[go_sem] theorem w148_gh : w148.gh = [] := rfl
@[go_sem] theorem w148_fl : w148.fl = [(1, 0, .own), (5, 7, .own)] := rfl
@[go_sem] theorem w148_ad : w148.adopt = false := rfl
@[go_sem] theorem w155_gh : w155.gh = [(4, .cut [9, 10, 11] 0)] := rfl
@[go_sem] theorem w155_fl : w155.fl = [] := rfl
@[go_sem] theorem w155_ad : w155.adopt = false := rfl
@[go_sem] theorem w156_gh : w156.gh = [] := rfl
@[go_sem] theorem w156_fl : w156.fl = [] := rfl
@[go_sem] theorem w156_ad : w156.adopt = true := rfl
@[go_sem] theorem w162_gh : w162.gh = [(2, .own 9 1), (3, .cut [0, 1, 2, 3, 9, 13, 14, 15] 1), (6, .own 11 8), (11, .freeze 11)] := rfl
@[go_sem] theorem w162_fl : w162.fl = [(9, 23, .gen)] := rfl
@[go_sem] theorem w162_ad : w162.adopt = false := rfl
@[go_sem] theorem w166_gh : w166.gh = [(2, .own 3 2)] := rfl
@[go_sem] theorem w166_fl : w166.fl = [] := rfl
@[go_sem] theorem w166_ad : w166.adopt = false := rfl
@[go_sem] theorem w172_gh : w172.gh = [] := rfl
@[go_sem] theorem w172_fl : w172.fl = [(4, 5, .gen)] := rfl
@[go_sem] theorem w172_ad : w172.adopt = false := rfl
@[go_sem] theorem w173_gh : w173.gh = [] := rfl
@[go_sem] theorem w173_fl : w173.fl = [(5, 6, .own), (5, 7, .gen), (8, 1, .gen)] := rfl
@[go_sem] theorem w173_ad : w173.adopt = false := rfl
@[go_sem] theorem w174_gh : w174.gh = [(0, .weak 0 3)] := rfl
@[go_sem] theorem w174_fl : w174.fl = [(1, 1, .gen), (4, 8, .own), (4, 9, .gen)] := rfl
@[go_sem] theorem w174_ad : w174.adopt = false := rfl
@[go_sem] theorem w175_gh : w175.gh = [] := rfl
@[go_sem] theorem w175_fl : w175.fl = [] := rfl
@[go_sem] theorem w175_ad : w175.adopt = true := rfl
@[go_sem] theorem w177_gh : w177.gh = [] := rfl
@[go_sem] theorem w177_fl : w177.fl = [(1, 2, .own), (5, 5, .own)] := rfl
@[go_sem] theorem w177_ad : w177.adopt = false := rfl
@[go_sem] theorem w180_gh : w180.gh = [] := rfl
@[go_sem] theorem w180_fl : w180.fl = [(1, 2, .own), (5, 3, .gen), (5, 4, .own), (5, 5, .own)] := rfl
@[go_sem] theorem w180_ad : w180.adopt = true := rfl
@[go_sem] theorem w181_gh : w181.gh = [] := rfl
@[go_sem] theorem w181_fl : w181.fl = [] := rfl
@[go_sem] theorem w181_ad : w181.adopt = true := rfl
@[go_sem] theorem w195_gh : w195.gh = [] := rfl
@[go_sem] theorem w195_fl : w195.fl = [(1, 1, .gen)] := rfl
@[go_sem] theorem w195_ad : w195.adopt = false := rfl
@[go_sem] theorem w197_gh : w197.gh = [(2, .own 3 1)] := rfl
@[go_sem] theorem w197_fl : w197.fl = [(8, 8, .own)] := rfl
@[go_sem] theorem w197_ad : w197.adopt = false := rfl
@[go_sem] theorem w212_gh : w212.gh = [(0, .weak 0 3)] := rfl
@[go_sem] theorem w212_fl : w212.fl = [] := rfl
@[go_sem] theorem w212_ad : w212.adopt = false := rfl
@[go_sem] theorem w213_gh : w213.gh = [(2, .cut [0, 5, 6, 7] 0)] := rfl
@[go_sem] theorem w213_fl : w213.fl = [(4, 2, .gen)] := rfl
@[go_sem] theorem w213_ad : w213.adopt = false := rfl
@[go_sem] theorem w222_gh : w222.gh = [(2, .cut [0, 1, 3, 7, 8, 9] 1)] := rfl
@[go_sem] theorem w222_fl : w222.fl = [] := rfl
@[go_sem] theorem w222_ad : w222.adopt = false := rfl
@[go_sem] theorem w224_gh : w224.gh = [] := rfl
@[go_sem] theorem w224_fl : w224.fl = [(3, 0, .own), (3, 2, .own)] := rfl
@[go_sem] theorem w224_ad : w224.adopt = true := rfl
theorem f3_eq : fs 3 = some (mkFn {} Go.Proofs.Try.f3 (bodyOf Go.Proofs.Try.f3)) := by kernel_rfl
theorem f4_eq : fs 4 = some (mkFn {} Go.Proofs.Try.f4 (bodyOf Go.Proofs.Try.f4)) := by kernel_rfl
theorem f5_eq : fs 5 = some (mkFn {} Go.Proofs.Try.f5 (bodyOf Go.Proofs.Try.f5)) := by kernel_rfl
theorem f6_eq : fs 6 = some (mkFn {} Go.Proofs.Try.f6 (bodyOf Go.Proofs.Try.f6)) := by kernel_rfl
theorem f7_eq : fs 7 = some (mkFn {} Go.Proofs.Try.f7 (bodyOf Go.Proofs.Try.f7)) := by kernel_rfl
theorem f8_eq : fs 8 = some (mkFn {} Go.Proofs.Try.f8 (bodyOf Go.Proofs.Try.f8)) := by kernel_rfl
theorem f10_eq : fs 10 = some (mkFn {} Go.Proofs.Try.f10 (bodyOf Go.Proofs.Try.f10)) := by kernel_rfl
theorem f11_eq : fs 11 = some (mkFn {} Go.Proofs.Try.f11 (bodyOf Go.Proofs.Try.f11)) := by kernel_rfl
theorem f19_eq : fs 19 = some (mkFn {} Go.Proofs.Try.f19 (bodyOf Go.Proofs.Try.f19)) := by kernel_rfl
theorem f20_eq : fs 20 = some (mkFn {} Go.Proofs.Try.f20 (bodyOf Go.Proofs.Try.f20)) := by kernel_rfl
theorem f21_eq : fs 21 = some (mkFn {} Go.Proofs.Try.f21 (bodyOf Go.Proofs.Try.f21)) := by kernel_rfl
theorem f23_eq : fs 23 = some (mkFn {} Go.Proofs.Try.f23 (bodyOf Go.Proofs.Try.f23)) := by kernel_rfl
theorem f24_eq : fs 24 = some (mkFn w24 Go.Proofs.Try.f24 (bodyOf Go.Proofs.Try.f24)) := by kernel_rfl
theorem f25_eq : fs 25 = some (mkFn {} Go.Proofs.Try.f25 (bodyOf Go.Proofs.Try.f25)) := by kernel_rfl
theorem f26_eq : fs 26 = some (mkFn {} Go.Proofs.Try.f26 (bodyOf Go.Proofs.Try.f26)) := by kernel_rfl
theorem f27_eq : fs 27 = some (mkFn {} Go.Proofs.Try.f27 (bodyOf Go.Proofs.Try.f27)) := by kernel_rfl
theorem f28_eq : fs 28 = some (mkFn {} Go.Proofs.Try.f28 (bodyOf Go.Proofs.Try.f28)) := by kernel_rfl
theorem f29_eq : fs 29 = some (mkFn {} Go.Proofs.Try.f29 (bodyOf Go.Proofs.Try.f29)) := by kernel_rfl
theorem f30_eq : fs 30 = some (mkFn {} Go.Proofs.Try.f30 (bodyOf Go.Proofs.Try.f30)) := by kernel_rfl
theorem f31_eq : fs 31 = some (mkFn w31 Go.Proofs.Try.f31 (bodyOf Go.Proofs.Try.f31)) := by kernel_rfl
theorem f32_eq : fs 32 = some (mkFn w32 Go.Proofs.Try.f32 (bodyOf Go.Proofs.Try.f32)) := by kernel_rfl
theorem f33_eq : fs 33 = some (mkFn w33 Go.Proofs.Try.f33 (bodyOf Go.Proofs.Try.f33)) := by kernel_rfl
theorem f34_eq : fs 34 = some (mkFn w34 Go.Proofs.Try.f34 (bodyOf Go.Proofs.Try.f34)) := by kernel_rfl
theorem f35_eq : fs 35 = some (mkFn {} Go.Proofs.Try.f35 (bodyOf Go.Proofs.Try.f35)) := by kernel_rfl
theorem f36_eq : fs 36 = some (mkFn w36 Go.Proofs.Try.f36 (bodyOf Go.Proofs.Try.f36)) := by kernel_rfl
theorem f37_eq : fs 37 = some (mkFn {} Go.Proofs.Try.f37 (bodyOf Go.Proofs.Try.f37)) := by kernel_rfl
theorem f38_eq : fs 38 = some (mkFn {} Go.Proofs.Try.f38 (bodyOf Go.Proofs.Try.f38)) := by kernel_rfl
theorem f39_eq : fs 39 = some (mkFn w39 Go.Proofs.Try.f39 (bodyOf Go.Proofs.Try.f39)) := by kernel_rfl
theorem f40_eq : fs 40 = some (mkFn w40 Go.Proofs.Try.f40 (bodyOf Go.Proofs.Try.f40)) := by kernel_rfl
theorem f41_eq : fs 41 = some (mkFn w41 Go.Proofs.Try.f41 (bodyOf Go.Proofs.Try.f41)) := by kernel_rfl
theorem f42_eq : fs 42 = some (mkFn {} Go.Proofs.Try.f42 (bodyOf Go.Proofs.Try.f42)) := by kernel_rfl
theorem f50_eq : fs 50 = some (mkFn {} Go.Proofs.Try.f50 (bodyOf Go.Proofs.Try.f50)) := by kernel_rfl
theorem f51_eq : fs 51 = some (mkFn w51 Go.Proofs.Try.f51 (bodyOf Go.Proofs.Try.f51)) := by kernel_rfl
theorem f85_eq : fs 85 = some (mkFn {} Go.Proofs.Try.f85 (bodyOf Go.Proofs.Try.f85)) := by kernel_rfl
theorem f86_eq : fs 86 = some (mkFn {} Go.Proofs.Try.f86 (bodyOf Go.Proofs.Try.f86)) := by kernel_rfl
theorem f87_eq : fs 87 = some (mkFn {} Go.Proofs.Try.f87 (bodyOf Go.Proofs.Try.f87)) := by kernel_rfl
theorem f88_eq : fs 88 = some (mkFn {} Go.Proofs.Try.f88 (bodyOf Go.Proofs.Try.f88)) := by kernel_rfl
theorem f89_eq : fs 89 = some (mkFn w89 Go.Proofs.Try.f89 (bodyOf Go.Proofs.Try.f89)) := by kernel_rfl
theorem f90_eq : fs 90 = some (mkFn {} Go.Proofs.Try.f90 (bodyOf Go.Proofs.Try.f90)) := by kernel_rfl
theorem f91_eq : fs 91 = some (mkFn {} Go.Proofs.Try.f91 (bodyOf Go.Proofs.Try.f91)) := by kernel_rfl
theorem f92_eq : fs 92 = some (mkFn {} Go.Proofs.Try.f92 (bodyOf Go.Proofs.Try.f92)) := by kernel_rfl
theorem f93_eq : fs 93 = some (mkFn {} Go.Proofs.Try.f93 (bodyOf Go.Proofs.Try.f93)) := by kernel_rfl
theorem f94_eq : fs 94 = some (mkFn {} Go.Proofs.Try.f94 (bodyOf Go.Proofs.Try.f94)) := by kernel_rfl
theorem f95_eq : fs 95 = some (mkFn {} Go.Proofs.Try.f95 (bodyOf Go.Proofs.Try.f95)) := by kernel_rfl
theorem f96_eq : fs 96 = some (mkFn {} Go.Proofs.Try.f96 (bodyOf Go.Proofs.Try.f96)) := by kernel_rfl
theorem f97_eq : fs 97 = some (mkFn {} Go.Proofs.Try.f97 (bodyOf Go.Proofs.Try.f97)) := by kernel_rfl
theorem f98_eq : fs 98 = some (mkFn w98 Go.Proofs.Try.f98 (bodyOf Go.Proofs.Try.f98)) := by kernel_rfl
theorem f99_eq : fs 99 = some (mkFn {} Go.Proofs.Try.f99 (bodyOf Go.Proofs.Try.f99)) := by kernel_rfl
theorem f100_eq : fs 100 = some (mkFn w100 Go.Proofs.Try.f100 (bodyOf Go.Proofs.Try.f100)) := by kernel_rfl
theorem f101_eq : fs 101 = some (mkFn {} Go.Proofs.Try.f101 (bodyOf Go.Proofs.Try.f101)) := by kernel_rfl
theorem f102_eq : fs 102 = some (mkFn {} Go.Proofs.Try.f102 (bodyOf Go.Proofs.Try.f102)) := by kernel_rfl
theorem f103_eq : fs 103 = some (mkFn w103 Go.Proofs.Try.f103 (bodyOf Go.Proofs.Try.f103)) := by kernel_rfl
theorem f104_eq : fs 104 = some (mkFn {} Go.Proofs.Try.f104 (bodyOf Go.Proofs.Try.f104)) := by kernel_rfl
theorem f105_eq : fs 105 = some (mkFn w105 Go.Proofs.Try.f105 (bodyOf Go.Proofs.Try.f105)) := by kernel_rfl
theorem f106_eq : fs 106 = some (mkFn w106 Go.Proofs.Try.f106 (bodyOf Go.Proofs.Try.f106)) := by kernel_rfl
theorem f107_eq : fs 107 = some (mkFn {} Go.Proofs.Try.f107 (bodyOf Go.Proofs.Try.f107)) := by kernel_rfl
theorem f108_eq : fs 108 = some (mkFn {} Go.Proofs.Try.f108 (bodyOf Go.Proofs.Try.f108)) := by kernel_rfl
theorem f109_eq : fs 109 = some (mkFn {} Go.Proofs.Try.f109 (bodyOf Go.Proofs.Try.f109)) := by kernel_rfl
theorem f176_eq : fs 176 = some (mkFn {} Go.Proofs.Try.f176 (bodyOf Go.Proofs.Try.f176)) := by kernel_rfl
theorem f177_eq : fs 177 = some (mkFn w177 Go.Proofs.Try.f177 (bodyOf Go.Proofs.Try.f177)) := by kernel_rfl
theorem f178_eq : fs 178 = some (mkFn {} Go.Proofs.Try.f178 (bodyOf Go.Proofs.Try.f178)) := by kernel_rfl
theorem f179_eq : fs 179 = some (mkFn {} Go.Proofs.Try.f179 (bodyOf Go.Proofs.Try.f179)) := by kernel_rfl
theorem f180_eq : fs 180 = some (mkFn w180 Go.Proofs.Try.f180 (bodyOf Go.Proofs.Try.f180)) := by kernel_rfl
theorem f181_eq : fs 181 = some (mkFn w181 Go.Proofs.Try.f181 (bodyOf Go.Proofs.Try.f181)) := by kernel_rfl
theorem f223_eq : fs 223 = some (mkFn {} Go.Proofs.Try.f223 (bodyOf Go.Proofs.Try.f223)) := by kernel_rfl
theorem f52_eq : fs 52 = some (mkFn {} Go.Proofs.Try.f52 (bodyOf Go.Proofs.Try.f52)) := by kernel_rfl
theorem f53_eq : fs 53 = some (mkFn {} Go.Proofs.Try.f53 (bodyOf Go.Proofs.Try.f53)) := by kernel_rfl
theorem f116_eq : fs 116 = some (mkFn w116 Go.Proofs.Try.f116 (bodyOf Go.Proofs.Try.f116)) := by kernel_rfl
theorem f117_eq : fs 117 = some (mkFn w117 Go.Proofs.Try.f117 (bodyOf Go.Proofs.Try.f117)) := by kernel_rfl
theorem f118_eq : fs 118 = some (mkFn {} Go.Proofs.Try.f118 (bodyOf Go.Proofs.Try.f118)) := by kernel_rfl
theorem f119_eq : fs 119 = some (mkFn w119 Go.Proofs.Try.f119 (bodyOf Go.Proofs.Try.f119)) := by kernel_rfl
theorem f193_eq : fs 193 = some (mkFn {} Go.Proofs.Try.f193 (bodyOf Go.Proofs.Try.f193)) := by kernel_rfl
theorem f194_eq : fs 194 = some (mkFn {} Go.Proofs.Try.f194 (bodyOf Go.Proofs.Try.f194)) := by kernel_rfl
theorem f195_eq : fs 195 = some (mkFn w195 Go.Proofs.Try.f195 (bodyOf Go.Proofs.Try.f195)) := by kernel_rfl
theorem f196_eq : fs 196 = some (mkFn {} Go.Proofs.Try.f196 (bodyOf Go.Proofs.Try.f196)) := by kernel_rfl
theorem f197_eq : fs 197 = some (mkFn w197 Go.Proofs.Try.f197 (bodyOf Go.Proofs.Try.f197)) := by kernel_rfl
theorem f233_eq : fs 233 = some (mkFn {} Go.Proofs.Try.f233 (bodyOf Go.Proofs.Try.f233)) := by kernel_rfl
end Go.Proofs.Ytlphdiccffnckaa

/- Loops over a list, and more rules for evaluating by rewriting. -/
namespace Go.Abs

/-- A fold that may stop. -/
def foldE {α σ ρ : Type} (f : Nat → σ → α → σ ⊕ ρ) : Nat → σ → List α → σ ⊕ ρ
  | _, s, [] => .inl s
  | i, s, x :: xs => match f i s x with
    | .inl s' => foldE f (i + 1) s' xs
    | .inr r => .inr r

theorem foldE_any {α ρ : Type} (p : α → Bool) (r : ρ) : ∀ (xs : List α) (i : Nat), foldE (fun _ (_ : Unit) x => if p x = true then .inr r else .inl ()) i () xs = if xs.any p = true then .inr r else .inl ()
  | [], _ => rfl
  | x :: xs, i => by
    simp only [foldE, List.any_cons]
    by_cases h : p x = true
    · simp [h]
    · simp [h, foldE_any p r xs (i + 1)]
theorem foldE_map {α β ρ : Type} (g : α → β) : ∀ (xs : List α) (i : Nat) (s : List β), foldE (ρ := ρ) (fun _ s x => .inl (s ++ [g x])) i s xs = .inl (s ++ xs.map g)
  | [], _, s => by simp [foldE]
  | x :: xs, i, s => by simp [foldE, foldE_map g xs]
theorem foldE_fold {α σ ρ : Type} (g : σ → α → σ) : ∀ (xs : List α) (i : Nat) (s : σ), foldE (ρ := ρ) (fun _ s x => .inl (g s x)) i s xs = .inl (xs.foldl g s)
  | [], _, s => by simp [foldE]
  | x :: xs, i, s => by simp [foldE, foldE_fold g xs]
theorem foldE_idx {α : Type} (p : α → Bool) : ∀ (xs : List α) (i : Nat), foldE (ρ := Nat) (fun i (_ : Unit) x => if p x = true then .inr i else .inl ()) i () xs = match xs.findIdx? p with
    | some j => .inr (i + j)
    | none => .inl ()
  | [], _ => rfl
  | x :: xs, i => by
    simp only [foldE, List.findIdx?_cons]
    by_cases h : p x = true
    · simp [h]
    · simp only [h, Bool.false_eq_true, if_false, foldE_idx p xs (i + 1)]
      cases xs.findIdx? p <;> simp
      omega
/-- Two lists of one length, compared element by element. -/
theorem foldE_eq {α : Type} [DecidableEq α] (ys : List α) : ∀ (xs : List α) (i : Nat), xs.length + i = ys.length → foldE (ρ := Unit) (fun i (_ : Unit) x => if some x = ys[i]? then .inl () else .inr ()) i () xs = if xs = ys.drop i then .inl () else .inr ()
  | [], i, h => by rw [List.drop_of_length_le (by simp at h; omega)]; rfl
  | x :: xs, i, h => by
    have hlt : i < ys.length := by simp at h; omega
    simp only [foldE]
    rw [List.drop_eq_getElem_cons hlt, List.getElem?_eq_getElem hlt]
    by_cases hx : x = ys[i]
    · rw [if_pos (by rw [hx])]
      simp only [foldE_eq ys xs (i + 1) (by simp at h; omega), List.cons.injEq, hx, true_and]
    · rw [if_neg (by simpa using hx), if_neg (fun e => hx (List.cons.inj e).1)]

theorem foldE_app {α σ ρ : Type} (f : Nat → σ → α → σ ⊕ ρ) (ys : List α) : ∀ (xs : List α) (i : Nat) (s : σ), foldE f i s (xs ++ ys) = match foldE f i s xs with
    | .inl s' => foldE f (i + xs.length) s' ys
    | .inr r => .inr r
  | [], i, s => rfl
  | x :: xs, i, s => by
    simp only [List.cons_append, foldE]
    cases f i s x with
    | inl s' => simp only [foldE_app f ys xs (i + 1) s', List.length_cons, show i + 1 + xs.length = i + (xs.length + 1) by omega]
    | inr r => rfl
theorem foldE_zip {α β γ ρ : Type} (g : α → β → γ) (d : β) (ys : List β) : ∀ (xs : List α) (i : Nat) (s : List γ), xs.length + i = ys.length → foldE (ρ := ρ) (fun i s x => .inl (s ++ [g x ((ys[i]?).getD d)])) i s xs = .inl (s ++ List.zipWith g xs (ys.drop i))
  | [], i, s, _ => by simp [foldE]
  | x :: xs, i, s, h => by
    have hlt : i < ys.length := by simp at h; omega
    simp only [foldE]
    rw [foldE_zip g d ys xs (i + 1) _ (by simp at h; omega), List.drop_eq_getElem_cons hlt, List.getElem?_eq_getElem hlt]
    simp only [Option.getD_some, List.zipWith_cons_cons, List.append_assoc, List.singleton_append]
/-- What is known of a state. -/
def Live : List (Nat × AV) → List Ent → Nat → St → Prop
  | [], H, b, st => st.H = H ∧ st.b = b
  | p :: l, H, b, st => st.tm.get p.1 = p.2 ∧ Live l H b st
theorem live_nil {H : List Ent} {b : Nat} {st : St} : Live [] H b st ↔ st.H = H ∧ st.b = b := Iff.rfl
theorem live_cons {t : Nat} {v : AV} {l : List (Nat × AV)} {H : List Ent} {b : Nat} {st : St} : Live ((t, v) :: l) H b st ↔ st.tm.get t = v ∧ Live l H b st := Iff.rfl
/-- The same, the entities aside. -/
def LiveT : List (Nat × AV) → Nat → St → Prop
  | [], b, st => st.b = b
  | p :: l, b, st => st.tm.get p.1 = p.2 ∧ LiveT l b st
theorem liveT_nil {b : Nat} {st : St} : LiveT [] b st ↔ st.b = b := Iff.rfl
theorem liveT_cons {t : Nat} {v : AV} {l : List (Nat × AV)} {b : Nat} {st : St} : LiveT ((t, v) :: l) b st ↔ st.tm.get t = v ∧ LiveT l b st := Iff.rfl
attribute [go_sem] live_nil live_cons liveT_nil liveT_cons

section
variable {E : Env} {C : CF} {Y : List YF} {w : Words}

theorem fold_step {α σ ρ : Type} {xs : List α} {f : Nat → σ → α → σ ⊕ ρ} {a : Code} {b : Nat} {ex : ρ → Ex} {I : Nat → σ → St → Prop} {J : σ → St → Prop} {K : ρ → St → Prop} (hex : ∀ r, ex r ≠ .normal)
    (hr : ∀ i s x st, xs[i]? = some x → I i s st → match f i s x with
      | .inl s' => ∃ st', dn E C Y w a st = some (.normal, st') ∧ I (i + 1) s' st'
      | .inr r => ∃ st', dn E C Y w a st = some (ex r, st') ∧ K r st')
    (he : ∀ s st, I xs.length s st → ∃ st', dn E C Y w a st = some (.exit b, st') ∧ J s st') :
    ∀ (n i : Nat) (s : σ) (st : St), i + n = xs.length → I i s st → ∃ st', match foldE f i s (xs.drop i) with
      | .inl s' => loopC E C Y w a st = some (.exit b, st') ∧ J s' st'
      | .inr r => loopC E C Y w a st = some (ex r, st') ∧ K r st'
  | 0, i, s, st, hi, h => by
    have hi' : i = xs.length := by omega
    subst hi'
    obtain ⟨st', h1, h2⟩ := he s st h
    refine ⟨st', ?_⟩
    rw [List.drop_length]
    refine ⟨?_, h2⟩
    rw [loopC_eq, h1]
    rfl
  | n + 1, i, s, st, hi, h => by
    have hlt : i < xs.length := by omega
    have hx : xs[i]? = some xs[i] := List.getElem?_eq_getElem hlt
    have := hr i s _ st hx h
    rw [List.drop_eq_getElem_cons hlt]
    simp only [foldE]
    cases hf : f i s xs[i] with
    | inl s' =>
      rw [hf] at this
      obtain ⟨st1, h1, h2⟩ := this
      obtain ⟨st', h3⟩ := fold_step hex hr he n (i + 1) s' st1 (by omega) h2
      refine ⟨st', ?_⟩
      have : loopC E C Y w a st = loopC E C Y w a st1 := by rw [loopC_eq, h1]; rfl
      rw [this]
      exact h3
    | inr r =>
      rw [hf] at this
      obtain ⟨st1, h1, h2⟩ := this
      refine ⟨st1, ?_, h2⟩
      rw [loopC_eq, h1]
      have := hex r
      cases hr : ex r <;> first | rfl | exact absurd hr this

theorem fold_loop {α σ ρ : Type} (xs : List α) (f : Nat → σ → α → σ ⊕ ρ) (s0 : σ) {a : Code} {b : Nat} {ex : ρ → Ex} (I : Nat → σ → St → Prop) (J : σ → St → Prop) (K : ρ → St → Prop)
    (hr : ∀ i s st (hi : i < xs.length), I i s st → match f i s xs[i] with
      | .inl s' => ∃ st', dn E C Y w a st = some (.normal, st') ∧ I (i + 1) s' st'
      | .inr r => ∃ st', dn E C Y w a st = some (ex r, st') ∧ K r st')
    (he : ∀ s st, I xs.length s st → ∃ st', dn E C Y w a st = some (.exit b, st') ∧ J s st') (hex : ∀ r, ex r ≠ .normal) :
    ∃ R : St → St, ∀ st, I 0 s0 st → match foldE f 0 s0 xs with
      | .inl s' => loopC E C Y w a st = some (.exit b, R st) ∧ J s' (R st)
      | .inr r => loopC E C Y w a st = some (ex r, R st) ∧ K r (R st) := by
  have := skol (A := True) (P := I 0 s0) (Q := fun st st' => match foldE f 0 s0 xs with
      | .inl s' => loopC E C Y w a st = some (.exit b, st') ∧ J s' st'
      | .inr r => loopC E C Y w a st = some (ex r, st') ∧ K r st')
    (fun _ st h => fold_step hex (fun i s x st hx h => by
      obtain ⟨hi, rfl⟩ := List.getElem?_eq_some_iff.1 hx
      exact hr i s st hi h) he xs.length 0 s0 st (by omega) h)
  obtain ⟨R, hR⟩ := this
  exact ⟨R, fun st h => hR trivial st h⟩

@[go_sem] theorem lit_lt (k n : Nat) : ((no_index (OfNat.ofNat k) : Int) < (n : Int)) = ((OfNat.ofNat k : Nat) < n) := propext Int.ofNat_lt
@[go_sem] theorem lt_lit (k n : Nat) : ((n : Int) < (no_index (OfNat.ofNat k) : Int)) = (n < (OfNat.ofNat k : Nat)) := propext Int.ofNat_lt
@[go_sem] theorem lit_le (k n : Nat) : ((no_index (OfNat.ofNat k) : Int) ≤ (n : Int)) = ((OfNat.ofNat k : Nat) ≤ n) := propext Int.ofNat_le
@[go_sem] theorem le_lit (k n : Nat) : ((n : Int) ≤ (no_index (OfNat.ofNat k) : Int)) = (n ≤ (OfNat.ofNat k : Nat)) := propext Int.ofNat_le
@[go_sem] theorem lit_eq (k n : Nat) : ((n : Int) = (no_index (OfNat.ofNat k) : Int)) = (n = (OfNat.ofNat k : Nat)) := propext Int.ofNat_inj
variable {T : TT} {H : List Ent} {b t : Nat}
@[go_sem] theorem wrap_succ {n : Nat} (h : n < 1000000000) : IntKind.wrap .i64 ((n : Int) + 1) = (n : Int) + 1 := wrap64 (by omega)
@[go_sem] theorem wrap_cast {n : Nat} (h : n < 1000000000) : IntKind.wrap .i64 (n : Int) = (n : Int) := wrap64 (by omega)
attribute [go_sem] aBuild fillA putAt
@[go_sem] theorem append_os {own : Bool} {k len vr : Nat} {x : AV} : aAppend T own b H t (.os k 0 len vr) x = match T.elem t with
    | none => none
    | some (z, eb) => match elemsOf H z x with
      | none => none
      | some (py, ys) => match H[k]? with
        | some (.own vr' z' xs) =>
          if vr = vr' ∧ z = z' ∧ len ≤ xs.length ∧ room (len + ys.length) eb = true ∧ (k < b → AV.pureLL ys = true) then
            some (.os k 0 (len + ys.length) (vr + 1), H.set k (.own (vr + 1) z (xs.take len ++ ys)))
          else none
        | _ => none := by
  unfold aAppend
  cases T.elem t with
  | none => rfl
  | some p =>
    obtain ⟨z, eb⟩ := p
    cases elemsOf H z x with
    | none => rfl
    | some q => rfl
@[go_sem] theorem opD_append {E : Env} {C : CF} {Y : List YF} {f : Fl} {tm : Slots} (x y : Operand) (t2 : Nat) : opD E C Y f (.call { callee := .builtin .append, args := #[x, y], argTypes := #[t, t2] }) tm b H =
    if (E.T.elem t2).isSome = true then okH (aAppend E.T (f == .own) b H t (aval E.G tm x) (aval E.G tm y)) else none := rfl
@[go_sem] theorem opD_copy {E : Env} {C : CF} {Y : List YF} {f : Fl} {tm : Slots} (x y : Operand) (t2 : Nat) : opD E C Y f (.call { callee := .builtin .copy, args := #[x, y], argTypes := #[t, t2] }) tm b H =
    okH (aCopy E.T b H t (aval E.G tm x) (aval E.G tm y)) := rfl
@[go_sem] theorem opD_max {E : Env} {C : CF} {Y : List YF} {f : Fl} {tm : Slots} (x y : Operand) (ts : Array TypeId) : opD E C Y f (.call { callee := .builtin .max, args := #[x, y], argTypes := ts }) tm b H = Go.Abs.ok H (aMax2 (aval E.G tm x) (aval E.G tm y)) := rfl
@[go_sem] theorem max2 {k : IntKind} {x y : Int} : aMax2 (.sc (.int k x)) (.sc (.int k y)) = some (.sc (.int k (if y > x then y else x))) := by simp [aMax2]
@[go_sem] theorem conv_int {k : IntKind} {n : Int} {s d : Nat} : aConv T s d (.sc (.int k n)) = if (T.size s).isSome then (T.int d).map fun k => .sc (.int k (k.wrap n)) else none := rfl
@[go_sem] theorem bin_rem {k : IntKind} {x y : Int} : aBin T .rem t (.sc (.int k x)) (.sc (.int k y)) = if y = 0 then none else some (.sc (.int k (x.tmod y))) := by
  by_cases h : y = 0 <;> simp [aBin, intBin, h]
@[go_sem] theorem bin_eqb {x y : Bool} : aBin T .eql t (.sc (.bool x)) (.sc (.bool y)) = if T.bool t = true then some (.sc (.bool (x == y))) else none := rfl
@[go_sem] theorem opD_extract {E : Env} {C : CF} {Y : List YF} {f : Fl} {tm : Slots} (x : Operand) (i : Nat) : opD E C Y f (.extract x i) tm b H = match aval E.G tm x with
    | .tup vs => Go.Abs.ok H vs[i]?
    | _ => none := rfl
@[go_sem] theorem opD_buildSlice {E : Env} {C : CF} {Y : List YF} {f : Fl} {tm : Slots} (n : Nat) (ps : List (Nat × Operand)) : opD E C Y f (.buildSlice t n ⟨ps⟩) tm b H =
    match E.T.ezero t with
    | none => none
    | some zs => match slLit E.T (f == .own) t n (ps.map fun p => (p.1, aval E.G tm p.2)) zs with
      | none => none
      | some (z, xs) => if f == .own then some (.val (.os H.length 0 n 0) (H ++ [.own 0 z xs])) else some (.val (.sl false z xs) H) := rfl
@[go_sem] theorem slLit_one {own : Bool} {v : AV} {zs : List Value} : slLit T own t 1 [(0, v)] zs = match T.elem t with
    | none => none
    | some (z, _) => if zs.length = z ∧ 0 < z ∧ z ≤ 16777216 ∧ (bif own then AV.still v else AV.pure v) = true ∧ AV.storable v = true ∧ v.cells.length = z then some (z, [v.cells]) else none := by
  unfold slLit
  cases T.elem t with
  | none => rfl
  | some p =>
    obtain ⟨z, eb⟩ := p
    simp only [Nat.one_mul]
    have hps : ((bif own then AV.stillL ([(0, v)].map (·.2)) else AV.pureL ([(0, v)].map (·.2))) = true) = ((bif own then AV.still v else AV.pure v) = true) := by
      cases own <;> simp [AV.stillL, AV.pureL]
    simp only [hps]
    have hlen : (List.replicate 1 (zs.map AV.sc)).flatten.length = zs.length := by simp
    simp only [fillA, Nat.zero_mul, Nat.zero_add, hlen]
    by_cases h : zs.length = z ∧ 0 < z ∧ z ≤ 16777216 ∧ (bif own then AV.still v else AV.pure v) = true
    · rw [if_pos h]
      by_cases h2 : v.cells.length = z ∧ AV.storable v = true
      · rw [if_pos ⟨h2.1, h2.2, by omega⟩, if_pos ⟨h.1, h.2.1, h.2.2.1, h.2.2.2, h2.2, h2.1⟩]
        simp only [Option.map_some, putAt, List.take_zero, List.nil_append, Nat.zero_add]
        rw [List.drop_of_length_le (by omega), List.append_nil]
        simp [Go.Abs.chunks, ← h2.1]
      · rw [if_neg (fun hh => h2 ⟨hh.1, hh.2.1⟩), if_neg (fun hh => h2 ⟨hh.2.2.2.2.2, hh.2.2.2.2.1⟩)]
        rfl
    · rw [if_neg h, if_neg (fun hh => h ⟨hh.1, hh.2.1, hh.2.2.1, hh.2.2.2.1⟩)]
@[go_sem] theorem elems_sl {f : Bool} {z z' : Nat} {xs : List (List AV)} : elemsOf H z (.sl f z' xs) = if z = z' then some (true, xs) else none := rfl
@[go_sem] theorem elems_nil {z : Nat} : elemsOf H z (.sc (.slice none 0 0)) = some (true, []) := rfl
@[go_sem] theorem elems_os {z k off len vr : Nat} : elemsOf H z (.os k off len vr) = match snap H (.os k off len vr) with
    | some (p, z', xs) => if z = z' then some (p, xs) else none
    | none => none := rfl
@[go_sem] theorem snap_os {k off len vr : Nat} : snap H (.os k off len vr) = match H[k]? with
    | some (.own vr' z xs) => if vr = vr' ∧ off + len ≤ xs.length then some (AV.pureLL ((xs.drop off).take len), z, (xs.drop off).take len) else none
    | _ => none := rfl
@[go_sem] theorem snap_sl {f : Bool} {z : Nat} {xs : List (List AV)} : snap H (.sl f z xs) = some (true, z, xs) := rfl
theorem room_ok {n eb : Nat} (h : n ≤ 1000000000) (h0 : 0 < eb) (h1 : eb ≤ 100000) : room n eb = true := by
  unfold room
  have : n * eb ≤ 1000000000 * 100000 := Nat.mul_le_mul h h1
  simp
  omega
@[go_sem] theorem len_os {k off len vr : Nat} : aLen T H t (.os k off len vr) = match T.arr t with
    | some (n, _, _) => some (.sc (.int .i64 n))
    | none => match T.elem t with
      | none => none
      | some _ => match H[k]? with
        | some (.own vr' _ _) => if vr = vr' then some (.sc (.int .i64 len)) else none
        | _ => none := rfl
@[go_sem] theorem len_nil : aLen T H t (.sc (.slice none 0 0)) = match T.arr t with
    | some (n, _, _) => some (.sc (.int .i64 n))
    | none => match T.elem t with
      | none => none
      | some _ => some (.sc (.int .i64 0)) := rfl
@[go_sem] theorem make_own {f : Bool} {l c : Int} {zs : List Value} : aMake T f H t (.sc (.int .i64 l)) (.sc (.int .i64 c)) (some zs) = match T.elem t with
    | some (z, eb) => if 0 ≤ l ∧ l ≤ c ∧ c ≤ 1099511627776 ∧ zs.length = z ∧ 0 < z ∧ room c.toNat eb = true then
        if f = true then some (.os H.length 0 l.toNat 0, H ++ [.own 0 z (List.replicate l.toNat (zs.map .sc))])
        else if l = c then some (.sl false z (List.replicate l.toNat (zs.map .sc)), H) else none
      else none
    | none => none := by
  unfold aMake
  cases T.elem t with
  | none => rfl
  | some p => cases f <;> rfl
@[go_sem] theorem ghost_own {s z : Nat} {st : St} : ghost (.own s z) st = if isNilSl (st.tm.get s) = true ∧ 0 < z then some { st with tm := (s, .os st.H.length 0 0 0) :: st.tm, H := st.H ++ [.own 0 z []] } else none := rfl
@[go_sem] theorem isNil_nil : isNilSl (.sc (.slice none 0 0)) = true := rfl
@[go_sem] theorem call_non {E : Env} {C : CF} {Y : List YF} {g : Nat} {caps args : List AV} : aCallFn C Y .non H (.fn g caps) args =
    if (AV.pureL args && AV.pureL caps) = true then
        match C g (args ++ caps) [] [] with
        | some (.ret v, H1) => match bareRet H1 v with
          | some v' => some (.val v' H)
          | none => none
        | some (.pan v, _) => if AV.pure v = true then some (.pan v H) else none
        | none => none
      else none := rfl
@[go_sem] theorem call_cln {E : Env} {C : CF} {Y : List YF} {g z : Nat} {f : Bool} {caps : List AV} : aCallFn C Y .cln H (.fn g caps) [.sl f z []] =
    if AV.pureL caps = true then if (askEmpty C g (.nsl true z :: caps) && askEmpty C g (.nsl false z :: caps)) = true then some (.val (.sl false z []) H) else none else none := rfl
theorem call_cln_cons {C : CF} {Y : List YF} {g z : Nat} {f : Bool} {x : List AV} {xs : List (List AV)} {caps : List AV} : aCallFn C Y .cln H (.fn g caps) [.sl f z (x :: xs)] = if AV.pureL caps = true then bareCall C g (.sl f z (x :: xs) :: caps) H else none := rfl
theorem call_cln_nil {C : CF} {Y : List YF} {g : Nat} {v : Value} {caps : List AV} : aCallFn C Y .cln H (.fn g caps) [.sc v] = if AV.pureL caps = true then bareCall C g (.sc v :: caps) H else none := rfl
@[go_sem] theorem elems_nsl {n : Bool} {z z' : Nat} : elemsOf H z (.nsl n z') = if z = z' then some (true, []) else none := rfl
@[go_sem] theorem eql_nsl {n : Bool} {z : Nat} : aBin T .eql t (.nsl n z) (.sc (.slice none 0 0)) = if (T.elem t).isSome = true then some (.sc (.bool n)) else none := rfl
@[go_sem] theorem call_gen {C : CF} {Y : List YF} {g : Nat} {caps args : List AV} : aCallFn C Y .gen H (.fn g caps) args = outR (C g (args ++ caps) H Y) := rfl
@[go_sem] theorem outR_ret {v : AV} : outR (some (.ret v, H)) = some (.val v H) := rfl
theorem bareRet_pure {v : AV} (h : AV.pure v = true) : bareRet H v = some v := by unfold bareRet; rw [if_pos h]
@[go_sem] theorem bareRet_sc {v : Value} : bareRet H (.sc v) = some (.sc v) := rfl
@[go_sem] theorem bareRet_sl {f : Bool} {z : Nat} {xs : List (List AV)} : bareRet H (.sl f z xs) = some (.sl f z xs) := rfl
@[go_sem] theorem bareRet_tup {vs : List AV} (h : AV.pureL vs = true) : bareRet H (.tup vs) = some (.tup vs) := bareRet_pure (by simpa [AV.pure] using h)
@[go_sem] theorem bareRet_agg {vs : List AV} (h : AV.pureL vs = true) : bareRet H (.agg vs) = some (.agg vs) := bareRet_pure (by simpa [AV.pure] using h)
@[go_sem] theorem pureLL_nil : AV.pureLL [] = true := rfl
@[go_sem] theorem pureLL_cons {x : List AV} {xs : List (List AV)} : AV.pureLL (x :: xs) = (AV.pureL x && AV.pureLL xs) := rfl
theorem pureLL_map {α : Type} {f : α → List AV} (h : ∀ a, AV.pureL (f a) = true) : ∀ (l : List α), AV.pureLL (l.map f) = true
  | [] => rfl
  | x :: l => by simp [AV.pureLL, h x, pureLL_map h l]
theorem pureLL_app : ∀ {xs ys : List (List AV)}, AV.pureLL xs = true → AV.pureLL ys = true → AV.pureLL (xs ++ ys) = true
  | [], _, _, h => h
  | x :: xs, ys, h, h' => by
    simp only [AV.pureLL, List.cons_append, Bool.and_eq_true] at h ⊢
    exact ⟨h.1, pureLL_app h.2 h'⟩
@[go_sem] theorem index_os {k off len vr : Nat} {kk : IntKind} {j : Int} : aIndexAddr T H t (.os k off len vr) (.sc (.int kk j)) = if j < 0 then none else match T.elem t, H[k]? with
    | some (z', _), some (.own vr' z xs) => if z = z' ∧ vr = vr' ∧ j.toNat < len ∧ off + j.toNat < xs.length then some (.op k (off + j.toNat) 0 vr) else none
    | _, _ => none := rfl
@[go_sem] theorem load_op {k i off vr : Nat} : aLoad T H t (.op k i off vr) = match T.size t with
    | none => none
    | some (n, g) => match H[k]? with
      | some (.own vr' _ xs) => if vr = vr' then match xs[i]? with
        | some x => valOf n g (x.drop off)
        | none => none else none
      | _ => none := rfl
@[go_sem] theorem alive_op {k i off vr : Nat} : alive H (.op k i off vr) = match H[k]? with
    | some (.own vr' _ _) => Nat.beq vr vr'
    | _ => false := rfl
@[go_sem] theorem shift_op {k i off vr d : Nat} : (AV.op k i off vr).shift d = .op k i (off + d) vr := rfl
@[go_sem] theorem nat_beq_self (n : Nat) : Nat.beq n n = true := Nat.beq_refl n
@[go_sem] theorem store_bp {k off : Nat} {v : AV} : aStore T b H t (.bp k off) v = match T.size t with
    | none => none
    | some (n, _) => if v.cells.length = n ∧ AV.storable v = true then match H[k]? with
        | some (.box cs) => if off + n ≤ cs.length ∧ AV.still v = true ∧ (k < b → refCells v.cells (cs.drop off) = true) then some (H.set k (.box (putAt off v.cells cs))) else none
        | _ => none else none := rfl
@[go_sem] theorem store_op {k i off vr : Nat} {v : AV} : aStore T b H t (.op k i off vr) v = match T.size t with
    | none => none
    | some (n, _) => if v.cells.length = n ∧ AV.storable v = true then match H[k]? with
        | some (.own vr' z xs) => if vr = vr' then match xs[i]? with
          | some x => if off + n ≤ x.length ∧ AV.still v = true ∧ (k < b → refCells v.cells (x.drop off) = true) then some (H.set k (.own vr' z (xs.set i (putAt off v.cells x)))) else none
          | none => none else none
        | _ => none else none := rfl
@[go_sem] theorem putAt_zero {vs cs : List AV} : putAt 0 vs cs = vs ++ cs.drop vs.length := by simp [putAt]
theorem putAt_all {vs cs : List AV} (h : cs.length ≤ vs.length) : putAt 0 vs cs = vs := by simp [putAt, List.drop_of_length_le h]
@[go_sem] theorem slice_sl {f : Bool} {z : Nat} {xs : List (List AV)} {lo hi : Option AV} : aSlice T H t (.sl f z xs) lo hi none = match T.arr t with
    | some _ => none
    | none => match T.elem t with
      | none => none
      | some (z', _) => match bound 0 lo, bound xs.length hi with
        | some l, some h => if z' = z ∧ l ≤ h ∧ h ≤ xs.length then some (.sl (f && Nat.beq h xs.length) z' ((xs.drop l).take (h - l))) else none
        | _, _ => none := by
  unfold aSlice
  cases T.arr t with
  | some p =>
    obtain ⟨n, z, g⟩ := p
    simp only
    cases bound 0 lo with
    | none => rfl
    | some l => cases bound n hi <;> rfl
  | none =>
    simp only
    cases T.elem t with
    | none => rfl
    | some p =>
      obtain ⟨z', eb⟩ := p
      simp only
      cases bound 0 lo with
      | none => rfl
      | some l => cases bound xs.length hi <;> rfl
@[go_sem] theorem slice_os {k off len vr : Nat} {lo hi : Option AV} : aSlice T H t (.os k off len vr) lo hi none = match T.arr t with
    | some _ => none
    | none => match T.elem t with
      | none => none
      | some (z', _) => match H[k]? with
        | some (.own vr' z xs) => match bound 0 lo, bound len hi with
          | some l, some h => if vr = vr' ∧ z' = z ∧ l ≤ h ∧ h ≤ len ∧ off + len ≤ xs.length then
              if l = 0 then some (.os k off h vr) else if l < h then some (.os k (off + l) (h - l) vr) else some (.sl false z' []) else none
          | _, _ => none
        | _ => none := by
  unfold aSlice
  cases T.arr t with
  | some p =>
    obtain ⟨n, z, g⟩ := p
    simp only
    cases bound 0 lo with
    | none => rfl
    | some l => cases bound n hi <;> rfl
  | none =>
    simp only
    cases T.elem t with
    | none => rfl
    | some p =>
      obtain ⟨z', eb⟩ := p
      simp only
      cases H[k]? with
      | none => rfl
      | some e => cases e with
        | own vr' z xs =>
          simp only
          cases bound 0 lo with
          | none => rfl
          | some l => cases bound len hi <;> rfl
        | _ => rfl
@[go_sem] theorem bound_none {d : Nat} : bound d none = some d := rfl
@[go_sem] theorem bound_some {d : Nat} {k : IntKind} {i : Int} : bound d (some (.sc (.int k i))) = if 0 ≤ i then some i.toNat else none := rfl
@[go_sem] theorem copy_os {k off len vr : Nat} {src : AV} : aCopy T b H t (.os k off len vr) src = match T.elem t with
    | none => none
    | some (z, _) => match elemsOf H z src with
      | none => none
      | some (py, ys) => match H[k]? with
        | some (.own vr' z' xs) => if vr = vr' ∧ z = z' ∧ off + len ≤ xs.length ∧ 0 < z ∧ (k < b → AV.pureLL ys = true) then
            some (.sc (.int .i64 ((min ys.length len : Nat) : Int)), H.set k (.own vr z (xs.take off ++ overlay (ys.take len) (xs.drop off)))) else none
        | _ => none := rfl
@[go_sem] theorem slLit_none {own : Bool} {zs : List Value} : slLit T own t 0 [] zs = match T.elem t with
    | none => none
    | some (z, _) => if zs.length = z ∧ 0 < z then some (z, []) else none := by
  unfold slLit
  cases T.elem t with
  | none => rfl
  | some p =>
    obtain ⟨z, eb⟩ := p
    cases own <;> simp only [List.map_nil, AV.stillL, AV.pureL, cond_true, cond_false, Nat.zero_mul, Nat.zero_le, and_true, true_and, fillA, Option.map_some, List.replicate_zero, List.flatten_nil, Go.Abs.chunks]
@[go_sem] theorem eql_cons {f : Bool} {z : Nat} {x : List AV} {xs : List (List AV)} : aBin T .eql t (.sl f z (x :: xs)) (.sc (.slice none 0 0)) = if (T.elem t).isSome = true then some (.sc (.bool false)) else none := rfl
@[go_sem] theorem eql_nil : aBin T .eql t (.sc (.slice none 0 0)) (.sc (.slice none 0 0)) = if (T.elem t).isSome = true then some (.sc (.bool true)) else none := rfl
@[go_sem] theorem append_nil {x : AV} : aAppend T true b H t (.sc (.slice none 0 0)) x = match T.elem t with
    | none => none
    | some (z, eb) => match elemsOf H z x with
      | none => none
      | some (_, ys) => if 0 < z ∧ room ys.length eb = true then some (.os H.length 0 ys.length 0, H ++ [.own 0 z ys]) else none := by
  unfold aAppend
  cases T.elem t with
  | none => rfl
  | some p =>
    obtain ⟨z, eb⟩ := p
    simp only
    cases elemsOf H z x with
    | none => rfl
    | some q =>
      obtain ⟨py, ys⟩ := q
      simp [isNilSl]
@[go_sem] theorem append_nil_plain {x : AV} : aAppend T false b H t (.sc (.slice none 0 0)) x = match T.elem t with
    | none => none
    | some (z, eb) => match elemsOf H z x with
      | none => none
      | some (py, ys) => if 0 < z ∧ room ys.length eb = true ∧ py = true then some (.sl false z ys, H) else none := by
  unfold aAppend
  cases T.elem t with
  | none => rfl
  | some p =>
    obtain ⟨z, eb⟩ := p
    simp only
    cases elemsOf H z x with
    | none => rfl
    | some q =>
      obtain ⟨py, ys⟩ := q
      cases py <;> simp [isNilSl]
theorem freeze_row {bb d z : Nat} (l : List (List AV)) (h : AV.pureLL l = true) : mapO (fun x => if AV.pureL x = true then some x else (mapO (AV.freeze bb H d) x).bind fun y => if AV.pureL y = true then some y else none) l = some l := by
  induction l with
  | nil => rfl
  | cons x l ih =>
    simp only [AV.pureLL, Bool.and_eq_true] at h
    simp only [mapO]
    rw [if_pos h.1, ih h.2]
    rfl
theorem pureLL_take : ∀ {n : Nat} {xs : List (List AV)}, AV.pureLL xs = true → AV.pureLL (xs.take n) = true
  | 0, _, _ => rfl
  | n + 1, [], _ => rfl
  | n + 1, x :: xs, h => by
    simp only [AV.pureLL, Bool.and_eq_true, List.take_succ_cons] at h ⊢
    exact ⟨h.1, pureLL_take h.2⟩
def freezeE := AV.freeze
/-- An owned slice whose rows lead nowhere, handed back. -/
theorem freeze_os {bb k len vr d : Nat} : AV.freeze bb H (d + 1) (.os k 0 len vr) = match H[k]? with
    | some (.own vr' z xs) => if bb ≤ k ∧ vr = vr' ∧ len ≤ xs.length ∧ AV.pureLL xs = true then some (.sl false z (xs.take len)) else freezeE bb H (d + 1) (.os k 0 len vr)
    | _ => freezeE bb H (d + 1) (.os k 0 len vr) := by
  split
  · rename_i vr' z xs hH
    split
    · rename_i h
      obtain ⟨hk, rfl, hl, hp⟩ := h
      unfold AV.freeze
      simp only [if_neg (show ¬ k < bb by omega)]
      rw [snap_os, hH]
      simp only [Nat.zero_add, true_and, if_pos hl, Option.bind_some, List.drop_zero]
      rw [freeze_row (z := z) _ (pureLL_take hp)]
      rfl
    · rfl
  · rfl
@[go_sem] theorem freeze_tup {bb d : Nat} {cs : List AV} : AV.freeze bb H (d + 1) (.tup cs) = (mapO (AV.freeze bb H d) cs).map .tup := by rw [AV.freeze]
@[go_sem] theorem freeze_agg {bb d : Nat} {cs : List AV} : AV.freeze bb H (d + 1) (.agg cs) = (mapO (AV.freeze bb H d) cs).map .agg := by rw [AV.freeze]
@[go_sem] theorem freeze_sc {bb d : Nat} {v : Value} : AV.freeze bb H (d + 1) (.sc v) = some (.sc v) := by rw [AV.freeze] <;> first | rfl | simp
@[go_sem] theorem freeze_sl {bb d z : Nat} {f : Bool} {xs : List (List AV)} : AV.freeze bb H (d + 1) (.sl f z xs) = some (.sl f z xs) := by rw [AV.freeze] <;> first | rfl | simp
@[go_sem] theorem mapO_nil {α β : Type} {f : α → Option β} : mapO f [] = some [] := rfl
@[go_sem] theorem mapO_cons {α β : Type} {f : α → Option β} {x : α} {xs : List α} : mapO f (x :: xs) = (f x).bind fun y => (mapO f xs).map (y :: ·) := rfl
theorem take_map_len {α β : Type} (f : α → β) (l : List α) : (l.map f).take l.length = l.map f := List.take_of_length_le (by simp)
attribute [go_sem] take_map_len pureLL_map
/-- The ranges over functions of a piece of code: the assignment, the body. -/
def rangesOf : Code → List (Code × Code)
  | .seq a b => rangesOf a ++ rangesOf b
  | .cond _ a b => rangesOf a ++ rangesOf b
  | .block _ a => rangesOf a
  | .loop a => rangesOf a
  | .rangeFunc _ _ a b => (a, b) :: (rangesOf a ++ rangesOf b)
  | _ => []
@[go_sem ↓] theorem dn_rangeFunc {E : Env} {C : CF} {Y : List YF} {w : Words} {st : St} (f : Operand) (ps : List Nat) (a b : Code) : dn E C Y w (.rangeFunc f ⟨ps⟩ a b) st = rangeFn C Y (aval E.G st.tm f) ps (dn E C Y w a) (dn E C Y w b) st := rfl
@[go_sem] theorem call_yl {C : CF} {Y : List YF} {f : Fl} {j : Nat} {args : List AV} : aCallFn C Y f H (.yl j) args = match Y[j]? with
    | some y => outR (y args H)
    | none => none := rfl
@[go_sem] theorem ghost_ownAt {s off z : Nat} {st : St} : ghost (.ownAt s off z) st = match st.tm.get s with
    | .bp k o => match st.H[k]? with
      | some (.box cs) => match cs[o + off]? with
        | some v => if isNilSl v ∧ 0 < z ∧ st.b ≤ k then some { st with H := st.H.set k (.box (cs.set (o + off) (.os st.H.length 0 0 0))) ++ [.own 0 z []] } else none
        | none => none
      | _ => none
    | _ => none := rfl
end
end Go.Abs

/- Layer 7: sizes. -/
namespace Go.Proofs.Ytlphdiccffnckaa
open Go Go.Abs

@[go_sem] def zI (n : Int) : AV := .sc (.int .i64 n)
@[go_sem] def zB (b : Bool) : AV := .sc (.bool b)
@[go_sem] def zInts (xs : List Int) : AV := .sl false 1 (xs.map fun n => [.sc (.int .i64 n)])
/-- A sector: eight bytes. -/
abbrev Sec := { l : List Int // l.length = 8 }
abbrev Vol := List Sec
abbrev Img := List Vol
def secRow (s : Sec) : List AV := s.1.map fun b => .sc (.int .u8 b)
@[go_sem] theorem secRow_len (s : Sec) : (secRow s).length = 8 := by simp [secRow, s.2]
@[go_sem] theorem secRow_take (s : Sec) : (secRow s).take 8 = secRow s := List.take_of_length_le (by simp [secRow_len])
theorem pureL_ints : ∀ (k : IntKind) (l : List Int), AV.pureL (l.map fun b => .sc (.int k b)) = true
  | _, [] => rfl
  | k, _ :: l => by simp only [List.map_cons, AV.pureL, AV.pure, Bool.true_and]; exact pureL_ints k l
theorem stillL_ints : ∀ (k : IntKind) (l : List Int), AV.stillL (l.map fun b => .sc (.int k b)) = true
  | _, [] => rfl
  | k, _ :: l => by simp only [List.map_cons, AV.stillL, AV.still, Bool.true_and]; exact stillL_ints k l
@[go_sem] theorem secRow_pure (s : Sec) : AV.pureL (secRow s) = true := pureL_ints _ _
@[go_sem] theorem secRow_still (s : Sec) : AV.stillL (secRow s) = true := stillL_ints _ _
theorem aggEq_ints (k : IntKind) : ∀ (a b : List Int), a.length = b.length → aggEq (a.map fun x => .sc (.int k x)) (b.map fun x => .sc (.int k x)) = some (decide (a = b))
  | [], [], _ => rfl
  | [], _ :: _, h => by simp at h
  | _ :: _, [], h => by simp at h
  | x :: a, y :: b, h => by
    simp only [List.map_cons, aggEq, scEq, if_true, Option.bind_some, aggEq_ints k a b (by simpa using h), Option.map_some]
    congr 1
    by_cases h1 : x = y <;> by_cases h2 : a = b <;> simp [h1, h2]
theorem secRow_eq (a b : Sec) : aggEq (secRow a) (secRow b) = some (decide (a = b)) := by
  unfold secRow
  rw [aggEq_ints _ _ _ (by rw [a.2, b.2])]
  congr 1
  simp [Subtype.ext_iff]
theorem shape_ints (k : IntKind) : ∀ (l : List Int), shapeOk (List.replicate l.length true) (l.map fun x => .sc (.int k x)) = true
  | [] => rfl
  | _ :: l => shape_ints k l
theorem shape_sec (s : Sec) : eqShape (ev.T.eqc 52) (secRow s) = true := by
  have h : ev.T.eqc 52 = some (List.replicate s.1.length true) := by rw [s.2]; rfl
  rw [h]
  exact shape_ints _ _
@[go_sem] theorem neq_sec (a b : Sec) : aBin ev.T .neq 52 (.agg (secRow a)) (.agg (secRow b)) = some (.sc (.bool (!decide (a = b)))) := by
  simp only [aBin, shape_sec, if_true, secRow_eq, Option.map_some]
@[go_sem] theorem eql_sec (a b : Sec) : aBin ev.T .eql 52 (.agg (secRow a)) (.agg (secRow b)) = some (.sc (.bool (decide (a = b)))) := by
  simp only [aBin, shape_sec, if_true, secRow_eq, Option.map_some]
@[go_sem] def zVol (v : Vol) : AV := .sl false 8 (v.map secRow)
@[go_sem] def zImg (im : Img) : AV := .sl false 1 (im.map fun v => [.sl false 8 (v.map secRow)])

def mFew (im : Img) : Bool := decide (im.length ≤ 9) && im.all fun v => decide (v.length ≤ 24)

theorem f19_spec (im : Img) (Y : List YF) : callS ev fs 19 [zImg im] [] Y = some (.ret (zB (mFew im)), []) := by
  refine callS_by f19_eq rfl ?_
  simp only [bodyOf, Go.Proofs.Try.f19, Option.getD_some]
  by_cases h1 : 9 < im.length
  · have hm : mFew im = false := by simp [mFew]; omega
    simp [go_sem, h1, hm]
  have hm : mFew im = !im.any fun v => decide (24 < v.length) := by
    simp only [mFew, show im.length ≤ 9 by omega, decide_true, Bool.true_and, List.not_any_eq_all_not]
    congr 1
    funext v
    rw [← decide_not]
    simp
  obtain ⟨R, hR⟩ := fold_loop (E := ev) (C := callS ev fs) (Y := Y) (w := {}) (a := (loopsOf (bodyOf Go.Proofs.Try.f19))[0]?.getD .skip) (b := 0) 
    im (fun _ (_ : Unit) v => if decide (24 < v.length) = true then .inr () else .inl ()) () (ex := fun _ => .ret)
    (fun i _ => Live [(0, zImg im), (3, zI i)] [] 0) (fun _ => Live [] [] 0) (fun _ => Live [(2, zB false)] [] 0)
    (fun i s st hi h => by
      obtain ⟨tm, H, b⟩ := st
      simp only [bodyOf, Go.Proofs.Try.f19, Option.getD_some, loopsOf, rangesOf, List.nil_append, List.append_nil, List.cons_append, List.getElem?_cons_zero, List.getElem?_cons_succ]
      simp only [go_sem] at h
      obtain ⟨h0, h3, rfl, rfl⟩ := h
      by_cases hp : 24 < im[i].length
      · simp [go_sem, h0, h3, hi, hp]
      · simp [go_sem, h0, h3, hi, hp, show i < 1000000000 by omega])
    (fun s st h => by
      obtain ⟨tm, H, b⟩ := st
      simp only [bodyOf, Go.Proofs.Try.f19, Option.getD_some, loopsOf, rangesOf, List.nil_append, List.append_nil, List.cons_append, List.getElem?_cons_zero, List.getElem?_cons_succ]
      simp only [go_sem] at h
      obtain ⟨h0, h3, rfl, rfl⟩ := h
      simp [go_sem, h0, h3])
    (fun _ h => by cases h)
  simp only [bodyOf, Go.Proofs.Try.f19, Option.getD_some, loopsOf, rangesOf, List.nil_append, List.append_nil, List.cons_append, List.getElem?_cons_zero, List.getElem?_cons_succ] at hR
  rw [foldE_any] at hR
  rw [hm]
  generalize im.any (fun v => decide (24 < v.length)) = r at hR ⊢
  cases r <;> simp [go_sem] at hR <;> simp [go_sem, h1, hR]

/-- The index of the first element of which a function says true. -/
theorem f85_spec (xs : List Int) (g : Nat) (caps : List AV) (p : Int → Bool) (hc : AV.pureL caps = true) (hl : xs.length < 1000000000)
    (hg : ∀ x ∈ xs, callS ev fs g (zI x :: caps) [] [] = some (.ret (zB (p x)), [])) (Y : List YF) :
    callS ev fs 85 [zInts xs, .fn g caps] [] Y = some (.ret (zI (match xs.findIdx? p with | some j => (j : Int) | none => -1)), []) := by
  refine callS_by f85_eq rfl ?_
  simp only [bodyOf, Go.Proofs.Try.f85, Option.getD_some]
  obtain ⟨R, hR⟩ := fold_loop (E := ev) (C := callS ev fs) (Y := Y) (w := {}) (a := (loopsOf (bodyOf Go.Proofs.Try.f85))[0]?.getD .skip) (b := 0) 
    xs (fun i (_ : Unit) x => if p x = true then .inr i else .inl ()) () (ex := fun _ => .ret)
    (fun i _ => Live [(0, zInts xs), (1, .fn g caps), (7, zI xs.length), (8, zI i)] [] 0) (fun _ => Live [] [] 0) (fun j => Live [(4, zI j)] [] 0)
    (fun i s st hi h => by
      obtain ⟨tm, H, b⟩ := st
      simp only [bodyOf, Go.Proofs.Try.f85, Option.getD_some, loopsOf, rangesOf, List.nil_append, List.append_nil, List.cons_append, List.getElem?_cons_zero, List.getElem?_cons_succ]
      simp only [go_sem] at h
      obtain ⟨h0, h1, h7, h8, rfl, rfl⟩ := h
      have hgx := hg xs[i] (List.getElem_mem hi)
      simp only [go_sem] at hgx
      cases hp : p xs[i] <;> simp [go_sem, h0, h1, h7, h8, hi, hp, hgx, hc, show i < 1000000000 by omega])
    (fun s st h => by
      obtain ⟨tm, H, b⟩ := st
      simp only [bodyOf, Go.Proofs.Try.f85, Option.getD_some, loopsOf, rangesOf, List.nil_append, List.append_nil, List.cons_append, List.getElem?_cons_zero, List.getElem?_cons_succ]
      simp only [go_sem] at h
      obtain ⟨h0, h1, h7, h8, rfl, rfl⟩ := h
      simp [go_sem, h0, h1, h7, h8])
    (fun _ h => by cases h)
  simp only [bodyOf, Go.Proofs.Try.f85, Option.getD_some, loopsOf, rangesOf, List.nil_append, List.append_nil, List.cons_append, List.getElem?_cons_zero, List.getElem?_cons_succ] at hR
  rw [foldE_idx] at hR
  cases hf : xs.findIdx? p <;> simp [go_sem, hf] at hR <;> simp [go_sem, hR]

theorem f20_spec (xs : List Int) (g : Nat) (caps : List AV) (p : Int → Bool) (hc : AV.pureL caps = true) (hl : xs.length < 1000000000)
    (hg : ∀ x ∈ xs, callS ev fs g (zI x :: caps) [] [] = some (.ret (zB (p x)), [])) (Y : List YF) :
    callS ev fs 20 [zInts xs, .fn g caps] [] Y = some (.ret (zB (xs.any p)), []) := by
  refine callS_by f20_eq rfl ?_
  simp only [bodyOf, Go.Proofs.Try.f20, Option.getD_some]
  have h := f85_spec xs g caps p hc hl hg []
  simp only [go_sem] at h
  have hm : xs.any p = (xs.findIdx? p).isSome := by rw [List.findIdx?_isSome]
  rw [hm]
  cases hf : xs.findIdx? p <;> simp [go_sem, hf] at h <;> simp [go_sem, h, hc]

theorem f21_spec (n : Int) (Y : List YF) : callS ev fs 21 [zI n] [] Y = some (.ret (zB (decide (100 < n) && decide (n < 4096))), []) := by
  refine callS_by f21_eq rfl ?_
  simp only [bodyOf, Go.Proofs.Try.f21, Option.getD_some]
  by_cases h1 : 100 < n
  · by_cases h2 : n < 4096 <;> simp [go_sem, h1, h2]
  · simp [go_sem, h1]

def badSize (n : Int) : Bool := decide (n < 1) || decide (4096 < n)
theorem f176_spec (n : Int) (Y : List YF) : callS ev fs 176 [zI n] [] Y = some (.ret (zB (badSize n)), []) := by
  refine callS_by f176_eq rfl ?_
  simp only [bodyOf, Go.Proofs.Try.f176, Option.getD_some]
  by_cases h1 : n < 1
  · simp [go_sem, h1, badSize]
  · by_cases h2 : 4096 < n <;> simp [go_sem, h1, h2, badSize]

def mSizes (xs : List Int) : Int := if xs.length < 1 ∨ xs.length > 8 then 6 else if xs.any badSize then 2 else 0
theorem mSizes_many {xs : List Int} (h : xs.length < 1 ∨ 8 < xs.length) : mSizes xs = 6 := if_pos h
theorem mSizes_fit {xs : List Int} (h1 : ¬ xs.length < 1) (h2 : ¬ 8 < xs.length) : mSizes xs = if xs.any badSize then 2 else 0 := if_neg (by omega)

theorem f88_spec (xs : List Int) (Y : List YF) : callS ev fs 88 [zInts xs] [] Y = some (.ret (zI (mSizes xs)), []) := by
  refine callS_by f88_eq rfl ?_
  simp only [bodyOf, Go.Proofs.Try.f88, Option.getD_some]
  by_cases h1 : xs.length < 1
  · simp [go_sem, h1, mSizes_many (.inl h1)]
  by_cases h2 : 8 < xs.length
  · simp [go_sem, h1, h2, mSizes_many (.inr h2)]
  have h := f20_spec xs 176 [] badSize rfl (by omega) (fun x _ => f176_spec x []) []
  simp only [go_sem] at h
  rw [mSizes_fit h1 h2]
  cases hb : xs.any badSize <;> rw [hb] at h <;> simp [go_sem, h1, h2, h]

theorem f91_spec (xs : List Int) (Y : List YF) : callS ev fs 91 [zInts xs] [] Y = some (.ret (zI (mSizes xs)), []) := by
  refine callS_by f91_eq rfl ?_
  simp only [bodyOf, Go.Proofs.Try.f91, Option.getD_some]
  by_cases h1 : xs.length < 1
  · simp [go_sem, h1, mSizes_many (.inl h1)]
  by_cases h2 : 8 < xs.length
  · simp [go_sem, h1, h2, mSizes_many (.inr h2)]
  obtain ⟨R, hR⟩ := fold_loop (E := ev) (C := callS ev fs) (Y := Y) (w := {}) (a := (loopsOf (bodyOf Go.Proofs.Try.f91))[0]?.getD .skip) (b := 0) 
    xs (fun _ (_ : Unit) x => if badSize x = true then .inr () else .inl ()) () (ex := fun _ => .ret)
    (fun i _ => Live [(0, zInts xs), (3, zI i)] [] 0) (fun _ => Live [] [] 0) (fun _ => Live [(2, zI 2)] [] 0)
    (fun i s st hi h => by
      obtain ⟨tm, H, b⟩ := st
      simp only [bodyOf, Go.Proofs.Try.f91, Option.getD_some, loopsOf, rangesOf, List.nil_append, List.append_nil, List.cons_append, List.getElem?_cons_zero, List.getElem?_cons_succ]
      simp only [go_sem] at h
      obtain ⟨h0, h3, rfl, rfl⟩ := h
      by_cases hp : xs[i] < 1
      · simp [go_sem, h0, h3, hi, hp, badSize]
      · by_cases hq : 4096 < xs[i] <;> simp [go_sem, h0, h3, hi, hp, hq, badSize, show i < 1000000000 by omega])
    (fun s st h => by
      obtain ⟨tm, H, b⟩ := st
      simp only [bodyOf, Go.Proofs.Try.f91, Option.getD_some, loopsOf, rangesOf, List.nil_append, List.append_nil, List.cons_append, List.getElem?_cons_zero, List.getElem?_cons_succ]
      simp only [go_sem] at h
      obtain ⟨h0, h3, rfl, rfl⟩ := h
      simp [go_sem, h0, h3])
    (fun _ h => by cases h)
  simp only [bodyOf, Go.Proofs.Try.f91, Option.getD_some, loopsOf, rangesOf, List.nil_append, List.append_nil, List.cons_append, List.getElem?_cons_zero, List.getElem?_cons_succ] at hR
  rw [foldE_any] at hR
  rw [mSizes_fit h1 h2]
  generalize xs.any badSize = r at hR ⊢
  cases r <;> simp [go_sem] at hR <;> simp [go_sem, h1, h2, hR]
end Go.Proofs.Ytlphdiccffnckaa

/- Layer 7: New and Check. -/
namespace Go.Proofs.Ytlphdiccffnckaa
open Go Go.Abs


theorem f178_spec (v : Vol) (Y : List YF) : callS ev fs 178 [zVol v] [] Y = some (.ret (zI v.length), []) := by
  refine callS_by f178_eq rfl ?_
  simp only [bodyOf, Go.Proofs.Try.f178, Option.getD_some]
  simp [go_sem]

theorem f177_spec (im : Img) (g : Nat) (q : Vol → Int) (hl : im.length < 100000000)
    (hg : ∀ x ∈ im, callS ev fs g [zVol x] [] [] = some (.ret (zI (q x)), [])) (Y : List YF) :
    callS ev fs 177 [zImg im, .fn g []] [] Y = some (.ret (zInts (im.map q)), []) := by
  refine callS_by f177_eq rfl ?_
  simp only [bodyOf, Go.Proofs.Try.f177, Option.getD_some]
  have hroom : room im.length 8 = true := room_ok (by omega) (by omega) (by omega)
  obtain ⟨R, hR⟩ := fold_loop (E := ev) (C := callS ev fs) (Y := Y) (w := w177) (a := (loopsOf (bodyOf Go.Proofs.Try.f177))[0]?.getD .skip) (b := 0) 
    im (fun _ s x => .inl (s ++ [q x])) ([] : List Int) (ex := fun (r : Empty) => nomatch r)
    (fun i s st => s.length = i ∧ Live [(1, .fn g []), (5, .os 0 0 i i), (11, zImg im), (12, zI im.length), (13, zI i)] [.own i 1 (s.map fun n => [zI n])] 0 st)
    (fun s => Live [(5, .os 0 0 im.length im.length)] [.own im.length 1 (s.map fun n => [zI n])] 0) (fun r => nomatch r)
    (fun i s st hi h => by
      obtain ⟨rfl, h⟩ := h
      obtain ⟨tm, H, b⟩ := st
      simp only [bodyOf, Go.Proofs.Try.f177, Option.getD_some, loopsOf, rangesOf, List.nil_append, List.append_nil, List.cons_append, List.getElem?_cons_zero, List.getElem?_cons_succ]
      simp only [go_sem] at h
      obtain ⟨h1, h5, h11, h12, h13, rfl, rfl⟩ := h
      have hgx := hg im[s.length] (List.getElem_mem hi)
      simp only [go_sem] at hgx
      have hr : room (s.length + 1) 8 = true := room_ok (by omega) (by omega) (by omega)
      simp [go_sem, h1, h5, h11, h12, h13, hi, hgx, hr, show s.length < 1000000000 by omega])
    (fun s st h => by
      obtain ⟨_, h⟩ := h
      obtain ⟨tm, H, b⟩ := st
      simp only [bodyOf, Go.Proofs.Try.f177, Option.getD_some, loopsOf, rangesOf, List.nil_append, List.append_nil, List.cons_append, List.getElem?_cons_zero, List.getElem?_cons_succ]
      simp only [go_sem] at h
      obtain ⟨h1, h5, h11, h12, h13, rfl, rfl⟩ := h
      simp [go_sem, h1, h5, h11, h12, h13])
    (fun r => nomatch r)
  simp only [bodyOf, Go.Proofs.Try.f177, Option.getD_some, loopsOf, rangesOf, List.nil_append, List.append_nil, List.cons_append, List.getElem?_cons_zero, List.getElem?_cons_succ] at hR
  rw [foldE_map] at hR
  simp [go_sem] at hR
  simp [go_sem, freeze_os, hR, hroom, show im.length ≤ 1099511627776 by omega]

theorem f93_spec (im : Img) (hl : im.length < 100000000) (Y : List YF) : callS ev fs 93 [zImg im] [] Y = some (.ret (zInts (im.map fun v => (v.length : Int))), []) := by
  refine callS_by f93_eq rfl ?_
  simp only [bodyOf, Go.Proofs.Try.f93, Option.getD_some]
  have h := f177_spec im 178 (fun v => v.length) hl (fun x _ => f178_spec x []) []
  simp only [go_sem] at h
  simp [go_sem, h]

def mCheck (im : Img) : Int := mSizes (im.map fun v => (v.length : Int))

theorem f26_spec (im : Img) (hl : im.length < 100000000) (Y : List YF) : callS ev fs 26 [zImg im] [] Y = some (.ret (zI (mCheck im)), []) := by
  refine callS_by f26_eq rfl ?_
  simp only [bodyOf, Go.Proofs.Try.f26, Option.getD_some]
  have h1 := f93_spec im hl []
  have h2 := f88_spec (im.map fun v => (v.length : Int)) []
  simp only [go_sem, List.map_map] at h1 h2
  simp [go_sem, h1, h2, mCheck]

theorem f51_spec (im : Img) (hl : im.length < 100000000) (Y : List YF) : callS ev fs 51 [zImg im] [] Y = some (.ret (zInts (im.map fun v => (v.length : Int))), []) := by
  refine callS_by f51_eq rfl ?_
  simp only [bodyOf, Go.Proofs.Try.f51, Option.getD_some]
  obtain ⟨R, hR⟩ := fold_loop (E := ev) (C := callS ev fs) (Y := Y) (w := w51) (a := (loopsOf (bodyOf Go.Proofs.Try.f51))[0]?.getD .skip) (b := 0) 
    im (fun _ s x => .inl (s ++ [(x.length : Int)])) ([] : List Int) (ex := fun (r : Empty) => nomatch r)
    (fun i s st => s.length = i ∧ Live [(0, zImg im), (3, .os 0 0 i i), (4, zI i)] [.own i 1 (s.map fun n => [zI n])] 0 st)
    (fun s => Live [(3, .os 0 0 im.length im.length)] [.own im.length 1 (s.map fun n => [zI n])] 0) (fun r => nomatch r)
    (fun i s st hi h => by
      obtain ⟨rfl, h⟩ := h
      obtain ⟨tm, H, b⟩ := st
      simp only [bodyOf, Go.Proofs.Try.f51, Option.getD_some, loopsOf, rangesOf, List.nil_append, List.append_nil, List.cons_append, List.getElem?_cons_zero, List.getElem?_cons_succ]
      simp only [go_sem] at h
      obtain ⟨h0, h3, h4, rfl, rfl⟩ := h
      have hr : room (s.length + 1) 8 = true := room_ok (by omega) (by omega) (by omega)
      simp [go_sem, h0, h3, h4, hi, hr, show s.length < 1000000000 by omega])
    (fun s st h => by
      obtain ⟨_, h⟩ := h
      obtain ⟨tm, H, b⟩ := st
      simp only [bodyOf, Go.Proofs.Try.f51, Option.getD_some, loopsOf, rangesOf, List.nil_append, List.append_nil, List.cons_append, List.getElem?_cons_zero, List.getElem?_cons_succ]
      simp only [go_sem] at h
      obtain ⟨h0, h3, h4, rfl, rfl⟩ := h
      simp [go_sem, h0, h3, h4])
    (fun r => nomatch r)
  simp only [bodyOf, Go.Proofs.Try.f51, Option.getD_some, loopsOf, rangesOf, List.nil_append, List.append_nil, List.cons_append, List.getElem?_cons_zero, List.getElem?_cons_succ] at hR
  rw [foldE_map] at hR
  simp [go_sem] at hR
  simp [go_sem, freeze_os, hR]

theorem f27_spec (im : Img) (hl : im.length < 100000000) (Y : List YF) : callS ev fs 27 [zImg im] [] Y = some (.ret (zI (mCheck im)), []) := by
  refine callS_by f27_eq rfl ?_
  simp only [bodyOf, Go.Proofs.Try.f27, Option.getD_some]
  have h1 := f51_spec im hl []
  have h2 := f91_spec (im.map fun v => (v.length : Int)) []
  simp only [go_sem, List.map_map] at h1 h2
  simp [go_sem, h1, h2, mCheck]

def zSecs (n : Int) : Vol := List.replicate n.toNat ⟨List.replicate 8 0, rfl⟩
theorem f90_spec (n : Int) (h0 : 0 ≤ n) (h1 : n < 10000) (Y : List YF) : callS ev fs 90 [zI n] [] Y = some (.ret (zVol (zSecs n)), []) := by
  refine callS_by f90_eq rfl ?_
  simp only [bodyOf, Go.Proofs.Try.f90, Option.getD_some]
  have hr : room n.toNat 8 = true := room_ok (by omega) (by omega) (by omega)
  simp [go_sem, h0, hr, show n ≤ 1099511627776 by omega, zSecs, secRow]

theorem f89_spec (xs : List Int) (g : Nat) (q : Int → Vol) (hl : xs.length < 100000000)
    (hg : ∀ x ∈ xs, callS ev fs g [zI x] [] [] = some (.ret (zVol (q x)), [])) (Y : List YF) :
    callS ev fs 89 [zInts xs, .fn g []] [] Y = some (.ret (zImg (xs.map q)), []) := by
  refine callS_by f89_eq rfl ?_
  simp only [bodyOf, Go.Proofs.Try.f89, Option.getD_some]
  have hroom : room xs.length 24 = true := room_ok (by omega) (by omega) (by omega)
  obtain ⟨R, hR⟩ := fold_loop (E := ev) (C := callS ev fs) (Y := Y) (w := w89) (a := (loopsOf (bodyOf Go.Proofs.Try.f89))[0]?.getD .skip) (b := 0) 
    xs (fun _ s x => .inl (s ++ [q x])) ([] : Img) (ex := fun (r : Empty) => nomatch r)
    (fun i s st => s.length = i ∧ Live [(1, .fn g []), (5, .os 0 0 i i), (11, zInts xs), (12, zI xs.length), (13, zI i)] [.own i 1 (s.map fun v => [zVol v])] 0 st)
    (fun s => Live [(5, .os 0 0 xs.length xs.length)] [.own xs.length 1 (s.map fun v => [zVol v])] 0) (fun r => nomatch r)
    (fun i s st hi h => by
      obtain ⟨rfl, h⟩ := h
      obtain ⟨tm, H, b⟩ := st
      simp only [bodyOf, Go.Proofs.Try.f89, Option.getD_some, loopsOf, rangesOf, List.nil_append, List.append_nil, List.cons_append, List.getElem?_cons_zero, List.getElem?_cons_succ]
      simp only [go_sem] at h
      obtain ⟨h1, h5, h11, h12, h13, rfl, rfl⟩ := h
      have hgx := hg xs[s.length] (List.getElem_mem hi)
      simp only [go_sem] at hgx
      have hr : room (s.length + 1) 24 = true := room_ok (by omega) (by omega) (by omega)
      simp [go_sem, h1, h5, h11, h12, h13, hi, hgx, hr, show s.length < 1000000000 by omega])
    (fun s st h => by
      obtain ⟨_, h⟩ := h
      obtain ⟨tm, H, b⟩ := st
      simp only [bodyOf, Go.Proofs.Try.f89, Option.getD_some, loopsOf, rangesOf, List.nil_append, List.append_nil, List.cons_append, List.getElem?_cons_zero, List.getElem?_cons_succ]
      simp only [go_sem] at h
      obtain ⟨h1, h5, h11, h12, h13, rfl, rfl⟩ := h
      simp [go_sem, h1, h5, h11, h12, h13])
    (fun r => nomatch r)
  simp only [bodyOf, Go.Proofs.Try.f89, Option.getD_some, loopsOf, rangesOf, List.nil_append, List.append_nil, List.cons_append, List.getElem?_cons_zero, List.getElem?_cons_succ] at hR
  rw [foldE_map] at hR
  simp [go_sem] at hR
  simp [go_sem, freeze_os, hR, hroom, show xs.length ≤ 1099511627776 by omega]

theorem any_bad {xs : List Int} (h : xs.any badSize = false) : ∀ x ∈ xs, 1 ≤ x ∧ x ≤ 4096 := fun x hx => by
  have := List.any_eq_false.1 h x hx
  simp only [badSize, Bool.or_eq_true, decide_eq_true_eq, not_or] at this
  omega
theorem mSizes_zero {xs : List Int} (h : mSizes xs = 0) : 1 ≤ xs.length ∧ xs.length ≤ 8 ∧ ∀ x ∈ xs, 1 ≤ x ∧ x ≤ 4096 := by
  unfold mSizes at h
  split at h
  · simp at h
  · split at h
    · simp at h
    · rename_i h2 h3
      exact ⟨by omega, by omega, any_bad (by simpa using h3)⟩

/-- The image of zero sectors. -/
def mNew (xs : List Int) : AV := if mSizes xs = 0 then zImg (xs.map zSecs) else .sc (.slice none 0 0)

theorem f23_spec (xs : List Int) (Y : List YF) : callS ev fs 23 [zInts xs] [] Y = some (.ret (.tup [mNew xs, zI (mSizes xs)]), []) := by
  refine callS_by f23_eq rfl ?_
  simp only [bodyOf, Go.Proofs.Try.f23, Option.getD_some]
  have h1 := f88_spec xs []
  simp only [go_sem] at h1
  by_cases h0 : mSizes xs = 0
  · obtain ⟨a, b, c⟩ := mSizes_zero h0
    have h2 := f89_spec xs 90 zSecs (by omega) (fun x hx => f90_spec x (by have := c x hx; omega) (by have := c x hx; omega) []) []
    simp only [go_sem, List.map_map] at h2
    simp [go_sem, h1, h0, h2, mNew]
  · simp [go_sem, h1, h0, mNew]

theorem f24_spec (xs : List Int) (Y : List YF) : callS ev fs 24 [zInts xs] [] Y = some (.ret (.tup [mNew xs, zI (mSizes xs)]), []) := by
  refine callS_by f24_eq rfl ?_
  simp only [bodyOf, Go.Proofs.Try.f24, Option.getD_some]
  have h1 := f91_spec xs []
  simp only [go_sem] at h1
  by_cases h0 : ¬ mSizes xs = 0
  · simp [go_sem, h1, h0, mNew]
  replace h0 : mSizes xs = 0 := by omega
  obtain ⟨a, b, c⟩ := mSizes_zero h0
  obtain ⟨R, hR⟩ := fold_loop (E := ev) (C := callS ev fs) (Y := Y) (w := w24) (a := (loopsOf (bodyOf Go.Proofs.Try.f24))[0]?.getD .skip) (b := 0) 
    xs (fun _ s x => .inl (s ++ [zSecs x])) ([] : Img) (ex := fun (r : Empty) => nomatch r)
    (fun i s st => s.length = i ∧ Live [(0, zInts xs), (5, .os 0 0 i i), (6, zI i)] [.own i 1 (s.map fun v => [zVol v])] 0 st)
    (fun s => Live [(5, .os 0 0 xs.length xs.length)] [.own xs.length 1 (s.map fun v => [zVol v])] 0) (fun r => nomatch r)
    (fun i s st hi h => by
      obtain ⟨rfl, h⟩ := h
      obtain ⟨tm, H, b⟩ := st
      simp only [bodyOf, Go.Proofs.Try.f24, Option.getD_some, loopsOf, rangesOf, List.nil_append, List.append_nil, List.cons_append, List.getElem?_cons_zero, List.getElem?_cons_succ]
      simp only [go_sem] at h
      obtain ⟨h1, h5, h6, rfl, rfl⟩ := h
      have hx := c xs[s.length] (List.getElem_mem hi)
      have hr : room (s.length + 1) 24 = true := room_ok (by omega) (by omega) (by omega)
      have hr2 : room xs[s.length].toNat 8 = true := room_ok (by omega) (by omega) (by omega)
      simp [go_sem, h1, h5, h6, hi, hr, hr2, zSecs, secRow, show s.length < 1000000000 by omega, show 0 ≤ xs[s.length] by omega, show xs[s.length] ≤ 1099511627776 by omega])
    (fun s st h => by
      obtain ⟨_, h⟩ := h
      obtain ⟨tm, H, b⟩ := st
      simp only [bodyOf, Go.Proofs.Try.f24, Option.getD_some, loopsOf, rangesOf, List.nil_append, List.append_nil, List.cons_append, List.getElem?_cons_zero, List.getElem?_cons_succ]
      simp only [go_sem] at h
      obtain ⟨h1, h5, h6, rfl, rfl⟩ := h
      simp [go_sem, h1, h5, h6])
    (fun r => nomatch r)
  simp only [bodyOf, Go.Proofs.Try.f24, Option.getD_some, loopsOf, rangesOf, List.nil_append, List.append_nil, List.cons_append, List.getElem?_cons_zero, List.getElem?_cons_succ] at hR
  rw [foldE_map] at hR
  simp [go_sem] at hR
  simp [go_sem, freeze_os, h1, h0, hR, mNew]

end Go.Proofs.Ytlphdiccffnckaa

