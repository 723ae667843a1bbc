/-
  A packed row turned; rows that are alike: the laws TableTurned and TableSame.
-/
import Derived.Test.YtmjdoonaidolkaaDoorFc
import Derived.Test.YtmjdoonaidolkaaDoorRows
import Derived.Lib.BytesEntry

/- The code of functions, as the logic of values reads it. -/
namespace Go.Proofs.YtmjdoonaidolkaaDoor.V

/-! 3: countinghouse/countinghouselaw05.TableRows -/

def c3 : VC := .seq (.reg [⟨some 8, .mov (.cst (.bool false)), none, none, []⟩]) (.seq (.seq (.reg [⟨some 16, .mov (.cst .undef), some (.cst (.func 10 []), []), none, []⟩, ⟨some 17, .un .not (.tmp 16), none, none, []⟩, ⟨some 18, .mov (.tmp 17), none, none, []⟩, ⟨some 19, .mov (.tmp 0), none, some (18, false), []⟩, ⟨some 20, .mov (.cst .undef), some (.cst (.func 11 []), [.tmp 19]), some (18, false), []⟩, ⟨some 21, .un .not (.tmp 20), none, some (18, false), []⟩, ⟨some 22, .pick (.tmp 18) (.cst (.bool true)) (.tmp 21), none, none, []⟩, ⟨some 23, .mov (.tmp 22), none, none, []⟩, ⟨some 24, .mov (.tmp 2), none, some (23, false), []⟩, ⟨some 25, .lenl (.tmp 24), none, some (23, false), []⟩, ⟨some 26, .bin .gtr (.tmp 25) (.cst (.int .i64 12)), none, some (23, false), []⟩, ⟨some 27, .pick (.tmp 23) (.cst (.bool true)) (.tmp 26), none, none, []⟩, ⟨some 28, .mov (.tmp 27), none, none, []⟩, ⟨some 29, .mov (.tmp 3), none, some (28, false), []⟩, ⟨some 30, .lenl (.tmp 29), none, some (28, false), []⟩, ⟨some 31, .bin .gtr (.tmp 30) (.cst (.int .i64 12)), none, some (28, false), []⟩, ⟨some 32, .pick (.tmp 28) (.cst (.bool true)) (.tmp 31), none, none, []⟩]) (.cond (.tmp 32) (.seq (.reg [⟨some 33, .mov (.cst .undef), some (.cst (.func 10 []), []), none, []⟩, ⟨some 8, .mov (.tmp 33), none, none, []⟩]) .ret) .skip)) (.seq (.reg [⟨some 34, .mov (.tmp 0), none, none, []⟩, ⟨some 35, .mov (.cst .undef), some (.cst (.func 12 []), [.tmp 34]), none, []⟩, ⟨some 9, .mov (.tmp 35), none, none, []⟩]) (.seq (.reg [⟨some 36, .mov (.tmp 1), none, none, []⟩, ⟨some 37, .cvi .i64 (.tmp 36), none, none, []⟩, ⟨some 38, .mov (.tmp 9), none, none, []⟩, ⟨some 39, .lenl (.tmp 38), none, none, []⟩, ⟨some 40, .bin .rem (.tmp 37) (.tmp 39), none, none, []⟩, ⟨some 10, .mov (.tmp 40), none, none, []⟩]) (.seq (.dreg [⟨some 41, .mov (.tmp 9), none, none, []⟩, ⟨some 42, .mov (.tmp 10), none, none, []⟩, ⟨some 43, .ixa 3 (.tmp 41) (.tmp 42), none, none, [0, 1]⟩, ⟨some 44, .load (some 3) (.tmp 43), none, none, [2]⟩, ⟨some 45, .mov (.tmp 9), none, none, []⟩, ⟨some 46, .mov (.tmp 10), none, none, []⟩, ⟨some 47, .ixa 3 (.tmp 45) (.tmp 46), none, none, [4, 5]⟩, ⟨some 48, .fld 1 (.tmp 47), none, none, [6]⟩, ⟨some 49, .load none (.tmp 48), none, none, [7]⟩, ⟨some 50, .lenl (.tmp 49), none, none, [8]⟩, ⟨some 51, .mov (.tmp 2), none, none, []⟩, ⟨some 52, .mov (.cst .undef), some (.cst (.func 13 []), [.tmp 44, .tmp 50, .tmp 51]), none, [3, 9, 10]⟩, ⟨some 53, .mov (.tmp 9), none, none, []⟩, ⟨some 54, .mov (.tmp 10), none, none, []⟩, ⟨some 55, .ixa 3 (.tmp 53) (.tmp 54), none, none, [12, 13]⟩, ⟨some 56, .load (some 3) (.tmp 55), none, none, [14]⟩, ⟨some 57, .mov (.tmp 9), none, none, []⟩, ⟨some 58, .mov (.tmp 10), none, none, []⟩, ⟨some 59, .ixa 3 (.tmp 57) (.tmp 58), none, none, [16, 17]⟩, ⟨some 60, .fld 1 (.tmp 59), none, none, [18]⟩, ⟨some 61, .load none (.tmp 60), none, none, [19]⟩, ⟨some 62, .lenl (.tmp 61), none, none, [20]⟩, ⟨some 63, .mov (.tmp 3), none, none, []⟩, ⟨some 64, .mov (.cst .undef), some (.cst (.func 13 []), [.tmp 56, .tmp 62, .tmp 63]), none, [15, 21, 22, 11]⟩, ⟨some 11, .mov (.tmp 52), none, none, [11, 23, 0, 1, 2, 3, 4, 5, 6, 7, 8, 9, 10, 11]⟩, ⟨some 12, .mov (.tmp 64), none, none, [23, 24, 0, 1, 2, 3, 4, 5, 6, 7, 8, 9, 10, 11, 12, 13, 14, 15, 16, 17, 18, 19, 20, 21, 22, 23, 24]⟩]) (.seq (.reg [⟨some 65, .mov (.tmp 9), none, none, []⟩, ⟨some 66, .mov (.tmp 10), none, none, []⟩, ⟨some 67, .mov (.tmp 11), none, none, []⟩, ⟨some 68, .mov (.cst .undef), some (.cst (.func 14 []), [.tmp 65, .tmp 66, .tmp 67]), none, []⟩, ⟨some 69, .mov (.tmp 9), none, none, []⟩, ⟨some 70, .mov (.tmp 10), none, none, []⟩, ⟨some 71, .mov (.tmp 12), none, none, []⟩, ⟨some 72, .mov (.cst .undef), some (.cst (.func 14 []), [.tmp 69, .tmp 70, .tmp 71]), none, []⟩, ⟨some 13, .mov (.tmp 68), none, none, []⟩, ⟨some 14, .mov (.tmp 72), none, none, []⟩]) (.seq (.dreg [⟨some 73, .mov (.tmp 11), none, none, []⟩, ⟨some 74, .mov (.tmp 9), none, none, []⟩, ⟨some 75, .mov (.tmp 10), none, none, []⟩, ⟨some 76, .ixa 3 (.tmp 74) (.tmp 75), none, none, [1, 2]⟩, ⟨some 77, .fld 2 (.tmp 76), none, none, [3]⟩, ⟨some 78, .load none (.tmp 77), none, none, [4]⟩, ⟨some 79, .slsl 3 (.tmp 73) none (some (.tmp 78)), none, none, [0, 5]⟩, ⟨some 80, .mov (.tmp 12), none, none, []⟩, ⟨some 81, .mov (.tmp 9), none, none, []⟩, ⟨some 82, .mov (.tmp 10), none, none, []⟩, ⟨some 83, .ixa 3 (.tmp 81) (.tmp 82), none, none, [8, 9]⟩, ⟨some 84, .fld 2 (.tmp 83), none, none, [10]⟩, ⟨some 85, .load none (.tmp 84), none, none, [11]⟩, ⟨some 86, .slsl 3 (.tmp 80) none (some (.tmp 85)), none, none, [7, 12]⟩, ⟨some 87, .mov (.cst .undef), some (.cst (.func 15 []), [.tmp 79, .tmp 86]), none, [6, 13]⟩, ⟨some 15, .mov (.tmp 87), none, none, [14, 14, 0, 1, 2, 3, 4, 5, 6, 7, 8, 9, 10, 11, 12, 13, 14]⟩]) (.seq (.reg [⟨some 88, .mov (.tmp 13), none, none, []⟩, ⟨some 89, .mov (.tmp 10), none, none, []⟩, ⟨some 90, .mov (.tmp 11), none, none, []⟩, ⟨some 91, .mov (.tmp 9), none, none, []⟩, ⟨some 92, .mov (.tmp 10), none, none, []⟩, ⟨some 93, .ixa 3 (.tmp 91) (.tmp 92), none, none, []⟩, ⟨some 94, .fld 2 (.tmp 93), none, none, []⟩, ⟨some 95, .load none (.tmp 94), none, none, []⟩, ⟨some 96, .slsl 3 (.tmp 90) none (some (.tmp 95)), none, none, []⟩, ⟨some 97, .mov (.cst .undef), some (.cst (.func 16 []), [.tmp 89, .tmp 96]), none, []⟩, ⟨some 98, .bin .eql (.tmp 88) (.tmp 97), none, none, []⟩, ⟨some 99, .mov (.tmp 98), none, none, []⟩, ⟨some 100, .mov (.tmp 13), none, some (99, true), []⟩, ⟨some 101, .mov (.tmp 14), none, some (99, true), []⟩, ⟨some 102, .bin .lss (.tmp 100) (.tmp 101), none, some (99, true), []⟩, ⟨some 103, .mov (.tmp 15), none, some (99, true), []⟩, ⟨some 104, .bin .lss (.tmp 103) (.cst (.int .i64 0)), none, some (99, true), []⟩, ⟨some 105, .eqb false (.tmp 102) (.tmp 104), none, some (99, true), []⟩, ⟨some 106, .pick (.tmp 99) (.tmp 105) (.cst (.bool false)), none, none, []⟩, ⟨some 107, .mov (.tmp 106), none, none, []⟩, ⟨some 108, .mov (.tmp 13), none, some (107, true), []⟩, ⟨some 109, .mov (.tmp 14), none, some (107, true), []⟩, ⟨some 110, .bin .eql (.tmp 108) (.tmp 109), none, some (107, true), []⟩, ⟨some 111, .mov (.tmp 15), none, some (107, true), []⟩, ⟨some 112, .bin .eql (.tmp 111) (.cst (.int .i64 0)), none, some (107, true), []⟩, ⟨some 113, .eqb false (.tmp 110) (.tmp 112), none, some (107, true), []⟩, ⟨some 114, .pick (.tmp 107) (.tmp 113) (.cst (.bool false)), none, none, []⟩, ⟨some 115, .mov (.tmp 114), none, none, []⟩, ⟨some 116, .mov (.tmp 13), none, some (115, true), []⟩, ⟨some 117, .mov (.tmp 10), none, some (115, true), []⟩, ⟨some 118, .bin .add (.tmp 117) (.cst (.int .i64 1)), none, some (115, true), []⟩, ⟨some 119, .mov (.cst .undef), some (.cst (.func 17 []), [.tmp 118, .cst (.sl 0 (some true) true [])]), some (115, true), []⟩, ⟨some 120, .bin .lss (.tmp 116) (.tmp 119), none, some (115, true), []⟩, ⟨some 121, .pick (.tmp 115) (.tmp 120) (.cst (.bool false)), none, none, []⟩, ⟨some 122, .mov (.tmp 121), none, none, []⟩, ⟨some 123, .mov (.tmp 13), none, some (122, true), []⟩, ⟨some 124, .mov (.tmp 10), none, some (122, true), []⟩, ⟨some 125, .mov (.cst .undef), some (.cst (.func 17 []), [.tmp 124, .cst (.sl 0 (some true) true [])]), some (122, true), []⟩, ⟨some 126, .bin .gtr (.tmp 123) (.tmp 125), none, some (122, true), []⟩, ⟨some 127, .pick (.tmp 122) (.tmp 126) (.cst (.bool false)), none, none, []⟩, ⟨some 8, .mov (.tmp 127), none, none, []⟩]) .ret)))))))

/-! 4: countinghouse/countinghouselaw05.TableSame -/

/-! 5: countinghouse/countinghouselaw05.TableRight -/

def c5b0 : VC := .seq (.seq (.reg [⟨some 59, .mov (.tmp 11), none, none, []⟩, ⟨some 60, .lenl (.tmp 59), none, none, []⟩, ⟨some 61, .mov (.tmp 3), none, none, []⟩, ⟨some 62, .bin .rem (.tmp 61) (.cst (.int .u8 6)), none, none, []⟩, ⟨some 63, .cvi .i64 (.tmp 62), none, none, []⟩, ⟨some 64, .bin .lss (.tmp 60) (.tmp 63), none, none, []⟩]) (.cond (.tmp 64) .skip (.exit 1))) (.block 2 (.dreg [⟨some 65, .mov (.tmp 11), none, none, []⟩, ⟨some 66, .mov (.tmp 11), none, none, []⟩, ⟨some 67, .lenl (.tmp 66), none, none, [1]⟩, ⟨some 68, .cvi .u8 (.tmp 67), none, none, [2]⟩, ⟨some 69, .bslice 1 2 [.int .u8 0] [(0, .cst (.int .u8 122)), (1, .tmp 68)], none, none, [3]⟩, ⟨some 70, .cvbs (.tmp 69), none, none, [4]⟩, ⟨some 71, .mov (.tmp 11), none, none, []⟩, ⟨some 72, .ixa 3 (.tmp 71) (.cst (.int .i64 0)), none, none, [6]⟩, ⟨some 73, .fld 1 (.tmp 72), none, none, [7]⟩, ⟨some 74, .load none (.tmp 73), none, none, [8]⟩, ⟨some 75, .build [.str ⟨#[]⟩, .sl 0 (some true) true [], .int .i64 0] [(0, (1, .tmp 70)), (1, (1, .tmp 74)), (2, (1, .cst (.int .i64 1)))], none, none, [5, 9]⟩, ⟨some 76, .bslice 3 1 [.str ⟨#[]⟩, .sl 0 (some true) true [], .int .i64 0] [(0, .tmp 75)], none, none, [10]⟩, ⟨some 77, .app 3 48 (.tmp 65) (.tmp 76), none, none, [0, 11]⟩, ⟨some 11, .mov (.tmp 77), none, none, [12, 12, 0, 1, 2, 3, 4, 5, 6, 7, 8, 9, 10, 11, 12]⟩]))

def c5b1 : VC := .seq (.seq (.reg [⟨some 179, .mov (.tmp 11), none, none, []⟩, ⟨some 180, .mov (.tmp 10), none, none, []⟩, ⟨some 181, .ixa 3 (.tmp 179) (.tmp 180), none, none, []⟩, ⟨some 182, .fld 1 (.tmp 181), none, none, []⟩, ⟨some 183, .load none (.tmp 182), none, none, []⟩, ⟨some 184, .lenl (.tmp 183), none, none, []⟩, ⟨some 185, .mov (.tmp 3), none, none, []⟩, ⟨some 186, .bin .rem (.tmp 185) (.cst (.int .u8 12)), none, none, []⟩, ⟨some 187, .cvi .i64 (.tmp 186), none, none, []⟩, ⟨some 188, .bin .lss (.tmp 184) (.tmp 187), none, none, []⟩]) (.cond (.tmp 188) .skip (.exit 3))) (.block 4 (.dreg [⟨some 189, .mov (.tmp 11), none, none, []⟩, ⟨some 190, .mov (.tmp 10), none, none, []⟩, ⟨some 191, .mov (.tmp 11), none, none, []⟩, ⟨some 192, .mov (.tmp 10), none, none, []⟩, ⟨some 193, .ixa 3 (.tmp 191) (.tmp 192), none, none, [2, 3]⟩, ⟨some 194, .fld 1 (.tmp 193), none, none, [4]⟩, ⟨some 195, .load none (.tmp 194), none, none, [5]⟩, ⟨some 196, .mov (.tmp 11), none, none, []⟩, ⟨some 197, .mov (.tmp 10), none, none, []⟩, ⟨some 198, .ixa 3 (.tmp 196) (.tmp 197), none, none, [7, 8]⟩, ⟨some 199, .fld 1 (.tmp 198), none, none, [9]⟩, ⟨some 200, .load none (.tmp 199), none, none, [10]⟩, ⟨some 201, .lenl (.tmp 200), none, none, [11]⟩, ⟨some 202, .cvi .u8 (.tmp 201), none, none, [12]⟩, ⟨some 203, .bslice 1 2 [.int .u8 0] [(0, .cst (.int .u8 122)), (1, .tmp 202)], none, none, [13]⟩, ⟨some 204, .cvbs (.tmp 203), none, none, [14]⟩, ⟨some 205, .build [.str ⟨#[]⟩, .int .u8 0, .bool false] [(0, (1, .tmp 204)), (1, (1, .cst (.int .u8 1)))], none, none, [15]⟩, ⟨some 206, .bslice 3 1 [.str ⟨#[]⟩, .int .u8 0, .bool false] [(0, .tmp 205)], none, none, [16]⟩, ⟨some 207, .app 3 24 (.tmp 195) (.tmp 206), none, none, [6, 17]⟩, ⟨some 208, .ixa 3 (.tmp 189) (.tmp 190), none, none, [0, 1, 0, 1, 2, 3, 4, 5, 6, 7, 8, 9, 10, 11, 12, 13, 14, 15, 16, 17, 18]⟩, ⟨some 209, .fld 1 (.tmp 208), none, none, [19, 0, 1, 2, 3, 4, 5, 6, 7, 8, 9, 10, 11, 12, 13, 14, 15, 16, 17, 18]⟩, ⟨none, .store 1 (.tmp 209) (.tmp 207), none, none, [20, 18, 18, 0, 1, 2, 3, 4, 5, 6, 7, 8, 9, 10, 11, 12, 13, 14, 15, 16, 17, 18]⟩]))

def c5 : VC := .seq (.reg [⟨some 8, .mov (.cst (.bool false)), none, none, []⟩]) (.seq (.seq (.reg [⟨some 13, .mov (.cst .undef), some (.cst (.func 10 []), []), none, []⟩, ⟨some 14, .un .not (.tmp 13), none, none, []⟩, ⟨some 15, .mov (.tmp 14), none, none, []⟩, ⟨some 16, .mov (.tmp 0), none, some (15, false), []⟩, ⟨some 17, .mov (.cst .undef), some (.cst (.func 11 []), [.tmp 16]), some (15, false), []⟩, ⟨some 18, .un .not (.tmp 17), none, some (15, false), []⟩, ⟨some 19, .pick (.tmp 15) (.cst (.bool true)) (.tmp 18), none, none, []⟩]) (.cond (.tmp 19) (.seq (.reg [⟨some 20, .mov (.cst .undef), some (.cst (.func 10 []), []), none, []⟩, ⟨some 8, .mov (.tmp 20), none, none, []⟩]) .ret) .skip)) (.seq (.reg [⟨some 21, .mov (.tmp 0), none, none, []⟩, ⟨some 22, .mov (.cst .undef), some (.cst (.func 12 []), [.tmp 21]), none, []⟩, ⟨some 9, .mov (.tmp 22), none, none, []⟩]) (.seq (.seq (.reg [⟨some 23, .mov (.tmp 9), none, none, []⟩, ⟨some 24, .mov (.cst .undef), some (.cst (.func 21 []), [.tmp 23]), none, []⟩, ⟨some 25, .un .not (.tmp 24), none, none, []⟩, ⟨some 26, .mov (.tmp 25), none, none, []⟩, ⟨some 27, .mov (.tmp 9), none, some (26, false), []⟩, ⟨some 28, .mov (.cst .undef), some (.cst (.func 22 []), [.tmp 27]), some (26, false), []⟩, ⟨some 29, .un .not (.tmp 28), none, some (26, false), []⟩, ⟨some 30, .pick (.tmp 26) (.cst (.bool true)) (.tmp 29), none, none, []⟩]) (.cond (.tmp 30) (.seq (.reg [⟨some 8, .mov (.cst (.bool false)), none, none, []⟩]) .ret) .skip)) (.seq (.reg [⟨some 31, .mov (.tmp 2), none, none, []⟩, ⟨some 32, .cvi .i64 (.tmp 31), none, none, []⟩, ⟨some 33, .mov (.tmp 9), none, none, []⟩, ⟨some 34, .lenl (.tmp 33), none, none, []⟩, ⟨some 35, .bin .rem (.tmp 32) (.tmp 34), none, none, []⟩, ⟨some 10, .mov (.tmp 35), none, none, []⟩]) (.seq (.reg [⟨some 36, .mov (.tmp 9), none, none, []⟩, ⟨some 37, .app 3 48 (.cst (.sl 0 (some true) true [])) (.tmp 36), none, none, []⟩, ⟨some 11, .mov (.tmp 37), none, none, []⟩]) (.seq (.reg [⟨some 38, .mov (.tmp 11), none, none, []⟩, ⟨some 39, .mov (.tmp 10), none, none, []⟩, ⟨some 40, .mov (.tmp 11), none, none, []⟩, ⟨some 41, .mov (.tmp 10), none, none, []⟩, ⟨some 42, .ixa 3 (.tmp 40) (.tmp 41), none, none, []⟩, ⟨some 43, .fld 1 (.tmp 42), none, none, []⟩, ⟨some 44, .load none (.tmp 43), none, none, []⟩, ⟨some 45, .app 3 24 (.cst (.sl 0 (some true) true [])) (.tmp 44), none, none, []⟩, ⟨some 46, .ixa 3 (.tmp 38) (.tmp 39), none, none, []⟩, ⟨some 47, .fld 1 (.tmp 46), none, none, []⟩, ⟨none, .store 1 (.tmp 47) (.tmp 45), none, none, []⟩]) (.seq (.reg [⟨some 48, .mov (.tmp 3), none, none, []⟩, ⟨some 49, .cvi .i64 (.tmp 48), none, none, []⟩, ⟨some 50, .mov (.tmp 11), none, none, []⟩, ⟨some 51, .mov (.tmp 10), none, none, []⟩, ⟨some 52, .ixa 3 (.tmp 50) (.tmp 51), none, none, []⟩, ⟨some 53, .fld 1 (.tmp 52), none, none, []⟩, ⟨some 54, .load none (.tmp 53), none, none, []⟩, ⟨some 55, .lenl (.tmp 54), none, none, []⟩, ⟨some 56, .bin .rem (.tmp 49) (.tmp 55), none, none, []⟩, ⟨some 12, .mov (.tmp 56), none, none, []⟩]) (.seq (.seq (.reg [⟨some 57, .mov (.tmp 1), none, none, []⟩, ⟨some 58, .bin .rem (.tmp 57) (.cst (.int .u8 12)), none, none, []⟩]) (.block 0 (.seq (.reg [⟨some 79, .bin .eql (.tmp 58) (.cst (.int .u8 0)), none, none, []⟩, ⟨some 78, .mov (.tmp 79), none, none, []⟩]) (.cond (.tmp 78) (.reg [⟨some 11, .mov (.cst (.sl 0 (some true) true [])), none, none, []⟩]) (.seq (.reg [⟨some 81, .bin .eql (.tmp 58) (.cst (.int .u8 1)), none, none, []⟩, ⟨some 80, .mov (.tmp 81), none, none, []⟩]) (.cond (.tmp 80) (.reg [⟨some 82, .mov (.tmp 11), none, none, []⟩, ⟨some 83, .mov (.tmp 11), none, none, []⟩, ⟨some 84, .mov (.tmp 10), none, none, []⟩, ⟨some 85, .ixa 3 (.tmp 83) (.tmp 84), none, none, []⟩, ⟨some 86, .load (some 3) (.tmp 85), none, none, []⟩, ⟨some 87, .bslice 3 1 [.str ⟨#[]⟩, .sl 0 (some true) true [], .int .i64 0] [(0, .tmp 86)], none, none, []⟩, ⟨some 88, .app 3 48 (.tmp 82) (.tmp 87), none, none, []⟩, ⟨some 11, .mov (.tmp 88), none, none, []⟩]) (.seq (.reg [⟨some 90, .bin .eql (.tmp 58) (.cst (.int .u8 2)), none, none, []⟩, ⟨some 89, .mov (.tmp 90), none, none, []⟩]) (.cond (.tmp 89) (.reg [⟨some 91, .mov (.tmp 11), none, none, []⟩, ⟨some 92, .mov (.tmp 10), none, none, []⟩, ⟨some 93, .ixa 3 (.tmp 91) (.tmp 92), none, none, []⟩, ⟨some 94, .fld 0 (.tmp 93), none, none, []⟩, ⟨none, .store 1 (.tmp 94) (.cst (.str ⟨#[]⟩)), none, none, []⟩]) (.seq (.reg [⟨some 96, .bin .eql (.tmp 58) (.cst (.int .u8 3)), none, none, []⟩, ⟨some 95, .mov (.tmp 96), none, none, []⟩]) (.cond (.tmp 95) (.reg [⟨some 97, .mov (.tmp 11), none, none, []⟩, ⟨some 98, .mov (.tmp 10), none, none, []⟩, ⟨some 99, .mov (.tmp 3), none, none, []⟩, ⟨some 100, .bin .rem (.tmp 99) (.cst (.int .u8 10)), none, none, []⟩, ⟨some 101, .cvi .i64 (.tmp 100), none, none, []⟩, ⟨some 102, .bin .add (.cst (.int .i64 15)) (.tmp 101), none, none, []⟩, ⟨some 103, .mk 1 1 [.int .u8 0] (.tmp 102), none, none, []⟩, ⟨some 104, .cvbs (.tmp 103), none, none, []⟩, ⟨some 105, .ixa 3 (.tmp 97) (.tmp 98), none, none, []⟩, ⟨some 106, .fld 0 (.tmp 105), none, none, []⟩, ⟨none, .store 1 (.tmp 106) (.tmp 104), none, none, []⟩]) (.seq (.reg [⟨some 108, .bin .eql (.tmp 58) (.cst (.int .u8 4)), none, none, []⟩, ⟨some 107, .mov (.tmp 108), none, none, []⟩]) (.cond (.tmp 107) (.reg [⟨some 109, .mov (.tmp 11), none, none, []⟩, ⟨some 110, .mov (.tmp 10), none, none, []⟩, ⟨some 111, .ixa 3 (.tmp 109) (.tmp 110), none, none, []⟩, ⟨some 112, .fld 1 (.tmp 111), none, none, []⟩, ⟨none, .store 1 (.tmp 112) (.cst (.sl 0 (some true) true [])), none, none, []⟩]) (.seq (.reg [⟨some 114, .bin .eql (.tmp 58) (.cst (.int .u8 5)), none, none, []⟩, ⟨some 113, .mov (.tmp 114), none, none, []⟩]) (.cond (.tmp 113) (.reg [⟨some 115, .mov (.tmp 11), none, none, []⟩, ⟨some 116, .mov (.tmp 10), none, none, []⟩, ⟨some 117, .mov (.tmp 3), none, none, []⟩, ⟨some 118, .cvi .i64 (.tmp 117), none, none, []⟩, ⟨some 119, .bin .sub (.tmp 118) (.cst (.int .i64 3)), none, none, []⟩, ⟨some 120, .ixa 3 (.tmp 115) (.tmp 116), none, none, []⟩, ⟨some 121, .fld 2 (.tmp 120), none, none, []⟩, ⟨none, .store 1 (.tmp 121) (.tmp 119), none, none, []⟩]) (.seq (.reg [⟨some 123, .bin .eql (.tmp 58) (.cst (.int .u8 6)), none, none, []⟩, ⟨some 122, .mov (.tmp 123), none, none, []⟩]) (.cond (.tmp 122) (.reg [⟨some 124, .mov (.tmp 11), none, none, []⟩, ⟨some 125, .mov (.tmp 10), none, none, []⟩, ⟨some 126, .ixa 3 (.tmp 124) (.tmp 125), none, none, []⟩, ⟨some 127, .fld 1 (.tmp 126), none, none, []⟩, ⟨some 128, .load none (.tmp 127), none, none, []⟩, ⟨some 129, .mov (.tmp 12), none, none, []⟩, ⟨some 130, .mov (.tmp 3), none, none, []⟩, ⟨some 131, .ixa 3 (.tmp 128) (.tmp 129), none, none, []⟩, ⟨some 132, .fld 1 (.tmp 131), none, none, []⟩, ⟨none, .store 1 (.tmp 132) (.tmp 130), none, none, []⟩]) (.seq (.reg [⟨some 134, .bin .eql (.tmp 58) (.cst (.int .u8 7)), none, none, []⟩, ⟨some 133, .mov (.tmp 134), none, none, []⟩]) (.cond (.tmp 133) (.reg [⟨some 135, .mov (.tmp 11), none, none, []⟩, ⟨some 136, .mov (.tmp 10), none, none, []⟩, ⟨some 137, .ixa 3 (.tmp 135) (.tmp 136), none, none, []⟩, ⟨some 138, .fld 1 (.tmp 137), none, none, []⟩, ⟨some 139, .load none (.tmp 138), none, none, []⟩, ⟨some 140, .mov (.tmp 12), none, none, []⟩, ⟨some 141, .ixa 3 (.tmp 139) (.tmp 140), none, none, []⟩, ⟨some 142, .fld 2 (.tmp 141), none, none, []⟩, ⟨none, .store 1 (.tmp 142) (.cst (.bool true)), none, none, []⟩]) (.seq (.reg [⟨some 144, .bin .eql (.tmp 58) (.cst (.int .u8 8)), none, none, []⟩, ⟨some 143, .mov (.tmp 144), none, none, []⟩]) (.cond (.tmp 143) (.dreg [⟨some 145, .mov (.tmp 11), none, none, []⟩, ⟨some 146, .mov (.tmp 10), none, none, []⟩, ⟨some 147, .ixa 3 (.tmp 145) (.tmp 146), none, none, [0, 1]⟩, ⟨some 148, .fld 1 (.tmp 147), none, none, [2]⟩, ⟨some 149, .load none (.tmp 148), none, none, [3]⟩, ⟨some 150, .mov (.tmp 12), none, none, []⟩, ⟨some 151, .mov (.tmp 11), none, none, []⟩, ⟨some 152, .mov (.tmp 10), none, none, []⟩, ⟨some 153, .ixa 3 (.tmp 151) (.tmp 152), none, none, [6, 7]⟩, ⟨some 154, .fld 1 (.tmp 153), none, none, [8]⟩, ⟨some 155, .load none (.tmp 154), none, none, [9]⟩, ⟨some 156, .ixa 3 (.tmp 155) (.cst (.int .i64 0)), none, none, [10]⟩, ⟨some 157, .fld 0 (.tmp 156), none, none, [11]⟩, ⟨some 158, .load none (.tmp 157), none, none, [12]⟩, ⟨some 159, .ixa 3 (.tmp 149) (.tmp 150), none, none, [4, 5, 0, 1, 2, 3, 4, 5, 6, 7, 8, 9, 10, 11, 12, 13]⟩, ⟨some 160, .fld 0 (.tmp 159), none, none, [14, 0, 1, 2, 3, 4, 5, 6, 7, 8, 9, 10, 11, 12, 13]⟩, ⟨none, .store 1 (.tmp 160) (.tmp 158), none, none, [15, 13, 0, 1, 2, 3, 4, 5, 6, 7, 8, 9, 10, 11, 12, 13]⟩]) (.seq (.reg [⟨some 162, .bin .eql (.tmp 58) (.cst (.int .u8 9)), none, none, []⟩, ⟨some 161, .mov (.tmp 162), none, none, []⟩]) (.cond (.tmp 161) (.dreg [⟨some 163, .mov (.tmp 11), none, none, []⟩, ⟨some 164, .mov (.tmp 10), none, none, []⟩, ⟨some 165, .ixa 3 (.tmp 163) (.tmp 164), none, none, [0, 1]⟩, ⟨some 166, .fld 1 (.tmp 165), none, none, [2]⟩, ⟨some 167, .load none (.tmp 166), none, none, [3]⟩, ⟨some 168, .mov (.tmp 12), none, none, []⟩, ⟨some 169, .mov (.tmp 3), none, none, []⟩, ⟨some 170, .bin .rem (.tmp 169) (.cst (.int .u8 10)), none, none, [6]⟩, ⟨some 171, .cvi .i64 (.tmp 170), none, none, [7]⟩, ⟨some 172, .bin .add (.cst (.int .i64 15)) (.tmp 171), none, none, [8]⟩, ⟨some 173, .mk 1 1 [.int .u8 0] (.tmp 172), none, none, [9, 9]⟩, ⟨some 174, .cvbs (.tmp 173), none, none, [10]⟩, ⟨some 175, .ixa 3 (.tmp 167) (.tmp 168), none, none, [4, 5, 0, 1, 2, 3, 4, 5, 6, 7, 8, 9, 10, 11]⟩, ⟨some 176, .fld 0 (.tmp 175), none, none, [12, 0, 1, 2, 3, 4, 5, 6, 7, 8, 9, 10, 11]⟩, ⟨none, .store 1 (.tmp 176) (.tmp 174), none, none, [13, 11, 0, 1, 2, 3, 4, 5, 6, 7, 8, 9, 10, 11]⟩]) (.seq (.reg [⟨some 178, .bin .eql (.tmp 58) (.cst (.int .u8 10)), none, none, []⟩, ⟨some 177, .mov (.tmp 178), none, none, []⟩]) (.cond (.tmp 177) (.block 3 (.loop c5b1)) (.block 1 (.loop c5b0)))))))))))))))))))))))))) (.seq (.reg [⟨some 210, .mov (.tmp 11), none, none, []⟩, ⟨some 211, .mov (.cst .undef), some (.cst (.func 21 []), [.tmp 210]), none, []⟩, ⟨some 212, .mov (.tmp 11), none, none, []⟩, ⟨some 213, .mov (.cst .undef), some (.cst (.func 22 []), [.tmp 212]), none, []⟩, ⟨some 214, .eqb false (.tmp 211) (.tmp 213), none, none, []⟩, ⟨some 8, .mov (.tmp 214), none, none, []⟩]) .ret)))))))))

theorem f5 : fnC Tryd.prog 5 = some (215, c5, [.tmp 8]) := by kernel_rfl

/-! 6: countinghouse/countinghouselaw05.TableChecks -/

/-! 7: countinghouse/countinghouselaw05.TablePacks -/

/-! 8: countinghouse/countinghouselaw05.TableTurned -/

/-! 9: countinghouse/countinghouselaw05.TableKeys -/

/-! 10: countinghouse/countinghouselaw05.noughts -/

def c10 : VC := .seq (.reg [⟨some 0, .mov (.cst (.bool false)), none, none, []⟩]) (.seq (.reg [⟨some 2, .build [.int .u8 0, .int .i64 0, .str ⟨#[]⟩] [(0, (1, .cst (.int .u8 1)))], none, none, []⟩, ⟨some 3, .bslice 3 1 [.int .u8 0, .int .i64 0, .str ⟨#[]⟩] [(0, .tmp 2)], none, none, []⟩, ⟨some 4, .mov (.cst .undef), some (.cst (.func 17 []), [.cst (.int .i64 1), .tmp 3]), none, []⟩, ⟨some 1, .mov (.tmp 4), none, none, []⟩]) (.seq (.reg [⟨some 5, .mov (.cst .undef), some (.cst (.func 28 []), [.cst (.sl 0 (some true) true [])]), none, []⟩, ⟨some 6, .bslice 1 1 [.int .u8 0] [(0, .cst (.int .u8 0))], none, none, []⟩, ⟨some 7, .mov (.cst .undef), some (.cst (.func 31 []), [.tmp 5, .tmp 6]), none, []⟩, ⟨some 8, .mov (.tmp 7), none, none, []⟩, ⟨some 9, .mov (.tmp 1), none, some (8, true), []⟩, ⟨some 10, .lens (.tmp 9), none, some (8, true), []⟩, ⟨some 11, .bin .eql (.tmp 10) (.cst (.int .i64 10)), none, some (8, true), []⟩, ⟨some 12, .pick (.tmp 8) (.tmp 11) (.cst (.bool false)), none, none, []⟩, ⟨some 13, .mov (.tmp 12), none, none, []⟩, ⟨some 14, .mov (.tmp 1), none, some (13, true), []⟩, ⟨some 15, .slstr (.tmp 14) none (some (.cst (.int .i64 3))), none, some (13, true), []⟩, ⟨some 16, .bin .eql (.tmp 15) (.cst (.str ⟨#[1, 2, 128]⟩)), none, some (13, true), []⟩, ⟨some 17, .pick (.tmp 13) (.tmp 16) (.cst (.bool false)), none, none, []⟩, ⟨some 0, .mov (.tmp 17), none, none, []⟩]) .ret))

theorem f10 : fnC Tryd.prog 10 = some (18, c10, [.tmp 0]) := by kernel_rfl

/-! 11: countinghouse/countinghouselaw05.few -/

def c11b0 : VC := .seq (.seq (.reg [⟨some 4, .mov (.tmp 3), none, none, []⟩, ⟨some 5, .mov (.tmp 0), none, none, []⟩, ⟨some 6, .lenl (.tmp 5), none, none, []⟩, ⟨some 7, .bin .lss (.tmp 4) (.tmp 6), none, none, []⟩]) (.cond (.tmp 7) .skip (.exit 0))) (.seq (.block 1 (.seq (.reg [⟨some 10, .mov (.tmp 0), none, none, []⟩, ⟨some 11, .mov (.tmp 3), none, none, []⟩, ⟨some 12, .ixa 2 (.tmp 10) (.tmp 11), none, none, []⟩, ⟨some 13, .fld 0 (.tmp 12), none, none, []⟩, ⟨some 14, .load none (.tmp 13), none, none, []⟩, ⟨some 15, .lenl (.tmp 14), none, none, []⟩, ⟨some 16, .bin .gtr (.tmp 15) (.cst (.int .i64 10)), none, none, []⟩]) (.cond (.tmp 16) (.seq (.reg [⟨some 2, .mov (.cst (.bool false)), none, none, []⟩]) .ret) .skip))) (.reg [⟨some 8, .mov (.tmp 3), none, none, []⟩, ⟨some 9, .bin .add (.tmp 8) (.cst (.int .i64 1)), none, none, []⟩, ⟨some 3, .mov (.tmp 9), none, none, []⟩]))

def c11 : VC := .seq (.reg [⟨some 2, .mov (.cst (.bool false)), none, none, []⟩]) (.seq (.seq (.reg [⟨some 3, .mov (.cst (.int .i64 0)), none, none, []⟩]) (.block 0 (.loop c11b0))) (.seq (.reg [⟨some 17, .mov (.tmp 0), none, none, []⟩, ⟨some 18, .lenl (.tmp 17), none, none, []⟩, ⟨some 19, .bin .leq (.tmp 18) (.cst (.int .i64 6)), none, none, []⟩, ⟨some 2, .mov (.tmp 19), none, none, []⟩]) .ret))

theorem f11 : fnC Tryd.prog 11 = some (20, c11, [.tmp 2]) := by kernel_rfl

/-! 12: countinghouse/countinghouseref05.Tables -/

def c12b0 : VC := .seq (.seq (.reg [⟨some 82, .mov (.tmp 8), none, none, []⟩, ⟨some 83, .fld 1 (.tmp 6), none, none, []⟩, ⟨some 84, .load none (.tmp 83), none, none, []⟩, ⟨some 85, .lenl (.tmp 84), none, none, []⟩, ⟨some 86, .bin .lss (.tmp 82) (.tmp 85), none, none, []⟩, ⟨some 87, .mov (.tmp 86), none, none, []⟩, ⟨some 88, .mov (.tmp 8), none, some (87, true), []⟩, ⟨some 89, .fld 0 (.tmp 5), none, some (87, true), []⟩, ⟨some 90, .load none (.tmp 89), none, some (87, true), []⟩, ⟨some 91, .lenl (.tmp 90), none, some (87, true), []⟩, ⟨some 92, .bin .lss (.tmp 88) (.tmp 91), none, some (87, true), []⟩, ⟨some 93, .pick (.tmp 87) (.tmp 92) (.cst (.bool false)), none, none, []⟩]) (.cond (.tmp 93) .skip (.exit 4))) (.seq (.block 5 (.dreg [⟨some 96, .fld 1 (.tmp 6), none, none, []⟩, ⟨some 97, .load none (.tmp 96), none, none, [0]⟩, ⟨some 98, .mov (.tmp 8), none, none, []⟩, ⟨some 99, .fld 0 (.tmp 5), none, none, []⟩, ⟨some 100, .load none (.tmp 99), none, none, [3]⟩, ⟨some 101, .mov (.tmp 8), none, none, []⟩, ⟨some 102, .ixa 1 (.tmp 100) (.tmp 101), none, none, [4, 5]⟩, ⟨some 103, .load none (.tmp 102), none, none, [6]⟩, ⟨some 104, .bin .rem (.tmp 103) (.cst (.int .u8 4)), none, none, [7]⟩, ⟨some 105, .bin .geq (.tmp 104) (.cst (.int .u8 2)), none, none, [8]⟩, ⟨some 106, .ixa 3 (.tmp 97) (.tmp 98), none, none, [1, 2, 0, 1, 2, 3, 4, 5, 6, 7, 8, 9]⟩, ⟨some 107, .fld 2 (.tmp 106), none, none, [10, 0, 1, 2, 3, 4, 5, 6, 7, 8, 9]⟩, ⟨none, .store 1 (.tmp 107) (.tmp 105), none, none, [11, 9, 0, 1, 2, 3, 4, 5, 6, 7, 8, 9]⟩])) (.reg [⟨some 94, .mov (.tmp 8), none, none, []⟩, ⟨some 95, .bin .add (.tmp 94) (.cst (.int .i64 1)), none, none, []⟩, ⟨some 8, .mov (.tmp 95), none, none, []⟩]))

def c12b1 : VC := .seq (.seq (.reg [⟨some 39, .mov (.tmp 7), none, none, []⟩, ⟨some 40, .fld 0 (.tmp 5), none, none, []⟩, ⟨some 41, .load none (.tmp 40), none, none, []⟩, ⟨some 42, .lenl (.tmp 41), none, none, []⟩, ⟨some 43, .bin .lss (.tmp 39) (.tmp 42), none, none, []⟩, ⟨some 44, .mov (.tmp 43), none, none, []⟩, ⟨some 45, .mov (.tmp 7), none, some (44, true), []⟩, ⟨some 46, .bin .lss (.tmp 45) (.cst (.int .i64 8)), none, some (44, true), []⟩, ⟨some 47, .pick (.tmp 44) (.tmp 46) (.cst (.bool false)), none, none, []⟩]) (.cond (.tmp 47) .skip (.exit 2))) (.seq (.block 3 (.seq (.seq (.reg [⟨some 50, .mov (.tmp 7), none, none, []⟩, ⟨some 51, .bin .eql (.tmp 50) (.cst (.int .i64 0)), none, none, []⟩]) (.cond (.tmp 51) (.reg [⟨some 52, .fld 1 (.tmp 6), none, none, []⟩, ⟨none, .store 1 (.tmp 52) (.cst (.sl 0 (some true) true [])), none, none, []⟩]) .skip)) (.dreg [⟨some 53, .fld 1 (.tmp 6), none, none, []⟩, ⟨some 54, .load none (.tmp 53), none, none, [0]⟩, ⟨some 55, .mov (.tmp 7), none, none, []⟩, ⟨some 56, .bin .add (.cst (.int .i64 97)) (.tmp 55), none, none, [2]⟩, ⟨some 57, .cvi .u8 (.tmp 56), none, none, [3]⟩, ⟨some 58, .bslice 1 1 [.int .u8 0] [(0, .tmp 57)], none, none, [4]⟩, ⟨some 59, .cvbs (.tmp 58), none, none, [5]⟩, ⟨some 60, .fld 0 (.tmp 5), none, none, []⟩, ⟨some 61, .load none (.tmp 60), none, none, [7]⟩, ⟨some 62, .mov (.tmp 7), none, none, []⟩, ⟨some 63, .ixa 1 (.tmp 61) (.tmp 62), none, none, [8, 9]⟩, ⟨some 64, .load none (.tmp 63), none, none, [10]⟩, ⟨some 65, .bin .rem (.tmp 64) (.cst (.int .u8 2)), none, none, [11]⟩, ⟨some 66, .bin .add (.cst (.int .u8 1)) (.tmp 65), none, none, [12]⟩, ⟨some 67, .build [.str ⟨#[]⟩, .int .u8 0, .bool false] [(0, (1, .tmp 59)), (1, (1, .tmp 66))], none, none, [6, 13]⟩, ⟨some 68, .bslice 3 1 [.str ⟨#[]⟩, .int .u8 0, .bool false] [(0, .tmp 67)], none, none, [14]⟩, ⟨some 69, .app 3 24 (.tmp 54) (.tmp 68), none, none, [1, 15]⟩, ⟨some 70, .fld 1 (.tmp 6), none, none, [0, 1, 2, 3, 4, 5, 6, 7, 8, 9, 10, 11, 12, 13, 14, 15, 16]⟩, ⟨none, .store 1 (.tmp 70) (.tmp 69), none, none, [17, 16, 16, 0, 1, 2, 3, 4, 5, 6, 7, 8, 9, 10, 11, 12, 13, 14, 15, 16]⟩]))) (.reg [⟨some 48, .mov (.tmp 7), none, none, []⟩, ⟨some 49, .bin .add (.tmp 48) (.cst (.int .i64 1)), none, none, []⟩, ⟨some 7, .mov (.tmp 49), none, none, []⟩]))

def c12b2 : VC := .seq (.seq (.reg [⟨some 9, .mov (.tmp 4), none, none, []⟩, ⟨some 10, .bin .lss (.tmp 9) (.cst (.int .i64 4)), none, none, []⟩, ⟨some 11, .mov (.tmp 10), none, none, []⟩, ⟨some 12, .mov (.tmp 4), none, some (11, true), []⟩, ⟨some 13, .mov (.tmp 0), none, some (11, true), []⟩, ⟨some 14, .lenl (.tmp 13), none, some (11, true), []⟩, ⟨some 15, .bin .lss (.tmp 12) (.tmp 14), none, some (11, true), []⟩, ⟨some 16, .mov (.tmp 15), none, some (11, true), []⟩, ⟨some 17, .mov (.tmp 4), none, some (16, false), []⟩, ⟨some 18, .bin .eql (.tmp 17) (.cst (.int .i64 0)), none, some (16, false), []⟩, ⟨some 19, .pick (.tmp 16) (.cst (.bool true)) (.tmp 18), none, some (11, true), []⟩, ⟨some 20, .pick (.tmp 11) (.tmp 19) (.cst (.bool false)), none, none, []⟩]) (.cond (.tmp 20) .skip (.exit 0))) (.seq (.block 1 (.seq (.reg [⟨some 5, .alloc (.agg [.sl 0 (some true) true [], .int .u8 0]), none, none, []⟩]) (.seq (.seq (.reg [⟨some 23, .mov (.tmp 4), none, none, []⟩, ⟨some 24, .mov (.tmp 0), none, none, []⟩, ⟨some 25, .lenl (.tmp 24), none, none, []⟩, ⟨some 26, .bin .lss (.tmp 23) (.tmp 25), none, none, []⟩]) (.cond (.tmp 26) (.reg [⟨some 27, .mov (.tmp 0), none, none, []⟩, ⟨some 28, .mov (.tmp 4), none, none, []⟩, ⟨some 29, .ixa 2 (.tmp 27) (.tmp 28), none, none, []⟩, ⟨some 30, .load (some 2) (.tmp 29), none, none, []⟩, ⟨none, .store 2 (.tmp 5) (.tmp 30), none, none, []⟩]) .skip)) (.seq (.reg [⟨some 31, .mov (.tmp 4), none, none, []⟩, ⟨some 32, .bin .add (.cst (.int .i64 48)) (.tmp 31), none, none, []⟩, ⟨some 33, .cvi .u8 (.tmp 32), none, none, []⟩, ⟨some 34, .bslice 1 2 [.int .u8 0] [(0, .cst (.int .u8 116)), (1, .tmp 33)], none, none, []⟩, ⟨some 35, .cvbs (.tmp 34), none, none, []⟩, ⟨some 36, .build [.str ⟨#[]⟩, .int .u8 0, .bool false] [(0, (1, .cst (.str ⟨#[97]⟩))), (1, (1, .cst (.int .u8 1)))], none, none, []⟩, ⟨some 37, .bslice 3 1 [.str ⟨#[]⟩, .int .u8 0, .bool false] [(0, .tmp 36)], none, none, []⟩, ⟨some 38, .build [.str ⟨#[]⟩, .sl 0 (some true) true [], .int .i64 0] [(0, (1, .tmp 35)), (1, (1, .tmp 37)), (2, (1, .cst (.int .i64 1)))], none, none, []⟩, ⟨some 6, .alloc (.agg [.str ⟨#[]⟩, .sl 0 (some true) true [], .int .i64 0]), none, none, []⟩, ⟨none, .store 3 (.tmp 6) (.tmp 38), none, none, []⟩]) (.seq (.seq (.reg [⟨some 7, .mov (.cst (.int .i64 0)), none, none, []⟩]) (.block 2 (.loop c12b1))) (.seq (.reg [⟨some 71, .fld 1 (.tmp 5), none, none, []⟩, ⟨some 72, .load none (.tmp 71), none, none, []⟩, ⟨some 73, .cvi .i64 (.tmp 72), none, none, []⟩, ⟨some 74, .fld 1 (.tmp 6), none, none, []⟩, ⟨some 75, .load none (.tmp 74), none, none, []⟩, ⟨some 76, .lenl (.tmp 75), none, none, []⟩, ⟨some 77, .bin .rem (.tmp 73) (.tmp 76), none, none, []⟩, ⟨some 78, .bin .add (.cst (.int .i64 1)) (.tmp 77), none, none, []⟩, ⟨some 79, .fld 2 (.tmp 6), none, none, []⟩, ⟨none, .store 1 (.tmp 79) (.tmp 78), none, none, []⟩]) (.seq (.seq (.reg [⟨some 80, .fld 2 (.tmp 6), none, none, []⟩, ⟨some 81, .load none (.tmp 80), none, none, []⟩, ⟨some 8, .mov (.tmp 81), none, none, []⟩]) (.block 4 (.loop c12b0))) (.reg [⟨some 108, .mov (.tmp 3), none, none, []⟩, ⟨some 109, .load (some 3) (.tmp 6), none, none, []⟩, ⟨some 110, .bslice 3 1 [.str ⟨#[]⟩, .sl 0 (some true) true [], .int .i64 0] [(0, .tmp 109)], none, none, []⟩, ⟨some 111, .app 3 48 (.tmp 108) (.tmp 110), none, none, []⟩, ⟨some 3, .mov (.tmp 111), none, none, []⟩])))))))) (.reg [⟨some 21, .mov (.tmp 4), none, none, []⟩, ⟨some 22, .bin .add (.tmp 21) (.cst (.int .i64 1)), none, none, []⟩, ⟨some 4, .mov (.tmp 22), none, none, []⟩]))

def c12 : VC := .seq (.reg [⟨some 2, .mov (.cst (.sl 0 (some true) true [])), none, none, []⟩]) (.seq (.reg [⟨some 3, .mov (.cst (.sl 0 (some true) true [])), none, none, []⟩]) (.seq (.seq (.reg [⟨some 4, .mov (.cst (.int .i64 0)), none, none, []⟩]) (.block 0 (.loop c12b2))) (.seq (.reg [⟨some 112, .mov (.tmp 3), none, none, []⟩, ⟨some 2, .mov (.tmp 112), none, none, []⟩]) .ret)))

theorem f12 : fnC Tryd.prog 12 = some (113, c12, [.tmp 2]) := by kernel_rfl

/-! 13: countinghouse/countinghouseref05.Fit -/

/-! 14: countinghouse/table.KeyOf -/

/-! 15: countinghouse/countinghouseref02.Compare -/

/-! 16: countinghouse/countinghouseref05.Key -/

/-! 17: countinghouse/table.Key -/

def c17 : VC := .seq (.reg [⟨some 4, .mov (.cst (.str ⟨#[]⟩)), none, none, []⟩]) (.seq (.reg [⟨some 5, .mov (.tmp 0), none, none, []⟩, ⟨some 6, .cvi .u8 (.tmp 5), none, none, []⟩, ⟨some 7, .bslice 1 1 [.int .u8 0] [(0, .tmp 6)], none, none, []⟩, ⟨some 8, .mov (.tmp 1), none, none, []⟩, ⟨some 9, .mov (.cst .undef), some (.cst (.func 38 []), [.tmp 8]), none, []⟩, ⟨some 10, .app 1 1 (.tmp 7) (.tmp 9), none, none, []⟩, ⟨some 11, .cvbs (.tmp 10), none, none, []⟩, ⟨some 4, .mov (.tmp 11), none, none, []⟩]) .ret)

theorem f17 : fnC Tryd.prog 17 = some (12, c17, [.tmp 4]) := by kernel_rfl

/-! 18: countinghouse/countinghouseref01.Values -/

/-! 19: countinghouse/table.Same -/

/-! 20: countinghouse/countinghouseref01.Same -/

/-! 21: countinghouse/table.Right -/

def c21b0 : VC := .seq (.reg [⟨some 22, .bin .lss (.tmp 21) (.tmp 20), none, none, []⟩]) (.seq (.cond (.tmp 22) .skip (.exit 0)) (.seq (.block 1 (.seq (.reg [⟨some 23, .ixa 3 (.tmp 19) (.tmp 21), none, none, []⟩, ⟨some 24, .load (some 3) (.tmp 23), none, none, []⟩, ⟨some 4, .alloc (.agg [.str ⟨#[]⟩, .sl 0 (some true) true [], .int .i64 0]), none, none, []⟩, ⟨none, .store 3 (.tmp 4) (.tmp 24), none, none, []⟩]) (.seq (.reg [⟨some 25, .fld 1 (.tmp 4), none, none, []⟩, ⟨some 26, .load none (.tmp 25), none, none, []⟩, ⟨some 27, .lenl (.tmp 26), none, none, []⟩, ⟨some 5, .mov (.tmp 27), none, none, []⟩]) (.seq (.reg [⟨some 28, .mov (.tmp 5), none, none, []⟩, ⟨some 29, .bin .lss (.tmp 28) (.cst (.int .i64 1)), none, none, []⟩, ⟨some 30, .mov (.tmp 29), none, none, []⟩, ⟨some 31, .mov (.tmp 5), none, some (30, false), []⟩, ⟨some 32, .bin .gtr (.tmp 31) (.cst (.int .i64 8)), none, some (30, false), []⟩, ⟨some 33, .pick (.tmp 30) (.cst (.bool true)) (.tmp 32), none, none, []⟩, ⟨some 34, .mov (.tmp 33), none, none, []⟩, ⟨some 35, .fld 2 (.tmp 4), none, some (34, false), []⟩, ⟨some 36, .load none (.tmp 35), none, some (34, false), []⟩, ⟨some 37, .bin .lss (.tmp 36) (.cst (.int .i64 1)), none, some (34, false), []⟩, ⟨some 38, .pick (.tmp 34) (.cst (.bool true)) (.tmp 37), none, none, []⟩, ⟨some 39, .mov (.tmp 38), none, none, []⟩, ⟨some 40, .fld 2 (.tmp 4), none, some (39, false), []⟩, ⟨some 41, .load none (.tmp 40), none, some (39, false), []⟩, ⟨some 42, .mov (.tmp 5), none, some (39, false), []⟩, ⟨some 43, .bin .gtr (.tmp 41) (.tmp 42), none, some (39, false), []⟩, ⟨some 44, .pick (.tmp 39) (.cst (.bool true)) (.tmp 43), none, none, []⟩, ⟨some 45, .mov (.tmp 44), none, none, []⟩, ⟨some 46, .load (some 3) (.tmp 4), none, some (45, false), []⟩, ⟨some 47, .mov (.cst .undef), some (.cst (.func 43 []), [.tmp 46]), some (45, false), []⟩, ⟨some 48, .un .not (.tmp 47), none, some (45, false), []⟩, ⟨some 49, .pick (.tmp 45) (.cst (.bool true)) (.tmp 48), none, none, []⟩]) (.cond (.tmp 49) (.seq (.reg [⟨some 2, .mov (.cst (.bool false)), none, none, []⟩]) .ret) .skip))))) (.reg [⟨some 50, .bin .add (.tmp 21) (.cst (.int .i64 1)), none, none, []⟩, ⟨some 21, .mov (.tmp 50), none, none, []⟩])))

def c21 : VC := .seq (.reg [⟨some 2, .mov (.cst (.bool false)), none, none, []⟩]) (.seq (.seq (.reg [⟨some 6, .mov (.tmp 0), none, none, []⟩, ⟨some 7, .lenl (.tmp 6), none, none, []⟩, ⟨some 8, .bin .lss (.tmp 7) (.cst (.int .i64 1)), none, none, []⟩, ⟨some 9, .mov (.tmp 8), none, none, []⟩, ⟨some 10, .mov (.tmp 0), none, some (9, false), []⟩, ⟨some 11, .lenl (.tmp 10), none, some (9, false), []⟩, ⟨some 12, .bin .gtr (.tmp 11) (.cst (.int .i64 4)), none, some (9, false), []⟩, ⟨some 13, .pick (.tmp 9) (.cst (.bool true)) (.tmp 12), none, none, []⟩, ⟨some 14, .mov (.tmp 13), none, none, []⟩, ⟨some 15, .mov (.tmp 0), none, some (14, false), []⟩, ⟨some 16, .mov (.cst .undef), some (.cst (.func 41 []), [.tmp 15, .cst (.func 42 [])]), some (14, false), []⟩, ⟨some 17, .un .not (.tmp 16), none, some (14, false), []⟩, ⟨some 18, .pick (.tmp 14) (.cst (.bool true)) (.tmp 17), none, none, []⟩]) (.cond (.tmp 18) (.seq (.reg [⟨some 2, .mov (.cst (.bool false)), none, none, []⟩]) .ret) .skip)) (.seq (.seq (.reg [⟨some 19, .mov (.tmp 0), none, none, []⟩, ⟨some 20, .lenl (.tmp 19), none, none, []⟩, ⟨some 21, .mov (.cst (.int .i64 0)), none, none, []⟩]) (.block 0 (.loop c21b0))) (.seq (.reg [⟨some 2, .mov (.cst (.bool true)), none, none, []⟩]) .ret)))

theorem f21 : fnC Tryd.prog 21 = some (51, c21, [.tmp 2]) := by kernel_rfl

/-! 22: countinghouse/countinghouseref05.Right -/

def c22b0 : VC := .seq (.seq (.reg [⟨some 105, .mov (.tmp 8), none, none, []⟩, ⟨some 106, .mov (.tmp 6), none, none, []⟩, ⟨some 107, .bin .lss (.tmp 105) (.tmp 106), none, none, []⟩]) (.cond (.tmp 107) .skip (.exit 6))) (.seq (.block 7 (.seq (.dreg [⟨some 110, .fld 1 (.tmp 4), none, none, []⟩, ⟨some 111, .load none (.tmp 110), none, none, [0]⟩, ⟨some 112, .mov (.tmp 8), none, none, []⟩, ⟨some 113, .ixa 3 (.tmp 111) (.tmp 112), none, none, [1, 2]⟩, ⟨some 114, .fld 0 (.tmp 113), none, none, [3]⟩, ⟨some 115, .load none (.tmp 114), none, none, [4]⟩, ⟨some 116, .fld 0 (.tmp 7), none, none, []⟩, ⟨some 117, .load none (.tmp 116), none, none, [6]⟩, ⟨some 118, .bin .eql (.tmp 115) (.tmp 117), none, none, [5, 7]⟩]) (.cond (.tmp 118) (.seq (.reg [⟨some 2, .mov (.cst (.bool false)), none, none, []⟩]) .ret) .skip))) (.reg [⟨some 108, .mov (.tmp 8), none, none, []⟩, ⟨some 109, .bin .add (.tmp 108) (.cst (.int .i64 1)), none, none, []⟩, ⟨some 8, .mov (.tmp 109), none, none, []⟩]))

def c22b1 : VC := .seq (.seq (.reg [⟨some 69, .mov (.tmp 6), none, none, []⟩, ⟨some 70, .fld 1 (.tmp 4), none, none, []⟩, ⟨some 71, .load none (.tmp 70), none, none, []⟩, ⟨some 72, .lenl (.tmp 71), none, none, []⟩, ⟨some 73, .bin .lss (.tmp 69) (.tmp 72), none, none, []⟩]) (.cond (.tmp 73) .skip (.exit 4))) (.seq (.block 5 (.seq (.reg [⟨some 76, .fld 1 (.tmp 4), none, none, []⟩, ⟨some 77, .load none (.tmp 76), none, none, []⟩, ⟨some 78, .mov (.tmp 6), none, none, []⟩, ⟨some 79, .ixa 3 (.tmp 77) (.tmp 78), none, none, []⟩, ⟨some 80, .load (some 3) (.tmp 79), none, none, []⟩, ⟨some 7, .alloc (.agg [.str ⟨#[]⟩, .int .u8 0, .bool false]), none, none, []⟩, ⟨none, .store 3 (.tmp 7) (.tmp 80), none, none, []⟩]) (.seq (.seq (.reg [⟨some 81, .fld 0 (.tmp 7), none, none, []⟩, ⟨some 82, .load none (.tmp 81), none, none, []⟩, ⟨some 83, .mov (.cst .undef), some (.cst (.func 44 []), [.tmp 82]), none, []⟩, ⟨some 84, .un .not (.tmp 83), none, none, []⟩, ⟨some 85, .mov (.tmp 84), none, none, []⟩, ⟨some 86, .fld 1 (.tmp 7), none, some (85, false), []⟩, ⟨some 87, .load none (.tmp 86), none, some (85, false), []⟩, ⟨some 88, .bin .neq (.tmp 87) (.cst (.int .u8 1)), none, some (85, false), []⟩, ⟨some 89, .mov (.tmp 88), none, some (85, false), []⟩, ⟨some 90, .fld 1 (.tmp 7), none, some (89, true), []⟩, ⟨some 91, .load none (.tmp 90), none, some (89, true), []⟩, ⟨some 92, .bin .neq (.tmp 91) (.cst (.int .u8 2)), none, some (89, true), []⟩, ⟨some 93, .pick (.tmp 89) (.tmp 92) (.cst (.bool false)), none, some (85, false), []⟩, ⟨some 94, .pick (.tmp 85) (.cst (.bool true)) (.tmp 93), none, none, []⟩, ⟨some 95, .mov (.tmp 94), none, none, []⟩, ⟨some 96, .fld 2 (.tmp 7), none, some (95, false), []⟩, ⟨some 97, .load none (.tmp 96), none, some (95, false), []⟩, ⟨some 98, .mov (.tmp 97), none, some (95, false), []⟩, ⟨some 99, .mov (.tmp 6), none, some (98, true), []⟩, ⟨some 100, .fld 2 (.tmp 4), none, some (98, true), []⟩, ⟨some 101, .load none (.tmp 100), none, some (98, true), []⟩, ⟨some 102, .bin .lss (.tmp 99) (.tmp 101), none, some (98, true), []⟩, ⟨some 103, .pick (.tmp 98) (.tmp 102) (.cst (.bool false)), none, some (95, false), []⟩, ⟨some 104, .pick (.tmp 95) (.cst (.bool true)) (.tmp 103), none, none, []⟩]) (.cond (.tmp 104) (.seq (.reg [⟨some 2, .mov (.cst (.bool false)), none, none, []⟩]) .ret) .skip)) (.seq (.reg [⟨some 8, .mov (.cst (.int .i64 0)), none, none, []⟩]) (.block 6 (.loop c22b0)))))) (.reg [⟨some 74, .mov (.tmp 6), none, none, []⟩, ⟨some 75, .bin .add (.tmp 74) (.cst (.int .i64 1)), none, none, []⟩, ⟨some 6, .mov (.tmp 75), none, none, []⟩]))

def c22b2 : VC := .seq (.seq (.reg [⟨some 27, .mov (.tmp 5), none, none, []⟩, ⟨some 28, .mov (.tmp 3), none, none, []⟩, ⟨some 29, .bin .lss (.tmp 27) (.tmp 28), none, none, []⟩]) (.cond (.tmp 29) .skip (.exit 2))) (.seq (.block 3 (.seq (.dreg [⟨some 32, .mov (.tmp 0), none, none, []⟩, ⟨some 33, .mov (.tmp 5), none, none, []⟩, ⟨some 34, .ixa 3 (.tmp 32) (.tmp 33), none, none, [0, 1]⟩, ⟨some 35, .fld 0 (.tmp 34), none, none, [2]⟩, ⟨some 36, .load none (.tmp 35), none, none, [3]⟩, ⟨some 37, .fld 0 (.tmp 4), none, none, []⟩, ⟨some 38, .load none (.tmp 37), none, none, [5]⟩, ⟨some 39, .bin .eql (.tmp 36) (.tmp 38), none, none, [4, 6]⟩]) (.cond (.tmp 39) (.seq (.reg [⟨some 2, .mov (.cst (.bool false)), none, none, []⟩]) .ret) .skip))) (.reg [⟨some 30, .mov (.tmp 5), none, none, []⟩, ⟨some 31, .bin .add (.tmp 30) (.cst (.int .i64 1)), none, none, []⟩, ⟨some 5, .mov (.tmp 31), none, none, []⟩]))

def c22b3 : VC := .seq (.seq (.reg [⟨some 17, .mov (.tmp 3), none, none, []⟩, ⟨some 18, .mov (.tmp 0), none, none, []⟩, ⟨some 19, .lenl (.tmp 18), none, none, []⟩, ⟨some 20, .bin .lss (.tmp 17) (.tmp 19), none, none, []⟩]) (.cond (.tmp 20) .skip (.exit 0))) (.seq (.block 1 (.seq (.reg [⟨some 23, .mov (.tmp 0), none, none, []⟩, ⟨some 24, .mov (.tmp 3), none, none, []⟩, ⟨some 25, .ixa 3 (.tmp 23) (.tmp 24), none, none, []⟩, ⟨some 26, .load (some 3) (.tmp 25), none, none, []⟩, ⟨some 4, .alloc (.agg [.str ⟨#[]⟩, .sl 0 (some true) true [], .int .i64 0]), none, none, []⟩, ⟨none, .store 3 (.tmp 4) (.tmp 26), none, none, []⟩]) (.seq (.seq (.reg [⟨some 5, .mov (.cst (.int .i64 0)), none, none, []⟩]) (.block 2 (.loop c22b2))) (.seq (.seq (.reg [⟨some 40, .fld 0 (.tmp 4), none, none, []⟩, ⟨some 41, .load none (.tmp 40), none, none, []⟩, ⟨some 42, .mov (.cst .undef), some (.cst (.func 44 []), [.tmp 41]), none, []⟩, ⟨some 43, .un .not (.tmp 42), none, none, []⟩, ⟨some 44, .mov (.tmp 43), none, none, []⟩, ⟨some 45, .fld 1 (.tmp 4), none, some (44, false), []⟩, ⟨some 46, .load none (.tmp 45), none, some (44, false), []⟩, ⟨some 47, .lenl (.tmp 46), none, some (44, false), []⟩, ⟨some 48, .bin .lss (.tmp 47) (.cst (.int .i64 1)), none, some (44, false), []⟩, ⟨some 49, .pick (.tmp 44) (.cst (.bool true)) (.tmp 48), none, none, []⟩, ⟨some 50, .mov (.tmp 49), none, none, []⟩, ⟨some 51, .fld 1 (.tmp 4), none, some (50, false), []⟩, ⟨some 52, .load none (.tmp 51), none, some (50, false), []⟩, ⟨some 53, .lenl (.tmp 52), none, some (50, false), []⟩, ⟨some 54, .bin .gtr (.tmp 53) (.cst (.int .i64 8)), none, some (50, false), []⟩, ⟨some 55, .pick (.tmp 50) (.cst (.bool true)) (.tmp 54), none, none, []⟩, ⟨some 56, .mov (.tmp 55), none, none, []⟩, ⟨some 57, .fld 2 (.tmp 4), none, some (56, false), []⟩, ⟨some 58, .load none (.tmp 57), none, some (56, false), []⟩, ⟨some 59, .bin .lss (.tmp 58) (.cst (.int .i64 1)), none, some (56, false), []⟩, ⟨some 60, .pick (.tmp 56) (.cst (.bool true)) (.tmp 59), none, none, []⟩, ⟨some 61, .mov (.tmp 60), none, none, []⟩, ⟨some 62, .fld 2 (.tmp 4), none, some (61, false), []⟩, ⟨some 63, .load none (.tmp 62), none, some (61, false), []⟩, ⟨some 64, .fld 1 (.tmp 4), none, some (61, false), []⟩, ⟨some 65, .load none (.tmp 64), none, some (61, false), []⟩, ⟨some 66, .lenl (.tmp 65), none, some (61, false), []⟩, ⟨some 67, .bin .gtr (.tmp 63) (.tmp 66), none, some (61, false), []⟩, ⟨some 68, .pick (.tmp 61) (.cst (.bool true)) (.tmp 67), none, none, []⟩]) (.cond (.tmp 68) (.seq (.reg [⟨some 2, .mov (.cst (.bool false)), none, none, []⟩]) .ret) .skip)) (.seq (.reg [⟨some 6, .mov (.cst (.int .i64 0)), none, none, []⟩]) (.block 4 (.loop c22b1))))))) (.reg [⟨some 21, .mov (.tmp 3), none, none, []⟩, ⟨some 22, .bin .add (.tmp 21) (.cst (.int .i64 1)), none, none, []⟩, ⟨some 3, .mov (.tmp 22), none, none, []⟩]))

def c22 : VC := .seq (.reg [⟨some 2, .mov (.cst (.bool false)), none, none, []⟩]) (.seq (.seq (.reg [⟨some 9, .mov (.tmp 0), none, none, []⟩, ⟨some 10, .lenl (.tmp 9), none, none, []⟩, ⟨some 11, .bin .lss (.tmp 10) (.cst (.int .i64 1)), none, none, []⟩, ⟨some 12, .mov (.tmp 11), none, none, []⟩, ⟨some 13, .mov (.tmp 0), none, some (12, false), []⟩, ⟨some 14, .lenl (.tmp 13), none, some (12, false), []⟩, ⟨some 15, .bin .gtr (.tmp 14) (.cst (.int .i64 4)), none, some (12, false), []⟩, ⟨some 16, .pick (.tmp 12) (.cst (.bool true)) (.tmp 15), none, none, []⟩]) (.cond (.tmp 16) (.seq (.reg [⟨some 2, .mov (.cst (.bool false)), none, none, []⟩]) .ret) .skip)) (.seq (.seq (.reg [⟨some 3, .mov (.cst (.int .i64 0)), none, none, []⟩]) (.block 0 (.loop c22b3))) (.seq (.reg [⟨some 2, .mov (.cst (.bool true)), none, none, []⟩]) .ret)))

theorem f22 : fnC Tryd.prog 22 = some (119, c22, [.tmp 2]) := by kernel_rfl

/-! 23: countinghouse/table.Check -/

/-! 24: countinghouse/table.CheckKey -/

/-! 25: countinghouse/countinghouseref01.Of -/

/-! 26: countinghouse/countinghouseref05.Check -/

/-! 27: countinghouse/countinghouseref05.CheckKey -/

/-! 28: countinghouse/table.Pack -/

def c28b0 : VC := .seq (.reg [⟨some 13, .bin .lss (.tmp 12) (.tmp 11), none, none, []⟩]) (.seq (.cond (.tmp 13) .skip (.exit 0)) (.seq (.block 1 (.seq (.reg [⟨some 14, .ixa 3 (.tmp 10) (.tmp 12), none, none, []⟩, ⟨some 15, .load (some 3) (.tmp 14), none, none, []⟩, ⟨some 5, .alloc (.agg [.int .u8 0, .int .i64 0, .str ⟨#[]⟩]), none, none, []⟩, ⟨none, .store 3 (.tmp 5) (.tmp 15), none, none, []⟩]) (.reg [⟨some 16, .mov (.tmp 3), none, none, []⟩, ⟨some 17, .load (some 3) (.tmp 5), none, none, []⟩, ⟨some 18, .mov (.cst .undef), some (.cst (.func 48 []), [.tmp 17]), none, []⟩, ⟨some 19, .app 1 1 (.tmp 16) (.tmp 18), none, none, []⟩, ⟨some 3, .mov (.tmp 19), none, none, []⟩]))) (.reg [⟨some 20, .bin .add (.tmp 12) (.cst (.int .i64 1)), none, none, []⟩, ⟨some 12, .mov (.tmp 20), none, none, []⟩])))

def c28 : VC := .seq (.reg [⟨some 2, .mov (.cst (.sl 0 (some true) true [])), none, none, []⟩]) (.seq (.reg [⟨some 6, .mov (.tmp 0), none, none, []⟩, ⟨some 7, .lenl (.tmp 6), none, none, []⟩, ⟨some 8, .cvi .u8 (.tmp 7), none, none, []⟩, ⟨some 9, .bslice 1 1 [.int .u8 0] [(0, .tmp 8)], none, none, []⟩, ⟨some 3, .mov (.tmp 9), none, none, []⟩]) (.seq (.seq (.reg [⟨some 10, .mov (.tmp 0), none, none, []⟩, ⟨some 11, .lenl (.tmp 10), none, none, []⟩, ⟨some 12, .mov (.cst (.int .i64 0)), none, none, []⟩]) (.block 0 (.loop c28b0))) (.seq (.reg [⟨some 21, .mov (.tmp 3), none, none, []⟩, ⟨some 2, .mov (.tmp 21), none, none, []⟩]) .ret)))

theorem f28 : fnC Tryd.prog 28 = some (22, c28, [.tmp 2]) := by kernel_rfl

/-! 29: countinghouse/table.Unpack -/

/-! 30: countinghouse/countinghouseref05.Unpack -/

/-! 31: countinghouse/countinghouseref01.Bytes -/

def c31b0 : VC := .seq (.seq (.reg [⟨some 11, .mov (.tmp 5), none, none, []⟩, ⟨some 12, .mov (.tmp 0), none, none, []⟩, ⟨some 13, .lenl (.tmp 12), none, none, []⟩, ⟨some 14, .bin .lss (.tmp 11) (.tmp 13), none, none, []⟩]) (.cond (.tmp 14) .skip (.exit 0))) (.seq (.block 1 (.seq (.dreg [⟨some 17, .mov (.tmp 0), none, none, []⟩, ⟨some 18, .mov (.tmp 5), none, none, []⟩, ⟨some 19, .ixa 1 (.tmp 17) (.tmp 18), none, none, [0, 1]⟩, ⟨some 20, .load none (.tmp 19), none, none, [2]⟩, ⟨some 21, .mov (.tmp 1), none, none, []⟩, ⟨some 22, .mov (.tmp 5), none, none, []⟩, ⟨some 23, .ixa 1 (.tmp 21) (.tmp 22), none, none, [4, 5]⟩, ⟨some 24, .load none (.tmp 23), none, none, [6]⟩, ⟨some 25, .bin .neq (.tmp 20) (.tmp 24), none, none, [3, 7]⟩]) (.cond (.tmp 25) (.seq (.reg [⟨some 4, .mov (.cst (.bool false)), none, none, []⟩]) .ret) .skip))) (.reg [⟨some 15, .mov (.tmp 5), none, none, []⟩, ⟨some 16, .bin .add (.tmp 15) (.cst (.int .i64 1)), none, none, []⟩, ⟨some 5, .mov (.tmp 16), none, none, []⟩]))

def c31 : VC := .seq (.reg [⟨some 4, .mov (.cst (.bool false)), none, none, []⟩]) (.seq (.seq (.reg [⟨some 6, .mov (.tmp 0), none, none, []⟩, ⟨some 7, .lenl (.tmp 6), none, none, []⟩, ⟨some 8, .mov (.tmp 1), none, none, []⟩, ⟨some 9, .lenl (.tmp 8), none, none, []⟩, ⟨some 10, .bin .neq (.tmp 7) (.tmp 9), none, none, []⟩]) (.cond (.tmp 10) (.seq (.reg [⟨some 4, .mov (.cst (.bool false)), none, none, []⟩]) .ret) .skip)) (.seq (.seq (.reg [⟨some 5, .mov (.cst (.int .i64 0)), none, none, []⟩]) (.block 0 (.loop c31b0))) (.seq (.reg [⟨some 4, .mov (.cst (.bool true)), none, none, []⟩]) .ret)))

theorem f31 : fnC Tryd.prog 31 = some (26, c31, [.tmp 4]) := by kernel_rfl

/-! 32: countinghouse/countinghouseref05.Pack -/

/-! 33: countinghouse/countinghouseref01.Join -/

/-! 34: countinghouse/table.Split -/

/-! 35: countinghouse/countinghouseref02.Back -/

/-! 36: countinghouse/countinghouseref01.Compare -/

/-! 37: countinghouse/countinghouseref02.Key -/

/-! 38: countinghouse/order.Key -/

def c38b0 : VC := .seq (.reg [⟨some 9, .bin .lss (.tmp 8) (.tmp 7), none, none, []⟩]) (.seq (.cond (.tmp 9) .skip (.exit 0)) (.seq (.block 1 (.seq (.reg [⟨some 10, .ixa 3 (.tmp 6) (.tmp 8), none, none, []⟩, ⟨some 11, .load (some 3) (.tmp 10), none, none, []⟩, ⟨some 5, .alloc (.agg [.int .u8 0, .int .i64 0, .str ⟨#[]⟩]), none, none, []⟩, ⟨none, .store 3 (.tmp 5) (.tmp 11), none, none, []⟩]) (.reg [⟨some 12, .mov (.tmp 3), none, none, []⟩, ⟨some 13, .load (some 3) (.tmp 5), none, none, []⟩, ⟨some 14, .mov (.cst .undef), some (.cst (.func 55 []), [.tmp 13]), none, []⟩, ⟨some 15, .app 1 1 (.tmp 12) (.tmp 14), none, none, []⟩, ⟨some 3, .mov (.tmp 15), none, none, []⟩]))) (.reg [⟨some 16, .bin .add (.tmp 8) (.cst (.int .i64 1)), none, none, []⟩, ⟨some 8, .mov (.tmp 16), none, none, []⟩])))

def c38 : VC := .seq (.reg [⟨some 2, .mov (.cst (.sl 0 (some true) true [])), none, none, []⟩]) (.seq (.reg [⟨some 3, .mov (.cst (.sl 0 (some true) true [])), none, none, []⟩]) (.seq (.seq (.reg [⟨some 6, .mov (.tmp 0), none, none, []⟩, ⟨some 7, .lenl (.tmp 6), none, none, []⟩, ⟨some 8, .mov (.cst (.int .i64 0)), none, none, []⟩]) (.block 0 (.loop c38b0))) (.seq (.reg [⟨some 17, .mov (.tmp 3), none, none, []⟩, ⟨some 2, .mov (.tmp 17), none, none, []⟩]) .ret)))

theorem f38 : fnC Tryd.prog 38 = some (18, c38, [.tmp 2]) := by kernel_rfl

/-! 39: slices.EqualFunc[[]countinghouse/api.Value,[]countinghouse/api.Value,countinghouse/api.Value,countinghouse/api.Value] -/

/-! 40: countinghouse/value.Same -/

/-! 41: countinghouse/table.unlike[countinghouse/api.Table] -/

def c41b0 : VC := .seq (.reg [⟨some 13, .bin .lss (.tmp 12) (.tmp 11), none, none, []⟩]) (.seq (.cond (.tmp 13) .skip (.exit 0)) (.seq (.block 1 (.seq (.reg [⟨some 14, .ixa 3 (.tmp 10) (.tmp 12), none, none, []⟩, ⟨some 15, .load (some 3) (.tmp 14), none, none, []⟩, ⟨some 7, .alloc (.agg [.str ⟨#[]⟩, .sl 0 (some true) true [], .int .i64 0]), none, none, []⟩, ⟨none, .store 3 (.tmp 7) (.tmp 15), none, none, []⟩]) (.seq (.reg [⟨some 16, .mov (.tmp 1), none, none, []⟩, ⟨some 17, .load (some 3) (.tmp 7), none, none, []⟩, ⟨some 18, .mov (.cst .undef), some (.tmp 16, [.tmp 17]), none, []⟩, ⟨some 8, .mov (.tmp 18), none, none, []⟩]) (.seq (.seq (.reg [⟨some 19, .mov (.tmp 8), none, none, []⟩, ⟨some 20, .mov (.cst .undef), some (.cst (.func 56 []), [.tmp 19]), none, []⟩, ⟨some 21, .un .not (.tmp 20), none, none, []⟩, ⟨some 22, .mov (.tmp 21), none, none, []⟩, ⟨some 23, .mov (.tmp 5), none, some (22, false), []⟩, ⟨some 24, .mov (.tmp 8), none, some (22, false), []⟩, ⟨some 25, .mget (.tmp 23) (.tmp 24), none, some (22, false), []⟩, ⟨some 26, .pick (.tmp 22) (.cst (.bool true)) (.tmp 25), none, none, []⟩]) (.cond (.tmp 26) (.seq (.reg [⟨some 4, .mov (.cst (.bool false)), none, none, []⟩]) .ret) .skip)) (.reg [⟨some 27, .mov (.tmp 5), none, none, []⟩, ⟨some 28, .mov (.tmp 8), none, none, []⟩, ⟨none, .mset (.tmp 27) (.tmp 28) (.cst (.bool true)), none, none, []⟩]))))) (.reg [⟨some 29, .bin .add (.tmp 12) (.cst (.int .i64 1)), none, none, []⟩, ⟨some 12, .mov (.tmp 29), none, none, []⟩])))

def c41 : VC := .seq (.reg [⟨some 4, .mov (.cst (.bool false)), none, none, []⟩]) (.seq (.reg [⟨some 9, .mkm, none, none, []⟩, ⟨some 5, .mov (.tmp 9), none, none, []⟩]) (.seq (.seq (.reg [⟨some 10, .mov (.tmp 0), none, none, []⟩, ⟨some 11, .lenl (.tmp 10), none, none, []⟩, ⟨some 12, .mov (.cst (.int .i64 0)), none, none, []⟩]) (.block 0 (.loop c41b0))) (.seq (.reg [⟨some 4, .mov (.cst (.bool true)), none, none, []⟩]) .ret)))

theorem f41 : fnC Tryd.prog 41 = some (30, c41, [.tmp 4]) := by kernel_rfl

/-! 42: countinghouse/table.Right$1 -/

def c42 : VC := .seq (.reg [⟨some 1, .box (.tmp 0), none, none, []⟩, ⟨some 2, .mov (.cst (.str ⟨#[]⟩)), none, none, []⟩]) (.seq (.reg [⟨some 3, .fld 0 (.tmp 1), none, none, []⟩, ⟨some 4, .load none (.tmp 3), none, none, []⟩, ⟨some 2, .mov (.tmp 4), none, none, []⟩]) .ret)

theorem f42 : fnC Tryd.prog 42 = some (5, c42, [.tmp 2]) := by kernel_rfl

/-! 43: countinghouse/table.columns -/

def c43b0 : VC := .seq (.reg [⟨some 9, .bin .lss (.tmp 8) (.tmp 7), none, none, []⟩]) (.seq (.cond (.tmp 9) .skip (.exit 0)) (.seq (.block 1 (.seq (.reg [⟨some 10, .mov (.tmp 8), none, none, []⟩, ⟨some 11, .ixa 3 (.tmp 6) (.tmp 8), none, none, []⟩, ⟨some 12, .load (some 3) (.tmp 11), none, none, []⟩, ⟨some 4, .alloc (.agg [.str ⟨#[]⟩, .int .u8 0, .bool false]), none, none, []⟩, ⟨some 3, .mov (.tmp 10), none, none, []⟩, ⟨none, .store 3 (.tmp 4) (.tmp 12), none, none, []⟩]) (.seq (.reg [⟨some 13, .fld 1 (.tmp 4), none, none, []⟩, ⟨some 14, .load none (.tmp 13), none, none, []⟩, ⟨some 15, .bin .neq (.tmp 14) (.cst (.int .u8 1)), none, none, []⟩, ⟨some 16, .mov (.tmp 15), none, none, []⟩, ⟨some 17, .fld 1 (.tmp 4), none, some (16, true), []⟩, ⟨some 18, .load none (.tmp 17), none, some (16, true), []⟩, ⟨some 19, .bin .neq (.tmp 18) (.cst (.int .u8 2)), none, some (16, true), []⟩, ⟨some 20, .pick (.tmp 16) (.tmp 19) (.cst (.bool false)), none, none, []⟩, ⟨some 21, .mov (.tmp 20), none, none, []⟩, ⟨some 22, .fld 2 (.tmp 4), none, some (21, false), []⟩, ⟨some 23, .load none (.tmp 22), none, some (21, false), []⟩, ⟨some 24, .mov (.tmp 23), none, some (21, false), []⟩, ⟨some 25, .mov (.tmp 3), none, some (24, true), []⟩, ⟨some 26, .fld 2 (.tmp 1), none, some (24, true), []⟩, ⟨some 27, .load none (.tmp 26), none, some (24, true), []⟩, ⟨some 28, .bin .lss (.tmp 25) (.tmp 27), none, some (24, true), []⟩, ⟨some 29, .pick (.tmp 24) (.tmp 28) (.cst (.bool false)), none, some (21, false), []⟩, ⟨some 30, .pick (.tmp 21) (.cst (.bool true)) (.tmp 29), none, none, []⟩]) (.cond (.tmp 30) (.seq (.reg [⟨some 2, .mov (.cst (.bool false)), none, none, []⟩]) .ret) .skip)))) (.reg [⟨some 31, .bin .add (.tmp 8) (.cst (.int .i64 1)), none, none, []⟩, ⟨some 8, .mov (.tmp 31), none, none, []⟩])))

def c43 : VC := .seq (.reg [⟨some 1, .box (.tmp 0), none, none, []⟩, ⟨some 2, .mov (.cst (.bool false)), none, none, []⟩]) (.seq (.seq (.reg [⟨some 5, .fld 1 (.tmp 1), none, none, []⟩, ⟨some 6, .load none (.tmp 5), none, none, []⟩, ⟨some 7, .lenl (.tmp 6), none, none, []⟩, ⟨some 8, .mov (.cst (.int .i64 0)), none, none, []⟩]) (.block 0 (.loop c43b0))) (.seq (.reg [⟨some 32, .fld 1 (.tmp 1), none, none, []⟩, ⟨some 33, .load none (.tmp 32), none, none, []⟩, ⟨some 34, .mov (.cst .undef), some (.cst (.func 57 []), [.tmp 33, .cst (.func 58 [])]), none, []⟩, ⟨some 2, .mov (.tmp 34), none, none, []⟩]) .ret))

theorem f43 : fnC Tryd.prog 43 = some (35, c43, [.tmp 2]) := by kernel_rfl

/-! 44: countinghouse/countinghouseref05.named -/

def c44 : VC := .seq (.reg [⟨some 2, .mov (.cst (.bool false)), none, none, []⟩]) (.seq (.reg [⟨some 3, .mov (.tmp 0), none, none, []⟩, ⟨some 4, .lens (.tmp 3), none, none, []⟩, ⟨some 5, .bin .gtr (.tmp 4) (.cst (.int .i64 0)), none, none, []⟩, ⟨some 6, .mov (.tmp 5), none, none, []⟩, ⟨some 7, .mov (.tmp 0), none, some (6, true), []⟩, ⟨some 8, .lens (.tmp 7), none, some (6, true), []⟩, ⟨some 9, .bin .leq (.tmp 8) (.cst (.int .i64 20)), none, some (6, true), []⟩, ⟨some 10, .pick (.tmp 6) (.tmp 9) (.cst (.bool false)), none, none, []⟩, ⟨some 2, .mov (.tmp 10), none, none, []⟩]) .ret)

theorem f44 : fnC Tryd.prog 44 = some (11, c44, [.tmp 2]) := by kernel_rfl

/-! 45: countinghouse/table.has -/

/-! 46: countinghouse/table.check -/

/-! 47: countinghouse/countinghouseref05.check -/

/-! 48: countinghouse/value.Encode -/

def c48b0 : VC := .seq (.seq (.reg [⟨some 12, .mov (.tmp 4), none, none, []⟩, ⟨some 13, .bin .geq (.tmp 12) (.cst (.int .i64 0)), none, none, []⟩]) (.cond (.tmp 13) .skip (.exit 1))) (.seq (.block 2 (.reg [⟨some 16, .mov (.tmp 3), none, none, []⟩, ⟨some 17, .fld 1 (.tmp 1), none, none, []⟩, ⟨some 18, .load none (.tmp 17), none, none, []⟩, ⟨some 19, .mov (.tmp 4), none, none, []⟩, ⟨some 20, .bin .mul (.cst (.int .i64 8)) (.tmp 19), none, none, []⟩, ⟨some 21, .bin .shr (.tmp 18) (.tmp 20), none, none, []⟩, ⟨some 22, .cvi .u8 (.tmp 21), none, none, []⟩, ⟨some 23, .bslice 1 1 [.int .u8 0] [(0, .tmp 22)], none, none, []⟩, ⟨some 24, .app 1 1 (.tmp 16) (.tmp 23), none, none, []⟩, ⟨some 3, .mov (.tmp 24), none, none, []⟩])) (.reg [⟨some 14, .mov (.tmp 4), none, none, []⟩, ⟨some 15, .bin .sub (.tmp 14) (.cst (.int .i64 1)), none, none, []⟩, ⟨some 4, .mov (.tmp 15), none, none, []⟩]))

def c48 : VC := .seq (.reg [⟨some 1, .box (.tmp 0), none, none, []⟩, ⟨some 2, .mov (.cst (.sl 0 (some true) true [])), none, none, []⟩]) (.seq (.reg [⟨some 5, .fld 0 (.tmp 1), none, none, []⟩, ⟨some 6, .load none (.tmp 5), none, none, []⟩, ⟨some 7, .bslice 1 1 [.int .u8 0] [(0, .tmp 6)], none, none, []⟩, ⟨some 3, .mov (.tmp 7), none, none, []⟩]) (.seq (.seq (.reg [⟨some 8, .fld 0 (.tmp 1), none, none, []⟩, ⟨some 9, .load none (.tmp 8), none, none, []⟩]) (.block 0 (.seq (.reg [⟨some 11, .bin .eql (.tmp 9) (.cst (.int .u8 1)), none, none, []⟩, ⟨some 10, .mov (.tmp 11), none, none, []⟩]) (.cond (.tmp 10) (.seq (.reg [⟨some 4, .mov (.cst (.int .i64 7)), none, none, []⟩]) (.block 1 (.loop c48b0))) (.seq (.reg [⟨some 26, .bin .eql (.tmp 9) (.cst (.int .u8 2)), none, none, []⟩, ⟨some 25, .mov (.tmp 26), none, none, []⟩]) (.cond (.tmp 25) (.seq (.reg [⟨some 27, .mov (.tmp 3), none, none, []⟩, ⟨some 28, .fld 2 (.tmp 1), none, none, []⟩, ⟨some 29, .load none (.tmp 28), none, none, []⟩, ⟨some 30, .lens (.tmp 29), none, none, []⟩, ⟨some 31, .bin .shr (.tmp 30) (.cst (.int .u64 8)), none, none, []⟩, ⟨some 32, .cvi .u8 (.tmp 31), none, none, []⟩, ⟨some 33, .fld 2 (.tmp 1), none, none, []⟩, ⟨some 34, .load none (.tmp 33), none, none, []⟩, ⟨some 35, .lens (.tmp 34), none, none, []⟩, ⟨some 36, .cvi .u8 (.tmp 35), none, none, []⟩, ⟨some 37, .bslice 1 2 [.int .u8 0] [(0, .tmp 32), (1, .tmp 36)], none, none, []⟩, ⟨some 38, .app 1 1 (.tmp 27) (.tmp 37), none, none, []⟩, ⟨some 3, .mov (.tmp 38), none, none, []⟩]) (.reg [⟨some 39, .mov (.tmp 3), none, none, []⟩, ⟨some 40, .fld 2 (.tmp 1), none, none, []⟩, ⟨some 41, .load none (.tmp 40), none, none, []⟩, ⟨some 42, .apps 1 (.tmp 39) (.tmp 41), none, none, []⟩, ⟨some 3, .mov (.tmp 42), none, none, []⟩])) .skip)))))) (.seq (.reg [⟨some 43, .mov (.tmp 3), none, none, []⟩, ⟨some 2, .mov (.tmp 43), none, none, []⟩]) .ret)))

theorem f48 : fnC Tryd.prog 48 = some (44, c48, [.tmp 2]) := by kernel_rfl

/-! 49: countinghouse/value.Decode -/

/-! 50: countinghouse/countinghouseref01.Decode -/

/-! 51: countinghouse/countinghouseref01.Encode -/

/-! 52: countinghouse/order.Back -/

/-! 53: countinghouse/countinghouseref01.Read -/

/-! 54: countinghouse/countinghouseref01.Num -/

/-! 55: countinghouse/order.one -/

def c55b0 : VC := .seq (.seq (.reg [⟨some 16, .mov (.tmp 5), none, none, []⟩, ⟨some 17, .bin .geq (.tmp 16) (.cst (.int .i64 0)), none, none, []⟩]) (.cond (.tmp 17) .skip (.exit 1))) (.seq (.block 2 (.reg [⟨some 20, .mov (.tmp 3), none, none, []⟩, ⟨some 21, .mov (.tmp 4), none, none, []⟩, ⟨some 22, .mov (.tmp 5), none, none, []⟩, ⟨some 23, .bin .mul (.cst (.int .i64 8)) (.tmp 22), none, none, []⟩, ⟨some 24, .bin .shr (.tmp 21) (.tmp 23), none, none, []⟩, ⟨some 25, .cvi .u8 (.tmp 24), none, none, []⟩, ⟨some 26, .bslice 1 1 [.int .u8 0] [(0, .tmp 25)], none, none, []⟩, ⟨some 27, .app 1 1 (.tmp 20) (.tmp 26), none, none, []⟩, ⟨some 3, .mov (.tmp 27), none, none, []⟩])) (.reg [⟨some 18, .mov (.tmp 5), none, none, []⟩, ⟨some 19, .bin .sub (.tmp 18) (.cst (.int .i64 1)), none, none, []⟩, ⟨some 5, .mov (.tmp 19), none, none, []⟩]))

def c55 : VC := .seq (.reg [⟨some 1, .box (.tmp 0), none, none, []⟩, ⟨some 2, .mov (.cst (.sl 0 (some true) true [])), none, none, []⟩]) (.seq (.seq (.reg [⟨some 7, .fld 0 (.tmp 1), none, none, []⟩, ⟨some 8, .load none (.tmp 7), none, none, []⟩]) (.block 0 (.seq (.reg [⟨some 10, .bin .eql (.tmp 8) (.cst (.int .u8 1)), none, none, []⟩, ⟨some 9, .mov (.tmp 10), none, none, []⟩]) (.cond (.tmp 9) (.seq (.reg [⟨some 11, .bslice 1 1 [.int .u8 0] [(0, .cst (.int .u8 2))], none, none, []⟩, ⟨some 3, .mov (.tmp 11), none, none, []⟩]) (.seq (.reg [⟨some 12, .fld 1 (.tmp 1), none, none, []⟩, ⟨some 13, .load none (.tmp 12), none, none, []⟩, ⟨some 14, .cvi .u64 (.tmp 13), none, none, []⟩, ⟨some 15, .bin .xor (.tmp 14) (.cst (.int .u64 9223372036854775808)), none, none, []⟩, ⟨some 4, .mov (.tmp 15), none, none, []⟩]) (.seq (.seq (.reg [⟨some 5, .mov (.cst (.int .i64 7)), none, none, []⟩]) (.block 1 (.loop c55b0))) (.seq (.reg [⟨some 28, .mov (.tmp 3), none, none, []⟩, ⟨some 2, .mov (.tmp 28), none, none, []⟩]) .ret)))) (.seq (.reg [⟨some 30, .bin .eql (.tmp 8) (.cst (.int .u8 2)), none, none, []⟩, ⟨some 29, .mov (.tmp 30), none, none, []⟩]) (.cond (.tmp 29) (.seq (.reg [⟨some 31, .bslice 1 1 [.int .u8 0] [(0, .cst (.int .u8 3))], none, none, []⟩, ⟨some 32, .fld 2 (.tmp 1), none, none, []⟩, ⟨some 33, .load none (.tmp 32), none, none, []⟩, ⟨some 34, .cvsb (.tmp 33), none, none, []⟩, ⟨some 35, .bslice 1 1 [.int .u8 0] [(0, .cst (.int .u8 0))], none, none, []⟩, ⟨some 36, .bslice 1 2 [.int .u8 0] [(0, .cst (.int .u8 0)), (1, .cst (.int .u8 255))], none, none, []⟩, ⟨some 37, .mov (.cst .undef), some (.cst (.func 66 []), [.tmp 34, .tmp 35, .tmp 36]), none, []⟩, ⟨some 38, .app 1 1 (.tmp 31) (.tmp 37), none, none, []⟩, ⟨some 6, .mov (.tmp 38), none, none, []⟩]) (.seq (.reg [⟨some 39, .mov (.tmp 6), none, none, []⟩, ⟨some 40, .bslice 1 2 [.int .u8 0] [(0, .cst (.int .u8 0)), (1, .cst (.int .u8 1))], none, none, []⟩, ⟨some 41, .app 1 1 (.tmp 39) (.tmp 40), none, none, []⟩, ⟨some 2, .mov (.tmp 41), none, none, []⟩]) .ret)) .skip)))))) (.seq (.reg [⟨some 42, .bslice 1 1 [.int .u8 0] [(0, .cst (.int .u8 1))], none, none, []⟩, ⟨some 2, .mov (.tmp 42), none, none, []⟩]) .ret))

theorem f55 : fnC Tryd.prog 55 = some (43, c55, [.tmp 2]) := by kernel_rfl

/-! 56: countinghouse/table.named -/

def c56 : VC := .seq (.reg [⟨some 2, .mov (.cst (.bool false)), none, none, []⟩]) (.seq (.reg [⟨some 3, .mov (.tmp 0), none, none, []⟩, ⟨some 4, .lens (.tmp 3), none, none, []⟩, ⟨some 5, .bin .geq (.tmp 4) (.cst (.int .i64 1)), none, none, []⟩, ⟨some 6, .mov (.tmp 5), none, none, []⟩, ⟨some 7, .mov (.tmp 0), none, some (6, true), []⟩, ⟨some 8, .lens (.tmp 7), none, some (6, true), []⟩, ⟨some 9, .bin .leq (.tmp 8) (.cst (.int .i64 20)), none, some (6, true), []⟩, ⟨some 10, .pick (.tmp 6) (.tmp 9) (.cst (.bool false)), none, none, []⟩, ⟨some 2, .mov (.tmp 10), none, none, []⟩]) .ret)

theorem f56 : fnC Tryd.prog 56 = some (11, c56, [.tmp 2]) := by kernel_rfl

/-! 57: countinghouse/table.unlike[countinghouse/api.Column] -/

def c57b0 : VC := .seq (.reg [⟨some 13, .bin .lss (.tmp 12) (.tmp 11), none, none, []⟩]) (.seq (.cond (.tmp 13) .skip (.exit 0)) (.seq (.block 1 (.seq (.reg [⟨some 14, .ixa 3 (.tmp 10) (.tmp 12), none, none, []⟩, ⟨some 15, .load (some 3) (.tmp 14), none, none, []⟩, ⟨some 7, .alloc (.agg [.str ⟨#[]⟩, .int .u8 0, .bool false]), none, none, []⟩, ⟨none, .store 3 (.tmp 7) (.tmp 15), none, none, []⟩]) (.seq (.reg [⟨some 16, .mov (.tmp 1), none, none, []⟩, ⟨some 17, .load (some 3) (.tmp 7), none, none, []⟩, ⟨some 18, .mov (.cst .undef), some (.tmp 16, [.tmp 17]), none, []⟩, ⟨some 8, .mov (.tmp 18), none, none, []⟩]) (.seq (.seq (.reg [⟨some 19, .mov (.tmp 8), none, none, []⟩, ⟨some 20, .mov (.cst .undef), some (.cst (.func 56 []), [.tmp 19]), none, []⟩, ⟨some 21, .un .not (.tmp 20), none, none, []⟩, ⟨some 22, .mov (.tmp 21), none, none, []⟩, ⟨some 23, .mov (.tmp 5), none, some (22, false), []⟩, ⟨some 24, .mov (.tmp 8), none, some (22, false), []⟩, ⟨some 25, .mget (.tmp 23) (.tmp 24), none, some (22, false), []⟩, ⟨some 26, .pick (.tmp 22) (.cst (.bool true)) (.tmp 25), none, none, []⟩]) (.cond (.tmp 26) (.seq (.reg [⟨some 4, .mov (.cst (.bool false)), none, none, []⟩]) .ret) .skip)) (.reg [⟨some 27, .mov (.tmp 5), none, none, []⟩, ⟨some 28, .mov (.tmp 8), none, none, []⟩, ⟨none, .mset (.tmp 27) (.tmp 28) (.cst (.bool true)), none, none, []⟩]))))) (.reg [⟨some 29, .bin .add (.tmp 12) (.cst (.int .i64 1)), none, none, []⟩, ⟨some 12, .mov (.tmp 29), none, none, []⟩])))

def c57 : VC := .seq (.reg [⟨some 4, .mov (.cst (.bool false)), none, none, []⟩]) (.seq (.reg [⟨some 9, .mkm, none, none, []⟩, ⟨some 5, .mov (.tmp 9), none, none, []⟩]) (.seq (.seq (.reg [⟨some 10, .mov (.tmp 0), none, none, []⟩, ⟨some 11, .lenl (.tmp 10), none, none, []⟩, ⟨some 12, .mov (.cst (.int .i64 0)), none, none, []⟩]) (.block 0 (.loop c57b0))) (.seq (.reg [⟨some 4, .mov (.cst (.bool true)), none, none, []⟩]) .ret)))

theorem f57 : fnC Tryd.prog 57 = some (30, c57, [.tmp 4]) := by kernel_rfl

/-! 58: countinghouse/table.columns$1 -/

def c58 : VC := .seq (.reg [⟨some 1, .box (.tmp 0), none, none, []⟩, ⟨some 2, .mov (.cst (.str ⟨#[]⟩)), none, none, []⟩]) (.seq (.reg [⟨some 3, .fld 0 (.tmp 1), none, none, []⟩, ⟨some 4, .load none (.tmp 3), none, none, []⟩, ⟨some 2, .mov (.tmp 4), none, none, []⟩]) .ret)

theorem f58 : fnC Tryd.prog 58 = some (5, c58, [.tmp 2]) := by kernel_rfl

/-! 59: countinghouse/value.Right -/

/-! 60: countinghouse/countinghouseref01.Right -/

/-! 61: countinghouse/value.take -/

/-! 62: countinghouse/value.short -/

/-! 63: countinghouse/value.number -/

/-! 64: bytes.Clone -/

/-! 65: countinghouse/order.next -/

/-! 66: bytes.ReplaceAll -/

def c66 : VC := .seq (.reg [⟨some 6, .mov (.cst (.sl 0 (some true) true [])), none, none, []⟩]) (.seq (.reg [⟨some 7, .mov (.tmp 0), none, none, []⟩, ⟨some 8, .mov (.tmp 1), none, none, []⟩, ⟨some 9, .mov (.tmp 2), none, none, []⟩, ⟨some 10, .mov (.cst .undef), some (.cst (.func 68 []), [.tmp 7, .tmp 8, .tmp 9, .cst (.int .i64 (-1))]), none, []⟩, ⟨some 6, .mov (.tmp 10), none, none, []⟩]) .ret)

theorem f66 : fnC Tryd.prog 66 = some (11, c66, [.tmp 6]) := by kernel_rfl

/-! 67: countinghouse/order.words -/

/-! 68: bytes.Replace -/

def c68b0 : VC := .seq (.reg [⟨some 90, .bin .lss (.tmp 89) (.tmp 88), none, none, []⟩]) (.seq (.cond (.tmp 90) .skip (.exit 2)) (.seq (.block 3 (.seq (.reg [⟨some 92, .mov (.tmp 0), none, none, []⟩, ⟨some 93, .mov (.tmp 12), none, none, []⟩, ⟨some 94, .slsl 1 (.tmp 92) (some (.tmp 93)) none, none, none, []⟩, ⟨some 95, .mov (.cst .undef), some (.cst (.func 72 []), [.tmp 94]), none, []⟩, ⟨some 91, .mov (.tmp 95), none, none, []⟩, ⟨some 96, .ext (.tmp 91) 0, none, none, []⟩, ⟨some 97, .ext (.tmp 91) 1, none, none, []⟩, ⟨some 14, .mov (.tmp 96), none, none, []⟩, ⟨some 15, .mov (.tmp 97), none, none, []⟩]) (.seq (.reg [⟨some 98, .mov (.tmp 12), none, none, []⟩, ⟨some 99, .mov (.tmp 15), none, none, []⟩, ⟨some 100, .bin .add (.tmp 98) (.tmp 99), none, none, []⟩, ⟨some 16, .mov (.tmp 100), none, none, []⟩]) (.seq (.dreg [⟨some 101, .mov (.tmp 11), none, none, []⟩, ⟨some 102, .mov (.tmp 10), none, none, []⟩, ⟨some 103, .mov (.tmp 11), none, none, []⟩, ⟨some 104, .slsl 1 (.tmp 102) (some (.tmp 103)) none, none, none, [1, 2]⟩, ⟨some 105, .mov (.tmp 0), none, none, []⟩, ⟨some 106, .mov (.tmp 12), none, none, []⟩, ⟨some 107, .mov (.tmp 16), none, none, []⟩, ⟨some 108, .slsl 1 (.tmp 105) (some (.tmp 106)) (some (.tmp 107)), none, none, [4, 5, 6]⟩, ⟨some 109, .cpy (.tmp 104) (.tmp 108), none, none, [3, 7]⟩, ⟨some 110, .bin .add (.tmp 101) (.tmp 109), none, none, [0, 8]⟩, ⟨some 11, .mov (.tmp 110), none, none, [9, 8, 0, 1, 2, 3, 4, 5, 6, 7, 8, 9]⟩]) (.seq (.reg [⟨some 111, .mov (.tmp 11), none, none, []⟩, ⟨some 112, .mov (.tmp 10), none, none, []⟩, ⟨some 113, .mov (.tmp 11), none, none, []⟩, ⟨some 114, .slsl 1 (.tmp 112) (some (.tmp 113)) none, none, none, []⟩, ⟨some 115, .mov (.tmp 2), none, none, []⟩, ⟨some 116, .cpy (.tmp 114) (.tmp 115), none, none, []⟩, ⟨some 117, .bin .add (.tmp 111) (.tmp 116), none, none, []⟩, ⟨some 11, .mov (.tmp 117), none, none, []⟩]) (.reg [⟨some 118, .mov (.tmp 16), none, none, []⟩, ⟨some 12, .mov (.tmp 118), none, none, []⟩])))))) (.reg [⟨some 119, .bin .add (.tmp 89) (.cst (.int .i64 1)), none, none, []⟩, ⟨some 89, .mov (.tmp 119), none, none, []⟩])))

def c68b1 : VC := .seq (.reg [⟨some 50, .bin .lss (.tmp 49) (.tmp 48), none, none, []⟩]) (.seq (.cond (.tmp 50) .skip (.exit 0)) (.seq (.block 1 (.seq (.reg [⟨some 51, .mov (.tmp 12), none, none, []⟩, ⟨some 52, .mov (.tmp 0), none, none, []⟩, ⟨some 53, .mov (.tmp 12), none, none, []⟩, ⟨some 54, .slsl 1 (.tmp 52) (some (.tmp 53)) none, none, none, []⟩, ⟨some 55, .mov (.tmp 1), none, none, []⟩, ⟨some 56, .mov (.cst .undef), some (.cst (.func 71 []), [.tmp 54, .tmp 55]), none, []⟩, ⟨some 57, .bin .add (.tmp 51) (.tmp 56), none, none, []⟩, ⟨some 13, .mov (.tmp 57), none, none, []⟩]) (.seq (.dreg [⟨some 58, .mov (.tmp 11), none, none, []⟩, ⟨some 59, .mov (.tmp 10), none, none, []⟩, ⟨some 60, .mov (.tmp 11), none, none, []⟩, ⟨some 61, .slsl 1 (.tmp 59) (some (.tmp 60)) none, none, none, [1, 2]⟩, ⟨some 62, .mov (.tmp 0), none, none, []⟩, ⟨some 63, .mov (.tmp 12), none, none, []⟩, ⟨some 64, .mov (.tmp 13), none, none, []⟩, ⟨some 65, .slsl 1 (.tmp 62) (some (.tmp 63)) (some (.tmp 64)), none, none, [4, 5, 6]⟩, ⟨some 66, .cpy (.tmp 61) (.tmp 65), none, none, [3, 7]⟩, ⟨some 67, .bin .add (.tmp 58) (.tmp 66), none, none, [0, 8]⟩, ⟨some 11, .mov (.tmp 67), none, none, [9, 8, 0, 1, 2, 3, 4, 5, 6, 7, 8, 9]⟩]) (.seq (.reg [⟨some 68, .mov (.tmp 11), none, none, []⟩, ⟨some 69, .mov (.tmp 10), none, none, []⟩, ⟨some 70, .mov (.tmp 11), none, none, []⟩, ⟨some 71, .slsl 1 (.tmp 69) (some (.tmp 70)) none, none, none, []⟩, ⟨some 72, .mov (.tmp 2), none, none, []⟩, ⟨some 73, .cpy (.tmp 71) (.tmp 72), none, none, []⟩, ⟨some 74, .bin .add (.tmp 68) (.tmp 73), none, none, []⟩, ⟨some 11, .mov (.tmp 74), none, none, []⟩]) (.reg [⟨some 75, .mov (.tmp 13), none, none, []⟩, ⟨some 76, .mov (.tmp 1), none, none, []⟩, ⟨some 77, .lenl (.tmp 76), none, none, []⟩, ⟨some 78, .bin .add (.tmp 75) (.tmp 77), none, none, []⟩, ⟨some 12, .mov (.tmp 78), none, none, []⟩]))))) (.reg [⟨some 79, .bin .add (.tmp 49) (.cst (.int .i64 1)), none, none, []⟩, ⟨some 49, .mov (.tmp 79), none, none, []⟩])))

def c68 : VC := .seq (.reg [⟨some 8, .mov (.cst (.sl 0 (some true) true [])), none, none, []⟩]) (.seq (.reg [⟨some 9, .mov (.cst (.int .i64 0)), none, none, []⟩]) (.seq (.seq (.reg [⟨some 17, .mov (.tmp 3), none, none, []⟩, ⟨some 18, .bin .neq (.tmp 17) (.cst (.int .i64 0)), none, none, []⟩]) (.cond (.tmp 18) (.reg [⟨some 19, .mov (.tmp 0), none, none, []⟩, ⟨some 20, .mov (.tmp 1), none, none, []⟩, ⟨some 21, .mov (.cst .undef), some (.cst (.func 70 []), [.tmp 19, .tmp 20]), none, []⟩, ⟨some 9, .mov (.tmp 21), none, none, []⟩]) .skip)) (.seq (.seq (.reg [⟨some 22, .mov (.tmp 9), none, none, []⟩, ⟨some 23, .bin .eql (.tmp 22) (.cst (.int .i64 0)), none, none, []⟩]) (.cond (.tmp 23) (.seq (.reg [⟨some 24, .mov (.tmp 0), none, none, []⟩, ⟨some 25, .app 1 1 (.cst (.sl 0 (some true) true [])) (.tmp 24), none, none, []⟩, ⟨some 8, .mov (.tmp 25), none, none, []⟩]) .ret) .skip)) (.seq (.seq (.reg [⟨some 26, .mov (.tmp 3), none, none, []⟩, ⟨some 27, .bin .lss (.tmp 26) (.cst (.int .i64 0)), none, none, []⟩, ⟨some 28, .mov (.tmp 27), none, none, []⟩, ⟨some 29, .mov (.tmp 9), none, some (28, false), []⟩, ⟨some 30, .mov (.tmp 3), none, some (28, false), []⟩, ⟨some 31, .bin .lss (.tmp 29) (.tmp 30), none, some (28, false), []⟩, ⟨some 32, .pick (.tmp 28) (.cst (.bool true)) (.tmp 31), none, none, []⟩]) (.cond (.tmp 32) (.reg [⟨some 33, .mov (.tmp 9), none, none, []⟩, ⟨some 3, .mov (.tmp 33), none, none, []⟩]) .skip)) (.seq (.reg [⟨some 34, .mov (.tmp 0), none, none, []⟩, ⟨some 35, .lenl (.tmp 34), none, none, []⟩, ⟨some 36, .mov (.tmp 3), none, none, []⟩, ⟨some 37, .mov (.tmp 2), none, none, []⟩, ⟨some 38, .lenl (.tmp 37), none, none, []⟩, ⟨some 39, .mov (.tmp 1), none, none, []⟩, ⟨some 40, .lenl (.tmp 39), none, none, []⟩, ⟨some 41, .bin .sub (.tmp 38) (.tmp 40), none, none, []⟩, ⟨some 42, .bin .mul (.tmp 36) (.tmp 41), none, none, []⟩, ⟨some 43, .bin .add (.tmp 35) (.tmp 42), none, none, []⟩, ⟨some 44, .mk 1 1 [.int .u8 0] (.tmp 43), none, none, []⟩, ⟨some 10, .mov (.tmp 44), none, none, []⟩]) (.seq (.reg [⟨some 11, .mov (.cst (.int .i64 0)), none, none, []⟩]) (.seq (.reg [⟨some 12, .mov (.cst (.int .i64 0)), none, none, []⟩]) (.seq (.seq (.reg [⟨some 45, .mov (.tmp 1), none, none, []⟩, ⟨some 46, .lenl (.tmp 45), none, none, []⟩, ⟨some 47, .bin .gtr (.tmp 46) (.cst (.int .i64 0)), none, none, []⟩]) (.cond (.tmp 47) (.seq (.reg [⟨some 48, .mov (.tmp 3), none, none, []⟩, ⟨some 49, .mov (.cst (.int .i64 0)), none, none, []⟩]) (.block 0 (.loop c68b1))) (.seq (.reg [⟨some 80, .mov (.tmp 11), none, none, []⟩, ⟨some 81, .mov (.tmp 10), none, none, []⟩, ⟨some 82, .mov (.tmp 11), none, none, []⟩, ⟨some 83, .slsl 1 (.tmp 81) (some (.tmp 82)) none, none, none, []⟩, ⟨some 84, .mov (.tmp 2), none, none, []⟩, ⟨some 85, .cpy (.tmp 83) (.tmp 84), none, none, []⟩, ⟨some 86, .bin .add (.tmp 80) (.tmp 85), none, none, []⟩, ⟨some 11, .mov (.tmp 86), none, none, []⟩]) (.seq (.reg [⟨some 87, .mov (.tmp 3), none, none, []⟩, ⟨some 88, .bin .sub (.tmp 87) (.cst (.int .i64 1)), none, none, []⟩, ⟨some 89, .mov (.cst (.int .i64 0)), none, none, []⟩]) (.block 2 (.loop c68b0)))))) (.seq (.dreg [⟨some 120, .mov (.tmp 11), none, none, []⟩, ⟨some 121, .mov (.tmp 10), none, none, []⟩, ⟨some 122, .mov (.tmp 11), none, none, []⟩, ⟨some 123, .slsl 1 (.tmp 121) (some (.tmp 122)) none, none, none, [1, 2]⟩, ⟨some 124, .mov (.tmp 0), none, none, []⟩, ⟨some 125, .mov (.tmp 12), none, none, []⟩, ⟨some 126, .slsl 1 (.tmp 124) (some (.tmp 125)) none, none, none, [4, 5]⟩, ⟨some 127, .cpy (.tmp 123) (.tmp 126), none, none, [3, 6]⟩, ⟨some 128, .bin .add (.tmp 120) (.tmp 127), none, none, [0, 7]⟩, ⟨some 11, .mov (.tmp 128), none, none, [8, 7, 0, 1, 2, 3, 4, 5, 6, 7, 8]⟩]) (.seq (.reg [⟨some 129, .mov (.tmp 10), none, none, []⟩, ⟨some 130, .mov (.tmp 11), none, none, []⟩, ⟨some 131, .slsl 1 (.tmp 129) (some (.cst (.int .i64 0))) (some (.tmp 130)), none, none, []⟩, ⟨some 8, .mov (.tmp 131), none, none, []⟩]) .ret))))))))))

theorem f68 : fnC Tryd.prog 68 = some (132, c68, [.tmp 8]) := by kernel_rfl

/-! 69: bytes.IndexByte -/

def c69 : VC := .seq (.reg [⟨some 4, .mov (.cst (.int .i64 0)), none, none, []⟩]) (.seq (.reg [⟨some 5, .mov (.tmp 0), none, none, []⟩, ⟨some 6, .mov (.tmp 1), none, none, []⟩, ⟨some 7, .mov (.cst .undef), some (.cst (.func 73 []), [.tmp 5, .tmp 6]), none, []⟩, ⟨some 4, .mov (.tmp 7), none, none, []⟩]) .ret)

theorem f69 : fnC Tryd.prog 69 = some (8, c69, [.tmp 4]) := by kernel_rfl

/-! 70: bytes.Count -/

def c70b0 : VC := .block 1 (.seq (.reg [⟨some 21, .mov (.tmp 0), none, none, []⟩, ⟨some 22, .mov (.tmp 1), none, none, []⟩, ⟨some 23, .mov (.cst .undef), some (.cst (.func 71 []), [.tmp 21, .tmp 22]), none, []⟩, ⟨some 6, .mov (.tmp 23), none, none, []⟩]) (.seq (.seq (.reg [⟨some 24, .mov (.tmp 6), none, none, []⟩, ⟨some 25, .bin .eql (.tmp 24) (.cst (.int .i64 (-1))), none, none, []⟩]) (.cond (.tmp 25) (.seq (.reg [⟨some 26, .mov (.tmp 5), none, none, []⟩, ⟨some 4, .mov (.tmp 26), none, none, []⟩]) .ret) .skip)) (.seq (.reg [⟨some 27, .mov (.tmp 5), none, none, []⟩, ⟨some 28, .bin .add (.tmp 27) (.cst (.int .i64 1)), none, none, []⟩, ⟨some 5, .mov (.tmp 28), none, none, []⟩]) (.reg [⟨some 29, .mov (.tmp 0), none, none, []⟩, ⟨some 30, .mov (.tmp 6), none, none, []⟩, ⟨some 31, .mov (.tmp 1), none, none, []⟩, ⟨some 32, .lenl (.tmp 31), none, none, []⟩, ⟨some 33, .bin .add (.tmp 30) (.tmp 32), none, none, []⟩, ⟨some 34, .slsl 1 (.tmp 29) (some (.tmp 33)) none, none, none, []⟩, ⟨some 0, .mov (.tmp 34), none, none, []⟩]))))

def c70 : VC := .seq (.reg [⟨some 4, .mov (.cst (.int .i64 0)), none, none, []⟩]) (.seq (.seq (.reg [⟨some 7, .mov (.tmp 1), none, none, []⟩, ⟨some 8, .lenl (.tmp 7), none, none, []⟩, ⟨some 9, .bin .eql (.tmp 8) (.cst (.int .i64 0)), none, none, []⟩]) (.cond (.tmp 9) (.seq (.reg [⟨some 10, .mov (.tmp 0), none, none, []⟩, ⟨some 11, .mov (.cst .undef), some (.cst (.func 74 []), [.tmp 10]), none, []⟩, ⟨some 12, .bin .add (.tmp 11) (.cst (.int .i64 1)), none, none, []⟩, ⟨some 4, .mov (.tmp 12), none, none, []⟩]) .ret) .skip)) (.seq (.seq (.reg [⟨some 13, .mov (.tmp 1), none, none, []⟩, ⟨some 14, .lenl (.tmp 13), none, none, []⟩, ⟨some 15, .bin .eql (.tmp 14) (.cst (.int .i64 1)), none, none, []⟩]) (.cond (.tmp 15) (.seq (.reg [⟨some 16, .mov (.tmp 0), none, none, []⟩, ⟨some 17, .mov (.tmp 1), none, none, []⟩, ⟨some 18, .ixa 1 (.tmp 17) (.cst (.int .i64 0)), none, none, []⟩, ⟨some 19, .load none (.tmp 18), none, none, []⟩, ⟨some 20, .mov (.cst .undef), some (.cst (.func 75 []), [.tmp 16, .tmp 19]), none, []⟩, ⟨some 4, .mov (.tmp 20), none, none, []⟩]) .ret) .skip)) (.seq (.reg [⟨some 5, .mov (.cst (.int .i64 0)), none, none, []⟩]) (.block 0 (.loop c70b0)))))

theorem f70 : fnC Tryd.prog 70 = some (35, c70, [.tmp 4]) := by kernel_rfl

/-! 71: bytes.Index -/

def c71b0 : VC := .seq (.seq (.reg [⟨some 136, .mov (.tmp 15), none, none, []⟩, ⟨some 137, .mov (.tmp 17), none, none, []⟩, ⟨some 138, .bin .lss (.tmp 136) (.tmp 137), none, none, []⟩]) (.cond (.tmp 138) .skip (.exit 3))) (.block 4 (.seq (.seq (.reg [⟨some 139, .mov (.tmp 0), none, none, []⟩, ⟨some 140, .mov (.tmp 15), none, none, []⟩, ⟨some 141, .ixa 1 (.tmp 139) (.tmp 140), none, none, []⟩, ⟨some 142, .load none (.tmp 141), none, none, []⟩, ⟨some 143, .mov (.tmp 13), none, none, []⟩, ⟨some 144, .bin .neq (.tmp 142) (.tmp 143), none, none, []⟩]) (.cond (.tmp 144) (.seq (.reg [⟨some 145, .mov (.tmp 0), none, none, []⟩, ⟨some 146, .mov (.tmp 15), none, none, []⟩, ⟨some 147, .bin .add (.tmp 146) (.cst (.int .i64 1)), none, none, []⟩, ⟨some 148, .mov (.tmp 17), none, none, []⟩, ⟨some 149, .slsl 1 (.tmp 145) (some (.tmp 147)) (some (.tmp 148)), none, none, []⟩, ⟨some 150, .mov (.tmp 13), none, none, []⟩, ⟨some 151, .mov (.cst .undef), some (.cst (.func 69 []), [.tmp 149, .tmp 150]), none, []⟩, ⟨some 18, .mov (.tmp 151), none, none, []⟩]) (.seq (.seq (.reg [⟨some 152, .mov (.tmp 18), none, none, []⟩, ⟨some 153, .bin .lss (.tmp 152) (.cst (.int .i64 0)), none, none, []⟩]) (.cond (.tmp 153) (.exit 3) .skip)) (.reg [⟨some 154, .mov (.tmp 15), none, none, []⟩, ⟨some 155, .mov (.tmp 18), none, none, []⟩, ⟨some 156, .bin .add (.tmp 155) (.cst (.int .i64 1)), none, none, []⟩, ⟨some 157, .bin .add (.tmp 154) (.tmp 156), none, none, []⟩, ⟨some 15, .mov (.tmp 157), none, none, []⟩]))) .skip)) (.seq (.seq (.reg [⟨some 158, .mov (.tmp 0), none, none, []⟩, ⟨some 159, .mov (.tmp 15), none, none, []⟩, ⟨some 160, .bin .add (.tmp 159) (.cst (.int .i64 1)), none, none, []⟩, ⟨some 161, .ixa 1 (.tmp 158) (.tmp 160), none, none, []⟩, ⟨some 162, .load none (.tmp 161), none, none, []⟩, ⟨some 163, .mov (.tmp 14), none, none, []⟩, ⟨some 164, .bin .eql (.tmp 162) (.tmp 163), none, none, []⟩, ⟨some 165, .mov (.tmp 164), none, none, []⟩, ⟨some 166, .mov (.tmp 0), none, some (165, true), []⟩, ⟨some 167, .mov (.tmp 15), none, some (165, true), []⟩, ⟨some 168, .mov (.tmp 15), none, some (165, true), []⟩, ⟨some 169, .mov (.tmp 5), none, some (165, true), []⟩, ⟨some 170, .bin .add (.tmp 168) (.tmp 169), none, some (165, true), []⟩, ⟨some 171, .slsl 1 (.tmp 166) (some (.tmp 167)) (some (.tmp 170)), none, some (165, true), []⟩, ⟨some 172, .mov (.tmp 1), none, some (165, true), []⟩, ⟨some 173, .mov (.cst .undef), some (.cst (.func 76 []), [.tmp 171, .tmp 172]), some (165, true), []⟩, ⟨some 174, .pick (.tmp 165) (.tmp 173) (.cst (.bool false)), none, none, []⟩]) (.cond (.tmp 174) (.seq (.reg [⟨some 175, .mov (.tmp 15), none, none, []⟩, ⟨some 4, .mov (.tmp 175), none, none, []⟩]) .ret) .skip)) (.seq (.reg [⟨some 176, .mov (.tmp 15), none, none, []⟩, ⟨some 177, .bin .add (.tmp 176) (.cst (.int .i64 1)), none, none, []⟩, ⟨some 15, .mov (.tmp 177), none, none, []⟩]) (.seq (.reg [⟨some 178, .mov (.tmp 16), none, none, []⟩, ⟨some 179, .bin .add (.tmp 178) (.cst (.int .i64 1)), none, none, []⟩, ⟨some 16, .mov (.tmp 179), none, none, []⟩]) (.seq (.reg [⟨some 180, .mov (.tmp 16), none, none, []⟩, ⟨some 181, .mov (.tmp 15), none, none, []⟩, ⟨some 182, .bin .shr (.tmp 181) (.cst (.int .u64 4)), none, none, []⟩, ⟨some 183, .bin .add (.cst (.int .i64 4)) (.tmp 182), none, none, []⟩, ⟨some 184, .bin .geq (.tmp 180) (.tmp 183), none, none, []⟩, ⟨some 185, .mov (.tmp 184), none, none, []⟩, ⟨some 186, .mov (.tmp 15), none, some (185, true), []⟩, ⟨some 187, .mov (.tmp 17), none, some (185, true), []⟩, ⟨some 188, .bin .lss (.tmp 186) (.tmp 187), none, some (185, true), []⟩, ⟨some 189, .pick (.tmp 185) (.tmp 188) (.cst (.bool false)), none, none, []⟩]) (.cond (.tmp 189) (.seq (.reg [⟨some 190, .mov (.tmp 0), none, none, []⟩, ⟨some 191, .mov (.tmp 15), none, none, []⟩, ⟨some 192, .slsl 1 (.tmp 190) (some (.tmp 191)) none, none, none, []⟩, ⟨some 193, .mov (.tmp 1), none, none, []⟩, ⟨some 194, .mov (.cst .undef), some (.cst (.func 79 []), [.tmp 192, .tmp 193]), none, []⟩, ⟨some 19, .mov (.tmp 194), none, none, []⟩]) (.seq (.seq (.reg [⟨some 195, .mov (.tmp 19), none, none, []⟩, ⟨some 196, .bin .lss (.tmp 195) (.cst (.int .i64 0)), none, none, []⟩]) (.cond (.tmp 196) (.seq (.reg [⟨some 4, .mov (.cst (.int .i64 (-1))), none, none, []⟩]) .ret) .skip)) (.seq (.reg [⟨some 197, .mov (.tmp 15), none, none, []⟩, ⟨some 198, .mov (.tmp 19), none, none, []⟩, ⟨some 199, .bin .add (.tmp 197) (.tmp 198), none, none, []⟩, ⟨some 4, .mov (.tmp 199), none, none, []⟩]) .ret))) .skip)))))))

def c71b1 : VC := .seq (.seq (.reg [⟨some 67, .mov (.tmp 8), none, none, []⟩, ⟨some 68, .mov (.tmp 9), none, none, []⟩, ⟨some 69, .bin .lss (.tmp 67) (.tmp 68), none, none, []⟩]) (.cond (.tmp 69) .skip (.exit 1))) (.block 2 (.seq (.seq (.reg [⟨some 70, .mov (.tmp 0), none, none, []⟩, ⟨some 71, .mov (.tmp 8), none, none, []⟩, ⟨some 72, .ixa 1 (.tmp 70) (.tmp 71), none, none, []⟩, ⟨some 73, .load none (.tmp 72), none, none, []⟩, ⟨some 74, .mov (.tmp 6), none, none, []⟩, ⟨some 75, .bin .neq (.tmp 73) (.tmp 74), none, none, []⟩]) (.cond (.tmp 75) (.seq (.reg [⟨some 76, .mov (.tmp 0), none, none, []⟩, ⟨some 77, .mov (.tmp 8), none, none, []⟩, ⟨some 78, .bin .add (.tmp 77) (.cst (.int .i64 1)), none, none, []⟩, ⟨some 79, .mov (.tmp 9), none, none, []⟩, ⟨some 80, .slsl 1 (.tmp 76) (some (.tmp 78)) (some (.tmp 79)), none, none, []⟩, ⟨some 81, .mov (.tmp 6), none, none, []⟩, ⟨some 82, .mov (.cst .undef), some (.cst (.func 69 []), [.tmp 80, .tmp 81]), none, []⟩, ⟨some 11, .mov (.tmp 82), none, none, []⟩]) (.seq (.seq (.reg [⟨some 83, .mov (.tmp 11), none, none, []⟩, ⟨some 84, .bin .lss (.tmp 83) (.cst (.int .i64 0)), none, none, []⟩]) (.cond (.tmp 84) (.seq (.reg [⟨some 4, .mov (.cst (.int .i64 (-1))), none, none, []⟩]) .ret) .skip)) (.reg [⟨some 85, .mov (.tmp 8), none, none, []⟩, ⟨some 86, .mov (.tmp 11), none, none, []⟩, ⟨some 87, .bin .add (.tmp 86) (.cst (.int .i64 1)), none, none, []⟩, ⟨some 88, .bin .add (.tmp 85) (.tmp 87), none, none, []⟩, ⟨some 8, .mov (.tmp 88), none, none, []⟩]))) .skip)) (.seq (.seq (.reg [⟨some 89, .mov (.tmp 0), none, none, []⟩, ⟨some 90, .mov (.tmp 8), none, none, []⟩, ⟨some 91, .bin .add (.tmp 90) (.cst (.int .i64 1)), none, none, []⟩, ⟨some 92, .ixa 1 (.tmp 89) (.tmp 91), none, none, []⟩, ⟨some 93, .load none (.tmp 92), none, none, []⟩, ⟨some 94, .mov (.tmp 7), none, none, []⟩, ⟨some 95, .bin .eql (.tmp 93) (.tmp 94), none, none, []⟩, ⟨some 96, .mov (.tmp 95), none, none, []⟩, ⟨some 97, .mov (.tmp 0), none, some (96, true), []⟩, ⟨some 98, .mov (.tmp 8), none, some (96, true), []⟩, ⟨some 99, .mov (.tmp 8), none, some (96, true), []⟩, ⟨some 100, .mov (.tmp 5), none, some (96, true), []⟩, ⟨some 101, .bin .add (.tmp 99) (.tmp 100), none, some (96, true), []⟩, ⟨some 102, .slsl 1 (.tmp 97) (some (.tmp 98)) (some (.tmp 101)), none, some (96, true), []⟩, ⟨some 103, .mov (.tmp 1), none, some (96, true), []⟩, ⟨some 104, .mov (.cst .undef), some (.cst (.func 76 []), [.tmp 102, .tmp 103]), some (96, true), []⟩, ⟨some 105, .pick (.tmp 96) (.tmp 104) (.cst (.bool false)), none, none, []⟩]) (.cond (.tmp 105) (.seq (.reg [⟨some 106, .mov (.tmp 8), none, none, []⟩, ⟨some 4, .mov (.tmp 106), none, none, []⟩]) .ret) .skip)) (.seq (.reg [⟨some 107, .mov (.tmp 10), none, none, []⟩, ⟨some 108, .bin .add (.tmp 107) (.cst (.int .i64 1)), none, none, []⟩, ⟨some 10, .mov (.tmp 108), none, none, []⟩]) (.seq (.reg [⟨some 109, .mov (.tmp 8), none, none, []⟩, ⟨some 110, .bin .add (.tmp 109) (.cst (.int .i64 1)), none, none, []⟩, ⟨some 8, .mov (.tmp 110), none, none, []⟩]) (.seq (.reg [⟨some 111, .mov (.tmp 10), none, none, []⟩, ⟨some 112, .mov (.tmp 8), none, none, []⟩, ⟨some 113, .mov (.cst .undef), some (.cst (.func 78 []), [.tmp 112]), none, []⟩, ⟨some 114, .bin .gtr (.tmp 111) (.tmp 113), none, none, []⟩]) (.cond (.tmp 114) (.seq (.reg [⟨some 115, .mov (.tmp 0), none, none, []⟩, ⟨some 116, .mov (.tmp 8), none, none, []⟩, ⟨some 117, .slsl 1 (.tmp 115) (some (.tmp 116)) none, none, none, []⟩, ⟨some 118, .mov (.tmp 1), none, none, []⟩, ⟨some 119, .mov (.cst .undef), some (.cst (.func 77 []), [.tmp 117, .tmp 118]), none, []⟩, ⟨some 12, .mov (.tmp 119), none, none, []⟩]) (.seq (.seq (.reg [⟨some 120, .mov (.tmp 12), none, none, []⟩, ⟨some 121, .bin .geq (.tmp 120) (.cst (.int .i64 0)), none, none, []⟩]) (.cond (.tmp 121) (.seq (.reg [⟨some 122, .mov (.tmp 12), none, none, []⟩, ⟨some 123, .mov (.tmp 8), none, none, []⟩, ⟨some 124, .bin .add (.tmp 122) (.tmp 123), none, none, []⟩, ⟨some 4, .mov (.tmp 124), none, none, []⟩]) .ret) .skip)) (.seq (.reg [⟨some 4, .mov (.cst (.int .i64 (-1))), none, none, []⟩]) .ret))) .skip)))))))

def c71 : VC := .seq (.reg [⟨some 4, .mov (.cst (.int .i64 0)), none, none, []⟩]) (.seq (.reg [⟨some 20, .mov (.tmp 1), none, none, []⟩, ⟨some 21, .lenl (.tmp 20), none, none, []⟩, ⟨some 5, .mov (.tmp 21), none, none, []⟩]) (.seq (.block 0 (.seq (.reg [⟨some 23, .mov (.tmp 5), none, none, []⟩, ⟨some 24, .bin .eql (.tmp 23) (.cst (.int .i64 0)), none, none, []⟩, ⟨some 22, .mov (.tmp 24), none, none, []⟩]) (.cond (.tmp 22) (.seq (.reg [⟨some 4, .mov (.cst (.int .i64 0)), none, none, []⟩]) .ret) (.seq (.reg [⟨some 26, .mov (.tmp 5), none, none, []⟩, ⟨some 27, .bin .eql (.tmp 26) (.cst (.int .i64 1)), none, none, []⟩, ⟨some 25, .mov (.tmp 27), none, none, []⟩]) (.cond (.tmp 25) (.seq (.reg [⟨some 28, .mov (.tmp 0), none, none, []⟩, ⟨some 29, .mov (.tmp 1), none, none, []⟩, ⟨some 30, .ixa 1 (.tmp 29) (.cst (.int .i64 0)), none, none, []⟩, ⟨some 31, .load none (.tmp 30), none, none, []⟩, ⟨some 32, .mov (.cst .undef), some (.cst (.func 69 []), [.tmp 28, .tmp 31]), none, []⟩, ⟨some 4, .mov (.tmp 32), none, none, []⟩]) .ret) (.seq (.reg [⟨some 34, .mov (.tmp 5), none, none, []⟩, ⟨some 35, .mov (.tmp 0), none, none, []⟩, ⟨some 36, .lenl (.tmp 35), none, none, []⟩, ⟨some 37, .bin .eql (.tmp 34) (.tmp 36), none, none, []⟩, ⟨some 33, .mov (.tmp 37), none, none, []⟩]) (.cond (.tmp 33) (.seq (.seq (.reg [⟨some 38, .mov (.tmp 1), none, none, []⟩, ⟨some 39, .mov (.tmp 0), none, none, []⟩, ⟨some 40, .mov (.cst .undef), some (.cst (.func 76 []), [.tmp 38, .tmp 39]), none, []⟩]) (.cond (.tmp 40) (.seq (.reg [⟨some 4, .mov (.cst (.int .i64 0)), none, none, []⟩]) .ret) .skip)) (.seq (.reg [⟨some 4, .mov (.cst (.int .i64 (-1))), none, none, []⟩]) .ret)) (.seq (.reg [⟨some 42, .mov (.tmp 5), none, none, []⟩, ⟨some 43, .mov (.tmp 0), none, none, []⟩, ⟨some 44, .lenl (.tmp 43), none, none, []⟩, ⟨some 45, .bin .gtr (.tmp 42) (.tmp 44), none, none, []⟩, ⟨some 41, .mov (.tmp 45), none, none, []⟩]) (.cond (.tmp 41) (.seq (.reg [⟨some 4, .mov (.cst (.int .i64 (-1))), none, none, []⟩]) .ret) (.seq (.reg [⟨some 47, .mov (.tmp 5), none, none, []⟩, ⟨some 48, .bad, none, none, []⟩, ⟨some 49, .bin .leq (.tmp 47) (.tmp 48), none, none, []⟩, ⟨some 46, .mov (.tmp 49), none, none, []⟩]) (.cond (.tmp 46) (.seq (.seq (.reg [⟨some 50, .mov (.tmp 0), none, none, []⟩, ⟨some 51, .lenl (.tmp 50), none, none, []⟩, ⟨some 52, .bin .leq (.tmp 51) (.cst (.int .i64 64)), none, none, []⟩]) (.cond (.tmp 52) (.seq (.reg [⟨some 53, .mov (.tmp 0), none, none, []⟩, ⟨some 54, .mov (.tmp 1), none, none, []⟩, ⟨some 55, .mov (.cst .undef), some (.cst (.func 77 []), [.tmp 53, .tmp 54]), none, []⟩, ⟨some 4, .mov (.tmp 55), none, none, []⟩]) .ret) .skip)) (.seq (.reg [⟨some 56, .mov (.tmp 1), none, none, []⟩, ⟨some 57, .ixa 1 (.tmp 56) (.cst (.int .i64 0)), none, none, []⟩, ⟨some 58, .load none (.tmp 57), none, none, []⟩, ⟨some 6, .mov (.tmp 58), none, none, []⟩]) (.seq (.reg [⟨some 59, .mov (.tmp 1), none, none, []⟩, ⟨some 60, .ixa 1 (.tmp 59) (.cst (.int .i64 1)), none, none, []⟩, ⟨some 61, .load none (.tmp 60), none, none, []⟩, ⟨some 7, .mov (.tmp 61), none, none, []⟩]) (.seq (.reg [⟨some 8, .mov (.cst (.int .i64 0)), none, none, []⟩]) (.seq (.reg [⟨some 62, .mov (.tmp 0), none, none, []⟩, ⟨some 63, .lenl (.tmp 62), none, none, []⟩, ⟨some 64, .mov (.tmp 5), none, none, []⟩, ⟨some 65, .bin .sub (.tmp 63) (.tmp 64), none, none, []⟩, ⟨some 66, .bin .add (.tmp 65) (.cst (.int .i64 1)), none, none, []⟩, ⟨some 9, .mov (.tmp 66), none, none, []⟩]) (.seq (.reg [⟨some 10, .mov (.cst (.int .i64 0)), none, none, []⟩]) (.seq (.block 1 (.loop c71b1)) (.seq (.reg [⟨some 4, .mov (.cst (.int .i64 (-1))), none, none, []⟩]) .ret)))))))) .skip))))))))))) (.seq (.reg [⟨some 125, .mov (.tmp 1), none, none, []⟩, ⟨some 126, .ixa 1 (.tmp 125) (.cst (.int .i64 0)), none, none, []⟩, ⟨some 127, .load none (.tmp 126), none, none, []⟩, ⟨some 13, .mov (.tmp 127), none, none, []⟩]) (.seq (.reg [⟨some 128, .mov (.tmp 1), none, none, []⟩, ⟨some 129, .ixa 1 (.tmp 128) (.cst (.int .i64 1)), none, none, []⟩, ⟨some 130, .load none (.tmp 129), none, none, []⟩, ⟨some 14, .mov (.tmp 130), none, none, []⟩]) (.seq (.reg [⟨some 15, .mov (.cst (.int .i64 0)), none, none, []⟩]) (.seq (.reg [⟨some 16, .mov (.cst (.int .i64 0)), none, none, []⟩]) (.seq (.reg [⟨some 131, .mov (.tmp 0), none, none, []⟩, ⟨some 132, .lenl (.tmp 131), none, none, []⟩, ⟨some 133, .mov (.tmp 5), none, none, []⟩, ⟨some 134, .bin .sub (.tmp 132) (.tmp 133), none, none, []⟩, ⟨some 135, .bin .add (.tmp 134) (.cst (.int .i64 1)), none, none, []⟩, ⟨some 17, .mov (.tmp 135), none, none, []⟩]) (.seq (.block 3 (.loop c71b0)) (.seq (.reg [⟨some 4, .mov (.cst (.int .i64 (-1))), none, none, []⟩]) .ret)))))))))

theorem f71 : fnC Tryd.prog 71 = some (200, c71, [.tmp 4]) := by kernel_rfl

end Go.Proofs.YtmjdoonaidolkaaDoor.V

/- What was shown of another layer, at this layer's numbers. -/
namespace Go.Proofs.YtmjdoonaidolkaaDoor.V

open Go.IntWalk

/-! Read -/

/-! Join, Clone -/

/-! Bytes -/

def byAt (a b : List UInt8) (k : Nat) : List (Nat × AV) := [(0, .sl 1 none false (bs a)), (1, .sl 1 none false (bs b)), (5, .int .i64 k)]

theorem byLoop (a b : List UInt8) (Q : VE → Sy → Prop) (he : a.length = b.length) (hl : a.length ≤ 1000000)
    (hQ : a = b → Q (.exit 0) ⟨[], (14, .bool (decide ((a.length : Int) < (bs a).length))) :: (13, .int .i64 (bs a).length) :: (12, .sl 1 none false (bs a)) :: (11, .int .i64 a.length) :: byAt a b a.length, []⟩)
    (hr : ∀ σ : Sy, a ≠ b → σ.get 4 = .bool false → Q .ret σ) :
    ∀ m k, k + m = a.length → a.take k = b.take k → VloopS Tryd.prog (tr []) 26 0 c31b0 Q ⟨[], byAt a b k, []⟩
  | 0, k, hk, ht => by
    have e : k = a.length := by omega
    subst e
    refine VloopS.round ?_
    refine cond_f (decide_eq_false (by rw [bs_len]; omega)) ?_
    refine hQ ?_
    rw [List.take_length, he, List.take_length] at ht
    exact ht
  | m + 1, k, hk, ht => by
    have hlt : k < a.length := by omega
    have hlt' : k < b.length := by omega
    refine VloopS.round ?_
    refine cond_t (decide_eq_true (by rw [bs_len]; omega)) ?_
    refine And.intro rfl (And.intro (Int.natCast_nonneg k) (Exists.intro [.int .u8 (a[k].toNat : Int)] (And.intro (bs_get hlt) ?_)))
    refine And.intro rfl (And.intro (Int.natCast_nonneg k) (Exists.intro [.int .u8 (b[k].toNat : Int)] (And.intro (bs_get hlt') ?_)))
    refine And.intro (by kernel_rfl) ?_
    by_cases hab : a[k] = b[k]
    · refine cond_f (by rw [hab]; exact bne_self_eq_false _) ?_
      refine VloopS.weak (l := byAt a b (k + 1)) rfl ?_ (Nat.zero_le _) (byLoop a b Q he hl hQ hr m (k + 1) (by omega) (by rw [take_snoc a k hlt, take_snoc b k hlt', ht, hab]))
      exact ⟨.refl _, .refl _, .eq (congrArg (AV.int .i64) (i64_in _ (by omega))), trivial⟩
    · refine cond_t (bne_iff_ne.2 fun e => hab (UInt8.toNat_inj.1 (by omega))) ?_
      exact hr _ (fun e => hab (by subst e; rfl)) rfl

theorem bytesN (nl nl' : Option Bool) (own own' : Bool) (a b : List UInt8) (ha : a.length ≤ 1000000) : PCallN Tryd.prog 31 [.sl 1 nl own (bs a), .sl 1 nl' own' (bs b)] (.bool (decide (a = b))) := by
  refine PCallN.of (tr []) f31 (Nat.le_of_ble_eq_true rfl) (np_cons (np_bs _) (np_cons (np_bs _) np_nil)) (.bool _) ?_
  by_cases he : a.length = b.length
  · refine cond_f (by rw [bs_len, bs_len, he]; exact bne_self_eq_false _) ?_
    refine VloopS.weak (l := byAt a b 0) rfl ⟨.both _ _ _ _, .both _ _ _ _, .refl _, trivial⟩ (Nat.zero_le _) (byLoop a b _ he ha (fun e => ?_) (fun σ hne hσ => ?_) a.length 0 (by omega) rfl)
    · exact bool_eq (decide_eq_true e).symm
    · exact hσ.trans (bool_eq (decide_eq_false hne).symm)
  · refine cond_t (bne_iff_ne.2 (by rw [bs_len, bs_len]; omega)) ?_
    exact bool_eq (decide_eq_false fun e => he (by rw [e])).symm

open Go.IntWalk

structure Va where
  k : UInt8
  n : Int
  s : List UInt8
  deriving DecidableEq

def Va.c (v : Va) : List AV := [.int .u8 v.k.toNat, .int .i64 v.n, .str (st v.s)]
def Va.av (v : Va) : AV := .agg v.c

theorem Va.np {ok : Nat → Prop} (v : Va) : NP ok v.av := .agg _ (np_cons (.int _ _) (np_cons (.int _ _) (np_cons (.str _) np_nil)))

theorem w_u8 (n : Int) : IntKind.u8.wrap n = n % 256 := by simp [IntKind.wrap, IntKind.bits, IntKind.signed]

def byteAt (n : Int) (i : Nat) : UInt8 := UInt8.ofNat (n / 2 ^ (8 * i) % 256).toNat

theorem byteAt_toNat (n : Int) (i : Nat) : ((byteAt n i).toNat : Int) = n / 2 ^ (8 * i) % 256 := by
  unfold byteAt
  have h1 : 0 ≤ n / 2 ^ (8 * i) % 256 := Int.emod_nonneg _ (by decide)
  have h2 : n / 2 ^ (8 * i) % 256 < 256 := Int.emod_lt_of_pos _ (by decide)
  simp only [UInt8.toNat_ofNat']
  omega

/-- So many bytes of a number, the highest first. -/
def be (n : Int) : Nat → List UInt8
  | 0 => []
  | m + 1 => byteAt n m :: be n m

theorem be_len (n : Int) (m : Nat) : (be n m).length = m := by
  induction m with
  | zero => rfl
  | succ m ih => simp [be, ih]

def Va.enc (v : Va) : List UInt8 := v.k :: (if v.k = 1 then be v.n 8 else if v.k = 2 then be v.s.length 2 ++ v.s else [])

theorem shr_byte (n : Int) (m : Nat) (hm : m ≤ 7) : IntKind.u8.wrap (n.fdiv (2 ^ min (IntKind.i64.wrap (8 * (m : Int))).toNat 64)) = ((byteAt n m).toNat : Int) := by
  rw [byteAt_toNat, w_u8, i64_in _ (by omega)]
  have : min (8 * (m : Int)).toNat 64 = 8 * m := by omega
  rw [this, Int.fdiv_eq_ediv_of_nonneg _ (Int.pow_nonneg (by decide))]

def encAt (_v : Va) (p : List UInt8) (m : Nat) : List (Nat × AV) := [(1, .ptr (some (0, 0))), (3, .sl 1 none true (bs p)), (4, .int .i64 ((m : Int) - 1))]

theorem encLoop (v : Va) (Q : VE → Sy → Prop) (tot : List UInt8) (ht : tot.length ≤ 1000) (hQ : Q (.exit 1) ⟨[], (13, .bool (decide ((0 : Int) - 1 ≥ 0))) :: (12, .int .i64 ((0 : Int) - 1)) :: encAt v tot 0, [.cells v.c]⟩) :
    ∀ m p, m ≤ 8 → p ++ be v.n m = tot → VloopS Tryd.prog (tr [3, 16]) 44 0 c48b0 Q ⟨[], encAt v p m, [.cells v.c]⟩
  | 0, p, hm, hp => by
    have e : p = tot := by simpa [be] using hp
    subst e
    refine VloopS.round ?_
    refine cond_f (by decide) ?_
    exact hQ
  | m + 1, p, hm, hp => by
    refine VloopS.round ?_
    have hl : p.length + (m + 1) = tot.length := by rw [← hp, List.length_append, be_len]
    refine cond_t (decide_eq_true (by omega)) ?_
    refine And.intro ?_ ?_
    · rw [i64_in _ (by omega)]; omega
    refine And.intro (.inl ⟨rfl, rfl⟩) (And.intro (.inl rfl) (And.intro ?_ ?_))
    · simp only [List.length_cons, List.length_nil, bs_len]; omega
    refine VloopS.weak (l := encAt v (p ++ [byteAt v.n m]) m) rfl ?_ (Nat.zero_le _) (encLoop v Q tot ht hQ m (p ++ [byteAt v.n m]) (by omega) (by rw [← hp]; simp [be]))
    refine ⟨.refl _, .eq (sl_eq ?_), .eq (int_eq ?_), trivial⟩
    · rw [← bs_app]
      refine congrArg (bs p ++ ·) ?_
      refine congrArg (fun x => [[AV.int .u8 x]]) ?_
      have : (((m + 1 : Nat) : Int) - 1) = (m : Int) := by omega
      rw [this]
      exact shr_byte v.n m (by omega)
    · rw [i64_in _ (by omega)]; omega

theorem u8_ne {k : UInt8} {c : Int} (h : (k.toNat : Int) ≠ c) : ((k.toNat : Int) == c) = false := beq_eq_false_iff_ne.2 h
theorem u8_val {k c : UInt8} (h : k ≠ c) : (k.toNat : Int) ≠ (c.toNat : Int) := fun e => h (UInt8.toNat_inj.1 (by omega))

theorem low_byte (n : Int) : IntKind.u8.wrap n = ((byteAt n 0).toNat : Int) := by
  rw [byteAt_toNat, w_u8]
  simp

theorem encodeN (v : Va) (hs : v.s.length ≤ 200) : PCallN Tryd.prog 48 [v.av] (.sl 1 none true (bs v.enc)) := by
  by_cases h1 : v.k = 1
  · refine PCallN.of (tr [2, 3, 16, 27, 39, 43]) f48 (Nat.le_of_ble_eq_true rfl) (np_cons v.np np_nil) (np_bs _) ?_
    refine cond_t (by rw [h1]; rfl) ?_
    have he : v.enc = v.k :: be v.n 8 := by rw [Va.enc, if_pos h1]
    refine VloopS.weak (l := encAt v [v.k] 8) rfl ⟨.refl _, .nl _ _ _ _, .eq (int_eq rfl), trivial⟩ (Nat.zero_le _) ?_
    refine encLoop v _ v.enc (by rw [he, List.length_cons, be_len]; decide) ?_ 8 [v.k] (by decide) (by rw [he]; rfl)
    exact sl_eq rfl
  · by_cases h2 : v.k = 2
    · refine PCallN.weakRet (ret := .sl 1 (some false) true (bs v.enc)) (.nl _ _ _ _) ?_
      refine PCallN.of (tr [2, 3, 16, 27, 39, 43]) f48 (Nat.le_of_ble_eq_true rfl) (np_cons v.np np_nil) (np_bs _) ?_
      refine cond_f (by rw [h2]; rfl) ?_
      refine cond_t (by rw [h2]; rfl) ?_
      refine And.intro (by decide) ?_
      refine And.intro (.inl ⟨rfl, rfl⟩) (And.intro (.inl rfl) (And.intro (And.intro (Nat.le_of_ble_eq_true rfl) (Nat.le_of_ble_eq_true rfl)) ?_))
      refine And.intro (.inl ⟨rfl, rfl⟩) (And.intro ?_ ?_)
      · simp only [List.length_append, List.length_cons, List.length_nil, st_size]; omega
      refine sl_eq ?_
      rw [Va.enc, if_neg h1, if_pos h2, bs_st, st_size]
      have e1 := shr_byte (v.s.length : Int) 1 (by decide)
      have e2 := low_byte (v.s.length : Int)
      have e3 : IntKind.u8.wrap ((v.s.length : Int).fdiv (2 ^ min (8 : Int).toNat IntKind.i64.bits)) = ((byteAt v.s.length 1).toNat : Int) := by
        rw [← e1, i64_in _ (by omega)]; rfl
      show [AV.int .u8 v.k.toNat] :: [AV.int .u8 _] :: [AV.int .u8 _] :: bs v.s = _
      rw [e3, e2]
      rfl
    · refine PCallN.weakRet (ret := .sl 1 (some false) true (bs v.enc)) (.nl _ _ _ _) ?_
      refine PCallN.of (tr [2, 3, 16, 27, 39, 43]) f48 (Nat.le_of_ble_eq_true rfl) (np_cons v.np np_nil) (np_bs _) ?_
      refine cond_f (u8_ne (u8_val h1)) ?_
      refine cond_f (u8_ne (u8_val h2)) ?_
      refine sl_eq ?_
      rw [Va.enc, if_neg h1, if_neg h2]
      rfl

open Go.IntWalk

open Go.IntWalk

theorem st_list (l : List UInt8) : (st l).toList = l := by rw [ByteArray.toList_eq]; rfl
theorem st_beq (a b : List UInt8) : ((st a).toList == (st b).toList) = decide (a = b) := by
  rw [st_list, st_list]
  exact Bool.eq_iff_iff.2 ⟨fun h => decide_eq_true (beq_iff_eq.1 h), fun h => beq_iff_eq.2 (of_decide_eq_true h)⟩

def Va.right (v : Va) : Bool := if v.k = 0 then v.n == 0 && decide (v.s = []) else if v.k = 1 then decide (v.s = []) else if v.k = 2 then v.n == 0 && decide ((v.s.length : Int) ≤ 200) else false

def Va.of (w : Va) : Va := if w.k % 4 = 0 then ⟨0, 0, []⟩ else if w.k % 4 = 1 then ⟨1, w.n, []⟩ else ⟨2, 0, w.s.take 200⟩

open Go.IntWalk

def zero : Va := ⟨0, 0, []⟩

open Go.IntWalk

open Go.IntWalk

open Go.IntWalk

def Va.ok (v : Va) : Prop := -9223372036854775808 ≤ v.n ∧ v.n ≤ 9223372036854775807

theorem enc_len (v : Va) (h : v.s.length ≤ 200) : v.enc.length ≤ 203 := by
  unfold Va.enc
  split
  · simp [be_len]
  · split
    · simp [be_len]; omega
    · simp

end Go.Proofs.YtmjdoonaidolkaaDoor.V

/- What was shown of another layer, at this layer's numbers. -/
namespace Go.Proofs.YtmjdoonaidolkaaDoor.V

open Go.IntWalk

theorem bs_vals {w : World} {fr pi : Nat → Nat} : ∀ {l : List UInt8} {vs : List Value} {O : List Nat}, Reps w fr pi (bs l).flatten vs O → vs = l.map fun b => .int .u8 b.toNat
  | [], _, _, h => by cases h; rfl
  | b :: l, vs, O, h => by
    have h' : Reps w fr pi (.int .u8 b.toNat :: (bs l).flatten) vs O := h
    obtain ⟨v, vs', O1, O2, rfl, rfl, h1, h2⟩ := h'.cons_inv
    rw [h1.int_inv, bs_vals h2]
    rfl

theorem bytesOf_ints (l : List UInt8) : Lib.bytesOf (l.map fun b => (b.toNat : Int)) = l := by
  induction l with
  | nil => rfl
  | cons b l ih =>
    simp only [Lib.bytesOf, List.map_cons, List.map_map] at ih ⊢
    rw [ih]
    simp

/-- What the model's entries read off a slice of bytes. -/
theorem bytesOf_sl {P : Program} {w : World} {fr pi : Nat → Nat} {v : Value} {O : List Nat} {sz : Nat} {nl : Option Bool} {own : Bool} {l : List UInt8} (h : Rep w fr pi (.sl sz nl own (bs l)) v O) : (Extern.Bytes.bytesOf v).run P w = .ok (st l) w := by
  have nil : bs l = [] → l = [] := fun e => by simpa [bs] using e
  rcases h.sl_inv with ⟨rfl, hl, _⟩ | ⟨ad, cap, rfl, hl, _⟩ | ⟨b, o, cap, vs, rfl, _, _, hr, hc, _⟩
  · rw [nil hl]
    rfl
  · rw [nil hl]
    simp [Extern.Bytes.bytesOf, Extern.Bytes.loadBytes, st]
    rfl
  · have hv := bs_vals hr
    subst hv
    have hl := Lib.run_loadBytesX (P := P) w (l.map fun b => (b.toNat : Int)) ⟨b, o, none⟩ .empty (fun j x hj => by
      have := (hc j (.int .u8 x) (by
        simp only [List.getElem?_map, Option.map_eq_some_iff] at hj ⊢
        obtain ⟨c, h1, h2⟩ := hj
        exact ⟨c, h1, by rw [h2]⟩)).1
      rw [addr_add]
      exact this)
    rw [bytesOf_ints, List.length_map] at hl
    show (Extern.Bytes.loadBytes ⟨b, o, none⟩ (bs l).length .empty).run P w = _
    rw [bs_len, hl]
    congr 1
    apply ByteArray.ext
    simp [st]

theorem run_find {P : Program} (l : List UInt8) (c : UInt8) (w : World) : (Extern.BytealgIndexByte.indexByte #[.string (st l), .int .u8 c.toNat]).run P w = .ok (.int .i64 (Lib.indexByte l c)) w := by
  have := Lib.run_indexByteString (P := P) (st l) (c.toNat : Int) w
  rw [this]
  simp [st]

theorem ixbN (nl : Option Bool) (own : Bool) (sz : Nat) (l : List UInt8) (c : UInt8) : PCallN Tryd.prog 73 [.sl sz nl own (bs l), .int .u8 c.toNat] (.int .i64 (Lib.indexByte l c)) := by
  refine PCallN.ofExt Tryd.func73 (by kernel_rfl) (by kernel_rfl) (by kernel_rfl) (e := Extern.BytealgIndexByte.indexByte) (by kernel_rfl) (np_cons (np_bs _) (np_cons (.int _ _) np_nil)) (.int _ _) ?_
  intro w fr pi own vals hl hr
  obtain ⟨u, v, rfl, h1, h2⟩ := vals_two hl hr
  refine ⟨_, ?_, .int .i64 _⟩
  rw [h2.int_inv]
  have hs := run_find (P := Tryd.prog) l c w
  change Sem.run Tryd.prog (do
    let b ← Extern.Bytes.bytesOf u
    let c ← Extern.Bytes.asByte (.int .u8 c.toNat)
    match (List.range b.size).find? fun i => b[i]! == c with
    | some i => pure (goInt i)
    | none => pure (goInt (-1))) w = _
  change Sem.run Tryd.prog (do
    let b ← Extern.Bytes.bytesOf (.string (st l))
    let c ← Extern.Bytes.asByte (.int .u8 c.toNat)
    match (List.range b.size).find? fun i => b[i]! == c with
    | some i => pure (goInt i)
    | none => pure (goInt (-1))) w = _ at hs
  rw [Sem.run_bind, bytesOf_sl h1]
  rw [Sem.run_bind] at hs
  exact hs

theorem cntbN (nl : Option Bool) (own : Bool) (sz : Nat) (l : List UInt8) (c : UInt8) : PCallN Tryd.prog 75 [.sl sz nl own (bs l), .int .u8 c.toNat] (.int .i64 (l.count c : Nat)) := by
  refine PCallN.ofExt Tryd.func75 (by kernel_rfl) (by kernel_rfl) (by kernel_rfl) (e := Extern.BytealgCount.count) (by kernel_rfl) (np_cons (np_bs _) (np_cons (.int _ _) np_nil)) (.int _ _) ?_
  intro w fr pi own vals hl hr
  obtain ⟨u, v, rfl, h1, h2⟩ := vals_two hl hr
  refine ⟨_, ?_, .int .i64 _⟩
  rw [h2.int_inv]
  have hs := Lib.run_countString (P := Tryd.prog) (st l) (c.toNat : Int) w
  have e1 : (st l).data.toList = l := by simp [st]
  have e2 : (c.toNat : Int).toNat.toUInt8 = c := by simp
  rw [e1, e2] at hs
  change Sem.run Tryd.prog (do
    let b ← Extern.Bytes.bytesOf u
    let c' ← Extern.Bytes.asByte (.int .u8 c.toNat)
    pure (goInt (b.foldl (fun n x => if x == c' then n + 1 else n) (0 : Nat)))) w = _
  change Sem.run Tryd.prog (do
    let b ← Extern.Bytes.bytesOf (.string (st l))
    let c' ← Extern.Bytes.asByte (.int .u8 c.toNat)
    pure (goInt (b.foldl (fun n x => if x == c' then n + 1 else n) (0 : Nat)))) w = _ at hs
  rw [Sem.run_bind, bytesOf_sl h1]
  rw [Sem.run_bind] at hs
  exact hs

theorem indexByteN (nl : Option Bool) (own : Bool) (l : List UInt8) (c : UInt8) : PCallN Tryd.prog 69 [.sl 1 nl own (bs l), .int .u8 c.toNat] (.int .i64 (Lib.indexByte l c)) := by
  refine PCallN.of (tr []) f69 (Nat.le_of_ble_eq_true rfl) (np_cons (np_bs _) (np_cons (.int _ _) np_nil)) (.int _ _) ?_
  refine call_p (ixbN _ _ _ l c) ?_
  rfl

theorem countN (nl nl' : Option Bool) (own own' : Bool) (l : List UInt8) (c : UInt8) : PCallN Tryd.prog 70 [.sl 1 nl own (bs l), .sl 1 nl' own' (bs [c])] (.int .i64 (l.count c : Nat)) := by
  refine PCallN.of (tr []) f70 (Nat.le_of_ble_eq_true rfl) (np_cons (np_bs _) (np_cons (np_bs _) np_nil)) (.int _ _) ?_
  refine cond_f (by rfl) ?_
  refine cond_t (by rfl) ?_
  refine And.intro rfl (And.intro (by omega) (Exists.intro _ (And.intro rfl ?_)))
  refine call_p (cntbN _ _ _ l c) ?_
  rfl

theorem indexN (nl nl' : Option Bool) (own own' : Bool) (l : List UInt8) (c : UInt8) : PCallN Tryd.prog 71 [.sl 1 nl own (bs l), .sl 1 nl' own' (bs [c])] (.int .i64 (Lib.indexByte l c)) := by
  refine PCallN.of (tr []) f71 (Nat.le_of_ble_eq_true rfl) (np_cons (np_bs _) (np_cons (np_bs _) np_nil)) (.int _ _) ?_
  refine cond_f (by rfl) ?_
  refine cond_t (by rfl) ?_
  refine And.intro rfl (And.intro (by omega) (Exists.intro _ (And.intro rfl ?_)))
  refine call_p (indexByteN _ _ l c) ?_
  rfl

open Go.IntWalk

def esc (c p q : UInt8) : List UInt8 → List UInt8
  | [] => []
  | b :: l => if b = c then p :: q :: esc c p q l else b :: esc c p q l

theorem esc_len (c p q : UInt8) : ∀ l : List UInt8, (esc c p q l).length = l.length + l.count c
  | [] => rfl
  | b :: l => by
    unfold esc
    have ih := esc_len c p q l
    by_cases h : b = c
    · subst h
      rw [if_pos rfl, List.count_cons_self]
      simp only [List.length_cons, ih]; omega
    · rw [if_neg h, List.count_cons_of_ne h]
      simp only [List.length_cons, ih]; omega

theorem esc_none (c p q : UInt8) : ∀ l : List UInt8, l.count c = 0 → esc c p q l = l
  | [], _ => rfl
  | b :: l, h => by
    have hb : b ≠ c := fun e => by subst e; rw [List.count_cons_self] at h; omega
    rw [List.count_cons_of_ne hb] at h
    rw [esc, if_neg hb, esc_none c p q l h]

/-- Where it stands first. -/
theorem ix_split (c : UInt8) (p q : UInt8) : ∀ l : List UInt8, 1 ≤ l.count c → ∃ k : Nat, Lib.indexByte l c = k ∧ k < l.length ∧ (l.drop (k + 1)).count c + 1 = l.count c ∧ esc c p q l = l.take k ++ [p, q] ++ esc c p q (l.drop (k + 1))
  | [], h => by simp at h
  | b :: l, h => by
    by_cases hb : b = c
    · subst hb
      refine ⟨0, by simp [Lib.indexByte], by simp, by simp, ?_⟩
      rw [esc, if_pos rfl]
      simp
    · rw [List.count_cons_of_ne hb] at h
      obtain ⟨k, h1, h2, h3, h4⟩ := ix_split c p q l h
      refine ⟨k + 1, ?_, by simp; omega, ?_, ?_⟩
      · unfold Lib.indexByte
        rw [if_neg (by simpa using hb), h1, if_neg (by simp)]
        simp
      · rw [List.count_cons_of_ne hb, ← h3]
        simp
      · rw [esc, if_neg hb, h4]
        simp

def rpAt (s : List UInt8) (c p q : UInt8) (T W S m i : Nat) : List (Nat × AV) :=
  [(0, .sl 1 none false (bs s)), (1, .sl 1 none false (bs [c])), (2, .sl 1 none false (bs [p, q])), (10, .bsl 1 0 0 T), (11, .int .i64 W), (12, .int .i64 S), (48, .int .i64 m), (49, .int .i64 i)]

theorem bs_cpy (O z u : List UInt8) (a n k : Nat) (ha : a = O.length) (hk : k = u.length) (hn : k ≤ n) : (bs (O ++ z)).take a ++ ((bs u).take n ++ (bs (O ++ z)).drop (a + k)) = bs ((O ++ u) ++ z.drop k) := by
  subst ha hk
  rw [bs_take, bs_take, bs_drop, bs_app, bs_app, List.take_left, List.take_of_length_le hn, ← List.drop_drop, List.drop_left, List.append_assoc]

theorem bsl_eq {sz id off off' n n' : Nat} (h : off = off') (h' : n = n') : AV.bsl sz id off n = AV.bsl sz id off' n' := by rw [h, h']

theorem rpLoop (s : List UInt8) (c p q : UInt8) (R : VE → Sy → Prop) (m T : Nat) (hm : m ≤ 1000000) (hT : T ≤ 2000000) (hs : s.length ≤ 1000000) (hTe : T = s.length + s.count c)
    (hQ : ∀ O rest : List UInt8, O ++ rest = esc c p q s → ∀ z : List UInt8, O.length + z.length = T → ∀ S : Nat, S ≤ s.length → s.drop S = rest → R (.exit 0) ⟨[], [(0, .sl 1 none false (bs s)), (10, .bsl 1 0 0 T), (11, .int .i64 O.length), (12, .int .i64 S)], [.arr 1 (bs (O ++ z))]⟩) :
    ∀ (r i S : Nat) (O z : List UInt8), i + r = m → (s.drop S).count c = r → O ++ esc c p q (s.drop S) = esc c p q s → O.length + z.length = T → S ≤ s.length →
      VloopS Tryd.prog (tr [44, 131]) 132 0 c68b1 (exW 132 R) ⟨[], rpAt s c p q T O.length S m i, [.arr 1 (bs (O ++ z))]⟩
  | 0, i, S, O, z, hi, hr, hO, hz, hS => by
    refine VloopS.round ?_
    refine cond_f (decide_eq_false (by omega)) ?_
    refine ex_w (hQ O (s.drop S) (by rw [← hO, esc_none _ _ _ _ hr]) z hz S hS rfl) rfl ⟨.refl _, .refl _, .refl _, .refl _, trivial⟩ rfl
  | r + 1, i, S, O, z, hi, hr, hO, hz, hS => by
    obtain ⟨k, h1, h2, h3, h4⟩ := ix_split c p q (s.drop S) (by omega)
    have hlen : O.length + (esc c p q (s.drop S)).length = T := by
      rw [hTe, ← esc_len c p q s, ← hO, List.length_append]
    rw [esc_len, List.length_drop] at hlen
    rw [List.length_drop] at h2
    refine VloopS.round ?_
    refine cond_t (decide_eq_true (by omega)) ?_
    refine And.intro (.inl rfl) (And.intro (by rw [bs_len]; omega) ?_)
    refine call_p (ret := .int .i64 (k : Nat)) (by rw [cut_bs rfl (congrArg Nat.cast (bs_len s)) (Nat.le_refl _), List.take_of_length_le (by simp), ← h1]; exact indexN _ _ _ _ _ c) ?_
    refine And.intro rfl (And.intro (by omega) ?_)
    refine And.intro (.inl rfl) (And.intro (by rw [bs_len, i64_in _ (by omega)]; omega) ?_)
    refine And.intro ⟨rfl, rfl⟩ (And.intro (.inl rfl) (And.intro (by rw [bs_len, List.length_append]; omega) ?_))
    refine And.intro (by kernel_rfl) ?_
    have e1 : (IntKind.i64.wrap ((S : Int) + (k : Nat))) = ((S + k : Nat) : Int) := by rw [i64_in _ (by omega)]; omega
    have e2 : ((bs s).drop (S : Int).toNat).take ((IntKind.i64.wrap ((S : Int) + (k : Nat))).toNat - (S : Int).toNat) = bs ((s.drop S).take k) := by
      rw [cut_bs rfl e1 (by omega)]
      congr 2
      omega
    have e3 : min (((bs s).drop (S : Int).toNat).take ((IntKind.i64.wrap ((S : Int) + (k : Nat))).toNat - (S : Int).toNat)).length (((T : Nat) : Int).toNat - ((O.length : Nat) : Int).toNat) = k := by
      rw [e2, bs_len, List.length_take, List.length_drop]; omega
    have e4 : IntKind.i64.wrap (((O.length : Nat) : Int) + ((min (((bs s).drop (S : Int).toNat).take ((IntKind.i64.wrap ((S : Int) + (k : Nat))).toNat - (S : Int).toNat)).length (((T : Nat) : Int).toNat - ((O.length : Nat) : Int).toNat) : Nat) : Int)) = ((O.length + k : Nat) : Int) := by
      rw [e3, i64_in _ (by omega)]; omega
    refine And.intro rfl (And.intro (by rw [e4]; omega) ?_)
    refine And.intro ⟨rfl, rfl⟩ (And.intro (.inl rfl) (And.intro ?_ ?_))
    · rw [e4, e3, e2]
      simp only [List.length_append, List.length_take, List.length_drop, bs_len]
      omega
    have e5 : min (bs [p, q]).length (((T : Nat) : Int).toNat - ((O.length + k : Nat) : Int).toNat) = [p, q].length := by
      simp only [List.length_cons, List.length_nil, bs_len]; omega
    have hu : ((s.drop S).take k).length = k := by rw [List.length_take, List.length_drop]; omega
    refine VloopS.weakE (l := rpAt s c p q T (O ++ (s.drop S).take k ++ [p, q]).length (S + (k + 1)) m (i + 1)) (h := [.arr 1 (bs ((O ++ (s.drop S).take k ++ [p, q]) ++ (z.drop k).drop 2))]) rfl ⟨.refl _, .refl _, .refl _, .refl _, .eq (int_eq ?_), .eq (int_eq ?_), .refl _, .eq (int_eq ?_), trivial⟩ ?_ (Nat.zero_le _)
      (rpLoop s c p q R m T hm hT hs hTe hQ r (i + 1) (S + (k + 1)) (O ++ (s.drop S).take k ++ [p, q]) ((z.drop k).drop 2) (by omega) (by rw [List.drop_drop] at h3; omega) (by rw [← hO, h4, List.drop_drop]; simp) (by simp only [List.length_append, List.length_drop, List.length_cons, List.length_nil, hu]; omega) (by omega))
    · rw [e4, e5, i64_in _ (by simp only [List.length_cons, List.length_nil]; omega)]
      simp only [List.length_append, List.length_cons, List.length_nil, hu]
      omega
    · rw [e1, i64_in _ (by simp only [List.length_cons, List.length_nil, bs_len]; omega)]
      simp only [List.length_cons, List.length_nil, bs_len]
      omega
    · rw [i64_in _ (by omega)]
      omega
    · refine congrArg (fun x => [HObj.arr 1 x]) ?_
      rw [e4, e3, e2, bs_cpy O z ((s.drop S).take k) _ _ _ (by simp) hu.symm (by omega)]
      rw [bs_cpy (O ++ (s.drop S).take k) (z.drop k) [p, q] _ _ _ (by simp; omega) e5 (Nat.min_le_right _ _), e5]
      rfl

/-- ReplaceAll's and Replace's answer: each c goes over into p q. -/
theorem replace0N (nl nl' nl2 : Option Bool) (own own' own2 : Bool) (s : List UInt8) (c p q : UInt8) (hs : s.length ≤ 1000000) (h0 : s.count c = 0) :
    PCallN Tryd.prog 68 [.sl 1 nl own (bs s), .sl 1 nl' own' (bs [c]), .sl 1 nl2 own2 (bs [p, q]), .int .i64 (-1)] (.sl 1 none false (bs (esc c p q s))) := by
  refine PCallN.of (tr [44, 131]) f68 (Nat.le_of_ble_eq_true rfl) (np_cons (np_bs _) (np_cons (np_bs _) (np_cons (np_bs _) (np_cons (.int _ _) np_nil)))) (np_bs _) ?_
  refine cond_t (by rfl) ?_
  refine call_p (countN _ _ _ _ s c) ?_
  refine cond_t (by rw [h0]; rfl) ?_
  refine And.intro (.inr ⟨rfl, rfl⟩) (And.intro (.inl rfl) (And.intro ?_ ?_))
  · simp only [List.length_nil, bs_len]; omega
  rw [esc_none _ _ _ _ h0]
  exact sl_eq rfl

theorem zeros_bs (n : Nat) : List.replicate n [AV.int .u8 0] = bs (List.replicate n 0) := by
  simp [bs]

theorem replace1N (nl nl' nl2 : Option Bool) (own own' own2 : Bool) (s : List UInt8) (c p q : UInt8) (hs : s.length ≤ 1000000) (h0 : s.count c ≠ 0) :
    PCallN Tryd.prog 68 [.sl 1 nl own (bs s), .sl 1 nl' own' (bs [c]), .sl 1 nl2 own2 (bs [p, q]), .int .i64 (-1)] (.sl 1 none false (bs (esc c p q s))) := by
  refine PCallN.weakRet (ret := .sl 1 (some false) false (bs (esc c p q s))) (.nl _ _ _ _) ?_
  refine PCallN.of (tr [44, 131]) f68 (Nat.le_of_ble_eq_true rfl) (np_cons (np_bs _) (np_cons (np_bs _) (np_cons (np_bs _) (np_cons (.int _ _) np_nil)))) (np_bs _) ?_
  have hc := List.count_le_length (a := c) (l := s)
  refine cond_t (by rfl) ?_
  refine call_p (countN _ _ _ _ s c) ?_
  refine cond_f (by simp; omega) ?_
  repeat (first | refine guard_t rfl ?_ | refine guard_f (by decide) ?_)
  refine cond_t (by rfl) ?_
  have e1 : IntKind.i64.wrap (((bs s).length : Nat) + IntKind.i64.wrap (((s.count c : Nat) : Int) * IntKind.i64.wrap (((bs [p, q]).length : Nat) - ((bs [c]).length : Nat)))) = ((s.length + s.count c : Nat) : Int) := by
    have : IntKind.i64.wrap (((bs [p, q]).length : Nat) - ((bs [c]).length : Nat)) = 1 := by rfl
    have e : ((s.count c : Nat) : Int) * 1 = s.count c := Int.mul_one _
    have hi : IntKind.i64.wrap ((s.count c : Nat) : Int) = s.count c := i64_in _ (by omega)
    rw [this, e, hi, bs_len, i64_in _ (by omega)]; omega
  refine And.intro (by rw [e1]; omega) ?_
  refine cond_t (by rfl) ?_
  refine VloopS.weakE (l := rpAt s c p q (s.length + s.count c) ([] : List UInt8).length 0 (s.count c) 0) (h := [.arr 1 (bs ([] ++ List.replicate (s.length + s.count c) 0))]) rfl ⟨.both _ _ _ _, .both _ _ _ _, .both _ _ _ _, .eq (bsl_eq rfl ?_), .eq (int_eq rfl), .eq (int_eq rfl), .refl _, .eq (int_eq rfl), trivial⟩ ?_ (Nat.zero_le _)
    (VloopS.exW (rpLoop s c p q _ (s.count c) (s.length + s.count c) (by omega) (by omega) hs rfl ?_ (s.count c) 0 0 [] (List.replicate (s.length + s.count c) 0) (by omega) rfl rfl (by simp) (by omega)))
  · rw [e1]; rfl
  · refine congrArg (fun x => [HObj.arr 1 x]) ?_
    rw [e1, zeros_bs]; rfl
  · intro O rest hO z hz S hS hr
    have hlen : O.length + rest.length = s.length + s.count c := by rw [← esc_len c p q s, ← hO, List.length_append]
    have hrl : rest.length = s.length - S := by rw [← hr, List.length_drop]
    refine And.intro rfl (And.intro (by omega) ?_)
    refine And.intro (.inl rfl) (And.intro (by rw [bs_len]; omega) ?_)
    refine And.intro ⟨rfl, rfl⟩ (And.intro (.inl rfl) (And.intro (by rw [bs_len, List.length_append]; omega) ?_))
    refine And.intro (by kernel_rfl) ?_
    have e2 : ((bs s).drop (S : Int).toNat).take ((((bs s).length : Nat) : Int).toNat - (S : Int).toNat) = bs rest := by
      rw [cut_bs rfl (congrArg Nat.cast (bs_len s)) (Nat.le_refl _), List.take_of_length_le (by simp), hr]
    have e3 : min (((bs s).drop (S : Int).toNat).take ((((bs s).length : Nat) : Int).toNat - (S : Int).toNat)).length ((((s.length + s.count c : Nat) : Nat) : Int).toNat - ((O.length : Nat) : Int).toNat) = rest.length := by
      rw [e2, bs_len]; omega
    have e4 : IntKind.i64.wrap (((O.length : Nat) : Int) + ((min (((bs s).drop (S : Int).toNat).take ((((bs s).length : Nat) : Int).toNat - (S : Int).toNat)).length ((((s.length + s.count c : Nat) : Nat) : Int).toNat - ((O.length : Nat) : Int).toNat) : Nat) : Int)) = ((O.length + rest.length : Nat) : Int) := by
      rw [e3, i64_in _ (by omega)]; omega
    refine And.intro rfl (And.intro (by rw [e4]; omega) (And.intro ⟨rfl, ?_⟩ ?_))
    · rw [e3, e2, bs_cpy O z rest _ _ _ (by simp) rfl (by omega), bs_len]
      simp only [List.length_append, List.length_drop]; omega
    · refine sl_eq ?_
      rw [e4, e3, e2, bs_cpy O z rest _ _ _ (by simp) rfl (by omega), bs_drop, bs_take]
      refine congrArg bs ?_
      rw [hO]
      have : (esc c p q s).length = O.length + rest.length := by rw [← hO, List.length_append]
      simp [← this]

theorem replaceN (nl nl' nl2 : Option Bool) (own own' own2 : Bool) (s : List UInt8) (c p q : UInt8) (hs : s.length ≤ 1000000) :
    PCallN Tryd.prog 68 [.sl 1 nl own (bs s), .sl 1 nl' own' (bs [c]), .sl 1 nl2 own2 (bs [p, q]), .int .i64 (-1)] (.sl 1 none false (bs (esc c p q s))) := by
  by_cases h : s.count c = 0
  · exact replace0N nl nl' nl2 own own' own2 s c p q hs h
  · exact replace1N nl nl' nl2 own own' own2 s c p q hs h

theorem replaceAllN (nl nl' nl2 : Option Bool) (own own' own2 : Bool) (s : List UInt8) (c p q : UInt8) (hs : s.length ≤ 1000000) :
    PCallN Tryd.prog 66 [.sl 1 nl own (bs s), .sl 1 nl' own' (bs [c]), .sl 1 nl2 own2 (bs [p, q])] (.sl 1 none false (bs (esc c p q s))) := by
  refine PCallN.of (tr []) f66 (Nat.le_of_ble_eq_true rfl) (np_cons (np_bs _) (np_cons (np_bs _) (np_cons (np_bs _) np_nil))) (np_bs _) ?_
  refine call_p (replaceN _ _ _ _ _ _ s c p q hs) ?_
  exact sl_eq rfl

open Go.IntWalk

/-- A number, its sign turned. -/
def turn (n : Int) : Int := IntKind.u64.wrap (BitVec.ofInt 64 (IntKind.u64.wrap n) ^^^ BitVec.ofInt 64 9223372036854775808).toNat

def Va.key (v : Va) : List UInt8 := if v.k = 1 then 2 :: be (turn v.n) 8 else if v.k = 2 then 3 :: (esc 0 0 255 v.s ++ [0, 1]) else [1]

def oneAt (n : Int) (p : List UInt8) (m : Nat) : List (Nat × AV) := [(3, .sl 1 none true (bs p)), (4, .int .u64 n), (5, .int .i64 ((m : Int) - 1))]

theorem oneLoop (c : List AV) (n : Int) (R : VE → Sy → Prop) (tot : List UInt8) (ht : tot.length ≤ 1000) (hR : R (.exit 1) ⟨[], [(3, .sl 1 none true (bs tot))], [.cells c]⟩) :
    ∀ m p, m ≤ 8 → p ++ be n m = tot → VloopS Tryd.prog (tr [2, 3, 6, 20, 28, 39]) 43 0 c55b0 (exW 43 R) ⟨[], oneAt n p m, [.cells c]⟩
  | 0, p, hm, hp => by
    have e : p = tot := by simpa [be] using hp
    subst e
    refine VloopS.round ?_
    refine cond_f (by decide) ?_
    exact ex_w hR rfl ⟨.refl _, trivial⟩ rfl
  | m + 1, p, hm, hp => by
    refine VloopS.round ?_
    have hl : p.length + (m + 1) = tot.length := by rw [← hp, List.length_append, be_len]
    refine cond_t (decide_eq_true (by omega)) ?_
    refine And.intro ?_ ?_
    · rw [i64_in _ (by omega)]; omega
    refine And.intro (.inl ⟨rfl, rfl⟩) (And.intro (.inl rfl) (And.intro ?_ ?_))
    · simp only [List.length_cons, List.length_nil, bs_len]; omega
    refine VloopS.weakE (l := oneAt n (p ++ [byteAt n m]) m) rfl ?_ rfl (Nat.zero_le _) (oneLoop c n R tot ht hR m (p ++ [byteAt n m]) (by omega) (by rw [← hp]; simp [be]))
    refine ⟨.eq (sl_eq ?_), .refl _, .eq (int_eq ?_), trivial⟩
    · rw [← bs_app]
      refine congrArg (bs p ++ ·) ?_
      refine congrArg (fun x => [[AV.int .u8 x]]) ?_
      have : (((m + 1 : Nat) : Int) - 1) = (m : Int) := by omega
      rw [this]
      exact shr_byte n m (by omega)
    · rw [i64_in _ (by omega)]; omega

theorem oneN (v : Va) (hs : v.s.length ≤ 1000) : PCallN Tryd.prog 55 [v.av] (.sl 1 none true (bs v.key)) := by
  by_cases h1 : v.k = 1
  · refine PCallN.of (tr [2, 3, 6, 20, 28, 39]) f55 (Nat.le_of_ble_eq_true rfl) (np_cons v.np np_nil) (np_bs _) ?_
    refine cond_t (by rw [h1]; rfl) ?_
    have he : v.key = 2 :: be (turn v.n) 8 := by rw [Va.key, if_pos h1]
    refine VloopS.weakE (l := oneAt (turn v.n) [2] 8) (h := [.cells v.c]) rfl ⟨.nl _ _ _ _, .refl _, .eq (int_eq rfl), trivial⟩ rfl (Nat.zero_le _) ?_
    refine VloopS.exW (oneLoop v.c (turn v.n) _ v.key (by rw [he, List.length_cons, be_len]; decide) ?_ 8 [2] (by decide) (by rw [he]; rfl))
    exact sl_eq rfl
  · by_cases h2 : v.k = 2
    · refine PCallN.weakRet (ret := .sl 1 (some false) true (bs v.key)) (.nl _ _ _ _) ?_
      refine PCallN.of (tr [2, 3, 6, 20, 28, 39]) f55 (Nat.le_of_ble_eq_true rfl) (np_cons v.np np_nil) (np_bs _) ?_
      refine cond_f (u8_ne (u8_val h1)) ?_
      refine cond_t (by rw [h2]; rfl) ?_
      have hc := List.count_le_length (a := (0 : UInt8)) (l := v.s)
      have he := esc_len 0 0 255 v.s
      refine call_p (ret := .sl 1 none false (bs (esc 0 0 255 v.s))) (by rw [bs_st]; exact replaceAllN _ _ _ _ _ _ v.s 0 0 255 (by omega)) ?_
      refine And.intro (.inl ⟨rfl, rfl⟩) (And.intro (.inl rfl) (And.intro ?_ ?_))
      · simp only [List.length_cons, List.length_nil, bs_len]; omega
      refine And.intro (.inl ⟨rfl, rfl⟩) (And.intro (.inl rfl) (And.intro ?_ ?_))
      · simp only [List.length_cons, List.length_nil, List.length_append, bs_len]; omega
      rw [Va.key, if_neg h1, if_pos h2]
      refine sl_eq ?_
      show [AV.int .u8 3] :: bs (esc 0 0 255 v.s) ++ _ = bs ([3] ++ (esc 0 0 255 v.s ++ [0, 1]))
      rw [← bs_app, ← bs_app]
      rfl
    · refine PCallN.weakRet (ret := .sl 1 (some false) true (bs v.key)) (.nl _ _ _ _) ?_
      refine PCallN.of (tr [2, 3, 6, 20, 28, 39]) f55 (Nat.le_of_ble_eq_true rfl) (np_cons v.np np_nil) (np_bs _) ?_
      refine cond_f (u8_ne (u8_val h1)) ?_
      refine cond_f (u8_ne (u8_val h2)) ?_
      rw [Va.key, if_neg h1, if_neg h2]
      exact sl_eq rfl

/-! ### keys of lists -/

def keys (l : List Va) : List UInt8 := (l.map Va.key).flatten
theorem keys_app (a b : List Va) : keys (a ++ b) = keys a ++ keys b := by simp [keys]

theorem key_len (v : Va) (h : v.s.length ≤ 200) : v.key.length ≤ 403 := by
  unfold Va.key
  split
  · simp [be_len]
  · split
    · have hc := List.count_le_length (a := (0 : UInt8)) (l := v.s)
      have he := esc_len 0 0 255 v.s
      simp only [List.length_cons, List.length_append, List.length_nil]; omega
    · simp

theorem keys_len : ∀ (l : List Va), (∀ v, v ∈ l → v.s.length ≤ 200) → (keys l).length ≤ 403 * l.length
  | [], _ => by simp [keys]
  | v :: l, h => by
    have h1 := key_len v (h v (by simp))
    have h2 := keys_len l (fun w hw => h w (by simp [hw]))
    have : keys (v :: l) = v.key ++ keys l := by simp [keys]
    rw [this, List.length_append, List.length_cons]
    omega

theorem np_words {ok : Nat → Prop} {sz : Nat} {nl : Option Bool} {own : Bool} (ws : List Va) : NP ok (.sl sz nl own (ws.map Va.c)) := by
  refine .sl _ _ _ _ fun x hx a ha => ?_
  obtain ⟨w, _, rfl⟩ := List.mem_map.1 hx
  have := w.np (ok := ok)
  exact this.agg_inv a ha

theorem words_get {ws : List Va} {i : Nat} (h : i < ws.length) : (ws.map Va.c)[i]? = some ws[i].c := by simp [h]

def keyAt (l : List Va) (acc : List UInt8) (i : Int) : List (Nat × AV) := [(3, .sl 1 none true (bs acc)), (6, .sl 3 none false (l.map Va.c)), (7, .int .i64 l.length), (8, .int .i64 i)]

theorem keyLoop (l : List Va) (hl : l.length ≤ 40) (hs : ∀ v, v ∈ l → v.s.length ≤ 200) (R : VE → Sy → Prop) (hR : R (.exit 0) ⟨[], [(3, .sl 1 none true (bs (keys l)))], []⟩) :
    ∀ (g i : Nat), i + g = l.length → VloopS Tryd.prog (tr [2, 3, 12, 15, 17]) 18 0 c38b0 (exW 18 R) ⟨[], keyAt l (keys (l.take i)) i, []⟩
  | 0, i, hg => by
    refine VloopS.round ?_
    refine cond_f (decide_eq_false (by omega)) ?_
    refine ex_w hR rfl ⟨.eq (sl_eq ?_), trivial⟩ rfl
    rw [List.take_of_length_le (by omega)]
  | g + 1, i, hg => by
    have hlt : i < l.length := by omega
    have hk := keys_len (l.take i) (fun v hv => hs v (List.mem_of_mem_take hv))
    rw [List.length_take] at hk
    have he := key_len l[i] (hs _ (List.getElem_mem hlt))
    refine VloopS.round ?_
    refine cond_t (decide_eq_true (by omega)) ?_
    refine And.intro rfl (And.intro (Int.natCast_nonneg i) (Exists.intro l[i].c (And.intro (words_get hlt) ?_)))
    refine call_p (oneN l[i] (by have := hs _ (List.getElem_mem hlt); omega)) ?_
    refine And.intro (.inl ⟨rfl, rfl⟩) (And.intro (.inl rfl) (And.intro ?_ ?_))
    · simp only [bs_len]; omega
    refine VloopS.weakBox (l := keyAt l (keys (l.take (i + 1))) ((i + 1 : Nat) : Int)) (h := []) (ex := [.cells l[i].c]) rfl ⟨.eq (sl_eq ?_), .refl _, .refl _, .eq (int_eq ?_), trivial⟩ rfl (Nat.zero_le _) ?_ (by simp) (keyLoop l hl hs R hR g (i + 1) (by omega))
    · rw [take_snoc l i hlt, keys_app, ← bs_app]
      simp [keys]
    · rw [i64_in _ (by omega)]; omega
    · intro p hp
      simp only [keyAt, List.mem_cons, List.not_mem_nil, or_false] at hp
      rcases hp with rfl | rfl | rfl | rfl
      · exact np_bs _
      · exact np_words _
      · exact .int _ _
      · exact .int _ _

theorem keyN (nl : Option Bool) (own : Bool) (l : List Va) (hl : l.length ≤ 40) (hs : ∀ v, v ∈ l → v.s.length ≤ 200) : PCallN Tryd.prog 38 [.sl 3 nl own (l.map Va.c)] (.sl 1 none true (bs (keys l))) := by
  refine PCallN.of (tr [2, 3, 12, 15, 17]) f38 (Nat.le_of_ble_eq_true rfl) (np_cons (np_words _) np_nil) (np_bs _) ?_
  refine VloopS.weakE (l := keyAt l (keys (l.take 0)) ((0 : Nat) : Int)) rfl ⟨.nil _ _ _ _ _ (by simp), .both _ _ _ _, .eq (int_eq ?_), .refl _, trivial⟩ rfl (Nat.zero_le _) (VloopS.exW (keyLoop l hl hs _ ?_ l.length 0 (by omega)))
  · rw [List.length_map]
  · exact sl_eq rfl

open Go.IntWalk

open Go.IntWalk Go.Lib

open Go.IntWalk Go.Lib

/-! the order, plainly -/

open Go.IntWalk Go.Lib

open Go.IntWalk Go.Lib

open Go.IntWalk Go.Lib

open Go.IntWalk Go.Lib

open Go.IntWalk Go.Lib

open Go.IntWalk Go.Lib

open Go.IntWalk Go.Lib

open Go.IntWalk Go.Lib

open Go.IntWalk Go.Lib

end Go.Proofs.YtmjdoonaidolkaaDoor.V

/- Tables' keys, and rows' bytes. -/
namespace Go.Proofs.YtmjdoonaidolkaaDoor.V
open Go.IntWalk Go.Lib

def u8of (n : Int) : UInt8 := UInt8.ofNat (n % 256).toNat
theorem u8of_toNat (n : Int) : ((u8of n).toNat : Int) = IntKind.u8.wrap n := by
  rw [w_u8]
  unfold u8of
  simp only [UInt8.toNat_ofNat']
  omega

theorem tKeyN (t : Int) (nl : Option Bool) (own : Bool) (l : List Va) (hl : l.length ≤ 40) (hs : ∀ v, v ∈ l → v.s.length ≤ 200) : PCallN Tryd.prog 17 [.int .i64 t, .sl 3 nl own (l.map Va.c)] (.str (st (u8of t :: keys l))) := by
  refine PCallN.of (tr []) f17 (Nat.le_of_ble_eq_true rfl) (np_cons (.int _ _) (np_cons (np_words _) np_nil)) (.str _) ?_
  have hk := keys_len l hs
  refine call_p (keyN _ _ l hl hs) ?_
  refine And.intro (.inl ⟨rfl, rfl⟩) (And.intro (.inl rfl) (And.intro ?_ ?_))
  · simp only [List.length_cons, List.length_nil, bs_len]; omega
  refine Exists.intro (u8of t :: keys l) (And.intro ?_ rfl)
  rw [← u8of_toNat]
  exact toBytes_bs (u8of t :: keys l)

def encsL (l : List Va) : List UInt8 := (l.map Va.enc).flatten
theorem encsL_app (a b : List Va) : encsL (a ++ b) = encsL a ++ encsL b := by simp [encsL]
def packs (l : List Va) : List UInt8 := u8of l.length :: encsL l

theorem encsL_len : ∀ (l : List Va), (∀ v, v ∈ l → v.s.length ≤ 200) → (encsL l).length ≤ 203 * l.length
  | [], _ => by simp [encsL]
  | v :: l, h => by
    have h1 := enc_len v (h v (by simp))
    have h2 := encsL_len l (fun w hw => h w (by simp [hw]))
    have : encsL (v :: l) = v.enc ++ encsL l := by simp [encsL]
    rw [this, List.length_append, List.length_cons]
    omega

def pkAt (l : List Va) (acc : List UInt8) (i : Int) : List (Nat × AV) := [(3, .sl 1 none true (bs acc)), (10, .sl 3 none false (l.map Va.c)), (11, .int .i64 l.length), (12, .int .i64 i)]

theorem pkLoop (l : List Va) (hl : l.length ≤ 200) (hs : ∀ v, v ∈ l → v.s.length ≤ 200) (R : VE → Sy → Prop) (hR : R (.exit 0) ⟨[], [(3, .sl 1 none true (bs (packs l)))], []⟩) :
    ∀ (g i : Nat), i + g = l.length → VloopS Tryd.prog (tr [2, 3, 16, 19, 21]) 22 0 c28b0 (exW 22 R) ⟨[], pkAt l (u8of l.length :: encsL (l.take i)) i, []⟩
  | 0, i, hg => by
    refine VloopS.round ?_
    refine cond_f (decide_eq_false (by omega)) ?_
    refine ex_w hR rfl ⟨.eq (sl_eq ?_), trivial⟩ rfl
    rw [List.take_of_length_le (by omega)]; rfl
  | g + 1, i, hg => by
    have hlt : i < l.length := by omega
    have hk := encsL_len (l.take i) (fun v hv => hs v (List.mem_of_mem_take hv))
    rw [List.length_take] at hk
    have he := enc_len l[i] (hs _ (List.getElem_mem hlt))
    refine VloopS.round ?_
    refine cond_t (decide_eq_true (by omega)) ?_
    refine And.intro rfl (And.intro (Int.natCast_nonneg i) (Exists.intro l[i].c (And.intro (words_get hlt) ?_)))
    refine call_p (encodeN l[i] (hs _ (List.getElem_mem hlt))) ?_
    refine And.intro (.inl ⟨rfl, rfl⟩) (And.intro (.inl rfl) (And.intro ?_ ?_))
    · simp only [bs_len, List.length_cons]; omega
    refine VloopS.weakBox (l := pkAt l (u8of l.length :: encsL (l.take (i + 1))) ((i + 1 : Nat) : Int)) (h := []) (ex := [.cells l[i].c]) rfl ⟨.eq (sl_eq ?_), .refl _, .refl _, .eq (int_eq ?_), trivial⟩ rfl (Nat.zero_le _) ?_ (by simp) (pkLoop l hl hs R hR g (i + 1) (by omega))
    · rw [take_snoc l i hlt, encsL_app, bs_app]
      simp [encsL]
    · rw [i64_in _ (by omega)]; omega
    · intro p hp
      simp only [pkAt, List.mem_cons, List.not_mem_nil, or_false] at hp
      rcases hp with rfl | rfl | rfl | rfl
      · exact np_bs _
      · exact np_words _
      · exact .int _ _
      · exact .int _ _

theorem packN (nl : Option Bool) (own : Bool) (l : List Va) (hl : l.length ≤ 200) (hs : ∀ v, v ∈ l → v.s.length ≤ 200) : PCallN Tryd.prog 28 [.sl 3 nl own (l.map Va.c)] (.sl 1 none true (bs (packs l))) := by
  refine PCallN.of (tr [2, 3, 16, 19, 21]) f28 (Nat.le_of_ble_eq_true rfl) (np_cons (np_words _) np_nil) (np_bs _) ?_
  refine VloopS.weakE (l := pkAt l (u8of l.length :: encsL (l.take 0)) ((0 : Nat) : Int)) (h := []) rfl ⟨?_, .both _ _ _ _, .eq (int_eq ?_), .refl _, trivial⟩ rfl (Nat.zero_le _) (VloopS.exW (pkLoop l hl hs _ ?_ l.length 0 (by omega)))
  · have e : AV.sl 1 (some false) true [[AV.int .u8 (IntKind.u8.wrap ((l.map Va.c).length : Nat))]] = .sl 1 (some false) true (bs (u8of l.length :: encsL (l.take 0))) := by
      refine sl_eq ?_
      rw [List.length_map, ← u8of_toNat]; rfl
    exact e ▸ Wk.nl _ _ _ _
  · rw [List.length_map]
  · exact sl_eq rfl

end Go.Proofs.YtmjdoonaidolkaaDoor.V

/- The document's examples; the reference's Pack. -/
namespace Go.Proofs.YtmjdoonaidolkaaDoor.V
open Go.IntWalk Go.Lib

theorem packNil : PCallN Tryd.prog 28 [.sl 0 (some true) true []] (.sl 1 none true (bs (packs []))) :=
  PCallN.weakArgs (.cons _ _ _ _ (.nil 0 3 true false none (by simp)) .nil) (np_cons np_nilsl np_nil) (packN none false [] (by decide) (by decide))

theorem noughtsN : PCallN Tryd.prog 10 [] (.bool true) := by
  refine PCallN.of (tr []) f10 (Nat.le_of_ble_eq_true rfl) np_nil (.bool _) ?_
  refine call_p (tKeyN 1 _ _ [⟨1, 0, []⟩] (by decide) (by decide)) ?_
  refine call_p packNil ?_
  refine call_p (bytesN _ _ _ _ (packs []) [0] (by decide +kernel)) ?_
  have h1 : packs [] = [0] := by decide +kernel
  refine guard_t (decide_eq_true h1) ?_
  rw [decide_eq_true h1]
  repeat (first | refine guard_t rfl ?_ | refine guard_f (by decide) ?_)
  refine And.intro (by decide +kernel) ?_
  repeat (first | refine guard_t rfl ?_ | refine guard_f (by decide) ?_)
  refine bool_eq ?_
  decide +kernel

end Go.Proofs.YtmjdoonaidolkaaDoor.V

/- Rows' bytes read back: the program's Unpack and the reference's; the law TablePacks. -/
namespace Go.Proofs.YtmjdoonaidolkaaDoor.V
open Go.IntWalk Go.Lib

/-! ### the reference's -/

end Go.Proofs.YtmjdoonaidolkaaDoor.V

/- Rows that are alike; keys split; the law TableKeys. -/
namespace Go.Proofs.YtmjdoonaidolkaaDoor.V
open Go.IntWalk Go.Lib

/-! ### keys split -/

end Go.Proofs.YtmjdoonaidolkaaDoor.V

/- A packed row turned; rows that are alike: the laws TableTurned and TableSame. -/
namespace Go.Proofs.YtmjdoonaidolkaaDoor.V
open Go.IntWalk Go.Lib

theorem wkf_bsl {B : Nat → Option (Nat × List (List AV))} {sz id off len : Nat} {xs ys : List (List AV)} (hB : B id = some (sz, xs)) (hle : off + len ≤ xs.length) (h : (xs.drop off).take len = ys) : WkF B (.bsl sz id off len) (.sl sz none false ys) :=
  .bsl sz id off len xs ys none hB hle (by simp) (by rw [h]) (by rw [h]; exact WkFL.of _)

/-! ### rows that are alike -/

end Go.Proofs.YtmjdoonaidolkaaDoor.V
