/-
  The document's example.
-/
import Derived.Test.YtjbgdmebpnfpnaaDoorFc
import Derived.Test.YtjbgdmebpnfpnaaDoorRows
import Derived.Test.YtjbgdmebpnfpnaaDoorGa

/- The code of functions, as the logic of values reads it. -/
namespace Go.Proofs.YtjbgdmebpnfpnaaDoor.V

/-! 3: countinghouse/countinghouselaw06.RecordReads -/

def c3 : VC := .seq (.reg [⟨some 2, .mov (.cst (.bool false)), none, none, []⟩]) (.seq (.seq (.reg [⟨some 3, .mov (.tmp 0), none, none, []⟩, ⟨some 4, .lenl (.tmp 3), none, none, []⟩, ⟨some 5, .bin .gtr (.tmp 4) (.cst (.int .i64 200)), none, none, []⟩]) (.cond (.tmp 5) (.seq (.reg [⟨some 6, .mov (.cst .undef), some (.cst (.func 9 []), []), none, []⟩, ⟨some 2, .mov (.tmp 6), none, none, []⟩]) .ret) .skip)) (.seq (.reg [⟨some 7, .mov (.cst .undef), some (.cst (.func 9 []), []), none, []⟩, ⟨some 8, .mov (.tmp 7), none, none, []⟩, ⟨some 9, .mov (.tmp 0), none, some (8, true), []⟩, ⟨some 10, .mov (.cst .undef), some (.cst (.func 10 []), [.tmp 9]), some (8, true), []⟩, ⟨some 11, .pick (.tmp 8) (.tmp 10) (.cst (.bool false)), none, none, []⟩, ⟨some 12, .mov (.tmp 11), none, none, []⟩, ⟨some 13, .bslice 1 12 [.int .u8 0] [(0, .cst (.int .u8 0)), (1, .cst (.int .u8 0)), (2, .cst (.int .u8 0)), (3, .cst (.int .u8 0)), (4, .cst (.int .u8 0)), (5, .cst (.int .u8 0)), (6, .cst (.int .u8 0)), (7, .cst (.int .u8 9)), (8, .cst (.int .u8 0)), (9, .cst (.int .u8 2)), (10, .cst (.int .u8 0)), (11, .cst (.int .u8 1))], none, some (12, true), []⟩, ⟨some 14, .mov (.tmp 0), none, some (12, true), []⟩, ⟨some 15, .mov (.cst .undef), some (.cst (.func 11 []), [.tmp 13, .tmp 14]), some (12, true), []⟩, ⟨some 16, .mov (.cst .undef), some (.cst (.func 10 []), [.tmp 15]), some (12, true), []⟩, ⟨some 17, .pick (.tmp 12) (.tmp 16) (.cst (.bool false)), none, none, []⟩, ⟨some 2, .mov (.tmp 17), none, none, []⟩]) .ret))

theorem f3 : fnC Tryd.prog 3 = some (18, c3, [.tmp 2]) := by kernel_rfl

/-! 4: countinghouse/countinghouselaw06.RecordTurned -/

def c4 : VC := .seq (.reg [⟨some 10, .mov (.cst (.bool false)), none, none, []⟩]) (.seq (.seq (.reg [⟨some 17, .mov (.cst .undef), some (.cst (.func 9 []), []), none, []⟩, ⟨some 18, .un .not (.tmp 17), none, none, []⟩, ⟨some 19, .mov (.tmp 18), none, none, []⟩, ⟨some 20, .mov (.tmp 0), none, some (19, false), []⟩, ⟨some 21, .lenl (.tmp 20), none, some (19, false), []⟩, ⟨some 22, .bin .gtr (.tmp 21) (.cst (.int .i64 30)), none, some (19, false), []⟩, ⟨some 23, .pick (.tmp 19) (.cst (.bool true)) (.tmp 22), none, none, []⟩, ⟨some 24, .mov (.tmp 23), none, none, []⟩, ⟨some 25, .mov (.tmp 4), none, some (24, false), []⟩, ⟨some 26, .lenl (.tmp 25), none, some (24, false), []⟩, ⟨some 27, .bin .gtr (.tmp 26) (.cst (.int .i64 20)), none, some (24, false), []⟩, ⟨some 28, .pick (.tmp 24) (.cst (.bool true)) (.tmp 27), none, none, []⟩, ⟨some 29, .mov (.tmp 28), none, none, []⟩, ⟨some 30, .mov (.tmp 0), none, some (29, false), []⟩, ⟨some 31, .lenl (.tmp 30), none, some (29, false), []⟩, ⟨some 32, .bin .eql (.tmp 31) (.cst (.int .i64 0)), none, some (29, false), []⟩, ⟨some 33, .pick (.tmp 29) (.cst (.bool true)) (.tmp 32), none, none, []⟩]) (.cond (.tmp 33) (.seq (.reg [⟨some 34, .mov (.cst .undef), some (.cst (.func 9 []), []), none, []⟩, ⟨some 10, .mov (.tmp 34), none, none, []⟩]) .ret) .skip)) (.seq (.reg [⟨some 35, .mov (.tmp 0), none, none, []⟩, ⟨some 36, .mov (.cst .undef), some (.cst (.func 13 []), [.cst (.int .i64 3), .tmp 35]), none, []⟩, ⟨some 37, .mov (.cst .undef), some (.cst (.func 12 []), [.tmp 36]), none, []⟩, ⟨some 11, .mov (.tmp 37), none, none, []⟩]) (.seq (.reg [⟨some 38, .mov (.tmp 1), none, none, []⟩, ⟨some 39, .cvi .i64 (.tmp 38), none, none, []⟩, ⟨some 40, .mov (.tmp 11), none, none, []⟩, ⟨some 41, .lenl (.tmp 40), none, none, []⟩, ⟨some 42, .bin .rem (.tmp 39) (.tmp 41), none, none, []⟩, ⟨some 12, .mov (.tmp 42), none, none, []⟩]) (.seq (.reg [⟨some 43, .mov (.tmp 11), none, none, []⟩, ⟨some 44, .mov (.tmp 4), none, none, []⟩, ⟨some 45, .mov (.cst .undef), some (.cst (.func 11 []), [.tmp 43, .tmp 44]), none, []⟩, ⟨some 13, .mov (.tmp 45), none, none, []⟩]) (.seq (.seq (.reg [⟨some 46, .mov (.tmp 3), none, none, []⟩]) (.cond (.tmp 46) (.seq (.reg [⟨some 48, .mov (.tmp 13), none, none, []⟩, ⟨some 49, .mov (.tmp 12), none, none, []⟩, ⟨some 50, .slsl 1 (.tmp 48) none (some (.tmp 49)), none, none, []⟩, ⟨some 51, .mov (.cst .undef), some (.cst (.func 14 []), [.tmp 50]), none, []⟩, ⟨some 47, .mov (.tmp 51), none, none, []⟩, ⟨some 52, .ext (.tmp 47) 0, none, none, []⟩, ⟨some 53, .ext (.tmp 47) 1, none, none, []⟩, ⟨some 54, .ext (.tmp 47) 2, none, none, []⟩, ⟨some 14, .alloc (.agg [.int .i64 0, .sl 0 (some true) true []]), none, none, []⟩, ⟨none, .store 2 (.tmp 14) (.tmp 52), none, none, []⟩, ⟨some 15, .mov (.tmp 53), none, none, []⟩, ⟨some 16, .mov (.tmp 54), none, none, []⟩]) (.seq (.reg [⟨some 55, .mov (.tmp 16), none, none, []⟩, ⟨some 56, .bin .eql (.tmp 55) (.cst (.int .i64 3)), none, none, []⟩, ⟨some 57, .mov (.tmp 56), none, none, []⟩, ⟨some 58, .mov (.tmp 15), none, some (57, true), []⟩, ⟨some 59, .mov (.tmp 12), none, some (57, true), []⟩, ⟨some 60, .bin .leq (.tmp 58) (.tmp 59), none, some (57, true), []⟩, ⟨some 61, .pick (.tmp 57) (.tmp 60) (.cst (.bool false)), none, none, []⟩, ⟨some 62, .mov (.tmp 61), none, none, []⟩, ⟨some 63, .mov (.tmp 13), none, some (62, true), []⟩, ⟨some 64, .mov (.tmp 12), none, some (62, true), []⟩, ⟨some 65, .slsl 1 (.tmp 63) none (some (.tmp 64)), none, some (62, true), []⟩, ⟨some 66, .mov (.cst .undef), some (.cst (.func 10 []), [.tmp 65]), some (62, true), []⟩, ⟨some 67, .pick (.tmp 62) (.tmp 66) (.cst (.bool false)), none, none, []⟩, ⟨some 10, .mov (.tmp 67), none, none, []⟩]) .ret)) .skip)) (.seq (.reg [⟨some 68, .mov (.tmp 13), none, none, []⟩, ⟨some 69, .mov (.tmp 12), none, none, []⟩, ⟨some 70, .mov (.tmp 2), none, none, []⟩, ⟨some 71, .ixa 1 (.tmp 68) (.tmp 69), none, none, []⟩, ⟨none, .store 1 (.tmp 71) (.tmp 70), none, none, []⟩]) (.seq (.reg [⟨some 72, .mov (.tmp 13), none, none, []⟩, ⟨some 73, .mov (.cst .undef), some (.cst (.func 10 []), [.tmp 72]), none, []⟩, ⟨some 10, .mov (.tmp 73), none, none, []⟩]) .ret)))))))

theorem f4 : fnC Tryd.prog 4 = some (74, c4, [.tmp 10]) := by kernel_rfl

/-! 5: countinghouse/countinghouselaw06.RecordRight -/

def c5b0 : VC := .seq (.seq (.reg [⟨some 32, .mov (.tmp 12), none, none, []⟩, ⟨some 33, .mov (.tmp 1), none, none, []⟩, ⟨some 34, .lenl (.tmp 33), none, none, []⟩, ⟨some 35, .bin .lss (.tmp 32) (.tmp 34), none, none, []⟩]) (.cond (.tmp 35) .skip (.exit 0))) (.seq (.block 1 (.seq (.dreg [⟨some 38, .mov (.tmp 1), none, none, []⟩, ⟨some 39, .mov (.tmp 12), none, none, []⟩, ⟨some 40, .ixa 1 (.tmp 38) (.tmp 39), none, none, [0, 1]⟩, ⟨some 41, .load none (.tmp 40), none, none, [2]⟩, ⟨some 42, .mov (.tmp 12), none, none, []⟩, ⟨some 43, .mov (.tmp 3), none, none, []⟩, ⟨some 44, .lenl (.tmp 43), none, none, [5]⟩, ⟨some 45, .bin .lss (.tmp 42) (.tmp 44), none, none, [4, 6]⟩, ⟨some 46, .mov (.tmp 45), none, none, [7]⟩, ⟨some 47, .mov (.tmp 3), none, some (46, true), [8]⟩, ⟨some 48, .mov (.tmp 12), none, some (46, true), [8]⟩, ⟨some 49, .ixa 1 (.tmp 47) (.tmp 48), none, some (46, true), [9, 10, 8]⟩, ⟨some 50, .load none (.tmp 49), none, some (46, true), [11, 8]⟩, ⟨some 51, .pick (.tmp 46) (.tmp 50) (.cst (.bool false)), none, none, [8, 12]⟩, ⟨some 52, .build [.str ⟨#[]⟩, .sl 0 (some true) true [], .bool false] [(0, (1, .tmp 41)), (2, (1, .tmp 51))], none, none, [3, 13]⟩, ⟨some 13, .alloc (.agg [.str ⟨#[]⟩, .sl 0 (some true) true [], .bool false]), none, none, []⟩, ⟨none, .store 3 (.tmp 13) (.tmp 52), none, none, [15, 14, 8, 0, 1, 2, 3, 4, 5, 6, 7, 8, 9, 10, 11, 12, 13, 14, 15]⟩]) (.seq (.seq (.reg [⟨some 53, .mov (.tmp 12), none, none, []⟩, ⟨some 54, .mov (.tmp 2), none, none, []⟩, ⟨some 55, .lenl (.tmp 54), none, none, []⟩, ⟨some 56, .bin .lss (.tmp 53) (.tmp 55), none, none, []⟩]) (.cond (.tmp 56) (.reg [⟨some 57, .mov (.tmp 2), none, none, []⟩, ⟨some 58, .mov (.tmp 12), none, none, []⟩, ⟨some 59, .ixa 1 (.tmp 57) (.tmp 58), none, none, []⟩, ⟨some 60, .load none (.tmp 59), none, none, []⟩, ⟨some 61, .fld 1 (.tmp 13), none, none, []⟩, ⟨none, .store 1 (.tmp 61) (.tmp 60), none, none, []⟩]) .skip)) (.reg [⟨some 62, .fld 1 (.tmp 11), none, none, []⟩, ⟨some 63, .load none (.tmp 62), none, none, []⟩, ⟨some 64, .load (some 3) (.tmp 13), none, none, []⟩, ⟨some 65, .bslice 3 1 [.str ⟨#[]⟩, .sl 0 (some true) true [], .bool false] [(0, .tmp 64)], none, none, []⟩, ⟨some 66, .app 3 48 (.tmp 63) (.tmp 65), none, none, []⟩, ⟨some 67, .fld 1 (.tmp 11), none, none, []⟩, ⟨none, .store 1 (.tmp 67) (.tmp 66), none, none, []⟩])))) (.reg [⟨some 36, .mov (.tmp 12), none, none, []⟩, ⟨some 37, .bin .add (.tmp 36) (.cst (.int .i64 1)), none, none, []⟩, ⟨some 12, .mov (.tmp 37), none, none, []⟩]))

def c5 : VC := .seq (.reg [⟨some 10, .mov (.cst (.bool false)), none, none, []⟩]) (.seq (.seq (.reg [⟨some 17, .mov (.cst .undef), some (.cst (.func 9 []), []), none, []⟩, ⟨some 18, .un .not (.tmp 17), none, none, []⟩, ⟨some 19, .mov (.tmp 18), none, none, []⟩, ⟨some 20, .mov (.tmp 1), none, some (19, false), []⟩, ⟨some 21, .lenl (.tmp 20), none, some (19, false), []⟩, ⟨some 22, .bin .gtr (.tmp 21) (.cst (.int .i64 70)), none, some (19, false), []⟩, ⟨some 23, .pick (.tmp 19) (.cst (.bool true)) (.tmp 22), none, none, []⟩, ⟨some 24, .mov (.tmp 23), none, none, []⟩, ⟨some 25, .mov (.tmp 2), none, some (24, false), []⟩, ⟨some 26, .lenl (.tmp 25), none, some (24, false), []⟩, ⟨some 27, .bin .gtr (.tmp 26) (.cst (.int .i64 70)), none, some (24, false), []⟩, ⟨some 28, .pick (.tmp 24) (.cst (.bool true)) (.tmp 27), none, none, []⟩]) (.cond (.tmp 28) (.seq (.reg [⟨some 29, .mov (.cst .undef), some (.cst (.func 9 []), []), none, []⟩, ⟨some 10, .mov (.tmp 29), none, none, []⟩]) .ret) .skip)) (.seq (.reg [⟨some 30, .mov (.tmp 0), none, none, []⟩, ⟨some 31, .build [.int .i64 0, .sl 0 (some true) true []] [(0, (1, .tmp 30))], none, none, []⟩, ⟨some 11, .alloc (.agg [.int .i64 0, .sl 0 (some true) true []]), none, none, []⟩, ⟨none, .store 2 (.tmp 11) (.tmp 31), none, none, []⟩]) (.seq (.seq (.reg [⟨some 12, .mov (.cst (.int .i64 0)), none, none, []⟩]) (.block 0 (.loop c5b0))) (.seq (.reg [⟨some 68, .mov (.tmp 4), none, none, []⟩, ⟨some 69, .bin .rem (.tmp 68) (.cst (.int .u16 4200)), none, none, []⟩, ⟨some 70, .cvi .i64 (.tmp 69), none, none, []⟩, ⟨some 14, .mov (.tmp 70), none, none, []⟩]) (.seq (.reg [⟨some 71, .mov (.tmp 14), none, none, []⟩, ⟨some 72, .mk 1 1 [.int .u8 0] (.tmp 71), none, none, []⟩, ⟨some 73, .build [.str ⟨#[]⟩, .sl 0 (some true) true [], .bool false] [(0, (1, .cst (.str ⟨#[107]⟩))), (1, (1, .tmp 72))], none, none, []⟩, ⟨some 74, .bslice 3 1 [.str ⟨#[]⟩, .sl 0 (some true) true [], .bool false] [(0, .tmp 73)], none, none, []⟩, ⟨some 75, .build [.int .i64 0, .sl 0 (some true) true []] [(0, (1, .cst (.int .i64 1))), (1, (1, .tmp 74))], none, none, []⟩, ⟨some 15, .alloc (.agg [.int .i64 0, .sl 0 (some true) true []]), none, none, []⟩, ⟨none, .store 2 (.tmp 15) (.tmp 75), none, none, []⟩]) (.seq (.reg [⟨some 76, .mov (.tmp 14), none, none, []⟩, ⟨some 77, .mk 1 1 [.int .u8 0] (.tmp 76), none, none, []⟩, ⟨some 78, .cvbs (.tmp 77), none, none, []⟩, ⟨some 79, .build [.str ⟨#[]⟩, .sl 0 (some true) true [], .bool false] [(0, (1, .tmp 78))], none, none, []⟩, ⟨some 80, .bslice 3 1 [.str ⟨#[]⟩, .sl 0 (some true) true [], .bool false] [(0, .tmp 79)], none, none, []⟩, ⟨some 81, .build [.int .i64 0, .sl 0 (some true) true []] [(0, (1, .cst (.int .i64 1))), (1, (1, .tmp 80))], none, none, []⟩, ⟨some 16, .alloc (.agg [.int .i64 0, .sl 0 (some true) true []]), none, none, []⟩, ⟨none, .store 2 (.tmp 16) (.tmp 81), none, none, []⟩]) (.seq (.dreg [⟨some 82, .load (some 2) (.tmp 11), none, none, []⟩, ⟨some 83, .mov (.cst .undef), some (.cst (.func 15 []), [.tmp 82]), none, [0]⟩, ⟨some 84, .load (some 2) (.tmp 11), none, none, []⟩, ⟨some 85, .mov (.cst .undef), some (.cst (.func 16 []), [.tmp 84]), none, [2, 1]⟩, ⟨some 86, .eqb false (.tmp 83) (.tmp 85), none, none, [1, 3]⟩, ⟨some 87, .mov (.tmp 86), none, none, [4, 3]⟩, ⟨some 88, .load (some 2) (.tmp 15), none, some (87, true), [5]⟩, ⟨some 89, .mov (.cst .undef), some (.cst (.func 15 []), [.tmp 88]), some (87, true), [6, 5, 5]⟩, ⟨some 90, .mov (.tmp 14), none, some (87, true), [5]⟩, ⟨some 91, .bin .leq (.tmp 90) (.cst (.int .i64 4000)), none, some (87, true), [8, 5]⟩, ⟨some 92, .eqb false (.tmp 89) (.tmp 91), none, some (87, true), [7, 9, 5]⟩, ⟨some 93, .pick (.tmp 87) (.tmp 92) (.cst (.bool false)), none, none, [5, 10]⟩, ⟨some 94, .mov (.tmp 93), none, none, [11, 7]⟩, ⟨some 95, .load (some 2) (.tmp 16), none, some (94, true), [12]⟩, ⟨some 96, .mov (.cst .undef), some (.cst (.func 15 []), [.tmp 95]), some (94, true), [13, 12, 12]⟩, ⟨some 97, .mov (.tmp 14), none, some (94, true), [12]⟩, ⟨some 98, .bin .geq (.tmp 97) (.cst (.int .i64 1)), none, some (94, true), [15, 12]⟩, ⟨some 99, .mov (.tmp 98), none, some (94, true), [16, 14, 12]⟩, ⟨some 100, .mov (.tmp 14), none, some (99, true), [17]⟩, ⟨some 101, .bin .leq (.tmp 100) (.cst (.int .i64 4000)), none, some (99, true), [18, 17]⟩, ⟨some 102, .pick (.tmp 99) (.tmp 101) (.cst (.bool false)), none, some (94, true), [17, 19, 12]⟩, ⟨some 103, .eqb false (.tmp 96) (.tmp 102), none, some (94, true), [14, 20, 12]⟩, ⟨some 104, .pick (.tmp 94) (.tmp 103) (.cst (.bool false)), none, none, [12, 21]⟩, ⟨some 10, .mov (.tmp 104), none, none, [22, 17, 0, 1, 2, 3, 4, 5, 6, 7, 8, 9, 10, 11, 12, 13, 14, 15, 16, 17, 18, 19, 20, 21, 22]⟩]) .ret)))))))

theorem f5 : fnC Tryd.prog 5 = some (105, c5, [.tmp 10]) := by kernel_rfl

/-! 6: countinghouse/countinghouselaw06.RecordMany -/

def c6b0 : VC := .seq (.seq (.reg [⟨some 16, .mov (.tmp 7), none, none, []⟩, ⟨some 17, .mov (.tmp 6), none, none, []⟩, ⟨some 18, .bin .lss (.tmp 16) (.tmp 17), none, none, []⟩]) (.cond (.tmp 18) .skip (.exit 0))) (.seq (.block 1 (.reg [⟨some 21, .fld 1 (.tmp 5), none, none, []⟩, ⟨some 22, .load none (.tmp 21), none, none, []⟩, ⟨some 23, .mov (.tmp 7), none, none, []⟩, ⟨some 24, .cvi .u8 (.tmp 23), none, none, []⟩, ⟨some 25, .bslice 1 2 [.int .u8 0] [(0, .cst (.int .u8 107)), (1, .tmp 24)], none, none, []⟩, ⟨some 26, .cvbs (.tmp 25), none, none, []⟩, ⟨some 27, .mov (.tmp 1), none, none, []⟩, ⟨some 28, .build [.str ⟨#[]⟩, .sl 0 (some true) true [], .bool false] [(0, (1, .tmp 26)), (2, (1, .tmp 27))], none, none, []⟩, ⟨some 29, .bslice 3 1 [.str ⟨#[]⟩, .sl 0 (some true) true [], .bool false] [(0, .tmp 28)], none, none, []⟩, ⟨some 30, .app 3 48 (.tmp 22) (.tmp 29), none, none, []⟩, ⟨some 31, .fld 1 (.tmp 5), none, none, []⟩, ⟨none, .store 1 (.tmp 31) (.tmp 30), none, none, []⟩])) (.reg [⟨some 19, .mov (.tmp 7), none, none, []⟩, ⟨some 20, .bin .add (.tmp 19) (.cst (.int .i64 1)), none, none, []⟩, ⟨some 7, .mov (.tmp 20), none, none, []⟩]))

def c6 : VC := .seq (.reg [⟨some 4, .mov (.cst (.bool false)), none, none, []⟩]) (.seq (.reg [⟨some 12, .build [.int .i64 0, .sl 0 (some true) true []] [(0, (1, .cst (.int .i64 1)))], none, none, []⟩, ⟨some 5, .alloc (.agg [.int .i64 0, .sl 0 (some true) true []]), none, none, []⟩, ⟨none, .store 2 (.tmp 5) (.tmp 12), none, none, []⟩]) (.seq (.reg [⟨some 13, .mov (.tmp 0), none, none, []⟩, ⟨some 14, .bin .rem (.tmp 13) (.cst (.int .u8 70)), none, none, []⟩, ⟨some 15, .cvi .i64 (.tmp 14), none, none, []⟩, ⟨some 6, .mov (.tmp 15), none, none, []⟩]) (.seq (.seq (.reg [⟨some 7, .mov (.cst (.int .i64 0)), none, none, []⟩]) (.block 0 (.loop c6b0))) (.seq (.reg [⟨some 32, .load (some 2) (.tmp 5), none, none, []⟩, ⟨some 33, .mov (.cst .undef), some (.cst (.func 12 []), [.tmp 32]), none, []⟩, ⟨some 8, .mov (.tmp 33), none, none, []⟩]) (.seq (.reg [⟨some 35, .mov (.tmp 8), none, none, []⟩, ⟨some 36, .mov (.cst .undef), some (.cst (.func 14 []), [.tmp 35]), none, []⟩, ⟨some 34, .mov (.tmp 36), none, none, []⟩, ⟨some 37, .ext (.tmp 34) 0, none, none, []⟩, ⟨some 38, .ext (.tmp 34) 1, none, none, []⟩, ⟨some 39, .ext (.tmp 34) 2, none, none, []⟩, ⟨some 9, .alloc (.agg [.int .i64 0, .sl 0 (some true) true []]), none, none, []⟩, ⟨none, .store 2 (.tmp 9) (.tmp 37), none, none, []⟩, ⟨some 10, .mov (.tmp 38), none, none, []⟩, ⟨some 11, .mov (.tmp 39), none, none, []⟩]) (.seq (.reg [⟨some 40, .mov (.cst .undef), some (.cst (.func 9 []), []), none, []⟩, ⟨some 41, .mov (.tmp 40), none, none, []⟩, ⟨some 42, .load (some 2) (.tmp 5), none, some (41, true), []⟩, ⟨some 43, .mov (.cst .undef), some (.cst (.func 15 []), [.tmp 42]), some (41, true), []⟩, ⟨some 44, .mov (.tmp 6), none, some (41, true), []⟩, ⟨some 45, .bin .geq (.tmp 44) (.cst (.int .i64 1)), none, some (41, true), []⟩, ⟨some 46, .mov (.tmp 45), none, some (41, true), []⟩, ⟨some 47, .mov (.tmp 6), none, some (46, true), []⟩, ⟨some 48, .bin .leq (.tmp 47) (.cst (.int .i64 64)), none, some (46, true), []⟩, ⟨some 49, .pick (.tmp 46) (.tmp 48) (.cst (.bool false)), none, some (41, true), []⟩, ⟨some 50, .eqb false (.tmp 43) (.tmp 49), none, some (41, true), []⟩, ⟨some 51, .pick (.tmp 41) (.tmp 50) (.cst (.bool false)), none, none, []⟩, ⟨some 52, .mov (.tmp 51), none, none, []⟩, ⟨some 53, .mov (.tmp 11), none, some (52, true), []⟩, ⟨some 54, .bin .eql (.tmp 53) (.cst (.int .i64 0)), none, some (52, true), []⟩, ⟨some 55, .mov (.tmp 6), none, some (52, true), []⟩, ⟨some 56, .bin .geq (.tmp 55) (.cst (.int .i64 1)), none, some (52, true), []⟩, ⟨some 57, .mov (.tmp 56), none, some (52, true), []⟩, ⟨some 58, .mov (.tmp 6), none, some (57, true), []⟩, ⟨some 59, .bin .leq (.tmp 58) (.cst (.int .i64 64)), none, some (57, true), []⟩, ⟨some 60, .pick (.tmp 57) (.tmp 59) (.cst (.bool false)), none, some (52, true), []⟩, ⟨some 61, .eqb false (.tmp 54) (.tmp 60), none, some (52, true), []⟩, ⟨some 62, .pick (.tmp 52) (.tmp 61) (.cst (.bool false)), none, none, []⟩, ⟨some 63, .mov (.tmp 62), none, none, []⟩, ⟨some 64, .mov (.tmp 8), none, some (63, true), []⟩, ⟨some 65, .mov (.cst .undef), some (.cst (.func 10 []), [.tmp 64]), some (63, true), []⟩, ⟨some 66, .pick (.tmp 63) (.tmp 65) (.cst (.bool false)), none, none, []⟩, ⟨some 4, .mov (.tmp 66), none, none, []⟩]) .ret))))))

theorem f6 : fnC Tryd.prog 6 = some (67, c6, [.tmp 4]) := by kernel_rfl

/-! 7: countinghouse/countinghouselaw06.RecordSame -/

def c7 : VC := .seq (.reg [⟨some 6, .mov (.cst (.bool false)), none, none, []⟩]) (.seq (.seq (.reg [⟨some 10, .mov (.cst .undef), some (.cst (.func 9 []), []), none, []⟩, ⟨some 11, .un .not (.tmp 10), none, none, []⟩, ⟨some 12, .mov (.tmp 11), none, none, []⟩, ⟨some 13, .mov (.tmp 0), none, some (12, false), []⟩, ⟨some 14, .lenl (.tmp 13), none, some (12, false), []⟩, ⟨some 15, .bin .gtr (.tmp 14) (.cst (.int .i64 30)), none, some (12, false), []⟩, ⟨some 16, .pick (.tmp 12) (.cst (.bool true)) (.tmp 15), none, none, []⟩, ⟨some 17, .mov (.tmp 16), none, none, []⟩, ⟨some 18, .mov (.tmp 1), none, some (17, false), []⟩, ⟨some 19, .lenl (.tmp 18), none, some (17, false), []⟩, ⟨some 20, .bin .gtr (.tmp 19) (.cst (.int .i64 30)), none, some (17, false), []⟩, ⟨some 21, .pick (.tmp 17) (.cst (.bool true)) (.tmp 20), none, none, []⟩, ⟨some 22, .mov (.tmp 21), none, none, []⟩, ⟨some 23, .mov (.tmp 0), none, some (22, false), []⟩, ⟨some 24, .lenl (.tmp 23), none, some (22, false), []⟩, ⟨some 25, .bin .eql (.tmp 24) (.cst (.int .i64 0)), none, some (22, false), []⟩, ⟨some 26, .pick (.tmp 22) (.cst (.bool true)) (.tmp 25), none, none, []⟩]) (.cond (.tmp 26) (.seq (.reg [⟨some 27, .mov (.cst .undef), some (.cst (.func 9 []), []), none, []⟩, ⟨some 6, .mov (.tmp 27), none, none, []⟩]) .ret) .skip)) (.seq (.reg [⟨some 28, .mov (.tmp 0), none, none, []⟩, ⟨some 29, .mov (.cst .undef), some (.cst (.func 13 []), [.cst (.int .i64 2), .tmp 28]), none, []⟩, ⟨some 30, .mov (.tmp 1), none, none, []⟩, ⟨some 31, .mov (.cst .undef), some (.cst (.func 13 []), [.cst (.int .i64 2), .tmp 30]), none, []⟩, ⟨some 7, .alloc (.agg [.int .i64 0, .sl 0 (some true) true []]), none, none, []⟩, ⟨some 8, .alloc (.agg [.int .i64 0, .sl 0 (some true) true []]), none, none, []⟩, ⟨none, .store 2 (.tmp 7) (.tmp 29), none, none, []⟩, ⟨none, .store 2 (.tmp 8) (.tmp 31), none, none, []⟩]) (.seq (.reg [⟨some 32, .mov (.tmp 0), none, none, []⟩, ⟨some 33, .mov (.cst .undef), some (.cst (.func 13 []), [.cst (.int .i64 2), .tmp 32]), none, []⟩, ⟨some 9, .alloc (.agg [.int .i64 0, .sl 0 (some true) true []]), none, none, []⟩, ⟨none, .store 2 (.tmp 9) (.tmp 33), none, none, []⟩]) (.seq (.seq (.reg [⟨some 34, .mov (.tmp 2), none, none, []⟩, ⟨some 35, .bin .rem (.tmp 34) (.cst (.int .u8 4)), none, none, []⟩]) (.block 0 (.seq (.reg [⟨some 41, .bin .eql (.tmp 35) (.cst (.int .u8 0)), none, none, []⟩, ⟨some 40, .mov (.tmp 41), none, none, []⟩]) (.cond (.tmp 40) (.reg [⟨some 42, .fld 0 (.tmp 9), none, none, []⟩, ⟨some 43, .load none (.tmp 42), none, none, []⟩, ⟨some 44, .bin .add (.tmp 43) (.cst (.int .i64 1)), none, none, []⟩, ⟨some 45, .fld 0 (.tmp 9), none, none, []⟩, ⟨none, .store 1 (.tmp 45) (.tmp 44), none, none, []⟩]) (.seq (.reg [⟨some 47, .bin .eql (.tmp 35) (.cst (.int .u8 1)), none, none, []⟩, ⟨some 46, .mov (.tmp 47), none, none, []⟩]) (.cond (.tmp 46) (.dreg [⟨some 48, .fld 1 (.tmp 9), none, none, []⟩, ⟨some 49, .load none (.tmp 48), none, none, [0]⟩, ⟨some 50, .fld 1 (.tmp 9), none, none, []⟩, ⟨some 51, .load none (.tmp 50), none, none, [2]⟩, ⟨some 52, .ixa 3 (.tmp 51) (.cst (.int .i64 0)), none, none, [3]⟩, ⟨some 53, .fld 2 (.tmp 52), none, none, [4]⟩, ⟨some 54, .load none (.tmp 53), none, none, [5]⟩, ⟨some 55, .un .not (.tmp 54), none, none, [6]⟩, ⟨some 56, .ixa 3 (.tmp 49) (.cst (.int .i64 0)), none, none, [1, 0, 1, 2, 3, 4, 5, 6, 7]⟩, ⟨some 57, .fld 2 (.tmp 56), none, none, [8, 0, 1, 2, 3, 4, 5, 6, 7]⟩, ⟨none, .store 1 (.tmp 57) (.tmp 55), none, none, [9, 7, 0, 1, 2, 3, 4, 5, 6, 7]⟩]) (.seq (.reg [⟨some 59, .bin .eql (.tmp 35) (.cst (.int .u8 2)), none, none, []⟩, ⟨some 58, .mov (.tmp 59), none, none, []⟩]) (.cond (.tmp 58) (.dreg [⟨some 60, .fld 1 (.tmp 9), none, none, []⟩, ⟨some 61, .load none (.tmp 60), none, none, [0]⟩, ⟨some 62, .fld 1 (.tmp 9), none, none, []⟩, ⟨some 63, .load none (.tmp 62), none, none, [2]⟩, ⟨some 64, .ixa 3 (.tmp 63) (.cst (.int .i64 0)), none, none, [3]⟩, ⟨some 65, .fld 1 (.tmp 64), none, none, [4]⟩, ⟨some 66, .load none (.tmp 65), none, none, [5]⟩, ⟨some 67, .bslice 1 1 [.int .u8 0] [(0, .cst (.int .u8 1))], none, none, []⟩, ⟨some 68, .app 1 1 (.tmp 66) (.tmp 67), none, none, [6, 7]⟩, ⟨some 69, .ixa 3 (.tmp 61) (.cst (.int .i64 0)), none, none, [1, 0, 1, 2, 3, 4, 5, 6, 7, 8]⟩, ⟨some 70, .fld 1 (.tmp 69), none, none, [9, 0, 1, 2, 3, 4, 5, 6, 7, 8]⟩, ⟨none, .store 1 (.tmp 70) (.tmp 68), none, none, [10, 8, 8, 0, 1, 2, 3, 4, 5, 6, 7, 8]⟩]) (.reg [⟨some 36, .fld 1 (.tmp 9), none, none, []⟩, ⟨some 37, .load none (.tmp 36), none, none, []⟩, ⟨some 38, .slsl 3 (.tmp 37) (some (.cst (.int .i64 1))) none, none, none, []⟩, ⟨some 39, .fld 1 (.tmp 9), none, none, []⟩, ⟨none, .store 1 (.tmp 39) (.tmp 38), none, none, []⟩]))))))))) (.seq (.dreg [⟨some 71, .load (some 2) (.tmp 7), none, none, []⟩, ⟨some 72, .load (some 2) (.tmp 8), none, none, []⟩, ⟨some 73, .mov (.cst .undef), some (.cst (.func 17 []), [.tmp 71, .tmp 72]), none, [0, 1]⟩, ⟨some 74, .load (some 2) (.tmp 7), none, none, []⟩, ⟨some 75, .load (some 2) (.tmp 8), none, none, []⟩, ⟨some 76, .mov (.cst .undef), some (.cst (.func 18 []), [.tmp 74, .tmp 75]), none, [3, 4, 2]⟩, ⟨some 77, .eqb false (.tmp 73) (.tmp 76), none, none, [2, 5]⟩, ⟨some 78, .mov (.tmp 77), none, none, [6, 5]⟩, ⟨some 79, .load (some 2) (.tmp 7), none, some (78, true), [7]⟩, ⟨some 80, .load (some 2) (.tmp 7), none, some (78, true), [7]⟩, ⟨some 81, .mov (.cst .undef), some (.cst (.func 17 []), [.tmp 79, .tmp 80]), some (78, true), [8, 9, 7, 7]⟩, ⟨some 82, .pick (.tmp 78) (.tmp 81) (.cst (.bool false)), none, none, [7, 10]⟩, ⟨some 83, .mov (.tmp 82), none, none, [11, 10]⟩, ⟨some 84, .load (some 2) (.tmp 7), none, some (83, true), [12]⟩, ⟨some 85, .load (some 2) (.tmp 9), none, some (83, true), [12]⟩, ⟨some 86, .mov (.cst .undef), some (.cst (.func 17 []), [.tmp 84, .tmp 85]), some (83, true), [13, 14, 12, 12]⟩, ⟨some 87, .un .not (.tmp 86), none, some (83, true), [15, 12]⟩, ⟨some 88, .pick (.tmp 83) (.tmp 87) (.cst (.bool false)), none, none, [12, 16]⟩, ⟨some 6, .mov (.tmp 88), none, none, [17, 15, 0, 1, 2, 3, 4, 5, 6, 7, 8, 9, 10, 11, 12, 13, 14, 15, 16, 17]⟩]) .ret)))))

theorem f7 : fnC Tryd.prog 7 = some (89, c7, [.tmp 6]) := by kernel_rfl

/-! 8: countinghouse/countinghouselaw06.RecordBack -/

def c8 : VC := .seq (.reg [⟨some 4, .mov (.cst (.bool false)), none, none, []⟩]) (.seq (.seq (.reg [⟨some 10, .mov (.cst .undef), some (.cst (.func 9 []), []), none, []⟩, ⟨some 11, .un .not (.tmp 10), none, none, []⟩, ⟨some 12, .mov (.tmp 11), none, none, []⟩, ⟨some 13, .mov (.tmp 1), none, some (12, false), []⟩, ⟨some 14, .lenl (.tmp 13), none, some (12, false), []⟩, ⟨some 15, .bin .gtr (.tmp 14) (.cst (.int .i64 40)), none, some (12, false), []⟩, ⟨some 16, .pick (.tmp 12) (.cst (.bool true)) (.tmp 15), none, none, []⟩, ⟨some 17, .mov (.tmp 16), none, none, []⟩, ⟨some 18, .mov (.tmp 1), none, some (17, false), []⟩, ⟨some 19, .lenl (.tmp 18), none, some (17, false), []⟩, ⟨some 20, .bin .eql (.tmp 19) (.cst (.int .i64 0)), none, some (17, false), []⟩, ⟨some 21, .pick (.tmp 17) (.cst (.bool true)) (.tmp 20), none, none, []⟩]) (.cond (.tmp 21) (.seq (.reg [⟨some 22, .mov (.cst .undef), some (.cst (.func 9 []), []), none, []⟩, ⟨some 4, .mov (.tmp 22), none, none, []⟩]) .ret) .skip)) (.seq (.seq (.reg [⟨some 23, .mov (.tmp 0), none, none, []⟩, ⟨some 24, .bin .lss (.tmp 23) (.cst (.int .i64 1)), none, none, []⟩]) (.cond (.tmp 24) (.reg [⟨some 0, .mov (.cst (.int .i64 1)), none, none, []⟩]) .skip)) (.seq (.reg [⟨some 25, .mov (.tmp 0), none, none, []⟩, ⟨some 26, .mov (.tmp 1), none, none, []⟩, ⟨some 27, .mov (.cst .undef), some (.cst (.func 13 []), [.tmp 25, .tmp 26]), none, []⟩, ⟨some 5, .alloc (.agg [.int .i64 0, .sl 0 (some true) true []]), none, none, []⟩, ⟨none, .store 2 (.tmp 5) (.tmp 27), none, none, []⟩]) (.seq (.reg [⟨some 28, .load (some 2) (.tmp 5), none, none, []⟩, ⟨some 29, .mov (.cst .undef), some (.cst (.func 19 []), [.tmp 28]), none, []⟩, ⟨some 6, .mov (.tmp 29), none, none, []⟩]) (.seq (.reg [⟨some 31, .mov (.tmp 6), none, none, []⟩, ⟨some 32, .mov (.cst .undef), some (.cst (.func 14 []), [.tmp 31]), none, []⟩, ⟨some 30, .mov (.tmp 32), none, none, []⟩, ⟨some 33, .ext (.tmp 30) 0, none, none, []⟩, ⟨some 34, .ext (.tmp 30) 1, none, none, []⟩, ⟨some 35, .ext (.tmp 30) 2, none, none, []⟩, ⟨some 7, .alloc (.agg [.int .i64 0, .sl 0 (some true) true []]), none, none, []⟩, ⟨none, .store 2 (.tmp 7) (.tmp 33), none, none, []⟩, ⟨some 8, .mov (.tmp 34), none, none, []⟩, ⟨some 9, .mov (.tmp 35), none, none, []⟩]) (.seq (.reg [⟨some 36, .load (some 2) (.tmp 5), none, none, []⟩, ⟨some 37, .mov (.cst .undef), some (.cst (.func 15 []), [.tmp 36]), none, []⟩, ⟨some 38, .mov (.tmp 37), none, none, []⟩, ⟨some 39, .mov (.tmp 6), none, some (38, true), []⟩, ⟨some 40, .load (some 2) (.tmp 5), none, some (38, true), []⟩, ⟨some 41, .mov (.cst .undef), some (.cst (.func 12 []), [.tmp 40]), some (38, true), []⟩, ⟨some 42, .mov (.cst .undef), some (.cst (.func 20 []), [.tmp 39, .tmp 41]), some (38, true), []⟩, ⟨some 43, .pick (.tmp 38) (.tmp 42) (.cst (.bool false)), none, none, []⟩, ⟨some 44, .mov (.tmp 43), none, none, []⟩, ⟨some 45, .mov (.tmp 8), none, some (44, true), []⟩, ⟨some 46, .bin .eql (.tmp 45) (.cst (.int .i64 0)), none, some (44, true), []⟩, ⟨some 47, .pick (.tmp 44) (.tmp 46) (.cst (.bool false)), none, none, []⟩, ⟨some 48, .mov (.tmp 47), none, none, []⟩, ⟨some 49, .mov (.tmp 9), none, some (48, true), []⟩, ⟨some 50, .bin .eql (.tmp 49) (.cst (.int .i64 0)), none, some (48, true), []⟩, ⟨some 51, .pick (.tmp 48) (.tmp 50) (.cst (.bool false)), none, none, []⟩, ⟨some 52, .mov (.tmp 51), none, none, []⟩, ⟨some 53, .load (some 2) (.tmp 7), none, some (52, true), []⟩, ⟨some 54, .load (some 2) (.tmp 5), none, some (52, true), []⟩, ⟨some 55, .mov (.cst .undef), some (.cst (.func 17 []), [.tmp 53, .tmp 54]), some (52, true), []⟩, ⟨some 56, .pick (.tmp 52) (.tmp 55) (.cst (.bool false)), none, none, []⟩, ⟨some 57, .mov (.tmp 56), none, none, []⟩, ⟨some 58, .load (some 2) (.tmp 7), none, some (57, true), []⟩, ⟨some 59, .load (some 2) (.tmp 5), none, some (57, true), []⟩, ⟨some 60, .mov (.cst .undef), some (.cst (.func 18 []), [.tmp 58, .tmp 59]), some (57, true), []⟩, ⟨some 61, .pick (.tmp 57) (.tmp 60) (.cst (.bool false)), none, none, []⟩, ⟨some 4, .mov (.tmp 61), none, none, []⟩]) .ret))))))

theorem f8 : fnC Tryd.prog 8 = some (62, c8, [.tmp 4]) := by kernel_rfl

/-! 9: countinghouse/countinghouselaw06.short -/

def c9 : VC := .seq (.reg [⟨some 0, .mov (.cst (.bool false)), none, none, []⟩]) (.seq (.reg [⟨some 5, .mov (.cst .undef), some (.cst (.func 14 []), [.cst (.sl 0 (some true) true [])]), none, []⟩, ⟨some 4, .mov (.tmp 5), none, none, []⟩, ⟨some 6, .ext (.tmp 4) 0, none, none, []⟩, ⟨some 7, .ext (.tmp 4) 1, none, none, []⟩, ⟨some 8, .ext (.tmp 4) 2, none, none, []⟩, ⟨some 1, .alloc (.agg [.int .i64 0, .sl 0 (some true) true []]), none, none, []⟩, ⟨none, .store 2 (.tmp 1) (.tmp 6), none, none, []⟩, ⟨some 2, .mov (.tmp 7), none, none, []⟩, ⟨some 3, .mov (.tmp 8), none, none, []⟩]) (.seq (.reg [⟨some 9, .mov (.tmp 2), none, none, []⟩, ⟨some 10, .bin .eql (.tmp 9) (.cst (.int .i64 0)), none, none, []⟩, ⟨some 11, .mov (.tmp 10), none, none, []⟩, ⟨some 12, .mov (.tmp 3), none, some (11, true), []⟩, ⟨some 13, .bin .eql (.tmp 12) (.cst (.int .i64 3)), none, some (11, true), []⟩, ⟨some 14, .pick (.tmp 11) (.tmp 13) (.cst (.bool false)), none, none, []⟩, ⟨some 15, .mov (.tmp 14), none, none, []⟩, ⟨some 16, .build [.str ⟨#[]⟩, .sl 0 (some true) true [], .bool false] [(0, (1, .cst (.str ⟨#[107]⟩)))], none, some (15, true), []⟩, ⟨some 17, .bslice 3 1 [.str ⟨#[]⟩, .sl 0 (some true) true [], .bool false] [(0, .tmp 16)], none, some (15, true), []⟩, ⟨some 18, .build [.int .i64 0, .sl 0 (some true) true []] [(0, (1, .cst (.int .i64 1))), (1, (1, .tmp 17))], none, some (15, true), []⟩, ⟨some 19, .mov (.cst .undef), some (.cst (.func 15 []), [.tmp 18]), some (15, true), []⟩, ⟨some 20, .pick (.tmp 15) (.tmp 19) (.cst (.bool false)), none, none, []⟩, ⟨some 0, .mov (.tmp 20), none, none, []⟩]) .ret))

theorem f9 : fnC Tryd.prog 9 = some (21, c9, [.tmp 0]) := by kernel_rfl

/-! 10: countinghouse/countinghouselaw06.reads -/

def c10 : VC := .seq (.reg [⟨some 2, .mov (.cst (.bool false)), none, none, []⟩]) (.seq (.reg [⟨some 10, .mov (.tmp 0), none, none, []⟩, ⟨some 11, .mov (.cst .undef), some (.cst (.func 14 []), [.tmp 10]), none, []⟩, ⟨some 9, .mov (.tmp 11), none, none, []⟩, ⟨some 12, .ext (.tmp 9) 0, none, none, []⟩, ⟨some 13, .ext (.tmp 9) 1, none, none, []⟩, ⟨some 14, .ext (.tmp 9) 2, none, none, []⟩, ⟨some 3, .alloc (.agg [.int .i64 0, .sl 0 (some true) true []]), none, none, []⟩, ⟨none, .store 2 (.tmp 3) (.tmp 12), none, none, []⟩, ⟨some 4, .mov (.tmp 13), none, none, []⟩, ⟨some 5, .mov (.tmp 14), none, none, []⟩]) (.seq (.reg [⟨some 16, .mov (.tmp 0), none, none, []⟩, ⟨some 17, .mov (.cst .undef), some (.cst (.func 21 []), [.tmp 16]), none, []⟩, ⟨some 15, .mov (.tmp 17), none, none, []⟩, ⟨some 18, .ext (.tmp 15) 0, none, none, []⟩, ⟨some 19, .ext (.tmp 15) 1, none, none, []⟩, ⟨some 20, .ext (.tmp 15) 2, none, none, []⟩, ⟨some 6, .alloc (.agg [.int .i64 0, .sl 0 (some true) true []]), none, none, []⟩, ⟨none, .store 2 (.tmp 6) (.tmp 18), none, none, []⟩, ⟨some 7, .mov (.tmp 19), none, none, []⟩, ⟨some 8, .mov (.tmp 20), none, none, []⟩]) (.seq (.reg [⟨some 21, .mov (.tmp 4), none, none, []⟩, ⟨some 22, .mov (.tmp 7), none, none, []⟩, ⟨some 23, .bin .eql (.tmp 21) (.tmp 22), none, none, []⟩, ⟨some 24, .mov (.tmp 23), none, none, []⟩, ⟨some 25, .mov (.tmp 5), none, some (24, true), []⟩, ⟨some 26, .mov (.tmp 8), none, some (24, true), []⟩, ⟨some 27, .bin .eql (.tmp 25) (.tmp 26), none, some (24, true), []⟩, ⟨some 28, .pick (.tmp 24) (.tmp 27) (.cst (.bool false)), none, none, []⟩, ⟨some 29, .mov (.tmp 28), none, none, []⟩, ⟨some 30, .load (some 2) (.tmp 3), none, some (29, true), []⟩, ⟨some 31, .load (some 2) (.tmp 6), none, some (29, true), []⟩, ⟨some 32, .mov (.cst .undef), some (.cst (.func 18 []), [.tmp 30, .tmp 31]), some (29, true), []⟩, ⟨some 33, .pick (.tmp 29) (.tmp 32) (.cst (.bool false)), none, none, []⟩, ⟨some 2, .mov (.tmp 33), none, none, []⟩]) .ret)))

theorem f10 : fnC Tryd.prog 10 = some (34, c10, [.tmp 2]) := by kernel_rfl

/-! 11: countinghouse/countinghouseref01.Join -/

def c11 : VC := .seq (.reg [⟨some 4, .mov (.cst (.sl 0 (some true) true [])), none, none, []⟩]) (.seq (.reg [⟨some 5, .mov (.cst (.sl 0 (some true) true [])), none, none, []⟩]) (.seq (.reg [⟨some 6, .mov (.tmp 5), none, none, []⟩, ⟨some 7, .mov (.tmp 0), none, none, []⟩, ⟨some 8, .app 1 1 (.tmp 6) (.tmp 7), none, none, []⟩, ⟨some 5, .mov (.tmp 8), none, none, []⟩]) (.seq (.reg [⟨some 9, .mov (.tmp 5), none, none, []⟩, ⟨some 10, .mov (.tmp 1), none, none, []⟩, ⟨some 11, .app 1 1 (.tmp 9) (.tmp 10), none, none, []⟩, ⟨some 4, .mov (.tmp 11), none, none, []⟩]) .ret)))

theorem f11 : fnC Tryd.prog 11 = some (12, c11, [.tmp 4]) := by kernel_rfl

/-! 12: countinghouse/countinghouseref06.Encode -/

def c12b0 : VC := .seq (.seq (.reg [⟨some 16, .mov (.tmp 4), none, none, []⟩, ⟨some 17, .fld 1 (.tmp 1), none, none, []⟩, ⟨some 18, .load none (.tmp 17), none, none, []⟩, ⟨some 19, .lenl (.tmp 18), none, none, []⟩, ⟨some 20, .bin .lss (.tmp 16) (.tmp 19), none, none, []⟩]) (.cond (.tmp 20) .skip (.exit 0))) (.seq (.block 1 (.seq (.reg [⟨some 23, .fld 1 (.tmp 1), none, none, []⟩, ⟨some 24, .load none (.tmp 23), none, none, []⟩, ⟨some 25, .mov (.tmp 4), none, none, []⟩, ⟨some 26, .ixa 3 (.tmp 24) (.tmp 25), none, none, []⟩, ⟨some 27, .load (some 3) (.tmp 26), none, none, []⟩, ⟨some 5, .alloc (.agg [.str ⟨#[]⟩, .sl 0 (some true) true [], .bool false]), none, none, []⟩, ⟨none, .store 3 (.tmp 5) (.tmp 27), none, none, []⟩]) (.seq (.reg [⟨some 28, .mov (.tmp 3), none, none, []⟩, ⟨some 29, .fld 0 (.tmp 5), none, none, []⟩, ⟨some 30, .load none (.tmp 29), none, none, []⟩, ⟨some 31, .lens (.tmp 30), none, none, []⟩, ⟨some 32, .cvi .u64 (.tmp 31), none, none, []⟩, ⟨some 33, .mov (.cst .undef), some (.cst (.func 22 []), [.tmp 32, .cst (.int .i64 2)]), none, []⟩, ⟨some 34, .app 1 1 (.tmp 28) (.tmp 33), none, none, []⟩, ⟨some 3, .mov (.tmp 34), none, none, []⟩]) (.seq (.reg [⟨some 35, .mov (.tmp 3), none, none, []⟩, ⟨some 36, .fld 0 (.tmp 5), none, none, []⟩, ⟨some 37, .load none (.tmp 36), none, none, []⟩, ⟨some 38, .apps 1 (.tmp 35) (.tmp 37), none, none, []⟩, ⟨some 3, .mov (.tmp 38), none, none, []⟩]) (.seq (.reg [⟨some 39, .fld 2 (.tmp 5), none, none, []⟩, ⟨some 40, .load none (.tmp 39), none, none, []⟩]) (.cond (.tmp 40) (.reg [⟨some 41, .mov (.tmp 3), none, none, []⟩, ⟨some 42, .bslice 1 1 [.int .u8 0] [(0, .cst (.int .u8 1))], none, none, []⟩, ⟨some 43, .app 1 1 (.tmp 41) (.tmp 42), none, none, []⟩, ⟨some 3, .mov (.tmp 43), none, none, []⟩]) (.seq (.reg [⟨some 44, .mov (.tmp 3), none, none, []⟩, ⟨some 45, .bslice 1 1 [.int .u8 0] [(0, .cst (.int .u8 0))], none, none, []⟩, ⟨some 46, .app 1 1 (.tmp 44) (.tmp 45), none, none, []⟩, ⟨some 3, .mov (.tmp 46), none, none, []⟩]) (.seq (.reg [⟨some 47, .mov (.tmp 3), none, none, []⟩, ⟨some 48, .fld 1 (.tmp 5), none, none, []⟩, ⟨some 49, .load none (.tmp 48), none, none, []⟩, ⟨some 50, .lenl (.tmp 49), none, none, []⟩, ⟨some 51, .cvi .u64 (.tmp 50), none, none, []⟩, ⟨some 52, .mov (.cst .undef), some (.cst (.func 22 []), [.tmp 51, .cst (.int .i64 2)]), none, []⟩, ⟨some 53, .app 1 1 (.tmp 47) (.tmp 52), none, none, []⟩, ⟨some 3, .mov (.tmp 53), none, none, []⟩]) (.reg [⟨some 54, .mov (.tmp 3), none, none, []⟩, ⟨some 55, .fld 1 (.tmp 5), none, none, []⟩, ⟨some 56, .load none (.tmp 55), none, none, []⟩, ⟨some 57, .app 1 1 (.tmp 54) (.tmp 56), none, none, []⟩, ⟨some 3, .mov (.tmp 57), none, none, []⟩]))))))))) (.reg [⟨some 21, .mov (.tmp 4), none, none, []⟩, ⟨some 22, .bin .add (.tmp 21) (.cst (.int .i64 1)), none, none, []⟩, ⟨some 4, .mov (.tmp 22), none, none, []⟩]))

def c12 : VC := .seq (.reg [⟨some 1, .box (.tmp 0), none, none, []⟩, ⟨some 2, .mov (.cst (.sl 0 (some true) true [])), none, none, []⟩]) (.seq (.dreg [⟨some 6, .fld 0 (.tmp 1), none, none, []⟩, ⟨some 7, .load none (.tmp 6), none, none, [0]⟩, ⟨some 8, .cvi .u64 (.tmp 7), none, none, [1]⟩, ⟨some 9, .mov (.cst .undef), some (.cst (.func 22 []), [.tmp 8, .cst (.int .i64 8)]), none, [2]⟩, ⟨some 10, .fld 1 (.tmp 1), none, none, []⟩, ⟨some 11, .load none (.tmp 10), none, none, [4]⟩, ⟨some 12, .lenl (.tmp 11), none, none, [5]⟩, ⟨some 13, .cvi .u64 (.tmp 12), none, none, [6]⟩, ⟨some 14, .mov (.cst .undef), some (.cst (.func 22 []), [.tmp 13, .cst (.int .i64 2)]), none, [7, 3]⟩, ⟨some 15, .mov (.cst .undef), some (.cst (.func 11 []), [.tmp 9, .tmp 14]), none, [3, 8, 8]⟩, ⟨some 3, .mov (.tmp 15), none, none, [9, 9, 0, 1, 2, 3, 4, 5, 6, 7, 8, 9]⟩]) (.seq (.seq (.reg [⟨some 4, .mov (.cst (.int .i64 0)), none, none, []⟩]) (.block 0 (.loop c12b0))) (.seq (.reg [⟨some 58, .mov (.tmp 3), none, none, []⟩, ⟨some 2, .mov (.tmp 58), none, none, []⟩]) .ret)))

theorem f12 : fnC Tryd.prog 12 = some (59, c12, [.tmp 2]) := by kernel_rfl

/-! 13: countinghouse/countinghouseref06.Batch -/

def c13b0 : VC := .seq (.seq (.reg [⟨some 44, .mov (.tmp 11), none, none, []⟩, ⟨some 45, .mov (.tmp 1), none, none, []⟩, ⟨some 46, .lenl (.tmp 45), none, none, []⟩, ⟨some 47, .bin .lss (.tmp 44) (.tmp 46), none, none, []⟩]) (.cond (.tmp 47) .skip (.exit 4))) (.seq (.block 5 (.seq (.dreg [⟨some 50, .mov (.tmp 6), none, none, []⟩, ⟨some 51, .mov (.tmp 11), none, none, []⟩, ⟨some 52, .ixa 1 (.tmp 50) (.tmp 51), none, none, [0, 1]⟩, ⟨some 53, .load none (.tmp 52), none, none, [2]⟩, ⟨some 54, .mov (.tmp 8), none, none, []⟩, ⟨some 55, .mov (.tmp 9), none, none, []⟩, ⟨some 56, .ixa 1 (.tmp 54) (.tmp 55), none, none, [4, 5]⟩, ⟨some 57, .load none (.tmp 56), none, none, [6]⟩, ⟨some 58, .bin .eql (.tmp 53) (.tmp 57), none, none, [3, 7]⟩]) (.cond (.tmp 58) (.dreg [⟨some 59, .mov (.tmp 1), none, none, []⟩, ⟨some 60, .mov (.tmp 11), none, none, []⟩, ⟨some 61, .ixa 3 (.tmp 59) (.tmp 60), none, none, [0, 1]⟩, ⟨some 62, .fld 1 (.tmp 61), none, none, [2]⟩, ⟨some 63, .load none (.tmp 62), none, none, [3]⟩, ⟨some 64, .bslice 1 1 [.int .u8 0] [(0, .tmp 63)], none, none, [4]⟩, ⟨some 65, .mov (.tmp 1), none, none, []⟩, ⟨some 66, .mov (.tmp 11), none, none, []⟩, ⟨some 67, .ixa 3 (.tmp 65) (.tmp 66), none, none, [6, 7]⟩, ⟨some 68, .fld 2 (.tmp 67), none, none, [8]⟩, ⟨some 69, .load none (.tmp 68), none, none, [9]⟩, ⟨some 70, .fld 1 (.tmp 10), none, none, [0, 1, 2, 3, 4, 5]⟩, ⟨none, .store 1 (.tmp 70) (.tmp 64), none, none, [11, 5, 0, 1, 2, 3, 4, 5]⟩, ⟨some 71, .fld 2 (.tmp 10), none, none, [0, 1, 2, 3, 4, 5, 6, 7, 8, 9, 10, 11, 12]⟩, ⟨none, .store 1 (.tmp 71) (.tmp 69), none, none, [13, 10, 12, 0, 1, 2, 3, 4, 5, 6, 7, 8, 9, 10, 11, 12]⟩]) .skip))) (.reg [⟨some 48, .mov (.tmp 11), none, none, []⟩, ⟨some 49, .bin .add (.tmp 48) (.cst (.int .i64 1)), none, none, []⟩, ⟨some 11, .mov (.tmp 49), none, none, []⟩]))

def c13b1 : VC := .seq (.seq (.reg [⟨some 33, .mov (.tmp 9), none, none, []⟩, ⟨some 34, .mov (.tmp 8), none, none, []⟩, ⟨some 35, .lenl (.tmp 34), none, none, []⟩, ⟨some 36, .bin .lss (.tmp 33) (.tmp 35), none, none, []⟩]) (.cond (.tmp 36) .skip (.exit 2))) (.seq (.block 3 (.seq (.reg [⟨some 39, .mov (.tmp 8), none, none, []⟩, ⟨some 40, .mov (.tmp 9), none, none, []⟩, ⟨some 41, .ixa 1 (.tmp 39) (.tmp 40), none, none, []⟩, ⟨some 42, .load none (.tmp 41), none, none, []⟩, ⟨some 43, .build [.str ⟨#[]⟩, .sl 0 (some true) true [], .bool false] [(0, (1, .tmp 42))], none, none, []⟩, ⟨some 10, .alloc (.agg [.str ⟨#[]⟩, .sl 0 (some true) true [], .bool false]), none, none, []⟩, ⟨none, .store 3 (.tmp 10) (.tmp 43), none, none, []⟩]) (.seq (.seq (.reg [⟨some 11, .mov (.cst (.int .i64 0)), none, none, []⟩]) (.block 4 (.loop c13b0))) (.seq (.seq (.reg [⟨some 72, .fld 2 (.tmp 10), none, none, []⟩, ⟨some 73, .load none (.tmp 72), none, none, []⟩]) (.cond (.tmp 73) (.reg [⟨some 74, .fld 1 (.tmp 10), none, none, []⟩, ⟨none, .store 1 (.tmp 74) (.cst (.sl 0 (some true) true [])), none, none, []⟩]) .skip)) (.reg [⟨some 75, .fld 1 (.tmp 5), none, none, []⟩, ⟨some 76, .load none (.tmp 75), none, none, []⟩, ⟨some 77, .load (some 3) (.tmp 10), none, none, []⟩, ⟨some 78, .bslice 3 1 [.str ⟨#[]⟩, .sl 0 (some true) true [], .bool false] [(0, .tmp 77)], none, none, []⟩, ⟨some 79, .app 3 48 (.tmp 76) (.tmp 78), none, none, []⟩, ⟨some 80, .fld 1 (.tmp 5), none, none, []⟩, ⟨none, .store 1 (.tmp 80) (.tmp 79), none, none, []⟩]))))) (.reg [⟨some 37, .mov (.tmp 9), none, none, []⟩, ⟨some 38, .bin .add (.tmp 37) (.cst (.int .i64 1)), none, none, []⟩, ⟨some 9, .mov (.tmp 38), none, none, []⟩]))

def c13b2 : VC := .seq (.seq (.reg [⟨some 14, .mov (.tmp 7), none, none, []⟩, ⟨some 15, .mov (.tmp 1), none, none, []⟩, ⟨some 16, .lenl (.tmp 15), none, none, []⟩, ⟨some 17, .bin .lss (.tmp 14) (.tmp 16), none, none, []⟩]) (.cond (.tmp 17) .skip (.exit 0))) (.seq (.block 1 (.reg [⟨some 20, .mov (.tmp 6), none, none, []⟩, ⟨some 21, .mov (.tmp 1), none, none, []⟩, ⟨some 22, .mov (.tmp 7), none, none, []⟩, ⟨some 23, .ixa 3 (.tmp 21) (.tmp 22), none, none, []⟩, ⟨some 24, .fld 0 (.tmp 23), none, none, []⟩, ⟨some 25, .load none (.tmp 24), none, none, []⟩, ⟨some 26, .bin .rem (.tmp 25) (.cst (.int .u8 12)), none, none, []⟩, ⟨some 27, .bslice 1 2 [.int .u8 0] [(0, .cst (.int .u8 107)), (1, .tmp 26)], none, none, []⟩, ⟨some 28, .cvbs (.tmp 27), none, none, []⟩, ⟨some 29, .bslice 1 1 [.str ⟨#[]⟩] [(0, .tmp 28)], none, none, []⟩, ⟨some 30, .app 1 16 (.tmp 20) (.tmp 29), none, none, []⟩, ⟨some 6, .mov (.tmp 30), none, none, []⟩])) (.reg [⟨some 18, .mov (.tmp 7), none, none, []⟩, ⟨some 19, .bin .add (.tmp 18) (.cst (.int .i64 1)), none, none, []⟩, ⟨some 7, .mov (.tmp 19), none, none, []⟩]))

def c13 : VC := .seq (.reg [⟨some 4, .alloc (.agg [.int .i64 0, .sl 0 (some true) true []]), none, none, []⟩]) (.seq (.reg [⟨some 12, .mov (.tmp 0), none, none, []⟩, ⟨some 13, .build [.int .i64 0, .sl 0 (some true) true []] [(0, (1, .tmp 12))], none, none, []⟩, ⟨some 5, .alloc (.agg [.int .i64 0, .sl 0 (some true) true []]), none, none, []⟩, ⟨none, .store 2 (.tmp 5) (.tmp 13), none, none, []⟩]) (.seq (.reg [⟨some 6, .mov (.cst (.sl 0 (some true) true [])), none, none, []⟩]) (.seq (.seq (.reg [⟨some 7, .mov (.cst (.int .i64 0)), none, none, []⟩]) (.block 0 (.loop c13b2))) (.seq (.reg [⟨some 31, .mov (.tmp 6), none, none, []⟩, ⟨some 32, .mov (.cst .undef), some (.cst (.func 23 []), [.tmp 31]), none, []⟩, ⟨some 8, .mov (.tmp 32), none, none, []⟩]) (.seq (.seq (.reg [⟨some 9, .mov (.cst (.int .i64 0)), none, none, []⟩]) (.block 2 (.loop c13b1))) (.seq (.reg [⟨some 81, .load (some 2) (.tmp 5), none, none, []⟩, ⟨none, .store 2 (.tmp 4) (.tmp 81), none, none, []⟩]) .ret))))))

theorem f13 : fnC Tryd.prog 13 = some (82, c13, [.cell 4 (some 2)]) := by kernel_rfl

/-! 14: countinghouse/record.Decode -/

def c14 : VC := .seq (.reg [⟨some 2, .alloc (.agg [.int .i64 0, .sl 0 (some true) true []]), none, none, []⟩, ⟨some 3, .mov (.cst (.int .i64 0)), none, none, []⟩, ⟨some 4, .mov (.cst (.int .i64 0)), none, none, []⟩]) (.seq (.reg [⟨some 9, .mov (.tmp 0), none, none, []⟩, ⟨some 10, .build [.sl 0 (some true) true [], .int .i64 0] [(0, (1, .tmp 9))], none, none, []⟩, ⟨some 11, .box (.tmp 10), none, none, []⟩, ⟨some 5, .mov (.tmp 11), none, none, []⟩]) (.seq (.reg [⟨some 13, .mov (.tmp 5), none, none, []⟩, ⟨some 14, .mov (.cst .undef), some (.cst (.func 24 []), [.tmp 13]), none, []⟩, ⟨some 12, .mov (.tmp 14), none, none, []⟩, ⟨some 15, .ext (.tmp 12) 0, none, none, []⟩, ⟨some 16, .ext (.tmp 12) 1, none, none, []⟩, ⟨some 6, .alloc (.agg [.int .i64 0, .sl 0 (some true) true []]), none, none, []⟩, ⟨none, .store 2 (.tmp 6) (.tmp 15), none, none, []⟩, ⟨some 7, .mov (.tmp 16), none, none, []⟩]) (.seq (.reg [⟨some 8, .alloc (.ptr none), none, none, []⟩]) (.seq (.block 0 (.seq (.reg [⟨some 18, .mov (.tmp 7), none, none, []⟩, ⟨some 19, .ifc 63 (.tmp 8), none, none, []⟩, ⟨some 20, .mov (.cst .undef), some (.cst (.func 25 []), [.tmp 18, .tmp 19]), none, []⟩, ⟨some 21, .un .not (.tmp 20), none, none, []⟩, ⟨some 17, .mov (.tmp 21), none, none, []⟩]) (.cond (.tmp 17) (.seq (.reg [⟨some 22, .load (some 2) (.tmp 6), none, none, []⟩, ⟨none, .store 2 (.tmp 2) (.tmp 22), none, none, []⟩, ⟨some 3, .mov (.cst (.int .i64 0)), none, none, []⟩, ⟨some 4, .mov (.cst (.int .i64 0)), none, none, []⟩]) .ret) (.seq (.reg [⟨some 24, .mov (.tmp 7), none, none, []⟩, ⟨some 25, .ifc 33 (.cst (.int .i64 3)), none, none, []⟩, ⟨some 26, .mov (.cst .undef), some (.cst (.func 26 []), [.tmp 24, .tmp 25]), none, []⟩, ⟨some 23, .mov (.tmp 26), none, none, []⟩]) (.cond (.tmp 23) (.seq (.dreg [⟨some 27, .build [.int .i64 0, .sl 0 (some true) true []] [], none, none, []⟩, ⟨some 28, .load none (.tmp 8), none, none, []⟩, ⟨some 29, .nilck (.tmp 28), none, none, [1]⟩, ⟨some 30, .fld 0 (.tmp 29), none, none, [2]⟩, ⟨some 31, .load none (.tmp 30), none, none, [3]⟩, ⟨none, .store 2 (.tmp 2) (.tmp 27), none, none, [0, 0]⟩, ⟨some 3, .mov (.tmp 31), none, none, [4, 5, 0, 1, 2, 3, 4, 5]⟩, ⟨some 4, .mov (.cst (.int .i64 3)), none, none, [6, 0, 1, 2, 3, 4, 5, 6]⟩]) .ret) .skip))))) (.seq (.dreg [⟨some 32, .build [.int .i64 0, .sl 0 (some true) true []] [], none, none, []⟩, ⟨some 33, .load none (.tmp 8), none, none, []⟩, ⟨some 34, .nilck (.tmp 33), none, none, [1]⟩, ⟨some 35, .fld 0 (.tmp 34), none, none, [2]⟩, ⟨some 36, .load none (.tmp 35), none, none, [3]⟩, ⟨some 37, .load none (.tmp 8), none, none, []⟩, ⟨some 38, .nilck (.tmp 37), none, none, [5]⟩, ⟨some 39, .fld 1 (.tmp 38), none, none, [6]⟩, ⟨some 40, .load none (.tmp 39), none, none, [7]⟩, ⟨none, .store 2 (.tmp 2) (.tmp 32), none, none, [0, 0]⟩, ⟨some 3, .mov (.tmp 36), none, none, [4, 9, 0, 1, 2, 3, 4, 9]⟩, ⟨some 4, .mov (.tmp 40), none, none, [8, 10, 0, 1, 2, 3, 4, 5, 6, 7, 8, 9, 10]⟩]) .ret)))))

theorem f14 : fnC Tryd.prog 14 = some (41, c14, [.cell 2 (some 2), .tmp 3, .tmp 4]) := by kernel_rfl

/-! 15: countinghouse/record.Right -/

def c15b0 : VC := .seq (.reg [⟨some 10, .bin .lss (.tmp 9) (.tmp 8), none, none, []⟩]) (.seq (.cond (.tmp 10) .skip (.exit 0)) (.seq (.block 1 (.seq (.reg [⟨some 11, .ixa 3 (.tmp 7) (.tmp 9), none, none, []⟩, ⟨some 12, .load (some 3) (.tmp 11), none, none, []⟩, ⟨some 5, .alloc (.agg [.str ⟨#[]⟩, .sl 0 (some true) true [], .bool false]), none, none, []⟩, ⟨none, .store 3 (.tmp 5) (.tmp 12), none, none, []⟩]) (.seq (.seq (.reg [⟨some 13, .load (some 3) (.tmp 5), none, none, []⟩, ⟨some 14, .mov (.tmp 3), none, none, []⟩, ⟨some 15, .mov (.cst .undef), some (.cst (.func 27 []), [.tmp 13, .tmp 14]), none, []⟩, ⟨some 16, .un .not (.tmp 15), none, none, []⟩]) (.cond (.tmp 16) (.seq (.reg [⟨some 2, .mov (.cst (.bool false)), none, none, []⟩]) .ret) .skip)) (.reg [⟨some 17, .fld 0 (.tmp 5), none, none, []⟩, ⟨some 18, .load none (.tmp 17), none, none, []⟩, ⟨some 3, .mov (.tmp 18), none, none, []⟩])))) (.reg [⟨some 19, .bin .add (.tmp 9) (.cst (.int .i64 1)), none, none, []⟩, ⟨some 9, .mov (.tmp 19), none, none, []⟩])))

def c15 : VC := .seq (.reg [⟨some 1, .box (.tmp 0), none, none, []⟩, ⟨some 2, .mov (.cst (.bool false)), none, none, []⟩]) (.seq (.reg [⟨some 3, .mov (.cst (.str ⟨#[]⟩)), none, none, []⟩]) (.seq (.seq (.reg [⟨some 6, .fld 1 (.tmp 1), none, none, []⟩, ⟨some 7, .load none (.tmp 6), none, none, []⟩, ⟨some 8, .lenl (.tmp 7), none, none, []⟩, ⟨some 9, .mov (.cst (.int .i64 0)), none, none, []⟩]) (.block 0 (.loop c15b0))) (.seq (.reg [⟨some 20, .fld 0 (.tmp 1), none, none, []⟩, ⟨some 21, .load none (.tmp 20), none, none, []⟩, ⟨some 22, .bin .geq (.tmp 21) (.cst (.int .i64 1)), none, none, []⟩, ⟨some 23, .mov (.tmp 22), none, none, []⟩, ⟨some 24, .fld 1 (.tmp 1), none, some (23, true), []⟩, ⟨some 25, .load none (.tmp 24), none, some (23, true), []⟩, ⟨some 26, .lenl (.tmp 25), none, some (23, true), []⟩, ⟨some 27, .bin .geq (.tmp 26) (.cst (.int .i64 1)), none, some (23, true), []⟩, ⟨some 28, .pick (.tmp 23) (.tmp 27) (.cst (.bool false)), none, none, []⟩, ⟨some 29, .mov (.tmp 28), none, none, []⟩, ⟨some 30, .fld 1 (.tmp 1), none, some (29, true), []⟩, ⟨some 31, .load none (.tmp 30), none, some (29, true), []⟩, ⟨some 32, .lenl (.tmp 31), none, some (29, true), []⟩, ⟨some 33, .bin .leq (.tmp 32) (.cst (.int .i64 64)), none, some (29, true), []⟩, ⟨some 34, .pick (.tmp 29) (.tmp 33) (.cst (.bool false)), none, none, []⟩, ⟨some 2, .mov (.tmp 34), none, none, []⟩]) .ret)))

theorem f15 : fnC Tryd.prog 15 = some (35, c15, [.tmp 2]) := by kernel_rfl

/-! 16: countinghouse/countinghouseref06.Right -/

def c16b0 : VC := .seq (.seq (.reg [⟨some 20, .mov (.tmp 3), none, none, []⟩, ⟨some 21, .fld 1 (.tmp 1), none, none, []⟩, ⟨some 22, .load none (.tmp 21), none, none, []⟩, ⟨some 23, .lenl (.tmp 22), none, none, []⟩, ⟨some 24, .bin .lss (.tmp 20) (.tmp 23), none, none, []⟩]) (.cond (.tmp 24) .skip (.exit 0))) (.seq (.block 1 (.seq (.reg [⟨some 27, .fld 1 (.tmp 1), none, none, []⟩, ⟨some 28, .load none (.tmp 27), none, none, []⟩, ⟨some 29, .mov (.tmp 3), none, none, []⟩, ⟨some 30, .ixa 3 (.tmp 28) (.tmp 29), none, none, []⟩, ⟨some 31, .load (some 3) (.tmp 30), none, none, []⟩, ⟨some 4, .alloc (.agg [.str ⟨#[]⟩, .sl 0 (some true) true [], .bool false]), none, none, []⟩, ⟨none, .store 3 (.tmp 4) (.tmp 31), none, none, []⟩]) (.seq (.dreg [⟨some 32, .fld 0 (.tmp 4), none, none, []⟩, ⟨some 33, .load none (.tmp 32), none, none, [0]⟩, ⟨some 34, .lens (.tmp 33), none, none, [1]⟩, ⟨some 35, .bin .lss (.tmp 34) (.cst (.int .i64 1)), none, none, [2]⟩, ⟨some 36, .mov (.tmp 35), none, none, [3]⟩, ⟨some 37, .fld 0 (.tmp 4), none, some (36, false), [4]⟩, ⟨some 38, .load none (.tmp 37), none, some (36, false), [5, 4]⟩, ⟨some 39, .lens (.tmp 38), none, some (36, false), [6, 4]⟩, ⟨some 40, .bin .gtr (.tmp 39) (.cst (.int .i64 4000)), none, some (36, false), [7, 4]⟩, ⟨some 41, .pick (.tmp 36) (.cst (.bool true)) (.tmp 40), none, none, [4, 8]⟩, ⟨some 42, .mov (.tmp 41), none, none, [9, 4]⟩, ⟨some 43, .fld 1 (.tmp 4), none, some (42, false), [10]⟩, ⟨some 44, .load none (.tmp 43), none, some (42, false), [11, 10]⟩, ⟨some 45, .lenl (.tmp 44), none, some (42, false), [12, 10]⟩, ⟨some 46, .bin .gtr (.tmp 45) (.cst (.int .i64 4000)), none, some (42, false), [13, 10]⟩, ⟨some 47, .pick (.tmp 42) (.cst (.bool true)) (.tmp 46), none, none, [10, 14]⟩, ⟨some 48, .mov (.tmp 47), none, none, [15, 10]⟩, ⟨some 49, .fld 2 (.tmp 4), none, some (48, false), [16]⟩, ⟨some 50, .load none (.tmp 49), none, some (48, false), [17, 16]⟩, ⟨some 51, .mov (.tmp 50), none, some (48, false), [18, 16, 16]⟩, ⟨some 52, .fld 1 (.tmp 4), none, some (51, true), [19]⟩, ⟨some 53, .load none (.tmp 52), none, some (51, true), [20, 19]⟩, ⟨some 54, .lenl (.tmp 53), none, some (51, true), [21, 19]⟩, ⟨some 55, .bin .gtr (.tmp 54) (.cst (.int .i64 0)), none, some (51, true), [22, 19]⟩, ⟨some 56, .pick (.tmp 51) (.tmp 55) (.cst (.bool false)), none, some (48, false), [19, 23, 16]⟩, ⟨some 57, .pick (.tmp 48) (.cst (.bool true)) (.tmp 56), none, none, [16, 24]⟩, ⟨some 58, .mov (.tmp 57), none, none, [25, 19]⟩, ⟨some 59, .mov (.tmp 3), none, some (58, false), [26]⟩, ⟨some 60, .bin .gtr (.tmp 59) (.cst (.int .i64 0)), none, some (58, false), [27, 26]⟩, ⟨some 61, .mov (.tmp 60), none, some (58, false), [28, 26, 26]⟩, ⟨some 62, .fld 0 (.tmp 4), none, some (61, true), [29]⟩, ⟨some 63, .load none (.tmp 62), none, some (61, true), [30, 29]⟩, ⟨some 64, .fld 1 (.tmp 1), none, some (61, true), [29]⟩, ⟨some 65, .load none (.tmp 64), none, some (61, true), [32, 29]⟩, ⟨some 66, .mov (.tmp 3), none, some (61, true), [29]⟩, ⟨some 67, .bin .sub (.tmp 66) (.cst (.int .i64 1)), none, some (61, true), [34, 29]⟩, ⟨some 68, .ixa 3 (.tmp 65) (.tmp 67), none, some (61, true), [33, 35, 29]⟩, ⟨some 69, .fld 0 (.tmp 68), none, some (61, true), [36, 29]⟩, ⟨some 70, .load none (.tmp 69), none, some (61, true), [37, 29]⟩, ⟨some 71, .bin .leq (.tmp 63) (.tmp 70), none, some (61, true), [31, 38, 29]⟩, ⟨some 72, .pick (.tmp 61) (.tmp 71) (.cst (.bool false)), none, some (58, false), [29, 39, 26]⟩, ⟨some 73, .pick (.tmp 58) (.cst (.bool true)) (.tmp 72), none, none, [26, 40]⟩]) (.cond (.tmp 73) (.seq (.reg [⟨some 2, .mov (.cst (.bool false)), none, none, []⟩]) .ret) .skip)))) (.reg [⟨some 25, .mov (.tmp 3), none, none, []⟩, ⟨some 26, .bin .add (.tmp 25) (.cst (.int .i64 1)), none, none, []⟩, ⟨some 3, .mov (.tmp 26), none, none, []⟩]))

def c16 : VC := .seq (.reg [⟨some 1, .box (.tmp 0), none, none, []⟩, ⟨some 2, .mov (.cst (.bool false)), none, none, []⟩]) (.seq (.seq (.reg [⟨some 5, .fld 0 (.tmp 1), none, none, []⟩, ⟨some 6, .load none (.tmp 5), none, none, []⟩, ⟨some 7, .bin .lss (.tmp 6) (.cst (.int .i64 1)), none, none, []⟩, ⟨some 8, .mov (.tmp 7), none, none, []⟩, ⟨some 9, .fld 1 (.tmp 1), none, some (8, false), []⟩, ⟨some 10, .load none (.tmp 9), none, some (8, false), []⟩, ⟨some 11, .lenl (.tmp 10), none, some (8, false), []⟩, ⟨some 12, .bin .lss (.tmp 11) (.cst (.int .i64 1)), none, some (8, false), []⟩, ⟨some 13, .pick (.tmp 8) (.cst (.bool true)) (.tmp 12), none, none, []⟩, ⟨some 14, .mov (.tmp 13), none, none, []⟩, ⟨some 15, .fld 1 (.tmp 1), none, some (14, false), []⟩, ⟨some 16, .load none (.tmp 15), none, some (14, false), []⟩, ⟨some 17, .lenl (.tmp 16), none, some (14, false), []⟩, ⟨some 18, .bin .gtr (.tmp 17) (.cst (.int .i64 64)), none, some (14, false), []⟩, ⟨some 19, .pick (.tmp 14) (.cst (.bool true)) (.tmp 18), none, none, []⟩]) (.cond (.tmp 19) (.seq (.reg [⟨some 2, .mov (.cst (.bool false)), none, none, []⟩]) .ret) .skip)) (.seq (.seq (.reg [⟨some 3, .mov (.cst (.int .i64 0)), none, none, []⟩]) (.block 0 (.loop c16b0))) (.seq (.reg [⟨some 2, .mov (.cst (.bool true)), none, none, []⟩]) .ret)))

theorem f16 : fnC Tryd.prog 16 = some (74, c16, [.tmp 2]) := by kernel_rfl

/-! 17: countinghouse/record.Same -/

def c17 : VC := .seq (.reg [⟨some 2, .box (.tmp 0), none, none, []⟩, ⟨some 3, .box (.tmp 1), none, none, []⟩, ⟨some 4, .mov (.cst (.bool false)), none, none, []⟩]) (.seq (.reg [⟨some 5, .fld 0 (.tmp 2), none, none, []⟩, ⟨some 6, .load none (.tmp 5), none, none, []⟩, ⟨some 7, .fld 0 (.tmp 3), none, none, []⟩, ⟨some 8, .load none (.tmp 7), none, none, []⟩, ⟨some 9, .bin .eql (.tmp 6) (.tmp 8), none, none, []⟩, ⟨some 10, .mov (.tmp 9), none, none, []⟩, ⟨some 11, .fld 1 (.tmp 2), none, some (10, true), []⟩, ⟨some 12, .load none (.tmp 11), none, some (10, true), []⟩, ⟨some 13, .fld 1 (.tmp 3), none, some (10, true), []⟩, ⟨some 14, .load none (.tmp 13), none, some (10, true), []⟩, ⟨some 15, .mov (.cst .undef), some (.cst (.func 28 []), [.tmp 12, .tmp 14, .cst (.func 29 [])]), some (10, true), []⟩, ⟨some 16, .pick (.tmp 10) (.tmp 15) (.cst (.bool false)), none, none, []⟩, ⟨some 4, .mov (.tmp 16), none, none, []⟩]) .ret)

theorem f17 : fnC Tryd.prog 17 = some (17, c17, [.tmp 4]) := by kernel_rfl

/-! 18: countinghouse/countinghouseref06.Same -/

def c18b0 : VC := .seq (.seq (.reg [⟨some 22, .mov (.tmp 5), none, none, []⟩, ⟨some 23, .fld 1 (.tmp 2), none, none, []⟩, ⟨some 24, .load none (.tmp 23), none, none, []⟩, ⟨some 25, .lenl (.tmp 24), none, none, []⟩, ⟨some 26, .bin .lss (.tmp 22) (.tmp 25), none, none, []⟩]) (.cond (.tmp 26) .skip (.exit 0))) (.seq (.block 1 (.seq (.dreg [⟨some 29, .fld 1 (.tmp 2), none, none, []⟩, ⟨some 30, .load none (.tmp 29), none, none, [0]⟩, ⟨some 31, .mov (.tmp 5), none, none, []⟩, ⟨some 32, .ixa 3 (.tmp 30) (.tmp 31), none, none, [1, 2]⟩, ⟨some 33, .load (some 3) (.tmp 32), none, none, [3]⟩, ⟨some 34, .fld 1 (.tmp 3), none, none, []⟩, ⟨some 35, .load none (.tmp 34), none, none, [5]⟩, ⟨some 36, .mov (.tmp 5), none, none, []⟩, ⟨some 37, .ixa 3 (.tmp 35) (.tmp 36), none, none, [6, 7]⟩, ⟨some 38, .load (some 3) (.tmp 37), none, none, [8]⟩, ⟨some 6, .alloc (.agg [.str ⟨#[]⟩, .sl 0 (some true) true [], .bool false]), none, none, []⟩, ⟨some 7, .alloc (.agg [.str ⟨#[]⟩, .sl 0 (some true) true [], .bool false]), none, none, []⟩, ⟨none, .store 3 (.tmp 6) (.tmp 33), none, none, [10, 4, 0, 1, 2, 3, 4, 10, 11]⟩, ⟨none, .store 3 (.tmp 7) (.tmp 38), none, none, [11, 9, 12, 0, 1, 2, 3, 4, 5, 6, 7, 8, 9, 10, 11, 12]⟩]) (.seq (.reg [⟨some 39, .fld 0 (.tmp 6), none, none, []⟩, ⟨some 40, .load none (.tmp 39), none, none, []⟩, ⟨some 41, .fld 0 (.tmp 7), none, none, []⟩, ⟨some 42, .load none (.tmp 41), none, none, []⟩, ⟨some 43, .bin .neq (.tmp 40) (.tmp 42), none, none, []⟩, ⟨some 44, .mov (.tmp 43), none, none, []⟩, ⟨some 45, .fld 2 (.tmp 6), none, some (44, false), []⟩, ⟨some 46, .load none (.tmp 45), none, some (44, false), []⟩, ⟨some 47, .fld 2 (.tmp 7), none, some (44, false), []⟩, ⟨some 48, .load none (.tmp 47), none, some (44, false), []⟩, ⟨some 49, .eqb true (.tmp 46) (.tmp 48), none, some (44, false), []⟩, ⟨some 50, .pick (.tmp 44) (.cst (.bool true)) (.tmp 49), none, none, []⟩, ⟨some 51, .mov (.tmp 50), none, none, []⟩, ⟨some 52, .fld 1 (.tmp 6), none, some (51, false), []⟩, ⟨some 53, .load none (.tmp 52), none, some (51, false), []⟩, ⟨some 54, .fld 1 (.tmp 7), none, some (51, false), []⟩, ⟨some 55, .load none (.tmp 54), none, some (51, false), []⟩, ⟨some 56, .mov (.cst .undef), some (.cst (.func 20 []), [.tmp 53, .tmp 55]), some (51, false), []⟩, ⟨some 57, .un .not (.tmp 56), none, some (51, false), []⟩, ⟨some 58, .pick (.tmp 51) (.cst (.bool true)) (.tmp 57), none, none, []⟩]) (.cond (.tmp 58) (.seq (.reg [⟨some 4, .mov (.cst (.bool false)), none, none, []⟩]) .ret) .skip)))) (.reg [⟨some 27, .mov (.tmp 5), none, none, []⟩, ⟨some 28, .bin .add (.tmp 27) (.cst (.int .i64 1)), none, none, []⟩, ⟨some 5, .mov (.tmp 28), none, none, []⟩]))

def c18 : VC := .seq (.reg [⟨some 2, .box (.tmp 0), none, none, []⟩, ⟨some 3, .box (.tmp 1), none, none, []⟩, ⟨some 4, .mov (.cst (.bool false)), none, none, []⟩]) (.seq (.seq (.reg [⟨some 8, .fld 0 (.tmp 2), none, none, []⟩, ⟨some 9, .load none (.tmp 8), none, none, []⟩, ⟨some 10, .fld 0 (.tmp 3), none, none, []⟩, ⟨some 11, .load none (.tmp 10), none, none, []⟩, ⟨some 12, .bin .neq (.tmp 9) (.tmp 11), none, none, []⟩, ⟨some 13, .mov (.tmp 12), none, none, []⟩, ⟨some 14, .fld 1 (.tmp 2), none, some (13, false), []⟩, ⟨some 15, .load none (.tmp 14), none, some (13, false), []⟩, ⟨some 16, .lenl (.tmp 15), none, some (13, false), []⟩, ⟨some 17, .fld 1 (.tmp 3), none, some (13, false), []⟩, ⟨some 18, .load none (.tmp 17), none, some (13, false), []⟩, ⟨some 19, .lenl (.tmp 18), none, some (13, false), []⟩, ⟨some 20, .bin .neq (.tmp 16) (.tmp 19), none, some (13, false), []⟩, ⟨some 21, .pick (.tmp 13) (.cst (.bool true)) (.tmp 20), none, none, []⟩]) (.cond (.tmp 21) (.seq (.reg [⟨some 4, .mov (.cst (.bool false)), none, none, []⟩]) .ret) .skip)) (.seq (.seq (.reg [⟨some 5, .mov (.cst (.int .i64 0)), none, none, []⟩]) (.block 0 (.loop c18b0))) (.seq (.reg [⟨some 4, .mov (.cst (.bool true)), none, none, []⟩]) .ret)))

theorem f18 : fnC Tryd.prog 18 = some (59, c18, [.tmp 4]) := by kernel_rfl

/-! 19: countinghouse/record.Encode -/

def c19b0 : VC := .seq (.reg [⟨some 19, .bin .lss (.tmp 18) (.tmp 17), none, none, []⟩]) (.seq (.cond (.tmp 19) .skip (.exit 0)) (.seq (.block 1 (.seq (.reg [⟨some 20, .ixa 3 (.tmp 16) (.tmp 18), none, none, []⟩, ⟨some 21, .load (some 3) (.tmp 20), none, none, []⟩, ⟨some 5, .alloc (.agg [.str ⟨#[]⟩, .sl 0 (some true) true [], .bool false]), none, none, []⟩, ⟨none, .store 3 (.tmp 5) (.tmp 21), none, none, []⟩]) (.seq (.reg [⟨some 22, .mov (.tmp 3), none, none, []⟩, ⟨some 23, .fld 0 (.tmp 5), none, none, []⟩, ⟨some 24, .load none (.tmp 23), none, none, []⟩, ⟨some 25, .cvsb (.tmp 24), none, none, []⟩, ⟨some 26, .mov (.cst .undef), some (.cst (.func 32 []), [.tmp 22, .tmp 25]), none, []⟩, ⟨some 3, .mov (.tmp 26), none, none, []⟩]) (.seq (.seq (.reg [⟨some 27, .fld 2 (.tmp 5), none, none, []⟩, ⟨some 28, .load none (.tmp 27), none, none, []⟩]) (.cond (.tmp 28) (.seq (.reg [⟨some 29, .mov (.tmp 3), none, none, []⟩, ⟨some 30, .bslice 1 1 [.int .u8 0] [(0, .cst (.int .u8 1))], none, none, []⟩, ⟨some 31, .app 1 1 (.tmp 29) (.tmp 30), none, none, []⟩, ⟨some 3, .mov (.tmp 31), none, none, []⟩]) (.exit 1)) .skip)) (.dreg [⟨some 32, .mov (.tmp 3), none, none, []⟩, ⟨some 33, .bslice 1 1 [.int .u8 0] [(0, .cst (.int .u8 0))], none, none, []⟩, ⟨some 34, .app 1 1 (.tmp 32) (.tmp 33), none, none, [0, 1]⟩, ⟨some 35, .fld 1 (.tmp 5), none, none, []⟩, ⟨some 36, .load none (.tmp 35), none, none, [3]⟩, ⟨some 37, .mov (.cst .undef), some (.cst (.func 32 []), [.tmp 34, .tmp 36]), none, [2, 4, 2]⟩, ⟨some 3, .mov (.tmp 37), none, none, [5, 5, 0, 1, 2, 3, 4, 5]⟩]))))) (.reg [⟨some 38, .bin .add (.tmp 18) (.cst (.int .i64 1)), none, none, []⟩, ⟨some 18, .mov (.tmp 38), none, none, []⟩])))

def c19 : VC := .seq (.reg [⟨some 1, .box (.tmp 0), none, none, []⟩, ⟨some 2, .mov (.cst (.sl 0 (some true) true [])), none, none, []⟩]) (.seq (.dreg [⟨some 6, .fld 0 (.tmp 1), none, none, []⟩, ⟨some 7, .load none (.tmp 6), none, none, [0]⟩, ⟨some 8, .cvi .u64 (.tmp 7), none, none, [1]⟩, ⟨some 9, .mov (.cst .undef), some (.cst (.func 31 []), [.cst (.sl 0 (some true) true []), .tmp 8, .cst (.int .i64 8)]), none, [2]⟩, ⟨some 10, .fld 1 (.tmp 1), none, none, []⟩, ⟨some 11, .load none (.tmp 10), none, none, [4]⟩, ⟨some 12, .lenl (.tmp 11), none, none, [5]⟩, ⟨some 13, .cvi .u64 (.tmp 12), none, none, [6]⟩, ⟨some 14, .mov (.cst .undef), some (.cst (.func 31 []), [.tmp 9, .tmp 13, .cst (.int .i64 2)]), none, [3, 7, 3]⟩, ⟨some 3, .mov (.tmp 14), none, none, [8, 8, 0, 1, 2, 3, 4, 5, 6, 7, 8]⟩]) (.seq (.seq (.reg [⟨some 15, .fld 1 (.tmp 1), none, none, []⟩, ⟨some 16, .load none (.tmp 15), none, none, []⟩, ⟨some 17, .lenl (.tmp 16), none, none, []⟩, ⟨some 18, .mov (.cst (.int .i64 0)), none, none, []⟩]) (.block 0 (.loop c19b0))) (.seq (.reg [⟨some 39, .mov (.tmp 3), none, none, []⟩, ⟨some 2, .mov (.tmp 39), none, none, []⟩]) .ret)))

theorem f19 : fnC Tryd.prog 19 = some (40, c19, [.tmp 2]) := by kernel_rfl

/-! 20: countinghouse/countinghouseref01.Bytes -/

def c20b0 : VC := .seq (.seq (.reg [⟨some 11, .mov (.tmp 5), none, none, []⟩, ⟨some 12, .mov (.tmp 0), none, none, []⟩, ⟨some 13, .lenl (.tmp 12), none, none, []⟩, ⟨some 14, .bin .lss (.tmp 11) (.tmp 13), none, none, []⟩]) (.cond (.tmp 14) .skip (.exit 0))) (.seq (.block 1 (.seq (.dreg [⟨some 17, .mov (.tmp 0), none, none, []⟩, ⟨some 18, .mov (.tmp 5), none, none, []⟩, ⟨some 19, .ixa 1 (.tmp 17) (.tmp 18), none, none, [0, 1]⟩, ⟨some 20, .load none (.tmp 19), none, none, [2]⟩, ⟨some 21, .mov (.tmp 1), none, none, []⟩, ⟨some 22, .mov (.tmp 5), none, none, []⟩, ⟨some 23, .ixa 1 (.tmp 21) (.tmp 22), none, none, [4, 5]⟩, ⟨some 24, .load none (.tmp 23), none, none, [6]⟩, ⟨some 25, .bin .neq (.tmp 20) (.tmp 24), none, none, [3, 7]⟩]) (.cond (.tmp 25) (.seq (.reg [⟨some 4, .mov (.cst (.bool false)), none, none, []⟩]) .ret) .skip))) (.reg [⟨some 15, .mov (.tmp 5), none, none, []⟩, ⟨some 16, .bin .add (.tmp 15) (.cst (.int .i64 1)), none, none, []⟩, ⟨some 5, .mov (.tmp 16), none, none, []⟩]))

def c20 : VC := .seq (.reg [⟨some 4, .mov (.cst (.bool false)), none, none, []⟩]) (.seq (.seq (.reg [⟨some 6, .mov (.tmp 0), none, none, []⟩, ⟨some 7, .lenl (.tmp 6), none, none, []⟩, ⟨some 8, .mov (.tmp 1), none, none, []⟩, ⟨some 9, .lenl (.tmp 8), none, none, []⟩, ⟨some 10, .bin .neq (.tmp 7) (.tmp 9), none, none, []⟩]) (.cond (.tmp 10) (.seq (.reg [⟨some 4, .mov (.cst (.bool false)), none, none, []⟩]) .ret) .skip)) (.seq (.seq (.reg [⟨some 5, .mov (.cst (.int .i64 0)), none, none, []⟩]) (.block 0 (.loop c20b0))) (.seq (.reg [⟨some 4, .mov (.cst (.bool true)), none, none, []⟩]) .ret)))

theorem f20 : fnC Tryd.prog 20 = some (26, c20, [.tmp 4]) := by kernel_rfl

/-! 21: countinghouse/countinghouseref06.Decode -/

def c21b0 : VC := .seq (.seq (.reg [⟨some 41, .mov (.tmp 10), none, none, []⟩, ⟨some 42, .mov (.tmp 7), none, none, []⟩, ⟨some 43, .bin .lss (.tmp 41) (.tmp 42), none, none, []⟩]) (.cond (.tmp 43) .skip (.exit 0))) (.seq (.block 1 (.seq (.seq (.reg [⟨some 46, .mov (.tmp 0), none, none, []⟩, ⟨some 47, .lenl (.tmp 46), none, none, []⟩, ⟨some 48, .mov (.tmp 8), none, none, []⟩, ⟨some 49, .bin .sub (.tmp 47) (.tmp 48), none, none, []⟩, ⟨some 50, .bin .lss (.tmp 49) (.cst (.int .i64 2)), none, none, []⟩]) (.cond (.tmp 50) (.seq (.reg [⟨some 51, .load (some 2) (.tmp 5), none, none, []⟩, ⟨some 52, .mov (.tmp 8), none, none, []⟩, ⟨none, .store 2 (.tmp 2) (.tmp 51), none, none, []⟩, ⟨some 3, .mov (.tmp 52), none, none, []⟩, ⟨some 4, .mov (.cst (.int .i64 3)), none, none, []⟩]) .ret) .skip)) (.seq (.reg [⟨some 53, .mov (.tmp 0), none, none, []⟩, ⟨some 54, .mov (.tmp 8), none, none, []⟩, ⟨some 55, .mov (.tmp 8), none, none, []⟩, ⟨some 56, .bin .add (.tmp 55) (.cst (.int .i64 2)), none, none, []⟩, ⟨some 57, .slsl 1 (.tmp 53) (some (.tmp 54)) (some (.tmp 56)), none, none, []⟩, ⟨some 58, .mov (.cst .undef), some (.cst (.func 33 []), [.tmp 57]), none, []⟩, ⟨some 59, .cvi .i64 (.tmp 58), none, none, []⟩, ⟨some 11, .mov (.tmp 59), none, none, []⟩]) (.seq (.seq (.reg [⟨some 60, .mov (.tmp 11), none, none, []⟩, ⟨some 61, .bin .lss (.tmp 60) (.cst (.int .i64 1)), none, none, []⟩, ⟨some 62, .mov (.tmp 61), none, none, []⟩, ⟨some 63, .mov (.tmp 11), none, some (62, false), []⟩, ⟨some 64, .bin .gtr (.tmp 63) (.cst (.int .i64 4000)), none, some (62, false), []⟩, ⟨some 65, .pick (.tmp 62) (.cst (.bool true)) (.tmp 64), none, none, []⟩]) (.cond (.tmp 65) (.seq (.reg [⟨some 66, .load (some 2) (.tmp 5), none, none, []⟩, ⟨some 67, .mov (.tmp 8), none, none, []⟩, ⟨none, .store 2 (.tmp 2) (.tmp 66), none, none, []⟩, ⟨some 3, .mov (.tmp 67), none, none, []⟩, ⟨some 4, .mov (.cst (.int .i64 2)), none, none, []⟩]) .ret) .skip)) (.seq (.reg [⟨some 68, .mov (.tmp 8), none, none, []⟩, ⟨some 69, .bin .add (.tmp 68) (.cst (.int .i64 2)), none, none, []⟩, ⟨some 8, .mov (.tmp 69), none, none, []⟩]) (.seq (.seq (.reg [⟨some 70, .mov (.tmp 0), none, none, []⟩, ⟨some 71, .lenl (.tmp 70), none, none, []⟩, ⟨some 72, .mov (.tmp 8), none, none, []⟩, ⟨some 73, .bin .sub (.tmp 71) (.tmp 72), none, none, []⟩, ⟨some 74, .mov (.tmp 11), none, none, []⟩, ⟨some 75, .bin .lss (.tmp 73) (.tmp 74), none, none, []⟩]) (.cond (.tmp 75) (.seq (.reg [⟨some 76, .load (some 2) (.tmp 5), none, none, []⟩, ⟨some 77, .mov (.tmp 8), none, none, []⟩, ⟨none, .store 2 (.tmp 2) (.tmp 76), none, none, []⟩, ⟨some 3, .mov (.tmp 77), none, none, []⟩, ⟨some 4, .mov (.cst (.int .i64 3)), none, none, []⟩]) .ret) .skip)) (.seq (.reg [⟨some 78, .mov (.tmp 0), none, none, []⟩, ⟨some 79, .mov (.tmp 8), none, none, []⟩, ⟨some 80, .mov (.tmp 8), none, none, []⟩, ⟨some 81, .mov (.tmp 11), none, none, []⟩, ⟨some 82, .bin .add (.tmp 80) (.tmp 81), none, none, []⟩, ⟨some 83, .slsl 1 (.tmp 78) (some (.tmp 79)) (some (.tmp 82)), none, none, []⟩, ⟨some 84, .cvbs (.tmp 83), none, none, []⟩, ⟨some 85, .build [.str ⟨#[]⟩, .sl 0 (some true) true [], .bool false] [(0, (1, .tmp 84))], none, none, []⟩, ⟨some 12, .alloc (.agg [.str ⟨#[]⟩, .sl 0 (some true) true [], .bool false]), none, none, []⟩, ⟨none, .store 3 (.tmp 12) (.tmp 85), none, none, []⟩]) (.seq (.seq (.reg [⟨some 86, .fld 0 (.tmp 12), none, none, []⟩, ⟨some 87, .load none (.tmp 86), none, none, []⟩, ⟨some 88, .mov (.tmp 9), none, none, []⟩, ⟨some 89, .bin .leq (.tmp 87) (.tmp 88), none, none, []⟩]) (.cond (.tmp 89) (.seq (.reg [⟨some 90, .load (some 2) (.tmp 5), none, none, []⟩, ⟨some 91, .mov (.tmp 8), none, none, []⟩, ⟨none, .store 2 (.tmp 2) (.tmp 90), none, none, []⟩, ⟨some 3, .mov (.tmp 91), none, none, []⟩, ⟨some 4, .mov (.cst (.int .i64 2)), none, none, []⟩]) .ret) .skip)) (.seq (.reg [⟨some 92, .fld 0 (.tmp 12), none, none, []⟩, ⟨some 93, .load none (.tmp 92), none, none, []⟩, ⟨some 9, .mov (.tmp 93), none, none, []⟩]) (.seq (.reg [⟨some 94, .mov (.tmp 8), none, none, []⟩, ⟨some 95, .mov (.tmp 11), none, none, []⟩, ⟨some 96, .bin .add (.tmp 94) (.tmp 95), none, none, []⟩, ⟨some 8, .mov (.tmp 96), none, none, []⟩]) (.seq (.seq (.reg [⟨some 97, .mov (.tmp 8), none, none, []⟩, ⟨some 98, .mov (.tmp 0), none, none, []⟩, ⟨some 99, .lenl (.tmp 98), none, none, []⟩, ⟨some 100, .bin .geq (.tmp 97) (.tmp 99), none, none, []⟩]) (.cond (.tmp 100) (.seq (.reg [⟨some 101, .load (some 2) (.tmp 5), none, none, []⟩, ⟨some 102, .mov (.tmp 8), none, none, []⟩, ⟨none, .store 2 (.tmp 2) (.tmp 101), none, none, []⟩, ⟨some 3, .mov (.tmp 102), none, none, []⟩, ⟨some 4, .mov (.cst (.int .i64 3)), none, none, []⟩]) .ret) .skip)) (.seq (.seq (.reg [⟨some 103, .mov (.tmp 0), none, none, []⟩, ⟨some 104, .mov (.tmp 8), none, none, []⟩, ⟨some 105, .ixa 1 (.tmp 103) (.tmp 104), none, none, []⟩, ⟨some 106, .load none (.tmp 105), none, none, []⟩, ⟨some 107, .bin .gtr (.tmp 106) (.cst (.int .u8 1)), none, none, []⟩]) (.cond (.tmp 107) (.seq (.reg [⟨some 108, .load (some 2) (.tmp 5), none, none, []⟩, ⟨some 109, .mov (.tmp 8), none, none, []⟩, ⟨none, .store 2 (.tmp 2) (.tmp 108), none, none, []⟩, ⟨some 3, .mov (.tmp 109), none, none, []⟩, ⟨some 4, .mov (.cst (.int .i64 2)), none, none, []⟩]) .ret) .skip)) (.seq (.reg [⟨some 110, .mov (.tmp 0), none, none, []⟩, ⟨some 111, .mov (.tmp 8), none, none, []⟩, ⟨some 112, .ixa 1 (.tmp 110) (.tmp 111), none, none, []⟩, ⟨some 113, .load none (.tmp 112), none, none, []⟩, ⟨some 114, .bin .eql (.tmp 113) (.cst (.int .u8 1)), none, none, []⟩, ⟨some 115, .fld 2 (.tmp 12), none, none, []⟩, ⟨none, .store 1 (.tmp 115) (.tmp 114), none, none, []⟩]) (.seq (.reg [⟨some 116, .mov (.tmp 8), none, none, []⟩, ⟨some 117, .bin .add (.tmp 116) (.cst (.int .i64 1)), none, none, []⟩, ⟨some 8, .mov (.tmp 117), none, none, []⟩]) (.seq (.seq (.reg [⟨some 118, .fld 2 (.tmp 12), none, none, []⟩, ⟨some 119, .load none (.tmp 118), none, none, []⟩, ⟨some 120, .un .not (.tmp 119), none, none, []⟩]) (.cond (.tmp 120) (.seq (.seq (.reg [⟨some 121, .mov (.tmp 0), none, none, []⟩, ⟨some 122, .lenl (.tmp 121), none, none, []⟩, ⟨some 123, .mov (.tmp 8), none, none, []⟩, ⟨some 124, .bin .sub (.tmp 122) (.tmp 123), none, none, []⟩, ⟨some 125, .bin .lss (.tmp 124) (.cst (.int .i64 2)), none, none, []⟩]) (.cond (.tmp 125) (.seq (.reg [⟨some 126, .load (some 2) (.tmp 5), none, none, []⟩, ⟨some 127, .mov (.tmp 8), none, none, []⟩, ⟨none, .store 2 (.tmp 2) (.tmp 126), none, none, []⟩, ⟨some 3, .mov (.tmp 127), none, none, []⟩, ⟨some 4, .mov (.cst (.int .i64 3)), none, none, []⟩]) .ret) .skip)) (.seq (.reg [⟨some 128, .mov (.tmp 0), none, none, []⟩, ⟨some 129, .mov (.tmp 8), none, none, []⟩, ⟨some 130, .mov (.tmp 8), none, none, []⟩, ⟨some 131, .bin .add (.tmp 130) (.cst (.int .i64 2)), none, none, []⟩, ⟨some 132, .slsl 1 (.tmp 128) (some (.tmp 129)) (some (.tmp 131)), none, none, []⟩, ⟨some 133, .mov (.cst .undef), some (.cst (.func 33 []), [.tmp 132]), none, []⟩, ⟨some 134, .cvi .i64 (.tmp 133), none, none, []⟩, ⟨some 11, .mov (.tmp 134), none, none, []⟩]) (.seq (.seq (.reg [⟨some 135, .mov (.tmp 11), none, none, []⟩, ⟨some 136, .bin .gtr (.tmp 135) (.cst (.int .i64 4000)), none, none, []⟩]) (.cond (.tmp 136) (.seq (.reg [⟨some 137, .load (some 2) (.tmp 5), none, none, []⟩, ⟨some 138, .mov (.tmp 8), none, none, []⟩, ⟨none, .store 2 (.tmp 2) (.tmp 137), none, none, []⟩, ⟨some 3, .mov (.tmp 138), none, none, []⟩, ⟨some 4, .mov (.cst (.int .i64 2)), none, none, []⟩]) .ret) .skip)) (.seq (.reg [⟨some 139, .mov (.tmp 8), none, none, []⟩, ⟨some 140, .bin .add (.tmp 139) (.cst (.int .i64 2)), none, none, []⟩, ⟨some 8, .mov (.tmp 140), none, none, []⟩]) (.seq (.seq (.reg [⟨some 141, .mov (.tmp 0), none, none, []⟩, ⟨some 142, .lenl (.tmp 141), none, none, []⟩, ⟨some 143, .mov (.tmp 8), none, none, []⟩, ⟨some 144, .bin .sub (.tmp 142) (.tmp 143), none, none, []⟩, ⟨some 145, .mov (.tmp 11), none, none, []⟩, ⟨some 146, .bin .lss (.tmp 144) (.tmp 145), none, none, []⟩]) (.cond (.tmp 146) (.seq (.reg [⟨some 147, .load (some 2) (.tmp 5), none, none, []⟩, ⟨some 148, .mov (.tmp 8), none, none, []⟩, ⟨none, .store 2 (.tmp 2) (.tmp 147), none, none, []⟩, ⟨some 3, .mov (.tmp 148), none, none, []⟩, ⟨some 4, .mov (.cst (.int .i64 3)), none, none, []⟩]) .ret) .skip)) (.seq (.reg [⟨some 149, .mov (.tmp 0), none, none, []⟩, ⟨some 150, .mov (.tmp 8), none, none, []⟩, ⟨some 151, .mov (.tmp 8), none, none, []⟩, ⟨some 152, .mov (.tmp 11), none, none, []⟩, ⟨some 153, .bin .add (.tmp 151) (.tmp 152), none, none, []⟩, ⟨some 154, .slsl 1 (.tmp 149) (some (.tmp 150)) (some (.tmp 153)), none, none, []⟩, ⟨some 155, .mov (.cst .undef), some (.cst (.func 11 []), [.tmp 154, .cst (.sl 0 (some true) true [])]), none, []⟩, ⟨some 156, .fld 1 (.tmp 12), none, none, []⟩, ⟨none, .store 1 (.tmp 156) (.tmp 155), none, none, []⟩]) (.reg [⟨some 157, .mov (.tmp 8), none, none, []⟩, ⟨some 158, .mov (.tmp 11), none, none, []⟩, ⟨some 159, .bin .add (.tmp 157) (.tmp 158), none, none, []⟩, ⟨some 8, .mov (.tmp 159), none, none, []⟩]))))))) .skip)) (.reg [⟨some 160, .fld 1 (.tmp 6), none, none, []⟩, ⟨some 161, .load none (.tmp 160), none, none, []⟩, ⟨some 162, .load (some 3) (.tmp 12), none, none, []⟩, ⟨some 163, .bslice 3 1 [.str ⟨#[]⟩, .sl 0 (some true) true [], .bool false] [(0, .tmp 162)], none, none, []⟩, ⟨some 164, .app 3 48 (.tmp 161) (.tmp 163), none, none, []⟩, ⟨some 165, .fld 1 (.tmp 6), none, none, []⟩, ⟨none, .store 1 (.tmp 165) (.tmp 164), none, none, []⟩])))))))))))))))) (.reg [⟨some 44, .mov (.tmp 10), none, none, []⟩, ⟨some 45, .bin .add (.tmp 44) (.cst (.int .i64 1)), none, none, []⟩, ⟨some 10, .mov (.tmp 45), none, none, []⟩]))

def c21 : VC := .seq (.reg [⟨some 2, .alloc (.agg [.int .i64 0, .sl 0 (some true) true []]), none, none, []⟩, ⟨some 3, .mov (.cst (.int .i64 0)), none, none, []⟩, ⟨some 4, .mov (.cst (.int .i64 0)), none, none, []⟩]) (.seq (.reg [⟨some 5, .alloc (.agg [.int .i64 0, .sl 0 (some true) true []]), none, none, []⟩, ⟨some 6, .alloc (.agg [.int .i64 0, .sl 0 (some true) true []]), none, none, []⟩]) (.seq (.seq (.reg [⟨some 13, .mov (.tmp 0), none, none, []⟩, ⟨some 14, .lenl (.tmp 13), none, none, []⟩, ⟨some 15, .bin .lss (.tmp 14) (.cst (.int .i64 8)), none, none, []⟩]) (.cond (.tmp 15) (.seq (.reg [⟨some 16, .load (some 2) (.tmp 5), none, none, []⟩, ⟨none, .store 2 (.tmp 2) (.tmp 16), none, none, []⟩, ⟨some 3, .mov (.cst (.int .i64 0)), none, none, []⟩, ⟨some 4, .mov (.cst (.int .i64 3)), none, none, []⟩]) .ret) .skip)) (.seq (.reg [⟨some 17, .mov (.tmp 0), none, none, []⟩, ⟨some 18, .slsl 1 (.tmp 17) none (some (.cst (.int .i64 8))), none, none, []⟩, ⟨some 19, .mov (.cst .undef), some (.cst (.func 33 []), [.tmp 18]), none, []⟩, ⟨some 20, .cvi .i64 (.tmp 19), none, none, []⟩, ⟨some 21, .fld 0 (.tmp 6), none, none, []⟩, ⟨none, .store 1 (.tmp 21) (.tmp 20), none, none, []⟩]) (.seq (.seq (.reg [⟨some 22, .fld 0 (.tmp 6), none, none, []⟩, ⟨some 23, .load none (.tmp 22), none, none, []⟩, ⟨some 24, .bin .lss (.tmp 23) (.cst (.int .i64 1)), none, none, []⟩]) (.cond (.tmp 24) (.seq (.reg [⟨some 25, .load (some 2) (.tmp 5), none, none, []⟩, ⟨none, .store 2 (.tmp 2) (.tmp 25), none, none, []⟩, ⟨some 3, .mov (.cst (.int .i64 0)), none, none, []⟩, ⟨some 4, .mov (.cst (.int .i64 2)), none, none, []⟩]) .ret) .skip)) (.seq (.seq (.reg [⟨some 26, .mov (.tmp 0), none, none, []⟩, ⟨some 27, .lenl (.tmp 26), none, none, []⟩, ⟨some 28, .bin .lss (.tmp 27) (.cst (.int .i64 10)), none, none, []⟩]) (.cond (.tmp 28) (.seq (.reg [⟨some 29, .load (some 2) (.tmp 5), none, none, []⟩, ⟨none, .store 2 (.tmp 2) (.tmp 29), none, none, []⟩, ⟨some 3, .mov (.cst (.int .i64 8)), none, none, []⟩, ⟨some 4, .mov (.cst (.int .i64 3)), none, none, []⟩]) .ret) .skip)) (.seq (.reg [⟨some 30, .mov (.tmp 0), none, none, []⟩, ⟨some 31, .slsl 1 (.tmp 30) (some (.cst (.int .i64 8))) (some (.cst (.int .i64 10))), none, none, []⟩, ⟨some 32, .mov (.cst .undef), some (.cst (.func 33 []), [.tmp 31]), none, []⟩, ⟨some 33, .cvi .i64 (.tmp 32), none, none, []⟩, ⟨some 7, .mov (.tmp 33), none, none, []⟩]) (.seq (.seq (.reg [⟨some 34, .mov (.tmp 7), none, none, []⟩, ⟨some 35, .bin .lss (.tmp 34) (.cst (.int .i64 1)), none, none, []⟩, ⟨some 36, .mov (.tmp 35), none, none, []⟩, ⟨some 37, .mov (.tmp 7), none, some (36, false), []⟩, ⟨some 38, .bin .gtr (.tmp 37) (.cst (.int .i64 64)), none, some (36, false), []⟩, ⟨some 39, .pick (.tmp 36) (.cst (.bool true)) (.tmp 38), none, none, []⟩]) (.cond (.tmp 39) (.seq (.reg [⟨some 40, .load (some 2) (.tmp 5), none, none, []⟩, ⟨none, .store 2 (.tmp 2) (.tmp 40), none, none, []⟩, ⟨some 3, .mov (.cst (.int .i64 8)), none, none, []⟩, ⟨some 4, .mov (.cst (.int .i64 2)), none, none, []⟩]) .ret) .skip)) (.seq (.reg [⟨some 8, .mov (.cst (.int .i64 10)), none, none, []⟩]) (.seq (.reg [⟨some 9, .mov (.cst (.str ⟨#[]⟩)), none, none, []⟩]) (.seq (.seq (.reg [⟨some 10, .mov (.cst (.int .i64 0)), none, none, []⟩]) (.block 0 (.loop c21b0))) (.seq (.seq (.reg [⟨some 166, .mov (.tmp 8), none, none, []⟩, ⟨some 167, .mov (.tmp 0), none, none, []⟩, ⟨some 168, .lenl (.tmp 167), none, none, []⟩, ⟨some 169, .bin .lss (.tmp 166) (.tmp 168), none, none, []⟩]) (.cond (.tmp 169) (.seq (.reg [⟨some 170, .load (some 2) (.tmp 5), none, none, []⟩, ⟨some 171, .mov (.tmp 8), none, none, []⟩, ⟨none, .store 2 (.tmp 2) (.tmp 170), none, none, []⟩, ⟨some 3, .mov (.tmp 171), none, none, []⟩, ⟨some 4, .mov (.cst (.int .i64 2)), none, none, []⟩]) .ret) .skip)) (.seq (.reg [⟨some 172, .load (some 2) (.tmp 6), none, none, []⟩, ⟨none, .store 2 (.tmp 2) (.tmp 172), none, none, []⟩, ⟨some 3, .mov (.cst (.int .i64 0)), none, none, []⟩, ⟨some 4, .mov (.cst (.int .i64 0)), none, none, []⟩]) .ret))))))))))))

theorem f21 : fnC Tryd.prog 21 = some (173, c21, [.cell 2 (some 2), .tmp 3, .tmp 4]) := by kernel_rfl

/-! 22: countinghouse/countinghouseref01.Num -/

def c22b0 : VC := .seq (.seq (.reg [⟨some 7, .mov (.tmp 6), none, none, []⟩, ⟨some 8, .mov (.tmp 1), none, none, []⟩, ⟨some 9, .bin .lss (.tmp 7) (.tmp 8), none, none, []⟩]) (.cond (.tmp 9) .skip (.exit 0))) (.seq (.block 1 (.reg [⟨some 12, .mov (.tmp 5), none, none, []⟩, ⟨some 13, .mov (.tmp 0), none, none, []⟩, ⟨some 14, .mov (.tmp 1), none, none, []⟩, ⟨some 15, .bin .sub (.tmp 14) (.cst (.int .i64 1)), none, none, []⟩, ⟨some 16, .mov (.tmp 6), none, none, []⟩, ⟨some 17, .bin .sub (.tmp 15) (.tmp 16), none, none, []⟩, ⟨some 18, .bin .mul (.cst (.int .i64 8)) (.tmp 17), none, none, []⟩, ⟨some 19, .bin .shr (.tmp 13) (.tmp 18), none, none, []⟩, ⟨some 20, .cvi .u8 (.tmp 19), none, none, []⟩, ⟨some 21, .bslice 1 1 [.int .u8 0] [(0, .tmp 20)], none, none, []⟩, ⟨some 22, .app 1 1 (.tmp 12) (.tmp 21), none, none, []⟩, ⟨some 5, .mov (.tmp 22), none, none, []⟩])) (.reg [⟨some 10, .mov (.tmp 6), none, none, []⟩, ⟨some 11, .bin .add (.tmp 10) (.cst (.int .i64 1)), none, none, []⟩, ⟨some 6, .mov (.tmp 11), none, none, []⟩]))

def c22 : VC := .seq (.reg [⟨some 4, .mov (.cst (.sl 0 (some true) true [])), none, none, []⟩]) (.seq (.reg [⟨some 5, .mov (.cst (.sl 0 (some true) true [])), none, none, []⟩]) (.seq (.seq (.reg [⟨some 6, .mov (.cst (.int .i64 0)), none, none, []⟩]) (.block 0 (.loop c22b0))) (.seq (.reg [⟨some 23, .mov (.tmp 5), none, none, []⟩, ⟨some 4, .mov (.tmp 23), none, none, []⟩]) .ret)))

theorem f22 : fnC Tryd.prog 22 = some (24, c22, [.tmp 4]) := by kernel_rfl

/-! 23: countinghouse/countinghouseref01.Rise -/

def c23b0 : VC := .seq (.seq (.reg [⟨some 6, .mov (.tmp 5), none, none, []⟩, ⟨some 7, .mov (.tmp 0), none, none, []⟩, ⟨some 8, .lenl (.tmp 7), none, none, []⟩, ⟨some 9, .bin .lss (.tmp 6) (.tmp 8), none, none, []⟩]) (.cond (.tmp 9) .skip (.exit 2))) (.seq (.block 3 (.seq (.dreg [⟨some 12, .mov (.tmp 3), none, none, []⟩, ⟨some 13, .lenl (.tmp 12), none, none, [0]⟩, ⟨some 14, .bin .eql (.tmp 13) (.cst (.int .i64 0)), none, none, [1]⟩, ⟨some 15, .mov (.tmp 14), none, none, [2]⟩, ⟨some 16, .mov (.tmp 0), none, some (15, false), [3]⟩, ⟨some 17, .mov (.tmp 5), none, some (15, false), [3]⟩, ⟨some 18, .ixa 1 (.tmp 16) (.tmp 17), none, some (15, false), [4, 5, 3]⟩, ⟨some 19, .load none (.tmp 18), none, some (15, false), [6, 3]⟩, ⟨some 20, .mov (.tmp 3), none, some (15, false), [3]⟩, ⟨some 21, .mov (.tmp 3), none, some (15, false), [3]⟩, ⟨some 22, .lenl (.tmp 21), none, some (15, false), [9, 3]⟩, ⟨some 23, .bin .sub (.tmp 22) (.cst (.int .i64 1)), none, some (15, false), [10, 3]⟩, ⟨some 24, .ixa 1 (.tmp 20) (.tmp 23), none, some (15, false), [8, 11, 3]⟩, ⟨some 25, .load none (.tmp 24), none, some (15, false), [12, 3]⟩, ⟨some 26, .bin .gtr (.tmp 19) (.tmp 25), none, some (15, false), [7, 13, 3]⟩, ⟨some 27, .pick (.tmp 15) (.cst (.bool true)) (.tmp 26), none, none, [3, 14]⟩, ⟨some 28, .mov (.tmp 27), none, none, [15, 3]⟩, ⟨some 29, .mov (.tmp 4), none, some (28, true), [16]⟩, ⟨some 30, .bin .lss (.tmp 29) (.cst (.int .i64 0)), none, some (28, true), [17, 16]⟩, ⟨some 31, .mov (.tmp 30), none, some (28, true), [18, 16, 16]⟩, ⟨some 32, .mov (.tmp 0), none, some (31, false), [19]⟩, ⟨some 33, .mov (.tmp 5), none, some (31, false), [19]⟩, ⟨some 34, .ixa 1 (.tmp 32) (.tmp 33), none, some (31, false), [20, 21, 19]⟩, ⟨some 35, .load none (.tmp 34), none, some (31, false), [22, 19]⟩, ⟨some 36, .mov (.tmp 0), none, some (31, false), [19]⟩, ⟨some 37, .mov (.tmp 4), none, some (31, false), [19]⟩, ⟨some 38, .ixa 1 (.tmp 36) (.tmp 37), none, some (31, false), [24, 25, 19]⟩, ⟨some 39, .load none (.tmp 38), none, some (31, false), [26, 19]⟩, ⟨some 40, .bin .lss (.tmp 35) (.tmp 39), none, some (31, false), [23, 27, 19]⟩, ⟨some 41, .pick (.tmp 31) (.cst (.bool true)) (.tmp 40), none, some (28, true), [19, 28, 16]⟩, ⟨some 42, .pick (.tmp 28) (.tmp 41) (.cst (.bool false)), none, none, [16, 29]⟩]) (.cond (.tmp 42) (.reg [⟨some 43, .mov (.tmp 5), none, none, []⟩, ⟨some 4, .mov (.tmp 43), none, none, []⟩]) .skip))) (.reg [⟨some 10, .mov (.tmp 5), none, none, []⟩, ⟨some 11, .bin .add (.tmp 10) (.cst (.int .i64 1)), none, none, []⟩, ⟨some 5, .mov (.tmp 11), none, none, []⟩]))

def c23b1 : VC := .block 1 (.seq (.reg [⟨some 4, .mov (.cst (.int .i64 (-1))), none, none, []⟩]) (.seq (.seq (.reg [⟨some 5, .mov (.cst (.int .i64 0)), none, none, []⟩]) (.block 2 (.loop c23b0))) (.seq (.seq (.reg [⟨some 44, .mov (.tmp 4), none, none, []⟩, ⟨some 45, .bin .lss (.tmp 44) (.cst (.int .i64 0)), none, none, []⟩]) (.cond (.tmp 45) (.seq (.reg [⟨some 46, .mov (.tmp 3), none, none, []⟩, ⟨some 2, .mov (.tmp 46), none, none, []⟩]) .ret) .skip)) (.reg [⟨some 47, .mov (.tmp 3), none, none, []⟩, ⟨some 48, .mov (.tmp 0), none, none, []⟩, ⟨some 49, .mov (.tmp 4), none, none, []⟩, ⟨some 50, .ixa 1 (.tmp 48) (.tmp 49), none, none, []⟩, ⟨some 51, .load none (.tmp 50), none, none, []⟩, ⟨some 52, .bslice 1 1 [.str ⟨#[]⟩] [(0, .tmp 51)], none, none, []⟩, ⟨some 53, .app 1 16 (.tmp 47) (.tmp 52), none, none, []⟩, ⟨some 3, .mov (.tmp 53), none, none, []⟩]))))

def c23 : VC := .seq (.reg [⟨some 2, .mov (.cst (.sl 0 (some true) true [])), none, none, []⟩]) (.seq (.reg [⟨some 3, .mov (.cst (.sl 0 (some true) true [])), none, none, []⟩]) (.block 0 (.loop c23b1)))

theorem f23 : fnC Tryd.prog 23 = some (54, c23, [.tmp 2]) := by kernel_rfl

/-! 24: (*countinghouse/record.reader).batch -/

def c24b0 : VC := .seq (.reg [⟨some 29, .bin .lss (.tmp 28) (.tmp 27), none, none, []⟩]) (.seq (.cond (.tmp 29) .skip (.exit 0)) (.seq (.block 1 (.seq (.reg [⟨some 31, .mov (.tmp 0), none, none, []⟩, ⟨some 32, .mov (.tmp 5), none, none, []⟩, ⟨some 33, .mov (.cst .undef), some (.cst (.func 35 []), [.tmp 31, .tmp 32]), none, []⟩, ⟨some 30, .mov (.tmp 33), none, none, []⟩, ⟨some 34, .ext (.tmp 30) 0, none, none, []⟩, ⟨some 35, .ext (.tmp 30) 1, none, none, []⟩, ⟨some 6, .alloc (.agg [.str ⟨#[]⟩, .sl 0 (some true) true [], .bool false]), none, none, []⟩, ⟨none, .store 3 (.tmp 6) (.tmp 34), none, none, []⟩, ⟨some 7, .mov (.tmp 35), none, none, []⟩]) (.seq (.seq (.reg [⟨some 36, .mov (.tmp 7), none, none, []⟩, ⟨some 37, .eqn .iface true (.tmp 36) (.cst .niliface), none, none, []⟩]) (.cond (.tmp 37) (.seq (.reg [⟨some 38, .load (some 2) (.tmp 2), none, none, []⟩, ⟨some 39, .mov (.tmp 7), none, none, []⟩, ⟨none, .store 2 (.tmp 2) (.tmp 38), none, none, []⟩, ⟨some 3, .mov (.tmp 39), none, none, []⟩]) .ret) .skip)) (.seq (.reg [⟨some 40, .fld 1 (.tmp 2), none, none, []⟩, ⟨some 41, .load none (.tmp 40), none, none, []⟩, ⟨some 42, .load (some 3) (.tmp 6), none, none, []⟩, ⟨some 43, .bslice 3 1 [.str ⟨#[]⟩, .sl 0 (some true) true [], .bool false] [(0, .tmp 42)], none, none, []⟩, ⟨some 44, .app 3 48 (.tmp 41) (.tmp 43), none, none, []⟩, ⟨some 45, .fld 1 (.tmp 2), none, none, []⟩, ⟨none, .store 1 (.tmp 45) (.tmp 44), none, none, []⟩]) (.reg [⟨some 46, .fld 0 (.tmp 6), none, none, []⟩, ⟨some 47, .load none (.tmp 46), none, none, []⟩, ⟨some 5, .mov (.tmp 47), none, none, []⟩]))))) (.reg [⟨some 48, .bin .add (.tmp 28) (.cst (.int .i64 1)), none, none, []⟩, ⟨some 28, .mov (.tmp 48), none, none, []⟩])))

def c24 : VC := .seq (.reg [⟨some 2, .alloc (.agg [.int .i64 0, .sl 0 (some true) true []]), none, none, []⟩, ⟨some 3, .mov (.cst .niliface), none, none, []⟩]) (.seq (.seq (.reg [⟨some 9, .mov (.tmp 0), none, none, []⟩, ⟨some 10, .mov (.cst .undef), some (.cst (.func 34 []), [.tmp 9, .cst (.int .i64 8), .cst (.int .i64 1), .cst (.int .i64 9223372036854775807)]), none, []⟩, ⟨some 8, .mov (.tmp 10), none, none, []⟩, ⟨some 11, .ext (.tmp 8) 0, none, none, []⟩, ⟨some 12, .ext (.tmp 8) 1, none, none, []⟩, ⟨some 13, .fld 0 (.tmp 2), none, none, []⟩, ⟨none, .store 1 (.tmp 13) (.tmp 11), none, none, []⟩, ⟨some 3, .mov (.tmp 12), none, none, []⟩]) (.seq (.reg [⟨some 14, .mov (.tmp 3), none, none, []⟩, ⟨some 15, .eqn .iface true (.tmp 14) (.cst .niliface), none, none, []⟩]) (.cond (.tmp 15) (.seq (.reg [⟨some 16, .load (some 2) (.tmp 2), none, none, []⟩, ⟨some 17, .mov (.tmp 3), none, none, []⟩, ⟨none, .store 2 (.tmp 2) (.tmp 16), none, none, []⟩, ⟨some 3, .mov (.tmp 17), none, none, []⟩]) .ret) .skip))) (.seq (.reg [⟨some 19, .mov (.tmp 0), none, none, []⟩, ⟨some 20, .mov (.cst .undef), some (.cst (.func 34 []), [.tmp 19, .cst (.int .i64 2), .cst (.int .i64 1), .cst (.int .i64 64)]), none, []⟩, ⟨some 18, .mov (.tmp 20), none, none, []⟩, ⟨some 21, .ext (.tmp 18) 0, none, none, []⟩, ⟨some 22, .ext (.tmp 18) 1, none, none, []⟩, ⟨some 4, .mov (.tmp 21), none, none, []⟩, ⟨some 3, .mov (.tmp 22), none, none, []⟩]) (.seq (.seq (.reg [⟨some 23, .mov (.tmp 3), none, none, []⟩, ⟨some 24, .eqn .iface true (.tmp 23) (.cst .niliface), none, none, []⟩]) (.cond (.tmp 24) (.seq (.reg [⟨some 25, .load (some 2) (.tmp 2), none, none, []⟩, ⟨some 26, .mov (.tmp 3), none, none, []⟩, ⟨none, .store 2 (.tmp 2) (.tmp 25), none, none, []⟩, ⟨some 3, .mov (.tmp 26), none, none, []⟩]) .ret) .skip)) (.seq (.reg [⟨some 5, .mov (.cst (.str ⟨#[]⟩)), none, none, []⟩]) (.seq (.seq (.reg [⟨some 27, .mov (.tmp 4), none, none, []⟩, ⟨some 28, .mov (.cst (.int .i64 0)), none, none, []⟩]) (.block 0 (.loop c24b0))) (.seq (.seq (.dreg [⟨some 49, .mov (.tmp 0), none, none, []⟩, ⟨some 50, .nilck (.tmp 49), none, none, [0]⟩, ⟨some 51, .fld 1 (.tmp 50), none, none, [1]⟩, ⟨some 52, .load none (.tmp 51), none, none, [2]⟩, ⟨some 53, .mov (.tmp 0), none, none, []⟩, ⟨some 54, .nilck (.tmp 53), none, none, [4]⟩, ⟨some 55, .fld 0 (.tmp 54), none, none, [5]⟩, ⟨some 56, .load none (.tmp 55), none, none, [6]⟩, ⟨some 57, .lenl (.tmp 56), none, none, [7]⟩, ⟨some 58, .bin .lss (.tmp 52) (.tmp 57), none, none, [3, 8]⟩]) (.cond (.tmp 58) (.seq (.dreg [⟨some 59, .load (some 2) (.tmp 2), none, none, []⟩, ⟨some 60, .mov (.tmp 0), none, none, []⟩, ⟨some 61, .nilck (.tmp 60), none, none, [1]⟩, ⟨some 62, .fld 1 (.tmp 61), none, none, [2]⟩, ⟨some 63, .load none (.tmp 62), none, none, [3]⟩, ⟨some 64, .build [.int .i64 0, .int .i64 0] [(0, (1, .tmp 63)), (1, (1, .cst (.int .i64 2)))], none, none, [4]⟩, ⟨some 65, .box (.tmp 64), none, none, [5]⟩, ⟨some 66, .ifc 61 (.tmp 65), none, none, [6]⟩, ⟨none, .store 2 (.tmp 2) (.tmp 59), none, none, [0, 0]⟩, ⟨some 3, .mov (.tmp 66), none, none, [7, 8, 0, 1, 2, 3, 4, 5, 6, 7, 8]⟩]) .ret) .skip)) (.seq (.reg [⟨some 67, .load (some 2) (.tmp 2), none, none, []⟩, ⟨none, .store 2 (.tmp 2) (.tmp 67), none, none, []⟩, ⟨some 3, .mov (.cst .niliface), none, none, []⟩]) .ret)))))))

theorem f24 : fnC Tryd.prog 24 = some (68, c24, [.cell 2 (some 2), .tmp 3]) := by kernel_rfl

/-! 27: countinghouse/record.fits -/

def c27 : VC := .seq (.reg [⟨some 2, .box (.tmp 0), none, none, []⟩, ⟨some 4, .mov (.cst (.bool false)), none, none, []⟩]) (.seq (.reg [⟨some 5, .fld 0 (.tmp 2), none, none, []⟩, ⟨some 6, .load none (.tmp 5), none, none, []⟩, ⟨some 7, .lens (.tmp 6), none, none, []⟩, ⟨some 8, .bin .geq (.tmp 7) (.cst (.int .i64 1)), none, none, []⟩, ⟨some 9, .mov (.tmp 8), none, none, []⟩, ⟨some 10, .fld 0 (.tmp 2), none, some (9, true), []⟩, ⟨some 11, .load none (.tmp 10), none, some (9, true), []⟩, ⟨some 12, .lens (.tmp 11), none, some (9, true), []⟩, ⟨some 13, .bin .leq (.tmp 12) (.cst (.int .i64 4000)), none, some (9, true), []⟩, ⟨some 14, .pick (.tmp 9) (.tmp 13) (.cst (.bool false)), none, none, []⟩, ⟨some 15, .mov (.tmp 14), none, none, []⟩, ⟨some 16, .fld 1 (.tmp 2), none, some (15, true), []⟩, ⟨some 17, .load none (.tmp 16), none, some (15, true), []⟩, ⟨some 18, .lenl (.tmp 17), none, some (15, true), []⟩, ⟨some 19, .bin .leq (.tmp 18) (.cst (.int .i64 4000)), none, some (15, true), []⟩, ⟨some 20, .pick (.tmp 15) (.tmp 19) (.cst (.bool false)), none, none, []⟩, ⟨some 21, .mov (.tmp 20), none, none, []⟩, ⟨some 22, .fld 0 (.tmp 2), none, some (21, true), []⟩, ⟨some 23, .load none (.tmp 22), none, some (21, true), []⟩, ⟨some 24, .mov (.tmp 1), none, some (21, true), []⟩, ⟨some 25, .bin .gtr (.tmp 23) (.tmp 24), none, some (21, true), []⟩, ⟨some 26, .pick (.tmp 21) (.tmp 25) (.cst (.bool false)), none, none, []⟩, ⟨some 27, .mov (.tmp 26), none, none, []⟩, ⟨some 28, .fld 2 (.tmp 2), none, some (27, true), []⟩, ⟨some 29, .load none (.tmp 28), none, some (27, true), []⟩, ⟨some 30, .un .not (.tmp 29), none, some (27, true), []⟩, ⟨some 31, .mov (.tmp 30), none, some (27, true), []⟩, ⟨some 32, .fld 1 (.tmp 2), none, some (31, false), []⟩, ⟨some 33, .load none (.tmp 32), none, some (31, false), []⟩, ⟨some 34, .lenl (.tmp 33), none, some (31, false), []⟩, ⟨some 35, .bin .eql (.tmp 34) (.cst (.int .i64 0)), none, some (31, false), []⟩, ⟨some 36, .pick (.tmp 31) (.cst (.bool true)) (.tmp 35), none, some (27, true), []⟩, ⟨some 37, .pick (.tmp 27) (.tmp 36) (.cst (.bool false)), none, none, []⟩, ⟨some 4, .mov (.tmp 37), none, none, []⟩]) .ret)

theorem f27 : fnC Tryd.prog 27 = some (38, c27, [.tmp 4]) := by kernel_rfl

/-! 28: slices.EqualFunc[[]countinghouse/api.Write,[]countinghouse/api.Write,countinghouse/api.Write,countinghouse/api.Write] -/

def c28b0 : VC := .seq (.reg [⟨some 18, .bin .lss (.tmp 17) (.tmp 16), none, none, []⟩]) (.seq (.cond (.tmp 18) .skip (.exit 0)) (.seq (.block 1 (.seq (.reg [⟨some 19, .mov (.tmp 17), none, none, []⟩, ⟨some 20, .ixa 3 (.tmp 15) (.tmp 17), none, none, []⟩, ⟨some 21, .load (some 3) (.tmp 20), none, none, []⟩, ⟨some 8, .alloc (.agg [.str ⟨#[]⟩, .sl 0 (some true) true [], .bool false]), none, none, []⟩, ⟨some 7, .mov (.tmp 19), none, none, []⟩, ⟨none, .store 3 (.tmp 8) (.tmp 21), none, none, []⟩]) (.seq (.reg [⟨some 22, .mov (.tmp 1), none, none, []⟩, ⟨some 23, .mov (.tmp 7), none, none, []⟩, ⟨some 24, .ixa 3 (.tmp 22) (.tmp 23), none, none, []⟩, ⟨some 25, .load (some 3) (.tmp 24), none, none, []⟩, ⟨some 9, .alloc (.agg [.str ⟨#[]⟩, .sl 0 (some true) true [], .bool false]), none, none, []⟩, ⟨none, .store 3 (.tmp 9) (.tmp 25), none, none, []⟩]) (.seq (.reg [⟨some 26, .mov (.tmp 2), none, none, []⟩, ⟨some 27, .load (some 3) (.tmp 8), none, none, []⟩, ⟨some 28, .load (some 3) (.tmp 9), none, none, []⟩, ⟨some 29, .mov (.cst .undef), some (.tmp 26, [.tmp 27, .tmp 28]), none, []⟩, ⟨some 30, .un .not (.tmp 29), none, none, []⟩]) (.cond (.tmp 30) (.seq (.reg [⟨some 6, .mov (.cst (.bool false)), none, none, []⟩]) .ret) .skip))))) (.reg [⟨some 31, .bin .add (.tmp 17) (.cst (.int .i64 1)), none, none, []⟩, ⟨some 17, .mov (.tmp 31), none, none, []⟩])))

def c28 : VC := .seq (.reg [⟨some 6, .mov (.cst (.bool false)), none, none, []⟩]) (.seq (.seq (.reg [⟨some 10, .mov (.tmp 0), none, none, []⟩, ⟨some 11, .lenl (.tmp 10), none, none, []⟩, ⟨some 12, .mov (.tmp 1), none, none, []⟩, ⟨some 13, .lenl (.tmp 12), none, none, []⟩, ⟨some 14, .bin .neq (.tmp 11) (.tmp 13), none, none, []⟩]) (.cond (.tmp 14) (.seq (.reg [⟨some 6, .mov (.cst (.bool false)), none, none, []⟩]) .ret) .skip)) (.seq (.seq (.reg [⟨some 15, .mov (.tmp 0), none, none, []⟩, ⟨some 16, .lenl (.tmp 15), none, none, []⟩, ⟨some 17, .mov (.cst (.int .i64 0)), none, none, []⟩]) (.block 0 (.loop c28b0))) (.seq (.reg [⟨some 6, .mov (.cst (.bool true)), none, none, []⟩]) .ret)))

theorem f28 : fnC Tryd.prog 28 = some (32, c28, [.tmp 6]) := by kernel_rfl

/-! 29: countinghouse/record.Same$1 -/

def c29 : VC := .seq (.reg [⟨some 2, .box (.tmp 0), none, none, []⟩, ⟨some 3, .box (.tmp 1), none, none, []⟩, ⟨some 4, .mov (.cst (.bool false)), none, none, []⟩]) (.seq (.reg [⟨some 5, .fld 0 (.tmp 2), none, none, []⟩, ⟨some 6, .load none (.tmp 5), none, none, []⟩, ⟨some 7, .fld 0 (.tmp 3), none, none, []⟩, ⟨some 8, .load none (.tmp 7), none, none, []⟩, ⟨some 9, .bin .eql (.tmp 6) (.tmp 8), none, none, []⟩, ⟨some 10, .mov (.tmp 9), none, none, []⟩, ⟨some 11, .fld 2 (.tmp 2), none, some (10, true), []⟩, ⟨some 12, .load none (.tmp 11), none, some (10, true), []⟩, ⟨some 13, .fld 2 (.tmp 3), none, some (10, true), []⟩, ⟨some 14, .load none (.tmp 13), none, some (10, true), []⟩, ⟨some 15, .eqb false (.tmp 12) (.tmp 14), none, some (10, true), []⟩, ⟨some 16, .pick (.tmp 10) (.tmp 15) (.cst (.bool false)), none, none, []⟩, ⟨some 17, .mov (.tmp 16), none, none, []⟩, ⟨some 18, .fld 1 (.tmp 2), none, some (17, true), []⟩, ⟨some 19, .load none (.tmp 18), none, some (17, true), []⟩, ⟨some 20, .fld 1 (.tmp 3), none, some (17, true), []⟩, ⟨some 21, .load none (.tmp 20), none, some (17, true), []⟩, ⟨some 22, .mov (.cst .undef), some (.cst (.func 30 []), [.tmp 19, .tmp 21]), some (17, true), []⟩, ⟨some 23, .pick (.tmp 17) (.tmp 22) (.cst (.bool false)), none, none, []⟩, ⟨some 4, .mov (.tmp 23), none, none, []⟩]) .ret)

theorem f29 : fnC Tryd.prog 29 = some (24, c29, [.tmp 4]) := by kernel_rfl

/-! 30: bytes.Equal -/

def c30 : VC := .seq (.reg [⟨some 4, .mov (.cst (.bool false)), none, none, []⟩]) (.seq (.reg [⟨some 5, .mov (.tmp 0), none, none, []⟩, ⟨some 6, .cvbs (.tmp 5), none, none, []⟩, ⟨some 7, .mov (.tmp 1), none, none, []⟩, ⟨some 8, .cvbs (.tmp 7), none, none, []⟩, ⟨some 9, .bin .eql (.tmp 6) (.tmp 8), none, none, []⟩, ⟨some 4, .mov (.tmp 9), none, none, []⟩]) .ret)

theorem f30 : fnC Tryd.prog 30 = some (10, c30, [.tmp 4]) := by kernel_rfl

/-! 31: countinghouse/record.number -/

def c31b0 : VC := .seq (.seq (.reg [⟨some 10, .mov (.tmp 7), none, none, []⟩, ⟨some 11, .bin .geq (.tmp 10) (.cst (.int .i64 0)), none, none, []⟩]) (.cond (.tmp 11) .skip (.exit 0))) (.seq (.block 1 (.reg [⟨some 14, .mov (.tmp 0), none, none, []⟩, ⟨some 15, .mov (.tmp 1), none, none, []⟩, ⟨some 16, .mov (.tmp 7), none, none, []⟩, ⟨some 17, .bin .mul (.cst (.int .i64 8)) (.tmp 16), none, none, []⟩, ⟨some 18, .bin .shr (.tmp 15) (.tmp 17), none, none, []⟩, ⟨some 19, .cvi .u8 (.tmp 18), none, none, []⟩, ⟨some 20, .bslice 1 1 [.int .u8 0] [(0, .tmp 19)], none, none, []⟩, ⟨some 21, .app 1 1 (.tmp 14) (.tmp 20), none, none, []⟩, ⟨some 0, .mov (.tmp 21), none, none, []⟩])) (.reg [⟨some 12, .mov (.tmp 7), none, none, []⟩, ⟨some 13, .bin .sub (.tmp 12) (.cst (.int .i64 1)), none, none, []⟩, ⟨some 7, .mov (.tmp 13), none, none, []⟩]))

def c31 : VC := .seq (.reg [⟨some 6, .mov (.cst (.sl 0 (some true) true [])), none, none, []⟩]) (.seq (.seq (.reg [⟨some 8, .mov (.tmp 2), none, none, []⟩, ⟨some 9, .bin .sub (.tmp 8) (.cst (.int .i64 1)), none, none, []⟩, ⟨some 7, .mov (.tmp 9), none, none, []⟩]) (.block 0 (.loop c31b0))) (.seq (.reg [⟨some 22, .mov (.tmp 0), none, none, []⟩, ⟨some 6, .mov (.tmp 22), none, none, []⟩]) .ret))

theorem f31 : fnC Tryd.prog 31 = some (23, c31, [.tmp 6]) := by kernel_rfl

/-! 32: countinghouse/record.blob -/

def c32 : VC := .seq (.reg [⟨some 4, .mov (.cst (.sl 0 (some true) true [])), none, none, []⟩]) (.seq (.reg [⟨some 5, .mov (.tmp 0), none, none, []⟩, ⟨some 6, .mov (.tmp 1), none, none, []⟩, ⟨some 7, .lenl (.tmp 6), none, none, []⟩, ⟨some 8, .cvi .u64 (.tmp 7), none, none, []⟩, ⟨some 9, .mov (.cst .undef), some (.cst (.func 31 []), [.tmp 5, .tmp 8, .cst (.int .i64 2)]), none, []⟩, ⟨some 10, .mov (.tmp 1), none, none, []⟩, ⟨some 11, .app 1 1 (.tmp 9) (.tmp 10), none, none, []⟩, ⟨some 4, .mov (.tmp 11), none, none, []⟩]) .ret)

theorem f32 : fnC Tryd.prog 32 = some (12, c32, [.tmp 4]) := by kernel_rfl

/-! 33: countinghouse/countinghouseref01.Read -/

def c33b0 : VC := .seq (.seq (.reg [⟨some 5, .mov (.tmp 4), none, none, []⟩, ⟨some 6, .mov (.tmp 0), none, none, []⟩, ⟨some 7, .lenl (.tmp 6), none, none, []⟩, ⟨some 8, .bin .lss (.tmp 5) (.tmp 7), none, none, []⟩]) (.cond (.tmp 8) .skip (.exit 0))) (.seq (.block 1 (.reg [⟨some 11, .mov (.tmp 3), none, none, []⟩, ⟨some 12, .bin .mul (.cst (.int .u64 256)) (.tmp 11), none, none, []⟩, ⟨some 13, .mov (.tmp 0), none, none, []⟩, ⟨some 14, .mov (.tmp 4), none, none, []⟩, ⟨some 15, .ixa 1 (.tmp 13) (.tmp 14), none, none, []⟩, ⟨some 16, .load none (.tmp 15), none, none, []⟩, ⟨some 17, .cvi .u64 (.tmp 16), none, none, []⟩, ⟨some 18, .bin .add (.tmp 12) (.tmp 17), none, none, []⟩, ⟨some 3, .mov (.tmp 18), none, none, []⟩])) (.reg [⟨some 9, .mov (.tmp 4), none, none, []⟩, ⟨some 10, .bin .add (.tmp 9) (.cst (.int .i64 1)), none, none, []⟩, ⟨some 4, .mov (.tmp 10), none, none, []⟩]))

def c33 : VC := .seq (.reg [⟨some 2, .mov (.cst (.int .u64 0)), none, none, []⟩]) (.seq (.reg [⟨some 3, .mov (.cst (.int .u64 0)), none, none, []⟩]) (.seq (.seq (.reg [⟨some 4, .mov (.cst (.int .i64 0)), none, none, []⟩]) (.block 0 (.loop c33b0))) (.seq (.reg [⟨some 19, .mov (.tmp 3), none, none, []⟩, ⟨some 2, .mov (.tmp 19), none, none, []⟩]) .ret)))

theorem f33 : fnC Tryd.prog 33 = some (20, c33, [.tmp 2]) := by kernel_rfl

/-! 34: (*countinghouse/record.reader).number -/

def c34b0 : VC := .seq (.reg [⟨some 33, .bin .lss (.tmp 32) (.tmp 31), none, none, []⟩]) (.seq (.cond (.tmp 33) .skip (.exit 0)) (.seq (.block 1 (.seq (.reg [⟨some 34, .ixa 1 (.tmp 30) (.tmp 32), none, none, []⟩, ⟨some 35, .load none (.tmp 34), none, none, []⟩, ⟨some 15, .mov (.tmp 35), none, none, []⟩]) (.reg [⟨some 36, .mov (.tmp 13), none, none, []⟩, ⟨some 37, .bin .shl (.tmp 36) (.cst (.int .u64 8)), none, none, []⟩, ⟨some 38, .mov (.tmp 15), none, none, []⟩, ⟨some 39, .cvi .u64 (.tmp 38), none, none, []⟩, ⟨some 40, .bin .or (.tmp 37) (.tmp 39), none, none, []⟩, ⟨some 13, .mov (.tmp 40), none, none, []⟩]))) (.reg [⟨some 41, .bin .add (.tmp 32) (.cst (.int .i64 1)), none, none, []⟩, ⟨some 32, .mov (.tmp 41), none, none, []⟩])))

def c34 : VC := .seq (.reg [⟨some 8, .mov (.cst (.int .i64 0)), none, none, []⟩, ⟨some 9, .mov (.cst .niliface), none, none, []⟩]) (.seq (.reg [⟨some 17, .mov (.tmp 0), none, none, []⟩, ⟨some 18, .nilck (.tmp 17), none, none, []⟩, ⟨some 19, .fld 1 (.tmp 18), none, none, []⟩, ⟨some 20, .load none (.tmp 19), none, none, []⟩, ⟨some 10, .mov (.tmp 20), none, none, []⟩]) (.seq (.reg [⟨some 22, .mov (.tmp 0), none, none, []⟩, ⟨some 23, .mov (.tmp 1), none, none, []⟩, ⟨some 24, .mov (.cst .undef), some (.cst (.func 42 []), [.tmp 22, .tmp 23]), none, []⟩, ⟨some 21, .mov (.tmp 24), none, none, []⟩, ⟨some 25, .ext (.tmp 21) 0, none, none, []⟩, ⟨some 26, .ext (.tmp 21) 1, none, none, []⟩, ⟨some 11, .mov (.tmp 25), none, none, []⟩, ⟨some 12, .mov (.tmp 26), none, none, []⟩]) (.seq (.seq (.reg [⟨some 27, .mov (.tmp 12), none, none, []⟩, ⟨some 28, .eqn .iface true (.tmp 27) (.cst .niliface), none, none, []⟩]) (.cond (.tmp 28) (.seq (.reg [⟨some 29, .mov (.tmp 12), none, none, []⟩, ⟨some 8, .mov (.cst (.int .i64 0)), none, none, []⟩, ⟨some 9, .mov (.tmp 29), none, none, []⟩]) .ret) .skip)) (.seq (.reg [⟨some 13, .mov (.cst (.int .u64 0)), none, none, []⟩]) (.seq (.seq (.reg [⟨some 30, .mov (.tmp 11), none, none, []⟩, ⟨some 31, .lenl (.tmp 30), none, none, []⟩, ⟨some 32, .mov (.cst (.int .i64 0)), none, none, []⟩]) (.block 0 (.loop c34b0))) (.seq (.seq (.reg [⟨some 42, .mov (.tmp 13), none, none, []⟩, ⟨some 43, .cvi .i64 (.tmp 42), none, none, []⟩, ⟨some 16, .mov (.tmp 43), none, none, []⟩]) (.seq (.reg [⟨some 44, .mov (.tmp 16), none, none, []⟩, ⟨some 45, .mov (.tmp 2), none, none, []⟩, ⟨some 46, .bin .geq (.tmp 44) (.tmp 45), none, none, []⟩, ⟨some 47, .mov (.tmp 46), none, none, []⟩, ⟨some 48, .mov (.tmp 16), none, some (47, true), []⟩, ⟨some 49, .mov (.tmp 3), none, some (47, true), []⟩, ⟨some 50, .bin .leq (.tmp 48) (.tmp 49), none, some (47, true), []⟩, ⟨some 51, .pick (.tmp 47) (.tmp 50) (.cst (.bool false)), none, none, []⟩]) (.cond (.tmp 51) (.seq (.reg [⟨some 52, .mov (.tmp 16), none, none, []⟩, ⟨some 8, .mov (.tmp 52), none, none, []⟩, ⟨some 9, .mov (.cst .niliface), none, none, []⟩]) .ret) .skip))) (.seq (.reg [⟨some 53, .mov (.tmp 10), none, none, []⟩, ⟨some 54, .build [.int .i64 0, .int .i64 0] [(0, (1, .tmp 53)), (1, (1, .cst (.int .i64 2)))], none, none, []⟩, ⟨some 55, .box (.tmp 54), none, none, []⟩, ⟨some 56, .ifc 61 (.tmp 55), none, none, []⟩, ⟨some 8, .mov (.cst (.int .i64 0)), none, none, []⟩, ⟨some 9, .mov (.tmp 56), none, none, []⟩]) .ret)))))))

theorem f34 : fnC Tryd.prog 34 = some (57, c34, [.tmp 8, .tmp 9]) := by kernel_rfl

/-! 35: (*countinghouse/record.reader).write -/

def c35 : VC := .seq (.reg [⟨some 4, .alloc (.agg [.str ⟨#[]⟩, .sl 0 (some true) true [], .bool false]), none, none, []⟩, ⟨some 5, .mov (.cst .niliface), none, none, []⟩]) (.seq (.reg [⟨some 11, .mov (.tmp 0), none, none, []⟩, ⟨some 12, .mov (.cst .undef), some (.cst (.func 43 []), [.tmp 11, .cst (.int .i64 1)]), none, []⟩, ⟨some 10, .mov (.tmp 12), none, none, []⟩, ⟨some 13, .ext (.tmp 10) 0, none, none, []⟩, ⟨some 14, .ext (.tmp 10) 1, none, none, []⟩, ⟨some 6, .mov (.tmp 13), none, none, []⟩, ⟨some 7, .mov (.tmp 14), none, none, []⟩]) (.seq (.seq (.reg [⟨some 15, .mov (.tmp 7), none, none, []⟩, ⟨some 16, .eqn .iface true (.tmp 15) (.cst .niliface), none, none, []⟩]) (.cond (.tmp 16) (.seq (.reg [⟨some 17, .build [.str ⟨#[]⟩, .sl 0 (some true) true [], .bool false] [], none, none, []⟩, ⟨some 18, .mov (.tmp 7), none, none, []⟩, ⟨none, .store 3 (.tmp 4) (.tmp 17), none, none, []⟩, ⟨some 5, .mov (.tmp 18), none, none, []⟩]) .ret) .skip)) (.seq (.seq (.reg [⟨some 19, .mov (.tmp 6), none, none, []⟩, ⟨some 20, .cvbs (.tmp 19), none, none, []⟩, ⟨some 21, .mov (.tmp 1), none, none, []⟩, ⟨some 22, .bin .leq (.tmp 20) (.tmp 21), none, none, []⟩]) (.cond (.tmp 22) (.seq (.dreg [⟨some 23, .build [.str ⟨#[]⟩, .sl 0 (some true) true [], .bool false] [], none, none, []⟩, ⟨some 24, .mov (.tmp 0), none, none, []⟩, ⟨some 25, .nilck (.tmp 24), none, none, [1]⟩, ⟨some 26, .fld 1 (.tmp 25), none, none, [2]⟩, ⟨some 27, .load none (.tmp 26), none, none, [3]⟩, ⟨some 28, .mov (.tmp 6), none, none, []⟩, ⟨some 29, .lenl (.tmp 28), none, none, [5]⟩, ⟨some 30, .bin .sub (.tmp 27) (.tmp 29), none, none, [4, 6]⟩, ⟨some 31, .build [.int .i64 0, .int .i64 0] [(0, (1, .tmp 30)), (1, (1, .cst (.int .i64 2)))], none, none, [7]⟩, ⟨some 32, .box (.tmp 31), none, none, [8]⟩, ⟨some 33, .ifc 61 (.tmp 32), none, none, [9]⟩, ⟨none, .store 3 (.tmp 4) (.tmp 23), none, none, [0, 0]⟩, ⟨some 5, .mov (.tmp 33), none, none, [10, 11, 0, 1, 2, 3, 4, 5, 6, 7, 8, 9, 10, 11]⟩]) .ret) .skip)) (.seq (.reg [⟨some 35, .mov (.tmp 0), none, none, []⟩, ⟨some 36, .mov (.cst .undef), some (.cst (.func 34 []), [.tmp 35, .cst (.int .i64 1), .cst (.int .i64 0), .cst (.int .i64 1)]), none, []⟩, ⟨some 34, .mov (.tmp 36), none, none, []⟩, ⟨some 37, .ext (.tmp 34) 0, none, none, []⟩, ⟨some 38, .ext (.tmp 34) 1, none, none, []⟩, ⟨some 8, .mov (.tmp 37), none, none, []⟩, ⟨some 7, .mov (.tmp 38), none, none, []⟩]) (.seq (.seq (.reg [⟨some 39, .mov (.tmp 7), none, none, []⟩, ⟨some 40, .eqn .iface true (.tmp 39) (.cst .niliface), none, none, []⟩]) (.cond (.tmp 40) (.seq (.reg [⟨some 41, .build [.str ⟨#[]⟩, .sl 0 (some true) true [], .bool false] [], none, none, []⟩, ⟨some 42, .mov (.tmp 7), none, none, []⟩, ⟨none, .store 3 (.tmp 4) (.tmp 41), none, none, []⟩, ⟨some 5, .mov (.tmp 42), none, none, []⟩]) .ret) .skip)) (.seq (.reg [⟨some 43, .mov (.tmp 6), none, none, []⟩, ⟨some 44, .cvbs (.tmp 43), none, none, []⟩, ⟨some 45, .mov (.tmp 8), none, none, []⟩, ⟨some 46, .bin .eql (.tmp 45) (.cst (.int .i64 1)), none, none, []⟩, ⟨some 47, .build [.str ⟨#[]⟩, .sl 0 (some true) true [], .bool false] [(0, (1, .tmp 44)), (2, (1, .tmp 46))], none, none, []⟩, ⟨some 9, .alloc (.agg [.str ⟨#[]⟩, .sl 0 (some true) true [], .bool false]), none, none, []⟩, ⟨none, .store 3 (.tmp 9) (.tmp 47), none, none, []⟩]) (.seq (.seq (.reg [⟨some 48, .fld 2 (.tmp 9), none, none, []⟩, ⟨some 49, .load none (.tmp 48), none, none, []⟩, ⟨some 50, .un .not (.tmp 49), none, none, []⟩]) (.cond (.tmp 50) (.reg [⟨some 52, .mov (.tmp 0), none, none, []⟩, ⟨some 53, .mov (.cst .undef), some (.cst (.func 43 []), [.tmp 52, .cst (.int .i64 0)]), none, []⟩, ⟨some 51, .mov (.tmp 53), none, none, []⟩, ⟨some 54, .ext (.tmp 51) 0, none, none, []⟩, ⟨some 55, .ext (.tmp 51) 1, none, none, []⟩, ⟨some 56, .fld 1 (.tmp 9), none, none, []⟩, ⟨none, .store 1 (.tmp 56) (.tmp 54), none, none, []⟩, ⟨some 7, .mov (.tmp 55), none, none, []⟩]) .skip)) (.seq (.reg [⟨some 57, .load (some 3) (.tmp 9), none, none, []⟩, ⟨some 58, .mov (.tmp 7), none, none, []⟩, ⟨none, .store 3 (.tmp 4) (.tmp 57), none, none, []⟩, ⟨some 5, .mov (.tmp 58), none, none, []⟩]) .ret))))))))

theorem f35 : fnC Tryd.prog 35 = some (59, c35, [.cell 4 (some 3), .tmp 5]) := by kernel_rfl

/-! 42: (*countinghouse/record.reader).take -/

def c42 : VC := .seq (.reg [⟨some 4, .mov (.cst (.sl 0 (some true) true [])), none, none, []⟩, ⟨some 5, .mov (.cst .niliface), none, none, []⟩]) (.seq (.seq (.dreg [⟨some 7, .mov (.tmp 0), none, none, []⟩, ⟨some 8, .nilck (.tmp 7), none, none, [0]⟩, ⟨some 9, .fld 0 (.tmp 8), none, none, [1]⟩, ⟨some 10, .load none (.tmp 9), none, none, [2]⟩, ⟨some 11, .lenl (.tmp 10), none, none, [3]⟩, ⟨some 12, .mov (.tmp 0), none, none, []⟩, ⟨some 13, .nilck (.tmp 12), none, none, [5]⟩, ⟨some 14, .fld 1 (.tmp 13), none, none, [6]⟩, ⟨some 15, .load none (.tmp 14), none, none, [7]⟩, ⟨some 16, .bin .sub (.tmp 11) (.tmp 15), none, none, [4, 8]⟩, ⟨some 17, .mov (.tmp 1), none, none, []⟩, ⟨some 18, .bin .lss (.tmp 16) (.tmp 17), none, none, [9, 10]⟩]) (.cond (.tmp 18) (.seq (.dreg [⟨some 19, .mov (.tmp 0), none, none, []⟩, ⟨some 20, .nilck (.tmp 19), none, none, [0]⟩, ⟨some 21, .fld 1 (.tmp 20), none, none, [1]⟩, ⟨some 22, .load none (.tmp 21), none, none, [2]⟩, ⟨some 23, .build [.int .i64 0, .int .i64 0] [(0, (1, .tmp 22)), (1, (1, .cst (.int .i64 3)))], none, none, [3]⟩, ⟨some 24, .box (.tmp 23), none, none, [4]⟩, ⟨some 25, .ifc 61 (.tmp 24), none, none, [5]⟩, ⟨some 4, .mov (.cst (.sl 0 (some true) true [])), none, none, []⟩, ⟨some 5, .mov (.tmp 25), none, none, [6, 7, 0, 1, 2, 3, 4, 5, 6, 7]⟩]) .ret) .skip)) (.seq (.dreg [⟨some 26, .mov (.tmp 0), none, none, []⟩, ⟨some 27, .nilck (.tmp 26), none, none, [0]⟩, ⟨some 28, .fld 0 (.tmp 27), none, none, [1]⟩, ⟨some 29, .load none (.tmp 28), none, none, [2]⟩, ⟨some 30, .mov (.tmp 0), none, none, []⟩, ⟨some 31, .nilck (.tmp 30), none, none, [4]⟩, ⟨some 32, .fld 1 (.tmp 31), none, none, [5]⟩, ⟨some 33, .load none (.tmp 32), none, none, [6]⟩, ⟨some 34, .mov (.tmp 0), none, none, []⟩, ⟨some 35, .nilck (.tmp 34), none, none, [8]⟩, ⟨some 36, .fld 1 (.tmp 35), none, none, [9]⟩, ⟨some 37, .load none (.tmp 36), none, none, [10]⟩, ⟨some 38, .mov (.tmp 1), none, none, []⟩, ⟨some 39, .bin .add (.tmp 37) (.tmp 38), none, none, [11, 12]⟩, ⟨some 40, .slsl 1 (.tmp 29) (some (.tmp 33)) (some (.tmp 39)), none, none, [3, 7, 13]⟩, ⟨some 6, .mov (.tmp 40), none, none, [14, 0, 1, 2, 3, 4, 5, 6, 7, 8, 9, 10, 11, 12, 13, 14]⟩]) (.seq (.reg [⟨some 41, .mov (.tmp 0), none, none, []⟩, ⟨some 42, .nilck (.tmp 41), none, none, []⟩, ⟨some 43, .fld 1 (.tmp 42), none, none, []⟩, ⟨some 44, .load none (.tmp 43), none, none, []⟩, ⟨some 45, .mov (.tmp 1), none, none, []⟩, ⟨some 46, .bin .add (.tmp 44) (.tmp 45), none, none, []⟩, ⟨some 47, .nilck (.tmp 41), none, none, []⟩, ⟨some 48, .fld 1 (.tmp 47), none, none, []⟩, ⟨none, .store 1 (.tmp 48) (.tmp 46), none, none, []⟩]) (.seq (.reg [⟨some 49, .mov (.tmp 6), none, none, []⟩, ⟨some 50, .mov (.cst .undef), some (.cst (.func 46 []), [.tmp 49]), none, []⟩, ⟨some 4, .mov (.tmp 50), none, none, []⟩, ⟨some 5, .mov (.cst .niliface), none, none, []⟩]) .ret))))

theorem f42 : fnC Tryd.prog 42 = some (51, c42, [.tmp 4, .tmp 5]) := by kernel_rfl

/-! 43: (*countinghouse/record.reader).blob -/

def c43 : VC := .seq (.reg [⟨some 4, .mov (.cst (.sl 0 (some true) true [])), none, none, []⟩, ⟨some 5, .mov (.cst .niliface), none, none, []⟩]) (.seq (.reg [⟨some 9, .mov (.tmp 0), none, none, []⟩, ⟨some 10, .mov (.tmp 1), none, none, []⟩, ⟨some 11, .mov (.cst .undef), some (.cst (.func 34 []), [.tmp 9, .cst (.int .i64 2), .tmp 10, .cst (.int .i64 4000)]), none, []⟩, ⟨some 8, .mov (.tmp 11), none, none, []⟩, ⟨some 12, .ext (.tmp 8) 0, none, none, []⟩, ⟨some 13, .ext (.tmp 8) 1, none, none, []⟩, ⟨some 6, .mov (.tmp 12), none, none, []⟩, ⟨some 7, .mov (.tmp 13), none, none, []⟩]) (.seq (.seq (.reg [⟨some 14, .mov (.tmp 7), none, none, []⟩, ⟨some 15, .eqn .iface true (.tmp 14) (.cst .niliface), none, none, []⟩]) (.cond (.tmp 15) (.seq (.reg [⟨some 16, .mov (.tmp 7), none, none, []⟩, ⟨some 4, .mov (.cst (.sl 0 (some true) true [])), none, none, []⟩, ⟨some 5, .mov (.tmp 16), none, none, []⟩]) .ret) .skip)) (.seq (.reg [⟨some 17, .mov (.tmp 0), none, none, []⟩, ⟨some 18, .mov (.tmp 6), none, none, []⟩, ⟨some 19, .mov (.cst .undef), some (.cst (.func 42 []), [.tmp 17, .tmp 18]), none, []⟩, ⟨some 20, .ext (.tmp 19) 0, none, none, []⟩, ⟨some 21, .ext (.tmp 19) 1, none, none, []⟩, ⟨some 4, .mov (.tmp 20), none, none, []⟩, ⟨some 5, .mov (.tmp 21), none, none, []⟩]) .ret)))

theorem f43 : fnC Tryd.prog 43 = some (22, c43, [.tmp 4, .tmp 5]) := by kernel_rfl

/-! 46: bytes.Clone -/

def c46 : VC := .seq (.reg [⟨some 2, .mov (.cst (.sl 0 (some true) true [])), none, none, []⟩]) (.seq (.seq (.reg [⟨some 3, .mov (.tmp 0), none, none, []⟩, ⟨some 4, .eqn .slice false (.tmp 3) (.cst (.sl 0 (some true) true [])), none, none, []⟩]) (.cond (.tmp 4) (.seq (.reg [⟨some 2, .mov (.cst (.sl 0 (some true) true [])), none, none, []⟩]) .ret) .skip)) (.seq (.reg [⟨some 5, .bslice 1 0 [.int .u8 0] [], none, none, []⟩, ⟨some 6, .mov (.tmp 0), none, none, []⟩, ⟨some 7, .app 1 1 (.tmp 5) (.tmp 6), none, none, []⟩, ⟨some 2, .mov (.tmp 7), none, none, []⟩]) .ret))

theorem f46 : fnC Tryd.prog 46 = some (8, c46, [.tmp 2]) := by kernel_rfl

end Go.Proofs.YtjbgdmebpnfpnaaDoor.V

/- What was shown of another layer, at this layer's numbers. -/
namespace Go.Proofs.YtjbgdmebpnfpnaaDoor.V

open Go.IntWalk

/-- The number of bytes, the highest first. -/
def num (l : List UInt8) : UInt64 := l.foldl (fun n b => n <<< 8 ||| b.toUInt64) 0

theorem numStep (n : UInt64) (b : UInt8) : IntKind.u64.wrap ((BitVec.ofInt 64 (IntKind.u64.wrap ((n.toNat : Int) * 2 ^ 8))) ||| BitVec.ofInt 64 (IntKind.u64.wrap (b.toNat : Int))).toNat = ((n <<< 8 ||| b.toUInt64).toNat : Int) := by
  rw [w_u64, w_u64, w_u64]
  have h1 := n.toNat_lt
  have h2 := b.toNat_lt
  have e1 : BitVec.ofInt 64 ((n.toNat : Int) * 2 ^ 8 % 18446744073709551616) = n.toBitVec <<< 8 := by
    apply BitVec.eq_of_toNat_eq
    rw [BitVec.toNat_ofInt, BitVec.toNat_shiftLeft, Nat.shiftLeft_eq]
    simp only [UInt64.toNat_toBitVec]
    omega
  have e2 : BitVec.ofInt 64 ((b.toNat : Int) % 18446744073709551616) = b.toUInt64.toBitVec := by
    apply BitVec.eq_of_toNat_eq
    rw [BitVec.toNat_ofInt]
    simp only [UInt64.toNat_toBitVec, UInt8.toNat_toUInt64]
    omega
  rw [e1, e2]
  have e3 : (n <<< 8 ||| b.toUInt64).toBitVec = (n.toBitVec <<< 8 ||| b.toUInt64.toBitVec) := by
    simp [UInt64.toBitVec_or, UInt64.toBitVec_shiftLeft]
  rw [← e3]
  have := (n <<< 8 ||| b.toUInt64).toNat_lt
  simp only [UInt64.toNat_toBitVec]
  omega

theorem num_snoc (l : List UInt8) (b : UInt8) : num (l ++ [b]) = num l <<< 8 ||| b.toUInt64 := by simp [num]

def numAt (l : List UInt8) (k : Nat) : List (Nat × AV) := [(3, .int .u64 (num (l.take k)).toNat), (6, .sl 1 none false (bs l)), (7, .int .i64 l.length), (8, .int .i64 k)]

/-! Read -/

theorem readStep (n : UInt64) (b : UInt8) : IntKind.u64.wrap (IntKind.u64.wrap (256 * (n.toNat : Int)) + IntKind.u64.wrap (b.toNat : Int)) = ((n <<< 8 ||| b.toUInt64).toNat : Int) := by
  rw [← numStep, w_u64, w_u64, w_u64, w_u64, w_u64]
  have h1 := n.toNat_lt
  have h2 := b.toNat_lt
  have e1 : BitVec.ofInt 64 ((n.toNat : Int) * 2 ^ 8 % 18446744073709551616) = n.toBitVec <<< 8 := by
    apply BitVec.eq_of_toNat_eq
    rw [BitVec.toNat_ofInt, BitVec.toNat_shiftLeft, Nat.shiftLeft_eq]
    simp only [UInt64.toNat_toBitVec]
    omega
  have e2 : (BitVec.ofInt 64 ((b.toNat : Int) % 18446744073709551616)).toNat = b.toNat := by
    rw [BitVec.toNat_ofInt]
    omega
  rw [BitVec.toNat_or, e1, e2, BitVec.toNat_shiftLeft]
  simp only [UInt64.toNat_toBitVec, Nat.shiftLeft_eq]
  have e4 : n.toNat * 2 ^ 8 % 2 ^ 64 ||| b.toNat = n.toNat * 2 ^ 8 % 2 ^ 64 + b.toNat := by
    have e5 : n.toNat * 2 ^ 8 % 2 ^ 64 = (n.toNat % 2 ^ 56) <<< 8 := by rw [Nat.shiftLeft_eq]; omega
    rw [e5, Nat.shiftLeft_add_eq_or_of_lt (by omega)]
  rw [e4]
  omega

def readAt (l : List UInt8) (k : Nat) : List (Nat × AV) := [(0, .sl 1 none false (bs l)), (3, .int .u64 (num (l.take k)).toNat), (4, .int .i64 k)]

theorem readLoop (l : List UInt8) (Q : VE → Sy → Prop) (hl : l.length ≤ 1000000) (hQ : Q (.exit 0) ⟨[], (8, .bool (decide ((l.length : Int) < (bs l).length))) :: (7, .int .i64 (bs l).length) :: (6, .sl 1 none false (bs l)) :: (5, .int .i64 l.length) :: readAt l l.length, []⟩) :
    ∀ m k, k + m = l.length → VloopS Tryd.prog (tr []) 20 0 c33b0 Q ⟨[], readAt l k, []⟩
  | 0, k, hk => by
    have e : k = l.length := by omega
    subst e
    refine VloopS.round ?_
    refine cond_f (decide_eq_false (by rw [bs_len]; omega)) ?_
    exact hQ
  | m + 1, k, hk => by
    have hlt : k < l.length := by omega
    refine VloopS.round ?_
    refine cond_t (decide_eq_true (by rw [bs_len]; omega)) ?_
    refine And.intro rfl (And.intro (Int.natCast_nonneg k) (Exists.intro [.int .u8 (l[k].toNat : Int)] (And.intro (bs_get hlt) ?_)))
    refine VloopS.weak (l := readAt l (k + 1)) rfl ?_ (Nat.zero_le _) (readLoop l Q hl hQ m (k + 1) (by omega))
    refine ⟨.refl _, .eq ?_, .eq ?_, trivial⟩
    · refine congrArg (AV.int .u64) ((readStep (num (l.take k)) l[k]).trans ?_)
      rw [take_snoc l k hlt, num_snoc]
    · exact congrArg (AV.int .i64) (i64_in _ (by omega))

theorem readN (nl : Option Bool) (own : Bool) (l : List UInt8) (hl : l.length ≤ 1000000) : PCallN Tryd.prog 33 [.sl 1 nl own (bs l)] (.int .u64 (num l).toNat) := by
  refine PCallN.of (tr []) f33 (Nat.le_of_ble_eq_true rfl) (np_cons (np_bs _) np_nil) (.int _ _) ?_
  refine VloopS.weak (l := readAt l 0) rfl ⟨.both _ _ _ _, .refl _, .refl _, trivial⟩ (Nat.zero_le _) (readLoop l _ hl ?_ l.length 0 (by omega))
  exact int_eq (by rw [List.take_length])

/-! Join, Clone -/

theorem joinN (nl nl' : Option Bool) (own own' : Bool) (a b : List UInt8) (h : a.length + b.length ≤ 1000000) : PCallN Tryd.prog 11 [.sl 1 nl own (bs a), .sl 1 nl' own' (bs b)] (.sl 1 none true (bs (a ++ b))) := by
  refine PCallN.of (tr [4, 5, 9]) f11 (Nat.le_of_ble_eq_true rfl) (np_cons (np_bs _) (np_cons (np_bs _) np_nil)) (np_bs _) ?_
  refine And.intro (.inr ⟨rfl, rfl⟩) (And.intro (.inl rfl) (And.intro ?_ ?_))
  · simp only [List.length_nil, bs_len]; omega
  refine And.intro (.inl ⟨rfl, rfl⟩) (And.intro (.inl rfl) (And.intro ?_ ?_))
  · simp only [List.length_append, List.length_nil, bs_len]; omega
  exact sl_eq (bs_app a b)

theorem cloneN (nl : Option Bool) (own : Bool) (l : List UInt8) (h : l.length ≤ 1000000) : PCallN Tryd.prog 46 [.sl 1 nl own (bs l)] (.sl 1 none false (bs l)) := by
  have hn : ∀ a, a ∈ [AV.sl 1 nl own (bs l)] → NP (fun _ => False) a := np_cons (np_bs _) np_nil
  refine PCallN.weakArgs (args' := [.sl 1 none own (bs l)]) (.cons _ _ _ _ (.nl _ _ _ _) .nil) hn ?_
  refine PCallN.splitNil 0 rfl (np_cons (np_bs _) np_nil) (fun e => ?_) ?_
  · have el : l = [] := by simpa [bs] using e
    subst el
    refine PCallN.weakRet (ret := .sl 0 (some true) false []) (.nil _ _ _ _ _ (by simp)) ?_
    refine PCallN.of (tr []) f46 (Nat.le_of_ble_eq_true rfl) (np_cons np_nilsl np_nil) np_nilsl ?_
    refine cond_t rfl ?_
    exact sl_eq rfl
  · refine PCallN.weakRet (ret := .sl 1 (some false) false (bs l)) (.nl _ _ _ _) ?_
    refine PCallN.of (tr []) f46 (Nat.le_of_ble_eq_true rfl) (np_cons (np_bs _) np_nil) (np_bs _) ?_
    refine cond_f rfl ?_
    refine And.intro (.inl ⟨rfl, rfl⟩) (And.intro (.inl rfl) (And.intro ?_ ?_))
    · simp only [List.length_nil, bs_len]; omega
    exact sl_eq rfl

/-! Bytes -/

def byAt (a b : List UInt8) (k : Nat) : List (Nat × AV) := [(0, .sl 1 none false (bs a)), (1, .sl 1 none false (bs b)), (5, .int .i64 k)]

theorem byLoop (a b : List UInt8) (Q : VE → Sy → Prop) (he : a.length = b.length) (hl : a.length ≤ 1000000)
    (hQ : a = b → Q (.exit 0) ⟨[], (14, .bool (decide ((a.length : Int) < (bs a).length))) :: (13, .int .i64 (bs a).length) :: (12, .sl 1 none false (bs a)) :: (11, .int .i64 a.length) :: byAt a b a.length, []⟩)
    (hr : ∀ σ : Sy, a ≠ b → σ.get 4 = .bool false → Q .ret σ) :
    ∀ m k, k + m = a.length → a.take k = b.take k → VloopS Tryd.prog (tr []) 26 0 c20b0 Q ⟨[], byAt a b k, []⟩
  | 0, k, hk, ht => by
    have e : k = a.length := by omega
    subst e
    refine VloopS.round ?_
    refine cond_f (decide_eq_false (by rw [bs_len]; omega)) ?_
    refine hQ ?_
    rw [List.take_length, he, List.take_length] at ht
    exact ht
  | m + 1, k, hk, ht => by
    have hlt : k < a.length := by omega
    have hlt' : k < b.length := by omega
    refine VloopS.round ?_
    refine cond_t (decide_eq_true (by rw [bs_len]; omega)) ?_
    refine And.intro rfl (And.intro (Int.natCast_nonneg k) (Exists.intro [.int .u8 (a[k].toNat : Int)] (And.intro (bs_get hlt) ?_)))
    refine And.intro rfl (And.intro (Int.natCast_nonneg k) (Exists.intro [.int .u8 (b[k].toNat : Int)] (And.intro (bs_get hlt') ?_)))
    refine And.intro (by kernel_rfl) ?_
    by_cases hab : a[k] = b[k]
    · refine cond_f (by rw [hab]; exact bne_self_eq_false _) ?_
      refine VloopS.weak (l := byAt a b (k + 1)) rfl ?_ (Nat.zero_le _) (byLoop a b Q he hl hQ hr m (k + 1) (by omega) (by rw [take_snoc a k hlt, take_snoc b k hlt', ht, hab]))
      exact ⟨.refl _, .refl _, .eq (congrArg (AV.int .i64) (i64_in _ (by omega))), trivial⟩
    · refine cond_t (bne_iff_ne.2 fun e => hab (UInt8.toNat_inj.1 (by omega))) ?_
      exact hr _ (fun e => hab (by subst e; rfl)) rfl

theorem bytesN (nl nl' : Option Bool) (own own' : Bool) (a b : List UInt8) (ha : a.length ≤ 1000000) : PCallN Tryd.prog 20 [.sl 1 nl own (bs a), .sl 1 nl' own' (bs b)] (.bool (decide (a = b))) := by
  refine PCallN.of (tr []) f20 (Nat.le_of_ble_eq_true rfl) (np_cons (np_bs _) (np_cons (np_bs _) np_nil)) (.bool _) ?_
  by_cases he : a.length = b.length
  · refine cond_f (by rw [bs_len, bs_len, he]; exact bne_self_eq_false _) ?_
    refine VloopS.weak (l := byAt a b 0) rfl ⟨.both _ _ _ _, .both _ _ _ _, .refl _, trivial⟩ (Nat.zero_le _) (byLoop a b _ he ha (fun e => ?_) (fun σ hne hσ => ?_) a.length 0 (by omega) rfl)
    · exact bool_eq (decide_eq_true e).symm
    · exact hσ.trans (bool_eq (decide_eq_false hne).symm)
  · refine cond_t (bne_iff_ne.2 (by rw [bs_len, bs_len]; omega)) ?_
    exact bool_eq (decide_eq_false fun e => he (by rw [e])).symm

open Go.IntWalk

structure Va where
  k : UInt8
  n : Int
  s : List UInt8
  deriving DecidableEq

def Va.c (v : Va) : List AV := [.int .u8 v.k.toNat, .int .i64 v.n, .str (st v.s)]
def Va.av (v : Va) : AV := .agg v.c

theorem Va.np {ok : Nat → Prop} (v : Va) : NP ok v.av := .agg _ (np_cons (.int _ _) (np_cons (.int _ _) (np_cons (.str _) np_nil)))

theorem w_u8 (n : Int) : IntKind.u8.wrap n = n % 256 := by simp [IntKind.wrap, IntKind.bits, IntKind.signed]

def byteAt (n : Int) (i : Nat) : UInt8 := UInt8.ofNat (n / 2 ^ (8 * i) % 256).toNat

theorem byteAt_toNat (n : Int) (i : Nat) : ((byteAt n i).toNat : Int) = n / 2 ^ (8 * i) % 256 := by
  unfold byteAt
  have h1 : 0 ≤ n / 2 ^ (8 * i) % 256 := Int.emod_nonneg _ (by decide)
  have h2 : n / 2 ^ (8 * i) % 256 < 256 := Int.emod_lt_of_pos _ (by decide)
  simp only [UInt8.toNat_ofNat']
  omega

/-- So many bytes of a number, the highest first. -/
def be (n : Int) : Nat → List UInt8
  | 0 => []
  | m + 1 => byteAt n m :: be n m

theorem be_len (n : Int) (m : Nat) : (be n m).length = m := by
  induction m with
  | zero => rfl
  | succ m ih => simp [be, ih]

def Va.enc (v : Va) : List UInt8 := v.k :: (if v.k = 1 then be v.n 8 else if v.k = 2 then be v.s.length 2 ++ v.s else [])

theorem shr_byte (n : Int) (m : Nat) (hm : m ≤ 7) : IntKind.u8.wrap (n.fdiv (2 ^ min (IntKind.i64.wrap (8 * (m : Int))).toNat 64)) = ((byteAt n m).toNat : Int) := by
  rw [byteAt_toNat, w_u8, i64_in _ (by omega)]
  have : min (8 * (m : Int)).toNat 64 = 8 * m := by omega
  rw [this, Int.fdiv_eq_ediv_of_nonneg _ (Int.pow_nonneg (by decide))]

def encAt (_v : Va) (p : List UInt8) (m : Nat) : List (Nat × AV) := [(1, .ptr (some (0, 0))), (3, .sl 1 none true (bs p)), (4, .int .i64 ((m : Int) - 1))]

theorem u8_eq {k : UInt8} {c : Int} (h : (k.toNat : Int) = c) : ((k.toNat : Int) == c) = true := beq_iff_eq.2 h
theorem u8_ne {k : UInt8} {c : Int} (h : (k.toNat : Int) ≠ c) : ((k.toNat : Int) == c) = false := beq_eq_false_iff_ne.2 h
theorem u8_val {k c : UInt8} (h : k ≠ c) : (k.toNat : Int) ≠ (c.toNat : Int) := fun e => h (UInt8.toNat_inj.1 (by omega))

theorem low_byte (n : Int) : IntKind.u8.wrap n = ((byteAt n 0).toNat : Int) := by
  rw [byteAt_toNat, w_u8]
  simp

open Go.IntWalk

def nmAt (x : Int) (size : Nat) (p : List UInt8) (m : Nat) : List (Nat × AV) := [(0, .int .u64 x), (1, .int .i64 size), (5, .sl 1 none true (bs p)), (6, .int .i64 ((size : Int) - m))]

theorem nmLoop (x : Int) (size : Nat) (hs : size ≤ 8) (Q : VE → Sy → Prop) (hQ : Q (.exit 0) ⟨[], (9, .bool (decide ((size : Int) - (0 : Nat) < size))) :: (8, .int .i64 size) :: (7, .int .i64 ((size : Int) - (0 : Nat))) :: nmAt x size (be x size) 0, []⟩) :
    ∀ m p, m ≤ size → p ++ be x m = be x size → VloopS Tryd.prog (tr [5, 12]) 24 0 c22b0 Q ⟨[], nmAt x size p m, []⟩
  | 0, p, hm, hp => by
    have e : p = be x size := by simpa [be] using hp
    subst e
    refine VloopS.round ?_
    refine cond_f (decide_eq_false (by omega)) ?_
    exact hQ
  | m + 1, p, hm, hp => by
    refine VloopS.round ?_
    have hl : p.length + (m + 1) = size := by
      have := congrArg List.length hp
      rw [List.length_append, be_len, be_len] at this
      exact this
    refine cond_t (decide_eq_true (by omega)) ?_
    have e0 : IntKind.i64.wrap (IntKind.i64.wrap ((size : Int) - 1) - ((size : Int) - ((m + 1 : Nat) : Int))) = (m : Int) := by
      rw [i64_in ((size : Int) - 1) (by omega), i64_in _ (by omega)]; omega
    refine And.intro ?_ ?_
    · rw [e0, i64_in _ (by omega)]; omega
    refine And.intro (.inl ⟨rfl, rfl⟩) (And.intro (.inl rfl) (And.intro ?_ ?_))
    · simp only [List.length_cons, List.length_nil, bs_len]; omega
    refine VloopS.weak (l := nmAt x size (p ++ [byteAt x m]) m) rfl ?_ (Nat.zero_le _) (nmLoop x size hs Q hQ m (p ++ [byteAt x m]) (by omega) (by rw [← hp]; simp [be]))
    refine ⟨.refl _, .refl _, .eq (sl_eq ?_), .eq (int_eq ?_), trivial⟩
    · rw [← bs_app]
      refine congrArg (bs p ++ ·) ?_
      refine congrArg (fun x => [[AV.int .u8 x]]) ?_
      rw [e0]
      exact shr_byte x m (by omega)
    · rw [i64_in _ (by omega)]; omega

theorem numSN (x : Int) (size : Nat) (hs : size ≤ 8) : PCallN Tryd.prog 22 [.int .u64 x, .int .i64 size] (.sl 1 none true (bs (be x size))) := by
  refine PCallN.of (tr [4, 5, 12, 23]) f22 (Nat.le_of_ble_eq_true rfl) (np_cons (.int _ _) (np_cons (.int _ _) np_nil)) (np_bs _) ?_
  refine VloopS.weak (l := nmAt x size [] size) rfl ⟨.refl _, .refl _, .nil _ _ _ _ _ (by simp), .eq (int_eq (by omega)), trivial⟩ (Nat.zero_le _) ?_
  refine nmLoop x size hs _ ?_ size [] (Nat.le_refl _) rfl
  exact sl_eq rfl

theorem be_u64 (n : Int) : be (IntKind.u64.wrap n) 8 = be n 8 := by
  rw [w_u64]
  have key : ∀ i, i ≤ 7 → byteAt (n % 18446744073709551616) i = byteAt n i := by
    intro i hi
    apply UInt8.toNat_inj.1
    have h1 := byteAt_toNat (n % 18446744073709551616) i
    have h2 := byteAt_toNat n i
    have h3 : n % 18446744073709551616 / 2 ^ (8 * i) % 256 = n / 2 ^ (8 * i) % 256 := by
      have : i = 0 ∨ i = 1 ∨ i = 2 ∨ i = 3 ∨ i = 4 ∨ i = 5 ∨ i = 6 ∨ i = 7 := by omega
      rcases this with rfl | rfl | rfl | rfl | rfl | rfl | rfl | rfl <;> omega
    omega
  simp only [be, key 7 (by decide), key 6 (by decide), key 5 (by decide), key 4 (by decide), key 3 (by decide), key 2 (by decide), key 1 (by decide), key 0 (by decide)]

end Go.Proofs.YtjbgdmebpnfpnaaDoor.V

/- The reader: take. -/
namespace Go.Proofs.YtjbgdmebpnfpnaaDoor.V
open Go.IntWalk Go.Lib

/-- The reader's box. -/
def rd (p : List UInt8) (at_ : Int) : HObj := .cells [.sl 1 none false (bs p), .int .i64 at_]

/-- A fault: where, what. -/
def flt (at_ e : Int) : AV := .iface 61 (.rptr [.int .i64 at_, .int .i64 e])

theorem rd_npo {ok : Nat → Prop} (p : List UInt8) (a : Int) : NPo ok (rd p a) := np_cons (np_bs _) (np_cons (.int _ _) np_nil)
theorem flt_np {ok : Nat → Prop} (a e : Int) : NP ok (flt a e) := .iface _ _ (.rptr _ (np_cons (.int _ _) (np_cons (.int _ _) np_nil)))

theorem takeShort (p : List UInt8) (a n : Nat) (hp : p.length ≤ 100000) (ha : a ≤ p.length) (hn : p.length - a < n) : VCall Tryd.prog 42 [.ptr (some (0, 0)), .int .i64 n] [rd p a] (.tup [.sl 0 (some true) false [], flt a 3]) [rd p a] := by
  refine VCall.ofS (tr [1000025]) f42 (Nat.le_of_ble_eq_true rfl) (Nat.le_refl _) (.tup _ (np_cons np_nilsl (np_cons (flt_np _ _) np_nil))) (fun i o h => .inl h) ?_
  refine And.intro (by kernel_rfl) ?_
  refine cond_t (by rw [bs_len, i64_in _ (by omega)]; exact decide_eq_true (by omega)) ?_
  refine And.intro (by kernel_rfl) ?_
  exact ⟨⟨_, rfl⟩, rfl⟩

theorem takeOk (p : List UInt8) (a n : Nat) (hp : p.length ≤ 100000) (hn : a + n ≤ p.length) : VCall Tryd.prog 42 [.ptr (some (0, 0)), .int .i64 n] [rd p a] (.tup [.sl 1 none false (bs ((p.drop a).take n)), .niliface]) [rd p ((a + n : Nat) : Int)] := by
  refine VCall.ofS (tr []) f42 (Nat.le_of_ble_eq_true rfl) (Nat.le_refl _) (.tup _ (np_cons (np_bs _) (np_cons .niliface np_nil))) (fun i o h => ?_) ?_
  · match i with
    | 0 =>
      have : o = rd p ((a + n : Nat) : Int) := by simpa using h.symm
      subst this
      exact .inr (rd_npo _ _)
    | i + 1 => simp at h
  refine And.intro (by kernel_rfl) ?_
  refine cond_f (by rw [bs_len, i64_in _ (by omega)]; exact decide_eq_false (by omega)) ?_
  have hw : IntKind.i64.wrap ((a : Int) + (n : Int)) = ((a + n : Nat) : Int) := by rw [i64_in _ (by omega)]; omega
  refine And.intro (.inl rfl) (And.intro ⟨Int.natCast_nonneg _, by rw [hw]; omega, by rw [hw, bs_len]; omega⟩ ?_)
  refine And.intro (by kernel_rfl) ?_
  have hcut : ((bs p).drop (a : Int).toNat).take ((IntKind.i64.wrap ((a : Int) + (n : Int))).toNat - (a : Int).toNat) = bs ((p.drop a).take n) := by
    rw [hw, bs_drop, bs_take]
    congr 2
    omega
  refine call_p (by rw [hcut]; exact cloneN _ _ _ (by simp; omega)) ?_
  exact ⟨⟨[], by rw [hw]; rfl⟩, rfl⟩

end Go.Proofs.YtjbgdmebpnfpnaaDoor.V

/- The reader: number, blob. -/
namespace Go.Proofs.YtjbgdmebpnfpnaaDoor.V
open Go.IntWalk Go.Lib

def nuAt (q : List UInt8) (lo hi a : Int) (i : Nat) : List (Nat × AV) := [(2, .int .i64 lo), (3, .int .i64 hi), (10, .int .i64 a), (13, .int .u64 (num (q.take i)).toNat), (30, .sl 1 none false (bs q)), (31, .int .i64 q.length), (32, .int .i64 i)]

theorem nuLoop (q : List UInt8) (lo hi a : Int) (p : List UInt8) (b : Int) (hl : q.length ≤ 1000) (R : VE → Sy → Prop) (hR : R (.exit 0) ⟨[], [(2, .int .i64 lo), (3, .int .i64 hi), (10, .int .i64 a), (13, .int .u64 (num q).toNat)], [rd p b]⟩) :
    ∀ (g i : Nat), i + g = q.length → VloopS Tryd.prog (tr [1000056]) 57 1 c34b0 (exW 57 R) ⟨[], nuAt q lo hi a i, [rd p b]⟩
  | 0, i, hg => by
    have e : q.take i = q := List.take_of_length_le (by omega)
    refine VloopS.round ?_
    refine cond_f (decide_eq_false (by omega)) ?_
    exact ex_w hR rfl ⟨.refl _, .refl _, .refl _, .eq (by show AV.int .u64 (num (q.take i)).toNat = _; rw [e]), trivial⟩ rfl
  | g + 1, i, hg => by
    have hlt : i < q.length := by omega
    refine VloopS.round ?_
    refine cond_t (decide_eq_true (by omega)) ?_
    refine And.intro rfl (And.intro (Int.natCast_nonneg i) (Exists.intro [.int .u8 (q[i].toNat : Int)] (And.intro (bs_get hlt) ?_)))
    refine And.intro (by decide) ?_
    refine VloopS.weakE (l := nuAt q lo hi a (i + 1)) (h := [rd p b]) rfl ⟨.refl _, .refl _, .refl _, .eq (int_eq ?_), .refl _, .refl _, .eq (int_eq (by rw [i64_in _ (by omega)]; omega)), trivial⟩ rfl (Nat.le_refl _) (nuLoop q lo hi a p b hl R hR g (i + 1) (by omega))
    refine (numStep (num (q.take i)) q[i]).trans ?_
    rw [take_snoc q i hlt, num_snoc]

/-- A number of the reader's. -/
def nv (l : List UInt8) : Int := IntKind.i64.wrap ((num l).toNat : Int)

theorem numShort (p : List UInt8) (a n : Nat) (lo hi : Int) (hp : p.length ≤ 100000) (ha : a ≤ p.length) (hn : p.length - a < n) : VCall Tryd.prog 34 [.ptr (some (0, 0)), .int .i64 n, .int .i64 lo, .int .i64 hi] [rd p a] (.tup [.int .i64 0, flt a 3]) [rd p a] := by
  refine VCall.ofS (tr [1000056]) f34 (Nat.le_of_ble_eq_true rfl) (Nat.le_refl _) (.tup _ (np_cons (.int _ _) (np_cons (flt_np _ _) np_nil))) (fun i o h => .inl h) ?_
  refine call_b (np_cons (.int _ _) np_nil) (rd_npo _ _) (rd_npo _ _) (.tup _ (np_cons np_nilsl (np_cons (flt_np _ _) np_nil))) (takeShort p a n hp ha hn) ?_
  refine cond_t rfl ?_
  exact ⟨⟨[], rfl⟩, rfl⟩

theorem numOk (p : List UInt8) (a n : Nat) (lo hi : Int) (hp : p.length ≤ 100000) (hn : a + n ≤ p.length) (hn8 : n ≤ 8) (h1 : lo ≤ nv ((p.drop a).take n)) (h2 : nv ((p.drop a).take n) ≤ hi) : VCall Tryd.prog 34 [.ptr (some (0, 0)), .int .i64 n, .int .i64 lo, .int .i64 hi] [rd p a] (.tup [.int .i64 (nv ((p.drop a).take n)), .niliface]) [rd p ((a + n : Nat) : Int)] := by
  refine VCall.ofS (tr [1000056]) f34 (Nat.le_of_ble_eq_true rfl) (Nat.le_refl _) (.tup _ (np_cons (.int _ _) (np_cons .niliface np_nil))) (fun i o h => ?_) ?_
  · match i with
    | 0 =>
      have : o = rd p ((a + n : Nat) : Int) := by simpa using h.symm
      subst this
      exact .inr (rd_npo _ _)
    | i + 1 => simp at h
  refine call_b (np_cons (.int _ _) np_nil) (rd_npo _ _) (rd_npo _ _) (.tup _ (np_cons (np_bs _) (np_cons .niliface np_nil))) (takeOk p a n hp hn) ?_
  refine cond_f rfl ?_
  generalize hq : (p.drop a).take n = q at h1 h2
  have hql : q.length ≤ 1000 := by rw [← hq]; simp; omega
  refine VloopS.weakE (l := nuAt q lo hi a 0) (h := [rd p ((a + n : Nat) : Int)]) rfl ⟨.refl _, .refl _, .refl _, .refl _, .refl _, .eq (int_eq (by rw [bs_len])), .eq (int_eq rfl), trivial⟩ rfl (Nat.le_refl _) (VloopS.exW (nuLoop q lo hi a p ((a + n : Nat) : Int) hql _ ?_ q.length 0 (by omega)))
  refine guard_t (decide_eq_true h1) ?_
  repeat (first | refine guard_t rfl ?_ | refine guard_f (by decide) ?_)
  refine cond_t (decide_eq_true h2) ?_
  exact ⟨⟨[], rfl⟩, rfl⟩

theorem numBad (p : List UInt8) (a n : Nat) (lo hi : Int) (hp : p.length ≤ 100000) (hn : a + n ≤ p.length) (hn8 : n ≤ 8) (h1 : ¬ (lo ≤ nv ((p.drop a).take n) ∧ nv ((p.drop a).take n) ≤ hi)) : VCall Tryd.prog 34 [.ptr (some (0, 0)), .int .i64 n, .int .i64 lo, .int .i64 hi] [rd p a] (.tup [.int .i64 0, flt a 2]) [rd p ((a + n : Nat) : Int)] := by
  refine VCall.ofS (tr [1000056]) f34 (Nat.le_of_ble_eq_true rfl) (Nat.le_refl _) (.tup _ (np_cons (.int _ _) (np_cons (flt_np _ _) np_nil))) (fun i o h => ?_) ?_
  · match i with
    | 0 =>
      have : o = rd p ((a + n : Nat) : Int) := by simpa using h.symm
      subst this
      exact .inr (rd_npo _ _)
    | i + 1 => simp at h
  refine call_b (np_cons (.int _ _) np_nil) (rd_npo _ _) (rd_npo _ _) (.tup _ (np_cons (np_bs _) (np_cons .niliface np_nil))) (takeOk p a n hp hn) ?_
  refine cond_f rfl ?_
  generalize hq : (p.drop a).take n = q at h1
  have hql : q.length ≤ 1000 := by rw [← hq]; simp; omega
  refine VloopS.weakE (l := nuAt q lo hi a 0) (h := [rd p ((a + n : Nat) : Int)]) rfl ⟨.refl _, .refl _, .refl _, .refl _, .refl _, .eq (int_eq (by rw [bs_len])), .eq (int_eq rfl), trivial⟩ rfl (Nat.le_refl _) (VloopS.exW (nuLoop q lo hi a p ((a + n : Nat) : Int) hql _ ?_ q.length 0 (by omega)))
  by_cases h2 : lo ≤ nv q
  · refine guard_t (decide_eq_true h2) ?_
    repeat (first | refine guard_t rfl ?_ | refine guard_f (by decide) ?_)
    refine cond_f (decide_eq_false (fun e => h1 ⟨h2, e⟩)) ?_
    exact ⟨⟨_, rfl⟩, rfl⟩
  · refine guard_f (by show ¬ decide (lo ≤ nv q) = true; rw [decide_eq_false h2]; decide) ?_
    repeat (first | refine guard_t rfl ?_ | refine guard_f (by decide) ?_)
    refine cond_f (by first | rfl | exact decide_eq_false h2) ?_
    exact ⟨⟨_, rfl⟩, rfl⟩

/-- What the reader's number comes to: where it fails and how, or the number. -/
def gNum (p : List UInt8) (a n : Nat) (lo hi : Int) : Except (Nat × Int) Int :=
  if p.length - a < n then .error (a, 3) else if lo ≤ nv ((p.drop a).take n) ∧ nv ((p.drop a).take n) ≤ hi then .ok (nv ((p.drop a).take n)) else .error (a, 2)

theorem gNumOk {p : List UInt8} {a n : Nat} {lo hi x : Int} (hp : p.length ≤ 100000) (ha : a ≤ p.length) (hn8 : n ≤ 8) (h : gNum p a n lo hi = .ok x) : (lo ≤ x ∧ x ≤ hi ∧ a + n ≤ p.length) ∧ VCall Tryd.prog 34 [.ptr (some (0, 0)), .int .i64 n, .int .i64 lo, .int .i64 hi] [rd p a] (.tup [.int .i64 x, .niliface]) [rd p ((a + n : Nat) : Int)] := by
  unfold gNum at h
  split at h
  · cases h
  · split at h
    · rename_i h1 h2
      cases h
      exact ⟨⟨h2.1, h2.2, by omega⟩, numOk p a n lo hi hp (by omega) hn8 h2.1 h2.2⟩
    · cases h

theorem gNumErr {p : List UInt8} {a n b : Nat} {lo hi e : Int} (hp : p.length ≤ 100000) (ha : a ≤ p.length) (hn8 : n ≤ 8) (h : gNum p a n lo hi = .error (b, e)) : ∃ a' : Nat, VCall Tryd.prog 34 [.ptr (some (0, 0)), .int .i64 n, .int .i64 lo, .int .i64 hi] [rd p a] (.tup [.int .i64 0, flt b e]) [rd p a'] := by
  unfold gNum at h
  split at h
  · rename_i h1
    cases h
    exact ⟨a, numShort p a n lo hi hp ha h1⟩
  · split at h
    · cases h
    · rename_i h1 h2
      cases h
      exact ⟨a + n, numBad p a n lo hi hp (by omega) hn8 h2⟩

/-- A length, and so many bytes. -/
def gBlob (p : List UInt8) (a : Nat) (lo : Int) : Except (Nat × Int) (List UInt8) :=
  match gNum p a 2 lo 4000 with
  | .error e => .error e
  | .ok n => if p.length - (a + 2) < n.toNat then .error (a + 2, 3) else .ok ((p.drop (a + 2)).take n.toNat)

theorem gBlobOk {p q : List UInt8} {a : Nat} {lo : Int} (hp : p.length ≤ 100000) (ha : a ≤ p.length) (hlo : 0 ≤ lo) (h : gBlob p a lo = .ok q) : ((q.length : Int) ≥ lo ∧ q.length ≤ 4000 ∧ a + 2 + q.length ≤ p.length) ∧ VCall Tryd.prog 43 [.ptr (some (0, 0)), .int .i64 lo] [rd p a] (.tup [.sl 1 none false (bs q), .niliface]) [rd p ((a + 2 + q.length : Nat) : Int)] := by
  unfold gBlob at h
  split at h
  · cases h
  · rename_i n hn
    obtain ⟨⟨k1, k2, k3⟩, kc⟩ := gNumOk hp ha (by decide) hn
    split at h
    · cases h
    · rename_i h1
      cases h
      have hl : ((p.drop (a + 2)).take n.toNat).length = n.toNat := by rw [List.length_take, List.length_drop]; omega
      have en : n = ((n.toNat : Nat) : Int) := by omega
      rw [hl]
      refine ⟨⟨by omega, by omega, by omega⟩, ?_⟩
      generalize n.toNat = m at *
      subst en
      have kt := takeOk p (a + 2) m hp (by omega)
      generalize (p.drop (a + 2)).take m = q at kt
      refine VCall.ofS (tr []) f43 (Nat.le_of_ble_eq_true rfl) (Nat.le_refl _) (.tup _ (np_cons (np_bs _) (np_cons .niliface np_nil))) (fun i o h => ?_) ?_
      · match i with
        | 0 =>
          have : o = rd p ((a + 2 + m : Nat) : Int) := by simpa using h.symm
          subst this
          exact .inr (rd_npo _ _)
        | i + 1 => simp at h
      refine call_b (np_cons (.int _ _) (np_cons (.int _ _) (np_cons (.int _ _) np_nil))) (rd_npo _ _) (rd_npo _ _) (.tup _ (np_cons (.int _ _) (np_cons .niliface np_nil))) kc ?_
      refine cond_f rfl ?_
      refine call_b (np_cons (.int _ _) np_nil) (rd_npo _ _) (rd_npo _ _) (.tup _ (np_cons (np_bs _) (np_cons .niliface np_nil))) kt ?_
      exact ⟨⟨[], rfl⟩, rfl⟩

theorem gBlobErr {p : List UInt8} {a b : Nat} {lo e : Int} (hp : p.length ≤ 100000) (ha : a ≤ p.length) (h : gBlob p a lo = .error (b, e)) : ∃ a' : Nat, VCall Tryd.prog 43 [.ptr (some (0, 0)), .int .i64 lo] [rd p a] (.tup [.sl 0 (some true) false [], flt b e]) [rd p a'] := by
  have hob : ∀ (a' : Nat) (i : Nat) (o : HObj), [rd p (a' : Int)][i]? = some o → [rd p (a : Int)][i]? = some o ∨ NPo (fun i => i < [rd p (a' : Int)].length) o := fun a' i o h => by
    match i with
    | 0 =>
      have : o = rd p (a' : Int) := by simpa using h.symm
      subst this
      exact .inr (rd_npo _ _)
    | i + 1 => simp at h
  unfold gBlob at h
  split at h
  · rename_i e' hn
    cases h
    obtain ⟨a', kc⟩ := gNumErr hp ha (by decide) hn
    refine ⟨a', VCall.ofS (tr []) f43 (Nat.le_of_ble_eq_true rfl) (Nat.le_refl _) (.tup _ (np_cons np_nilsl (np_cons (flt_np _ _) np_nil))) (hob a') ?_⟩
    refine call_b (np_cons (.int _ _) (np_cons (.int _ _) (np_cons (.int _ _) np_nil))) (rd_npo _ _) (rd_npo _ _) (.tup _ (np_cons (.int _ _) (np_cons (flt_np _ _) np_nil))) kc ?_
    refine cond_t rfl ?_
    exact ⟨⟨[], rfl⟩, rfl⟩
  · rename_i n hn
    obtain ⟨⟨k1, k2, k3⟩, kc⟩ := gNumOk hp ha (by decide) hn
    split at h
    · rename_i h1
      cases h
      have en : n = ((n.toNat : Nat) : Int) := by omega
      generalize n.toNat = m at *
      subst en
      have kt := takeShort p (a + 2) m hp k3 h1
      refine ⟨a + 2, VCall.ofS (tr []) f43 (Nat.le_of_ble_eq_true rfl) (Nat.le_refl _) (.tup _ (np_cons np_nilsl (np_cons (flt_np _ _) np_nil))) (hob (a + 2)) ?_⟩
      refine call_b (np_cons (.int _ _) (np_cons (.int _ _) (np_cons (.int _ _) np_nil))) (rd_npo _ _) (rd_npo _ _) (.tup _ (np_cons (.int _ _) (np_cons .niliface np_nil))) kc ?_
      refine cond_f rfl ?_
      refine call_b (np_cons (.int _ _) np_nil) (rd_npo _ _) (rd_npo _ _) (.tup _ (np_cons np_nilsl (np_cons (flt_np _ _) np_nil))) kt ?_
      exact ⟨⟨[], rfl⟩, rfl⟩
    · cases h

end Go.Proofs.YtjbgdmebpnfpnaaDoor.V

/- The reader: write. -/
namespace Go.Proofs.YtjbgdmebpnfpnaaDoor.V
open Go.IntWalk Go.Lib

structure Wr where
  key : List UInt8
  row : List UInt8
  gone : Bool
  deriving DecidableEq

def Wr.c (w : Wr) : List AV := [.str (st w.key), .sl 1 none false (bs w.row), .bool w.gone]
theorem Wr.np {ok : Nat → Prop} (w : Wr) : ∀ a, a ∈ w.c → NP ok a := np_cons (.str _) (np_cons (np_bs _) (np_cons (.bool _) np_nil))

/-- One text stands not behind another one. -/
def sle (a b : List UInt8) : Bool := Op.bytesLess (st a).toList (st b).toList || (st a).toList == (st b).toList

theorem VCall.weakRet {P : Program} {f : Nat} {args : List AV} {h h' : List HObj} {ret ret' : AV} (hw : Wk ret ret') (hc : VCall P f args h ret h') : VCall P f args h ret' h' := by
  refine ⟨hc.1, hc.2.1, fun w fr pi own vals hl hr => ?_⟩
  refine (hc.2.2 w fr pi own vals hl hr).mono fun e w' hp => ?_
  obtain ⟨v, fr', pi', own2, k1, k2, k3⟩ := hp
  have hr0 : Rel w' fr' pi' own2 (St.fs ⟨[ret], h'⟩) #[v] := k2
  obtain ⟨own', h1, h2⟩ := hr0.weak (S0 := ⟨[ret'], h'⟩) (.cons _ _ _ _ hw .nil) (ex := []) (by simp) (.inl rfl)
  exact ⟨v, fr', pi', own', k1, h1, k3.step, fun r b hb => k3.fresh r b (h2 r b hb), k3.pi⟩

/-- What the reader's write comes to. -/
def gWrite (p : List UInt8) (a : Nat) (last : List UInt8) : Except (Nat × Int) (Wr × Nat) :=
  match gBlob p a 1 with
  | .error e => .error e
  | .ok key => match sle key last with
    | true => .error (a + 2, 2)
    | false => match gNum p (a + 2 + key.length) 1 0 1 with
      | .error e => .error e
      | .ok g => if g = 1 then .ok (⟨key, [], true⟩, a + 2 + key.length + 1) else match gBlob p (a + 2 + key.length + 1) 0 with
        | .error e => .error e
        | .ok row => .ok (⟨key, row, false⟩, a + 2 + key.length + 1 + 2 + row.length)

theorem hob_rd (p : List UInt8) (a : Int) (a' : Nat) (i : Nat) (o : HObj) (h : [rd p (a' : Int)][i]? = some o) : [rd p a][i]? = some o ∨ NPo (fun i => i < [rd p (a' : Int)].length) o := by
  match i with
  | 0 =>
    have : o = rd p (a' : Int) := by simpa using h.symm
    subst this
    exact .inr (rd_npo _ _)
  | i + 1 => simp at h

theorem gWriteOk {p last : List UInt8} {a a' : Nat} {w : Wr} (hp : p.length ≤ 100000) (ha : a ≤ p.length) (h : gWrite p a last = .ok (w, a')) : a' ≤ p.length ∧ VCall Tryd.prog 35 [.ptr (some (0, 0)), .str (st last)] [rd p a] (.tup [.agg w.c, .niliface]) [rd p a'] := by
  unfold gWrite at h
  split at h
  · cases h
  · rename_i key hk
    obtain ⟨⟨k1, k2, k3⟩, kc⟩ := gBlobOk hp ha (by decide) hk
    split at h
    · cases h
    · rename_i hle
      split at h
      · cases h
      · rename_i g hg
        obtain ⟨⟨g1, g2, g3⟩, gc⟩ := gNumOk hp k3 (by decide) hg
        split at h
        · rename_i e1
          cases h
          subst e1
          refine ⟨by omega, VCall.weakRet (ret := .tup [.agg [.str (st key), .sl 0 (some true) false [], .bool true], .niliface]) ?_ (VCall.ofS (tr []) f35 (Nat.le_of_ble_eq_true rfl) (Nat.le_refl _) (.tup _ (np_cons (.agg _ (np_cons (.str _) (np_cons np_nilsl (np_cons (.bool _) np_nil)))) (np_cons .niliface np_nil))) (hob_rd p a _) ?_)⟩
          · exact .tup _ _ (.cons _ _ _ _ (.agg _ _ (.cons _ _ _ _ (.refl _) (.cons _ _ _ _ (.nil _ _ _ _ _ (by simp)) (.cons _ _ _ _ (.refl _) .nil)))) (.cons _ _ _ _ (.refl _) .nil))
          refine call_b (np_cons (.int _ _) np_nil) (rd_npo _ _) (rd_npo _ _) (.tup _ (np_cons (np_bs _) (np_cons .niliface np_nil))) kc ?_
          refine cond_f rfl ?_
          refine Exists.intro key (And.intro (toBytes_bs _) ?_)
          refine cond_f hle ?_
          refine call_b (np_cons (.int _ _) (np_cons (.int _ _) (np_cons (.int _ _) np_nil))) (rd_npo _ _) (rd_npo _ _) (.tup _ (np_cons (.int _ _) (np_cons .niliface np_nil))) gc ?_
          refine cond_f rfl ?_
          refine Exists.intro key (And.intro (toBytes_bs _) ?_)
          refine cond_f rfl ?_
          exact ⟨⟨_, rfl⟩, rfl⟩
        · rename_i e1
          split at h
          · cases h
          · rename_i row hr
            obtain ⟨⟨r1, r2, r3⟩, rc⟩ := gBlobOk hp g3 (by decide) hr
            cases h
            have e0 : g = 0 := by omega
            subst e0
            refine ⟨by omega, VCall.ofS (tr []) f35 (Nat.le_of_ble_eq_true rfl) (Nat.le_refl _) (.tup _ (np_cons (.agg _ (Wr.np _)) (np_cons .niliface np_nil))) (hob_rd p a _) ?_⟩
            refine call_b (np_cons (.int _ _) np_nil) (rd_npo _ _) (rd_npo _ _) (.tup _ (np_cons (np_bs _) (np_cons .niliface np_nil))) kc ?_
            refine cond_f rfl ?_
            refine Exists.intro key (And.intro (toBytes_bs _) ?_)
            refine cond_f hle ?_
            refine call_b (np_cons (.int _ _) (np_cons (.int _ _) (np_cons (.int _ _) np_nil))) (rd_npo _ _) (rd_npo _ _) (.tup _ (np_cons (.int _ _) (np_cons .niliface np_nil))) gc ?_
            refine cond_f rfl ?_
            refine Exists.intro key (And.intro (toBytes_bs _) ?_)
            refine cond_t rfl ?_
            refine call_b (np_cons (.int _ _) np_nil) (rd_npo _ _) (rd_npo _ _) (.tup _ (np_cons (np_bs _) (np_cons .niliface np_nil))) rc ?_
            exact ⟨⟨_, rfl⟩, rfl⟩

theorem gWriteErr {p last : List UInt8} {a b : Nat} {e : Int} (hp : p.length ≤ 100000) (ha : a ≤ p.length) (h : gWrite p a last = .error (b, e)) : ∃ (a' : Nat) (s : List UInt8), VCall Tryd.prog 35 [.ptr (some (0, 0)), .str (st last)] [rd p a] (.tup [.agg [.str (st s), .sl 0 (some true) false [], .bool false], flt b e]) [rd p a'] := by
  have hnp : ∀ {ok : Nat → Prop} (s : List UInt8), NP ok (.tup [.agg [.str (st s), .sl 0 (some true) false [], .bool false], flt b e]) := fun s => .tup _ (np_cons (.agg _ (np_cons (.str _) (np_cons (.sl _ _ _ _ (by simp)) (np_cons (.bool _) np_nil)))) (np_cons (flt_np _ _) np_nil))
  unfold gWrite at h
  split at h
  · rename_i e' hk
    cases h
    obtain ⟨a', kc⟩ := gBlobErr hp ha hk
    refine ⟨a', [], VCall.ofS (tr []) f35 (Nat.le_of_ble_eq_true rfl) (Nat.le_refl _) (hnp _) (hob_rd p a _) ?_⟩
    refine call_b (np_cons (.int _ _) np_nil) (rd_npo _ _) (rd_npo _ _) (.tup _ (np_cons np_nilsl (np_cons (flt_np _ _) np_nil))) kc ?_
    refine cond_t rfl ?_
    exact ⟨⟨_, rfl⟩, rfl⟩
  · rename_i key hk
    obtain ⟨⟨k1, k2, k3⟩, kc⟩ := gBlobOk hp ha (by decide) hk
    split at h
    · rename_i hle
      cases h
      refine ⟨a + 2 + key.length, [], VCall.ofS (tr [1000033]) f35 (Nat.le_of_ble_eq_true rfl) (Nat.le_refl _) (hnp _) (hob_rd p a _) ?_⟩
      refine call_b (np_cons (.int _ _) np_nil) (rd_npo _ _) (rd_npo _ _) (.tup _ (np_cons (np_bs _) (np_cons .niliface np_nil))) kc ?_
      refine cond_f rfl ?_
      refine Exists.intro key (And.intro (toBytes_bs _) ?_)
      refine cond_t hle ?_
      refine And.intro (by kernel_rfl) ?_
      have ew : IntKind.i64.wrap (((a + 2 + key.length : Nat) : Int) - (((bs key).length : Nat) : Int)) = ((a + 2 : Nat) : Int) := by rw [bs_len, i64_in _ (by omega)]; omega
      rw [ew]
      exact ⟨⟨_, rfl⟩, rfl⟩
    · rename_i hle
      split at h
      · rename_i e' hg
        cases h
        obtain ⟨a', gc⟩ := gNumErr hp k3 (by decide) hg
        refine ⟨a', [], VCall.ofS (tr []) f35 (Nat.le_of_ble_eq_true rfl) (Nat.le_refl _) (hnp _) (hob_rd p a _) ?_⟩
        refine call_b (np_cons (.int _ _) np_nil) (rd_npo _ _) (rd_npo _ _) (.tup _ (np_cons (np_bs _) (np_cons .niliface np_nil))) kc ?_
        refine cond_f rfl ?_
        refine Exists.intro key (And.intro (toBytes_bs _) ?_)
        refine cond_f hle ?_
        refine call_b (np_cons (.int _ _) (np_cons (.int _ _) (np_cons (.int _ _) np_nil))) (rd_npo _ _) (rd_npo _ _) (.tup _ (np_cons (.int _ _) (np_cons (flt_np _ _) np_nil))) gc ?_
        refine cond_t rfl ?_
        exact ⟨⟨_, rfl⟩, rfl⟩
      · rename_i g hg
        obtain ⟨⟨g1, g2, g3⟩, gc⟩ := gNumOk hp k3 (by decide) hg
        split at h
        · cases h
        · rename_i e1
          split at h
          · rename_i e' hr
            cases h
            obtain ⟨a', rc⟩ := gBlobErr hp g3 hr
            have e0 : g = 0 := by omega
            subst e0
            refine ⟨a', key, VCall.ofS (tr []) f35 (Nat.le_of_ble_eq_true rfl) (Nat.le_refl _) (hnp _) (hob_rd p a _) ?_⟩
            refine call_b (np_cons (.int _ _) np_nil) (rd_npo _ _) (rd_npo _ _) (.tup _ (np_cons (np_bs _) (np_cons .niliface np_nil))) kc ?_
            refine cond_f rfl ?_
            refine Exists.intro key (And.intro (toBytes_bs _) ?_)
            refine cond_f hle ?_
            refine call_b (np_cons (.int _ _) (np_cons (.int _ _) (np_cons (.int _ _) np_nil))) (rd_npo _ _) (rd_npo _ _) (.tup _ (np_cons (.int _ _) (np_cons .niliface np_nil))) gc ?_
            refine cond_f rfl ?_
            refine Exists.intro key (And.intro (toBytes_bs _) ?_)
            refine cond_t rfl ?_
            refine call_b (np_cons (.int _ _) np_nil) (rd_npo _ _) (rd_npo _ _) (.tup _ (np_cons np_nilsl (np_cons (flt_np _ _) np_nil))) rc ?_
            exact ⟨⟨_, rfl⟩, rfl⟩
          · cases h

end Go.Proofs.YtjbgdmebpnfpnaaDoor.V

/- The reader: batch. -/
namespace Go.Proofs.YtjbgdmebpnfpnaaDoor.V
open Go.IntWalk Go.Lib

/-- A contract's end is told otherwise. -/
theorem VCall.shiftRet {P : Program} {f : Nat} {args : List AV} {h h' h'' : List HObj} {ret ret' : AV} {l : List (Nat × AV)} (hc : VCall P f args h ret h') (hs : ShiftS ⟨[ret], [], h'⟩ ⟨[], l, h''⟩) (hl : ∀ i, look i .undef l = nthD [ret'] i) : VCall P f args h ret' h'' := by
  refine ⟨hc.1, Nat.le_trans hc.2.1 hs.2.1, fun w fr pi own vals hlen hr => ?_⟩
  refine (hc.2.2 w fr pi own vals hlen hr).mono fun e w' hp => ?_
  obtain ⟨v, fr', pi', own', rfl, k1, k2⟩ := hp
  have hr0 : Rel w' fr' pi' own' ⟨(⟨[ret], [], h'⟩ : Sy).get, fun i => h'[i]?⟩ #[v] := by
    have e : (⟨[ret], [], h'⟩ : Sy).get = fun i => [ret].getD i .undef := funext fun i => nthD_eq _ i
    rw [e]
    exact k1
  obtain ⟨fr2, pi2, own2, q1, q2⟩ := hs.2.2.2 w' fr' pi' own' #[v] hr0
  refine ⟨v, fr2, pi2, own2, rfl, ?_, ?_⟩
  · have e : (⟨[], l, h''⟩ : Sy).get = fun i => [ret'].getD i .undef := funext fun i => (hl i).trans (nthD_eq _ i)
    rw [e] at q1
    exact q1
  · refine k2.trans q2 fun i hi => ?_
    have hlt : i < h'.length := Nat.lt_of_lt_of_le hi hc.2.1
    exact ⟨_, (List.getElem?_eq_getElem hlt : h'[i]? = _)⟩

/-- The reader's box, its place told no more. -/
def rdU (p : List UInt8) : HObj := .cells [.sl 1 none false (bs p), .undef]

theorem rdU_npo {ok : Nat → Prop} (p : List UInt8) : NPo ok (rdU p) := np_cons (np_bs _) (np_cons .undef np_nil)

/-- So many writes. -/
def gLoop (p : List UInt8) : Nat → Nat → List UInt8 → Except (Nat × Int × List Wr) (List Wr × Nat)
  | 0, a, _ => .ok ([], a)
  | k + 1, a, last => match gWrite p a last with
    | .error (b, e) => .error (b, e, [])
    | .ok (w, a') => match gLoop p k a' w.key with
      | .error (b, e, l) => .error (b, e, w :: l)
      | .ok (l, a'') => .ok (w :: l, a'')

def baAt (n : Nat) (last : List UInt8) (i : Nat) : List (Nat × AV) := [(0, .ptr (some (0, 0))), (2, .ptr (some (1, 0))), (5, .str (st last)), (27, .int .i64 n), (28, .int .i64 i)]
def bx (N : Int) (acc : List Wr) : HObj := .cells [.int .i64 N, .sl 3 none true (acc.map Wr.c)]

/-- The next round's number. -/
def i64w (i : Nat) : Int := IntKind.i64.wrap ((i : Int) + 1)

theorem baLoop (p : List UInt8) (hp : p.length ≤ 100000) (N : Int) (n : Nat) (hn : n ≤ 64) (R : VE → Sy → Prop) (r0 : Except (Nat × Int × List Wr) (List Wr × Nat))
    (hOk : ∀ l a, r0 = .ok (l, a) → R (.exit 0) ⟨[], [(0, .ptr (some (0, 0))), (2, .ptr (some (1, 0)))], [rd p a, bx N l]⟩)
    (hErr : ∀ b e l, r0 = .error (b, e, l) → ∀ ex, R .ret ⟨[], [(2, .ptr (some (1, 0))), (3, flt b e)], rdU p :: .cells [.int .i64 N, .sl 3 none false (l.map Wr.c)] :: ex⟩) :
    ∀ (g i a : Nat) (last : List UInt8) (acc : List Wr), i + g = n → acc.length = i → a ≤ p.length → (r0 = match gLoop p g a last with | .error (b, e, l) => .error (b, e, acc ++ l) | .ok (l, a') => .ok (acc ++ l, a')) →
      VloopS Tryd.prog (tr [1000041, 1000066]) 68 1 c24b0 (exS R) ⟨[], baAt n last i, [rd p a, bx N acc]⟩
  | 0, i, a, last, acc, hg, _, ha, he => by
    refine VloopS.round ?_
    refine cond_f (decide_eq_false (by omega)) ?_
    exact ex_s (ShiftS.wk [(0, .ptr (some (0, 0))), (2, .ptr (some (1, 0)))] ⟨.wk _ _ (.refl _), .wk _ _ (.refl _), trivial⟩) (hOk acc a (by rw [he]; simp [gLoop]))
  | g + 1, i, a, last, acc, hg, hac, ha, he => by
    refine VloopS.round ?_
    refine cond_t (decide_eq_true (by omega)) ?_
    rw [gLoop] at he
    cases hw : gWrite p a last with
    | error e' =>
      obtain ⟨b, e⟩ := e'
      rw [hw] at he
      obtain ⟨a', s, kc⟩ := gWriteErr hp ha hw
      refine call_b (np_cons (.str _) np_nil) (rd_npo _ _) (rd_npo _ _) (.tup _ (np_cons (.agg _ (np_cons (.str _) (np_cons np_nilsl (np_cons (.bool _) np_nil)))) (np_cons (flt_np _ _) np_nil))) kc ?_
      refine cond_t rfl ?_
      refine ex_s (ShiftS.fz (fun _ => none) (l := [(2, .ptr (some (1, 0))), (3, flt b e)]) ⟨.wk _ _ (.refl _), .wk _ _ (.refl _), trivial⟩ (.cells 0 _ [.sl 1 none false (bs p), .undef] _ _ rfl (.cons _ _ _ _ (.wk _ _ (.refl _)) (.cons _ _ _ _ (.wk _ _ (.undef _)) .nil)) (.cells 1 _ [.int .i64 N, .sl 3 none false (acc.map Wr.c)] _ _ rfl (.cons _ _ _ _ (.wk _ _ (.refl _)) (.cons _ _ _ _ (.wk _ _ (.refl _)) .nil)) (.same 2 _ _ _ rfl (.nil 3)))) (fun i sz xs h => by cases h)) (hErr b e acc (by simpa using he) _)
    | ok r =>
      obtain ⟨w, a'⟩ := r
      rw [hw] at he
      obtain ⟨k1, kc⟩ := gWriteOk hp ha hw
      refine call_b (np_cons (.str _) np_nil) (rd_npo _ _) (rd_npo _ _) (.tup _ (np_cons (.agg _ w.np) (np_cons .niliface np_nil))) kc ?_
      refine cond_f rfl ?_
      refine And.intro (.inl ⟨rfl, rfl⟩) (And.intro (.inl rfl) (And.intro ?_ ?_))
      · simp only [List.length_map, List.length_cons, List.length_nil]; omega
      have e1 : acc.map Wr.c ++ [w.c] = (acc ++ [w]).map Wr.c := by simp
      have e2 : Wk (AV.sl 3 none true (acc.map Wr.c ++ [w.c])) (.sl 3 none true ((acc ++ [w]).map Wr.c)) := by rw [e1]; exact .refl _
      have e3 : i64w i = ((i + 1 : Nat) : Int) := by unfold i64w; rw [i64_in _ (by omega)]; omega
      refine VloopS.shift (σ' := ⟨[], baAt n w.key (i + 1), [rd p a', bx N (acc ++ [w]), .cells w.c]⟩) (ShiftS.fz (fun _ => none) ⟨.wk _ _ (.refl _), .wk _ _ (.refl _), .wk _ _ (.refl _), .wk _ _ (.refl _), .wk _ _ (.eq (int_eq e3)), trivial⟩ (.same 0 _ _ _ rfl (.cells 1 _ _ _ _ rfl (.cons _ _ _ _ (.wk _ _ (.refl _)) (.cons _ _ _ _ (.wk _ _ e2) .nil)) (.same 2 _ _ _ rfl (.nil 3)))) (fun i sz xs h => by cases h)) (by show 1 ≤ 3; decide) ?_
      refine VloopS.weakBox (l := baAt n w.key (i + 1)) (h := [rd p a', bx N (acc ++ [w])]) (ex := [.cells w.c]) rfl ⟨.refl _, .refl _, .refl _, .refl _, .refl _, trivial⟩ rfl (by show 1 ≤ 2; decide) ?_ ?_ (baLoop p hp N n hn R r0 hOk hErr g (i + 1) a' w.key (acc ++ [w]) (by omega) (by simp; omega) k1 ?_)
      · intro q hq
        simp only [baAt, List.mem_cons, List.not_mem_nil, or_false] at hq
        rcases hq with rfl | rfl | rfl | rfl | rfl
        · exact .ptr _ _ (by simp)
        · exact .ptr _ _ (by simp)
        · exact .str _
        · exact .int _ _
        · exact .int _ _
      · intro o ho
        simp only [List.mem_cons, List.not_mem_nil, or_false] at ho
        rcases ho with rfl | rfl
        · exact rd_npo _ _
        · refine np_cons (.int _ _) (np_cons (.sl _ _ _ _ fun x hx y hy => ?_) np_nil)
          obtain ⟨z, _, rfl⟩ := List.mem_map.1 hx
          exact z.np y hy
      · rw [he]
        simp only
        cases gLoop p g a' w.key with
        | error e => simp
        | ok q => simp

end Go.Proofs.YtjbgdmebpnfpnaaDoor.V

/- The reader: batch, as a contract. -/
namespace Go.Proofs.YtjbgdmebpnfpnaaDoor.V
open Go.IntWalk Go.Lib

/-- What the reader's batch comes to. -/
def gBatch (p : List UInt8) : Except (Nat × Int) (Int × List Wr) :=
  match gNum p 0 8 1 9223372036854775807 with
  | .error e => .error e
  | .ok N => match gNum p 8 2 1 64 with
    | .error e => .error e
    | .ok n => match gLoop p n.toNat 10 [] with
      | .error (b, e, _) => .error (b, e)
      | .ok (l, a) => if a < p.length then .error (a, 2) else .ok (N, l)

theorem gLoop_le {p : List UInt8} (hp : p.length ≤ 100000) : ∀ (k a : Nat) (last : List UInt8) (l : List Wr) (a' : Nat), a ≤ p.length → gLoop p k a last = .ok (l, a') → a' ≤ p.length
  | 0, a, last, l, a', ha, h => by
    rw [gLoop] at h
    cases h
    exact ha
  | k + 1, a, last, l, a', ha, h => by
    rw [gLoop] at h
    cases hw : gWrite p a last with
    | error e => rw [hw] at h; cases h
    | ok r =>
      obtain ⟨w, a1⟩ := r
      rw [hw] at h
      simp only at h
      cases hl : gLoop p k a1 w.key with
      | error e => rw [hl] at h; cases h
      | ok q =>
        obtain ⟨l2, a2⟩ := q
        rw [hl] at h
        cases h
        exact gLoop_le hp k a1 w.key l2 a' (gWriteOk hp ha hw).1 hl

theorem np_ws {ok : Nat → Prop} {nl : Option Bool} {own : Bool} (l : List Wr) : NP ok (.sl 3 nl own (l.map Wr.c)) := .sl _ _ _ _ fun x hx y hy => by
  obtain ⟨z, _, rfl⟩ := List.mem_map.1 hx
  exact z.np y hy

theorem np_bat {ok : Nat → Prop} (N : Int) (l : List Wr) {e : AV} (he : NP ok e) : NP ok (.tup [.agg [.int .i64 N, .sl 3 none false (l.map Wr.c)], e]) := .tup _ (np_cons (.agg _ (np_cons (.int _ _) (np_cons (np_ws l) np_nil))) (np_cons he np_nil))

theorem batchOk {p : List UInt8} {N : Int} {l : List Wr} (hp : p.length ≤ 100000) (h : gBatch p = .ok (N, l)) : VCall Tryd.prog 24 [.ptr (some (0, 0))] [rd p ((0 : Nat) : Int)] (.tup [.agg [.int .i64 N, .sl 3 none false (l.map Wr.c)], .niliface]) [rd p (p.length : Int)] := by
  unfold gBatch at h
  split at h
  · cases h
  · rename_i N' hN
    obtain ⟨⟨_, _, n3⟩, nc⟩ := gNumOk hp (Nat.zero_le _) (by decide) hN
    rw [Nat.zero_add] at n3 nc
    split at h
    · cases h
    · rename_i n hn
      obtain ⟨⟨m1, m2, m3⟩, mc⟩ := gNumOk hp n3 (by decide) hn
      split at h
      · cases h
      · rename_i l' a hl
        have hle := gLoop_le hp _ _ _ _ _ m3 hl
        split at h
        · cases h
        · rename_i hna
          cases h
          have ea : a = p.length := by omega
          subst ea
          refine VCall.ofS (tr [1000041, 1000066]) f24 (Nat.le_of_ble_eq_true rfl) (Nat.le_refl _) (np_bat _ _ .niliface) (hob_rd p _ _) ?_
          refine call_b (np_cons (.int _ _) (np_cons (.int _ _) (np_cons (.int _ _) np_nil))) (rd_npo _ _) (rd_npo _ _) (.tup _ (np_cons (.int _ _) (np_cons .niliface np_nil))) nc ?_
          refine cond_f rfl ?_
          refine call_b (np_cons (.int _ _) (np_cons (.int _ _) (np_cons (.int _ _) np_nil))) (rd_npo _ _) (rd_npo _ _) (.tup _ (np_cons (.int _ _) (np_cons .niliface np_nil))) mc ?_
          refine cond_f rfl ?_
          have en : n = ((n.toNat : Nat) : Int) := by omega
          refine VloopS.exS (VloopS.shift (σ' := ⟨[], baAt n.toNat [] 0, [rd p ((8 + 2 : Nat) : Int), bx N []]⟩) (ShiftS.fz (fun _ => none) ⟨.wk _ _ (.refl _), .wk _ _ (.refl _), .wk _ _ (.refl _), .wk _ _ (.eq (int_eq en)), .wk _ _ (.refl _), trivial⟩ (.same 0 _ _ _ rfl (.cells 1 _ _ _ _ rfl (.cons _ _ _ _ (.wk _ _ (.refl _)) (.cons _ _ _ _ (.wk _ _ (.nil _ _ _ _ _ (by simp))) .nil)) (.nil 2))) (fun i sz xs h => by cases h)) (by show 1 ≤ 2; decide) (baLoop p hp N n.toNat (by omega) _ (.ok (l, p.length)) ?_ ?_ n.toNat 0 10 [] [] (by omega) rfl m3 (by rw [hl]; simp)))
          · intro l2 a2 e2
            cases e2
            refine And.intro (by kernel_rfl) ?_
            refine cond_f (by rw [bs_len]; exact decide_eq_false (by omega)) ?_
            exact ⟨⟨_, rfl⟩, rfl⟩
          · intro b e l2 e2
            cases e2

theorem toU {f : Nat} {args : List AV} {h : List HObj} {ret : AV} {p : List UInt8} {a : Int} (hc : VCall Tryd.prog f args h ret [rd p a]) : VCall Tryd.prog f args h ret [rdU p] :=
  hc.shiftRet (l := [(0, ret)]) (ShiftS.fz (fun _ => none) ⟨.wk _ _ (.refl _), trivial⟩ (.cells 0 _ [.sl 1 none false (bs p), .undef] _ _ rfl (.cons _ _ _ _ (.wk _ _ (.refl _)) (.cons _ _ _ _ (.wk _ _ (.undef _)) .nil)) (.nil 1)) (fun i sz xs h => by cases h)) (fun i => by
    match i with
    | 0 => rfl
    | n + 1 => rfl)

theorem np_bat0 {ok : Nat → Prop} (N : Int) {e : AV} (he : NP ok e) : NP ok (.tup [.agg [.int .i64 N, .sl 0 (some true) false []], e]) := .tup _ (np_cons (.agg _ (np_cons (.int _ _) (np_cons np_nilsl np_nil))) (np_cons he np_nil))

theorem wk_bat0 (N : Int) (e : AV) : Wk (.tup [.agg [.int .i64 N, .sl 0 (some true) false []], e]) (.tup [.agg [.int .i64 N, .sl 3 none false (([] : List Wr).map Wr.c)], e]) :=
  .tup _ _ (.cons _ _ _ _ (.agg _ _ (.cons _ _ _ _ (.refl _) (.cons _ _ _ _ (.nil _ _ _ _ _ (by simp)) .nil))) (.cons _ _ _ _ (.refl _) .nil))

theorem hob_rdU (p : List UInt8) (a : Int) (i : Nat) (o : HObj) (h : [rdU p][i]? = some o) : [rd p a][i]? = some o ∨ NPo (fun i => i < [rdU p].length) o := by
  match i with
  | 0 =>
    have : o = rdU p := by simpa using h.symm
    subst this
    exact .inr (rdU_npo _)
  | i + 1 => simp at h

theorem batchErr {p : List UInt8} {b : Nat} {e : Int} (hp : p.length ≤ 100000) (h : gBatch p = .error (b, e)) : ∃ (N : Int) (l : List Wr), VCall Tryd.prog 24 [.ptr (some (0, 0))] [rd p ((0 : Nat) : Int)] (.tup [.agg [.int .i64 N, .sl 3 none false (l.map Wr.c)], flt b e]) [rdU p] := by
  unfold gBatch at h
  split at h
  · rename_i e' hN
    cases h
    obtain ⟨a', nc⟩ := gNumErr hp (Nat.zero_le _) (by decide) hN
    refine ⟨0, [], VCall.weakRet (wk_bat0 _ _) (toU (a := (a' : Int)) (VCall.ofS (tr []) f24 (Nat.le_of_ble_eq_true rfl) (Nat.le_refl _) (np_bat0 _ (flt_np _ _)) (hob_rd p _ _) ?_))⟩
    refine call_b (np_cons (.int _ _) (np_cons (.int _ _) (np_cons (.int _ _) np_nil))) (rd_npo _ _) (rd_npo _ _) (.tup _ (np_cons (.int _ _) (np_cons (flt_np _ _) np_nil))) nc ?_
    refine cond_t rfl ?_
    exact ⟨⟨_, rfl⟩, rfl⟩
  · rename_i N' hN
    obtain ⟨⟨_, _, n3⟩, nc⟩ := gNumOk hp (Nat.zero_le _) (by decide) hN
    rw [Nat.zero_add] at n3 nc
    split at h
    · rename_i e' hn
      cases h
      obtain ⟨a', mc⟩ := gNumErr hp n3 (by decide) hn
      refine ⟨N', [], VCall.weakRet (wk_bat0 _ _) (toU (a := (a' : Int)) (VCall.ofS (tr []) f24 (Nat.le_of_ble_eq_true rfl) (Nat.le_refl _) (np_bat0 _ (flt_np _ _)) (hob_rd p _ _) ?_))⟩
      refine call_b (np_cons (.int _ _) (np_cons (.int _ _) (np_cons (.int _ _) np_nil))) (rd_npo _ _) (rd_npo _ _) (.tup _ (np_cons (.int _ _) (np_cons .niliface np_nil))) nc ?_
      refine cond_f rfl ?_
      refine call_b (np_cons (.int _ _) (np_cons (.int _ _) (np_cons (.int _ _) np_nil))) (rd_npo _ _) (rd_npo _ _) (.tup _ (np_cons (.int _ _) (np_cons (flt_np _ _) np_nil))) mc ?_
      refine cond_t rfl ?_
      exact ⟨⟨_, rfl⟩, rfl⟩
    · rename_i n hn
      obtain ⟨⟨m1, m2, m3⟩, mc⟩ := gNumOk hp n3 (by decide) hn
      have en : n = ((n.toNat : Nat) : Int) := by omega
      split at h
      · rename_i b' e' l' hl
        cases h
        refine ⟨N', l', VCall.ofS (tr [1000041, 1000066]) f24 (Nat.le_of_ble_eq_true rfl) (Nat.le_refl _) (np_bat _ _ (flt_np _ _)) (hob_rdU p _) ?_⟩
        refine call_b (np_cons (.int _ _) (np_cons (.int _ _) (np_cons (.int _ _) np_nil))) (rd_npo _ _) (rd_npo _ _) (.tup _ (np_cons (.int _ _) (np_cons .niliface np_nil))) nc ?_
        refine cond_f rfl ?_
        refine call_b (np_cons (.int _ _) (np_cons (.int _ _) (np_cons (.int _ _) np_nil))) (rd_npo _ _) (rd_npo _ _) (.tup _ (np_cons (.int _ _) (np_cons .niliface np_nil))) mc ?_
        refine cond_f rfl ?_
        refine VloopS.exS (VloopS.shift (σ' := ⟨[], baAt n.toNat [] 0, [rd p ((8 + 2 : Nat) : Int), bx N' []]⟩) (ShiftS.fz (fun _ => none) ⟨.wk _ _ (.refl _), .wk _ _ (.refl _), .wk _ _ (.refl _), .wk _ _ (.eq (int_eq en)), .wk _ _ (.refl _), trivial⟩ (.same 0 _ _ _ rfl (.cells 1 _ _ _ _ rfl (.cons _ _ _ _ (.wk _ _ (.refl _)) (.cons _ _ _ _ (.wk _ _ (.nil _ _ _ _ _ (by simp))) .nil)) (.nil 2))) (fun i sz xs h => by cases h)) (by show 1 ≤ 2; decide) (baLoop p hp N' n.toNat (by omega) _ (.error (b, e, l')) ?_ ?_ n.toNat 0 10 [] [] (by omega) rfl m3 (by rw [hl]; simp)))
        · intro l2 a2 e2
          cases e2
        · intro b2 e2 l2 h2 ex
          cases h2
          exact ⟨⟨_, rfl⟩, rfl⟩
      · rename_i l' a hl
        have hle := gLoop_le hp _ _ _ _ _ m3 hl
        split at h
        · rename_i hna
          cases h
          refine ⟨N', l', toU (a := (b : Int)) (VCall.ofS (tr [1000041, 1000066]) f24 (Nat.le_of_ble_eq_true rfl) (Nat.le_refl _) (np_bat _ _ (flt_np _ _)) (hob_rd p _ _) ?_)⟩
          refine call_b (np_cons (.int _ _) (np_cons (.int _ _) (np_cons (.int _ _) np_nil))) (rd_npo _ _) (rd_npo _ _) (.tup _ (np_cons (.int _ _) (np_cons .niliface np_nil))) nc ?_
          refine cond_f rfl ?_
          refine call_b (np_cons (.int _ _) (np_cons (.int _ _) (np_cons (.int _ _) np_nil))) (rd_npo _ _) (rd_npo _ _) (.tup _ (np_cons (.int _ _) (np_cons .niliface np_nil))) mc ?_
          refine cond_f rfl ?_
          refine VloopS.exS (VloopS.shift (σ' := ⟨[], baAt n.toNat [] 0, [rd p ((8 + 2 : Nat) : Int), bx N' []]⟩) (ShiftS.fz (fun _ => none) ⟨.wk _ _ (.refl _), .wk _ _ (.refl _), .wk _ _ (.refl _), .wk _ _ (.eq (int_eq en)), .wk _ _ (.refl _), trivial⟩ (.same 0 _ _ _ rfl (.cells 1 _ _ _ _ rfl (.cons _ _ _ _ (.wk _ _ (.refl _)) (.cons _ _ _ _ (.wk _ _ (.nil _ _ _ _ _ (by simp))) .nil)) (.nil 2))) (fun i sz xs h => by cases h)) (by show 1 ≤ 2; decide) (baLoop p hp N' n.toNat (by omega) _ (.ok (l', b)) ?_ ?_ n.toNat 0 10 [] [] (by omega) rfl m3 (by rw [hl]; simp)))
          · intro l2 a2 e2
            cases e2
            refine And.intro (by kernel_rfl) ?_
            refine cond_t (by rw [bs_len]; exact decide_eq_true (by omega)) ?_
            refine And.intro (by kernel_rfl) ?_
            exact ⟨⟨_, rfl⟩, rfl⟩
          · intro b2 e2 l2 h2
            cases h2
        · cases h

end Go.Proofs.YtjbgdmebpnfpnaaDoor.V

/- errors.As among more boxes; Decode. -/
namespace Go.Proofs.YtjbgdmebpnfpnaaDoor.V
open Go.IntWalk Go.Lib

theorem asHit4 (a e : Int) (b1 b2 b3 : HObj) : VCall Tryd.prog 25 [flt a e, .iface 63 (.ptr (some (4, 0)))] [G0, b1, b2, b3, .cells [.ptr none]] (.bool true) [G0, b1, b2, b3, .cells [.rptr [.int .i64 a, .int .i64 e]]] := by
  refine (asHit [.int .i64 a, .int .i64 e]).frame (fun j => if j = 1 then 4 else 0) ?_ ?_ ?_ ?_ ?_ (.refl _ (.bool _)) rfl ?_ ?_
  · exact .cons _ _ _ _ (.refl _ (flt_np _ _)) (.cons _ _ _ _ (.iface _ _ _ (.ptr 1 0)) .nil)
  · exact np_cons (flt_np _ _) (np_cons (.iface _ _ (.ptr _ _ (by simp))) np_nil)
  · intro i o h
    match i with
    | 0 =>
      have : o = G0 := by simpa using h.symm
      subst this
      exact trivial
    | 1 =>
      have : o = .cells [.ptr none] := by simpa using h.symm
      subst this
      exact np_cons .ptrnil np_nil
    | i + 2 => simp at h
  · intro j o h
    match j with
    | 0 =>
      have : o = G0 := by simpa using h.symm
      subst this
      exact ⟨_, rfl, rfl, rfl⟩
    | 1 =>
      have : o = .cells [.ptr none] := by simpa using h.symm
      subst this
      exact ⟨_, rfl, RnL.same (np_cons .ptrnil np_nil)⟩
    | i + 2 => simp at h
  · intro i j h1 h2 h3
    simp at h1 h2
    match i, j with
    | 0, 0 => rfl
    | 1, 1 => rfl
    | 0, 1 => simp at h3
    | 1, 0 => simp at h3
    | i + 2, _ => omega
    | _, j + 2 => omega
  · intro i hi hne
    match i with
    | 0 => rfl
    | 1 => rfl
    | 2 => rfl
    | 3 => rfl
    | 4 => exact absurd rfl (hne 1 (by simp))
    | i + 5 => exact absurd hi (by simp)
  · intro j o h
    match j with
    | 0 =>
      have : o = G0 := by simpa using h.symm
      subst this
      exact ⟨_, rfl, rfl, rfl⟩
    | 1 =>
      have : o = .cells [.rptr [.int .i64 a, .int .i64 e]] := by simpa using h.symm
      subst this
      exact ⟨_, rfl, RnL.same (np_cons (.rptr _ (np_cons (.int _ _) (np_cons (.int _ _) np_nil))) np_nil)⟩
    | i + 2 => simp at h

theorem asNilAll (h : List HObj) (x : AV) : VCall Tryd.prog 25 [.niliface, x] h (.bool false) h := by
  refine ⟨known_of (by kernel_rfl), Nat.le_refl _, fun w fr pi own vals hl hr => ?_⟩
  have h0 : vals.toArray.getD 0 Go.undef = .nilIface := (hr.slot 0).niliface_inv
  rw [two_vals hl, h0]
  refine Runs.of (by kernel_rfl) ((as_nil _ w).mono fun e w' hp => ?_)
  obtain ⟨rfl, rfl⟩ := hp
  obtain ⟨own', k1, k2⟩ := hr.plain (ret := .bool false) (v := .bool false) (h := h) (fun i => rfl) (.bool _) rfl
  exact ⟨_, fr, pi, own', rfl, k1, ⟨Step.refl _ _ _, fun r b hb => .inl ⟨r, k2 r b hb⟩, fun _ _ => rfl⟩⟩

theorem hob_G0 (i : Nat) (o : HObj) (h : [G0][i]? = some o) : [G0][i]? = some o ∨ NPo (fun i => i < [G0].length) o := .inl h

theorem decOk {p : List UInt8} {N : Int} {l : List Wr} (hp : p.length ≤ 100000) (h : gBatch p = .ok (N, l)) : VCall Tryd.prog 14 [.sl 1 none false (bs p)] [G0] (.tup [.agg [.int .i64 N, .sl 3 none false (l.map Wr.c)], .int .i64 0, .int .i64 0]) [G0] := by
  refine VCall.ofS (tr []) f14 (Nat.le_of_ble_eq_true rfl) (Nat.le_refl _) (.tup _ (np_cons (.agg _ (np_cons (.int _ _) (np_cons (np_ws l) np_nil))) (np_cons (.int _ _) (np_cons (.int _ _) np_nil)))) hob_G0 ?_
  refine call_b (by simp) (rd_npo _ _) (rd_npo _ _) (np_bat _ _ .niliface) (batchOk hp h) ?_
  refine call_h (asNilAll _ _) ?_
  refine cond_t rfl ?_
  exact ⟨⟨_, rfl⟩, rfl⟩

theorem decErr {p : List UInt8} {b : Nat} {e : Int} (hp : p.length ≤ 100000) (h : gBatch p = .error (b, e)) : VCall Tryd.prog 14 [.sl 1 none false (bs p)] [G0] (.tup [.agg [.int .i64 0, .sl 0 (some true) false []], .int .i64 b, .int .i64 e]) [G0] := by
  refine VCall.ofS (tr []) f14 (Nat.le_of_ble_eq_true rfl) (Nat.le_refl _) (.tup _ (np_cons (.agg _ (np_cons (.int _ _) (np_cons np_nilsl np_nil))) (np_cons (.int _ _) (np_cons (.int _ _) np_nil)))) hob_G0 ?_
  obtain ⟨N, l, hc⟩ := batchErr hp h
  refine call_b (by simp) (rd_npo _ _) (rdU_npo _) (np_bat _ _ (flt_np _ _)) hc ?_
  refine call_h (asHit4 b e _ _ _) ?_
  refine cond_f rfl ?_
  refine call_h (isN b e _) ?_
  by_cases he : e = 3
  · subst he
    refine cond_t rfl ?_
    refine And.intro (by kernel_rfl) ?_
    exact ⟨⟨_, rfl⟩, rfl⟩
  · refine cond_f (by simpa using he) ?_
    refine And.intro (by kernel_rfl) ?_
    exact ⟨⟨_, rfl⟩, rfl⟩

end Go.Proofs.YtjbgdmebpnfpnaaDoor.V

/- record.fits, record.Right. -/
namespace Go.Proofs.YtjbgdmebpnfpnaaDoor.V
open Go.IntWalk Go.Lib

theorem VCall.weakArgs {P : Program} {f : Nat} {args args' : List AV} {h h' : List HObj} {ret : AV} (hw : WkL args args') (hc : VCall P f args' h ret h') : VCall P f args h ret h' := by
  refine ⟨hc.1, hc.2.1, fun w fr pi own vals hl hr => ?_⟩
  have hr0 : Rel w fr pi own (St.fs ⟨args, h⟩) vals.toArray := hr
  obtain ⟨own', h1, h2⟩ := hr0.weak (S0 := ⟨args', h⟩) hw (ex := []) (by simp) (.inl rfl)
  have h3 : Rel w fr pi own' (FS.of args' h) vals.toArray := h1
  refine (hc.2.2 w fr pi own' vals (by rw [hl, hw.length]) h3).mono fun e w' hp => ?_
  obtain ⟨v, fr', pi', own2, k1, k2, k3⟩ := hp
  refine ⟨v, fr', pi', own2, k1, k2, k3.step.mono (fun b _ ⟨r, hr⟩ => ⟨r, h2 r b hr⟩), fun r b hb => ?_, k3.pi⟩
  rcases k3.fresh r b hb with ⟨r', hr'⟩ | h'
  · exact .inl ⟨r', h2 r' b hr'⟩
  · exact .inr h'

def fitsB (w : Wr) (last : List UInt8) : Bool := decide (((st w.key).size : Int) ≥ 1) && (decide (((st w.key).size : Int) ≤ 4000) && (decide (((bs w.row).length : Int) ≤ 4000) && ((!sle w.key last) && (!w.gone || (((bs w.row).length : Int) == 0)))))

theorem fitsN (w : Wr) (last : List UInt8) : PCallN Tryd.prog 27 [.agg w.c, .str (st last)] (.bool (fitsB w last)) := by
  refine PCallN.of (tr []) f27 (Nat.le_of_ble_eq_true rfl) (np_cons (.agg _ w.np) (np_cons (.str _) np_nil)) (.bool _) ?_
  unfold fitsB
  have fin : ∀ {b : Bool}, b = false → ¬ b = true := fun h e => by rw [h] at e; cases e
  cases h1 : decide (((st w.key).size : Int) ≥ 1) with
  | false =>
    refine guard_f (fin h1) ?_
    rw [h1]
    repeat (first | refine guard_t rfl ?_ | refine guard_f (by decide) ?_)
    exact bool_eq rfl
  | true =>
    refine guard_t h1 ?_
    rw [h1]
    repeat (first | refine guard_t rfl ?_ | refine guard_f (by decide) ?_)
    cases h2 : decide (((st w.key).size : Int) ≤ 4000) with
    | false =>
      refine guard_f (fin h2) ?_
      rw [h2]
      repeat (first | refine guard_t rfl ?_ | refine guard_f (by decide) ?_)
      exact bool_eq rfl
    | true =>
      refine guard_t h2 ?_
      rw [h2]
      repeat (first | refine guard_t rfl ?_ | refine guard_f (by decide) ?_)
      cases h3 : decide (((bs w.row).length : Int) ≤ 4000) with
      | false =>
        refine guard_f (fin h3) ?_
        rw [h3]
        repeat (first | refine guard_t rfl ?_ | refine guard_f (by decide) ?_)
        exact bool_eq rfl
      | true =>
        refine guard_t h3 ?_
        rw [h3]
        repeat (first | refine guard_t rfl ?_ | refine guard_f (by decide) ?_)
        cases h4 : (!sle w.key last) with
        | false =>
          refine guard_f (fin h4) ?_
          repeat (first | refine guard_t rfl ?_ | refine guard_f (by decide) ?_)
          exact bool_eq rfl
        | true =>
          refine guard_t h4 ?_
          repeat (first | refine guard_t rfl ?_ | refine guard_f (by decide) ?_)
          cases h5 : w.gone with
          | false =>
            refine guard_f (by decide) ?_
            repeat (first | refine guard_t rfl ?_ | refine guard_f (by decide) ?_)
            exact bool_eq rfl
          | true =>
            refine guard_t rfl ?_
            repeat (first | refine guard_t rfl ?_ | refine guard_f (by decide) ?_)
            exact bool_eq rfl

def fitsL : List Wr → List UInt8 → Bool
  | [], _ => true
  | w :: r, last => fitsB w last && fitsL r w.key

def rightB (N : Int) (ws : List Wr) : Bool := fitsL ws [] && (decide (N ≥ 1) && (decide (((ws.map Wr.c).length : Int) ≥ 1) && decide (((ws.map Wr.c).length : Int) ≤ 64)))

def bxS (N : Int) (ws : List Wr) : HObj := .cells [.int .i64 N, .sl 3 none false (ws.map Wr.c)]
def riAt (ws : List Wr) (last : List UInt8) (i : Nat) : List (Nat × AV) := [(1, .ptr (some (0, 0))), (3, .str (st last)), (7, .sl 3 none false (ws.map Wr.c)), (8, .int .i64 ws.length), (9, .int .i64 i)]

theorem riLoop (N : Int) (ws : List Wr) (hl : ws.length ≤ 1000000) (r0 : Bool) (R : VE → Sy → Prop) (hT : r0 = true → R (.exit 0) ⟨[], [(1, .ptr (some (0, 0)))], [bxS N ws]⟩) (hF : r0 = false → ∀ hb, R .ret ⟨[], [(2, .bool false)], hb⟩) :
    ∀ (g i : Nat) (last : List UInt8), i + g = ws.length → r0 = fitsL (ws.drop i) last → VloopS Tryd.prog (tr []) 35 0 c15b0 (exW 35 R) ⟨[], riAt ws last i, [bxS N ws]⟩
  | 0, i, last, hg, he => by
    rw [List.drop_eq_nil_of_le (by omega)] at he
    refine VloopS.round ?_
    refine cond_f (decide_eq_false (by omega)) ?_
    exact ex_w (hT he) rfl ⟨.refl _, trivial⟩ rfl
  | g + 1, i, last, hg, he => by
    have hlt : i < ws.length := by omega
    rw [List.drop_eq_getElem_cons hlt, fitsL] at he
    refine VloopS.round ?_
    refine cond_t (decide_eq_true (by omega)) ?_
    refine And.intro rfl (And.intro (Int.natCast_nonneg i) (Exists.intro ws[i].c (And.intro (by simp [hlt]) ?_)))
    refine call_p (fitsN ws[i] last) ?_
    cases hb : fitsB ws[i] last with
    | false =>
      rw [hb] at he
      refine cond_t rfl ?_
      exact ex_w (hF he _) rfl ⟨.refl _, trivial⟩ rfl
    | true =>
      rw [hb, Bool.true_and] at he
      refine cond_f rfl ?_
      refine VloopS.weakBox (l := riAt ws ws[i].key (i + 1)) (h := [bxS N ws]) (ex := [.cells ws[i].c]) rfl ⟨.refl _, .refl _, .refl _, .refl _, .eq (int_eq (by rw [i64_in _ (by omega)]; omega)), trivial⟩ rfl (Nat.zero_le _) ?_ ?_ (riLoop N ws hl r0 R hT hF g (i + 1) ws[i].key (by omega) he)
      · intro q hq
        simp only [riAt, List.mem_cons, List.not_mem_nil, or_false] at hq
        rcases hq with rfl | rfl | rfl | rfl | rfl
        · exact .ptr _ _ (by simp)
        · exact .str _
        · exact np_ws _
        · exact .int _ _
        · exact .int _ _
      · intro o ho
        rw [List.mem_singleton.1 ho]
        exact np_cons (.int _ _) (np_cons (np_ws _) np_nil)

theorem rightN (N : Int) (ws : List Wr) (hl : ws.length ≤ 1000000) : PCallN Tryd.prog 15 [.agg [.int .i64 N, .sl 3 none false (ws.map Wr.c)]] (.bool (rightB N ws)) := by
  refine PCallN.of (tr []) f15 (Nat.le_of_ble_eq_true rfl) (np_cons (.agg _ (np_cons (.int _ _) (np_cons (np_ws _) np_nil))) np_nil) (.bool _) ?_
  refine VloopS.weakE (l := riAt ws [] 0) (h := [bxS N ws]) rfl ⟨.refl _, .refl _, .refl _, .eq (int_eq (by rw [List.length_map])), .eq (int_eq rfl), trivial⟩ rfl (Nat.zero_le _) (VloopS.exW (riLoop N ws hl (fitsL ws []) _ ?_ ?_ ws.length 0 [] (by omega) rfl))
  · intro e
    unfold rightB
    rw [e, Bool.true_and]
    have fin : ∀ {b : Bool}, b = false → ¬ b = true := fun h e => by rw [h] at e; cases e
    cases h1 : decide (N ≥ 1) with
    | false =>
      refine guard_f (fin h1) ?_
      rw [h1]
      repeat (first | refine guard_t rfl ?_ | refine guard_f (by decide) ?_)
      exact bool_eq rfl
    | true =>
      refine guard_t h1 ?_
      rw [h1]
      repeat (first | refine guard_t rfl ?_ | refine guard_f (by decide) ?_)
      cases h2 : decide (((ws.map Wr.c).length : Int) ≥ 1) with
      | false =>
        refine guard_f (fin h2) ?_
        rw [h2]
        repeat (first | refine guard_t rfl ?_ | refine guard_f (by decide) ?_)
        exact bool_eq rfl
      | true =>
        refine guard_t h2 ?_
        rw [h2]
        repeat (first | refine guard_t rfl ?_ | refine guard_f (by decide) ?_)
        exact bool_eq rfl
  · intro e hb
    unfold rightB
    rw [e]
    exact bool_eq rfl

end Go.Proofs.YtjbgdmebpnfpnaaDoor.V

/- The document's example. -/
namespace Go.Proofs.YtjbgdmebpnfpnaaDoor.V
open Go.IntWalk Go.Lib

theorem decNil : VCall Tryd.prog 14 [.sl 0 (some true) true []] [G0] (.tup [.agg [.int .i64 0, .sl 0 (some true) false []], .int .i64 ((0 : Nat) : Int), .int .i64 3]) [G0] :=
  VCall.weakArgs (.cons _ _ _ _ (.nil 0 1 true false none (by simp)) .nil) (decErr (p := []) (by simp) rfl)

theorem shortN : VCall Tryd.prog 9 [] [G0] (.bool true) [G0] := by
  refine VCall.ofS (tr []) f9 (Nat.le_of_ble_eq_true rfl) (Nat.le_refl _) (.bool _) hob_G0 ?_
  refine call_h decNil ?_
  repeat (first | refine guard_t rfl ?_ | refine guard_f (by decide) ?_)
  refine call_s [(15, .bool true), (18, .agg [.int .i64 1, .sl 3 none false (([⟨[107], [], false⟩] : List Wr).map Wr.c)])] _ (ShiftS.fz (fun _ => none) ⟨.wk _ _ (.refl _), .agg _ _ (.cons _ _ _ _ (.wk _ _ (.refl _)) (.cons _ _ _ _ (.sl _ _ _ _ _ _ (.inr rfl) rfl (.cons _ _ _ _ (.wk _ _ (.refl _)) (.cons _ _ _ _ (.wk _ _ (.nil _ _ _ _ _ (by simp))) (.cons _ _ _ _ (.wk _ _ (.refl _)) .nil)))) .nil)), trivial⟩ (.same 0 _ _ _ rfl (.same 1 _ _ _ rfl (.nil 2))) (fun i sz xs h => by cases h)) rfl ?_
  refine call_sp (rightN 1 [⟨[107], [], false⟩] (by simp)) ?_
  have e : rightB 1 [⟨[107], [], false⟩] = true := by kernel_rfl
  rw [e]
  exact ⟨⟨_, rfl⟩, rfl⟩

end Go.Proofs.YtjbgdmebpnfpnaaDoor.V
