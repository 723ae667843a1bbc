/-
  What a list of acts may be.
-/
import Derived.Test.YtolheiddjejlfaaFb
import Derived.Test.YtolheiddjejlfaaRows

/- The code of functions, as the logic of values reads it. -/
namespace Go.Proofs.Ytolheiddjejlfaa.V

/-! 3: countinghouse/countinghouselaw16.QueueFifo -/

def c3b0 : VC := .seq (.seq (.reg [⟨some 17, .mov (.tmp 6), none, none, []⟩, ⟨some 18, .mov (.tmp 0), none, none, []⟩, ⟨some 19, .lenl (.tmp 18), none, none, []⟩, ⟨some 20, .bin .lss (.tmp 17) (.tmp 19), none, none, []⟩]) (.cond (.tmp 20) .skip (.exit 0))) (.seq (.block 1 (.seq (.seq (.reg [⟨some 23, .mov (.tmp 0), none, none, []⟩, ⟨some 24, .mov (.tmp 6), none, none, []⟩, ⟨some 25, .ixa 1 (.tmp 23) (.tmp 24), none, none, []⟩, ⟨some 26, .load none (.tmp 25), none, none, []⟩, ⟨some 27, .bin .rem (.tmp 26) (.cst (.int .u8 2)), none, none, []⟩, ⟨some 28, .bin .eql (.tmp 27) (.cst (.int .u8 0)), none, none, []⟩]) (.cond (.tmp 28) (.seq (.seq (.reg [⟨some 29, .mov (.tmp 3), none, none, []⟩, ⟨some 30, .mov (.tmp 4), none, none, []⟩, ⟨some 31, .mov (.cst .undef), some (.cst (.func 11 []), [.tmp 29, .tmp 30]), none, []⟩]) (.cond (.tmp 31) (.reg [⟨some 32, .mov (.tmp 4), none, none, []⟩, ⟨some 33, .bin .add (.tmp 32) (.cst (.int .i64 1)), none, none, []⟩, ⟨some 4, .mov (.tmp 33), none, none, []⟩]) .skip)) (.exit 1)) .skip)) (.seq (.reg [⟨some 34, .mov (.tmp 3), none, none, []⟩, ⟨some 35, .mov (.cst .undef), some (.cst (.func 12 []), [.tmp 34, .cst (.int .i64 1)]), none, []⟩, ⟨some 7, .mov (.tmp 35), none, none, []⟩]) (.seq (.seq (.reg [⟨some 36, .mov (.tmp 7), none, none, []⟩, ⟨some 37, .lenl (.tmp 36), none, none, []⟩, ⟨some 38, .bin .gtr (.tmp 37) (.cst (.int .i64 1)), none, none, []⟩, ⟨some 39, .mov (.tmp 38), none, none, []⟩, ⟨some 40, .mov (.tmp 7), none, some (39, false), []⟩, ⟨some 41, .lenl (.tmp 40), none, some (39, false), []⟩, ⟨some 42, .bin .eql (.tmp 41) (.cst (.int .i64 1)), none, some (39, false), []⟩, ⟨some 43, .mov (.tmp 42), none, some (39, false), []⟩, ⟨some 44, .mov (.tmp 7), none, some (43, true), []⟩, ⟨some 45, .ixa 1 (.tmp 44) (.cst (.int .i64 0)), none, some (43, true), []⟩, ⟨some 46, .load none (.tmp 45), none, some (43, true), []⟩, ⟨some 47, .mov (.tmp 5), none, some (43, true), []⟩, ⟨some 48, .bin .neq (.tmp 46) (.tmp 47), none, some (43, true), []⟩, ⟨some 49, .pick (.tmp 43) (.tmp 48) (.cst (.bool false)), none, some (39, false), []⟩, ⟨some 50, .pick (.tmp 39) (.cst (.bool true)) (.tmp 49), none, none, []⟩]) (.cond (.tmp 50) (.seq (.reg [⟨some 2, .mov (.cst (.bool false)), none, none, []⟩]) .ret) .skip)) (.reg [⟨some 51, .mov (.tmp 5), none, none, []⟩, ⟨some 52, .mov (.tmp 7), none, none, []⟩, ⟨some 53, .lenl (.tmp 52), none, none, []⟩, ⟨some 54, .bin .add (.tmp 51) (.tmp 53), none, none, []⟩, ⟨some 5, .mov (.tmp 54), none, none, []⟩]))))) (.reg [⟨some 21, .mov (.tmp 6), none, none, []⟩, ⟨some 22, .bin .add (.tmp 21) (.cst (.int .i64 1)), none, none, []⟩, ⟨some 6, .mov (.tmp 22), none, none, []⟩]))

def c3 : VC := .seq (.reg [⟨some 2, .mov (.cst (.bool false)), none, none, []⟩]) (.seq (.seq (.reg [⟨some 8, .mov (.cst .undef), some (.cst (.func 9 []), []), none, []⟩, ⟨some 9, .un .not (.tmp 8), none, none, []⟩, ⟨some 10, .mov (.tmp 9), none, none, []⟩, ⟨some 11, .mov (.tmp 0), none, some (10, false), []⟩, ⟨some 12, .lenl (.tmp 11), none, some (10, false), []⟩, ⟨some 13, .bin .gtr (.tmp 12) (.cst (.int .i64 100)), none, some (10, false), []⟩, ⟨some 14, .pick (.tmp 10) (.cst (.bool true)) (.tmp 13), none, none, []⟩]) (.cond (.tmp 14) (.seq (.reg [⟨some 15, .mov (.cst .undef), some (.cst (.func 9 []), []), none, []⟩, ⟨some 2, .mov (.tmp 15), none, none, []⟩]) .ret) .skip)) (.seq (.reg [⟨some 16, .mov (.cst .undef), some (.cst (.func 10 []), [.cst (.int .i64 3)]), none, []⟩, ⟨some 3, .mov (.tmp 16), none, none, []⟩]) (.seq (.reg [⟨some 4, .mov (.cst (.int .i64 0)), none, none, []⟩, ⟨some 5, .mov (.cst (.int .i64 0)), none, none, []⟩]) (.seq (.seq (.reg [⟨some 6, .mov (.cst (.int .i64 0)), none, none, []⟩]) (.block 0 (.loop c3b0))) (.seq (.reg [⟨some 55, .mov (.tmp 3), none, none, []⟩, ⟨some 56, .mov (.cst .undef), some (.cst (.func 13 []), [.tmp 55]), none, []⟩, ⟨some 57, .mov (.tmp 4), none, none, []⟩, ⟨some 58, .mov (.tmp 5), none, none, []⟩, ⟨some 59, .bin .sub (.tmp 57) (.tmp 58), none, none, []⟩, ⟨some 60, .bin .eql (.tmp 56) (.tmp 59), none, none, []⟩, ⟨some 61, .mov (.tmp 60), none, none, []⟩, ⟨some 62, .mov (.tmp 4), none, some (61, true), []⟩, ⟨some 63, .mov (.tmp 5), none, some (61, true), []⟩, ⟨some 64, .bin .sub (.tmp 62) (.tmp 63), none, some (61, true), []⟩, ⟨some 65, .bin .leq (.tmp 64) (.cst (.int .i64 3)), none, some (61, true), []⟩, ⟨some 66, .pick (.tmp 61) (.tmp 65) (.cst (.bool false)), none, none, []⟩, ⟨some 2, .mov (.tmp 66), none, none, []⟩]) .ret)))))

theorem f3 : fnC Try.prog 3 = some (67, c3, [.tmp 2]) := by kernel_rfl

/-! 4: countinghouse/countinghouselaw16.QueueNone -/

def c4b0 : VC := .seq (.seq (.reg [⟨some 10, .mov (.tmp 7), none, none, []⟩, ⟨some 11, .mov (.tmp 0), none, none, []⟩, ⟨some 12, .bin .rem (.tmp 11) (.cst (.int .i64 6)), none, none, []⟩, ⟨some 13, .bin .lss (.tmp 10) (.tmp 12), none, none, []⟩]) (.cond (.tmp 13) .skip (.exit 0))) (.seq (.block 1 (.seq (.reg [⟨some 16, .mov (.tmp 5), none, none, []⟩, ⟨some 17, .mov (.tmp 7), none, none, []⟩, ⟨some 18, .mov (.cst .undef), some (.cst (.func 11 []), [.tmp 16, .tmp 17]), none, []⟩]) (.cond (.tmp 18) (.reg [⟨some 19, .mov (.tmp 6), none, none, []⟩, ⟨some 20, .bin .add (.tmp 19) (.cst (.int .i64 1)), none, none, []⟩, ⟨some 6, .mov (.tmp 20), none, none, []⟩]) .skip))) (.reg [⟨some 14, .mov (.tmp 7), none, none, []⟩, ⟨some 15, .bin .add (.tmp 14) (.cst (.int .i64 1)), none, none, []⟩, ⟨some 7, .mov (.tmp 15), none, none, []⟩]))

def c4 : VC := .seq (.reg [⟨some 4, .mov (.cst (.bool false)), none, none, []⟩]) (.seq (.reg [⟨some 9, .mov (.cst .undef), some (.cst (.func 10 []), [.cst (.int .i64 4)]), none, []⟩, ⟨some 5, .mov (.tmp 9), none, none, []⟩]) (.seq (.reg [⟨some 6, .mov (.cst (.int .i64 0)), none, none, []⟩]) (.seq (.seq (.reg [⟨some 7, .mov (.cst (.int .i64 0)), none, none, []⟩]) (.block 0 (.loop c4b0))) (.seq (.reg [⟨some 21, .mov (.tmp 1), none, none, []⟩, ⟨some 8, .mov (.tmp 21), none, none, []⟩]) (.seq (.seq (.reg [⟨some 22, .mov (.tmp 1), none, none, []⟩, ⟨some 23, .bin .lss (.tmp 22) (.cst (.int .i64 0)), none, none, []⟩]) (.cond (.tmp 23) (.reg [⟨some 8, .mov (.cst (.int .i64 0)), none, none, []⟩]) .skip)) (.seq (.seq (.reg [⟨some 24, .mov (.tmp 8), none, none, []⟩, ⟨some 25, .mov (.tmp 6), none, none, []⟩, ⟨some 26, .bin .gtr (.tmp 24) (.tmp 25), none, none, []⟩]) (.cond (.tmp 26) (.reg [⟨some 27, .mov (.tmp 6), none, none, []⟩, ⟨some 8, .mov (.tmp 27), none, none, []⟩]) .skip)) (.seq (.reg [⟨some 28, .mov (.cst .undef), some (.cst (.func 9 []), []), none, []⟩, ⟨some 29, .mov (.tmp 28), none, none, []⟩, ⟨some 30, .mov (.tmp 5), none, some (29, true), []⟩, ⟨some 31, .mov (.tmp 1), none, some (29, true), []⟩, ⟨some 32, .mov (.cst .undef), some (.cst (.func 12 []), [.tmp 30, .tmp 31]), some (29, true), []⟩, ⟨some 33, .lenl (.tmp 32), none, some (29, true), []⟩, ⟨some 34, .mov (.tmp 8), none, some (29, true), []⟩, ⟨some 35, .bin .eql (.tmp 33) (.tmp 34), none, some (29, true), []⟩, ⟨some 36, .pick (.tmp 29) (.tmp 35) (.cst (.bool false)), none, none, []⟩, ⟨some 37, .mov (.tmp 36), none, none, []⟩, ⟨some 38, .mov (.tmp 5), none, some (37, true), []⟩, ⟨some 39, .mov (.cst .undef), some (.cst (.func 13 []), [.tmp 38]), some (37, true), []⟩, ⟨some 40, .mov (.tmp 6), none, some (37, true), []⟩, ⟨some 41, .mov (.tmp 8), none, some (37, true), []⟩, ⟨some 42, .bin .sub (.tmp 40) (.tmp 41), none, some (37, true), []⟩, ⟨some 43, .bin .eql (.tmp 39) (.tmp 42), none, some (37, true), []⟩, ⟨some 44, .pick (.tmp 37) (.tmp 43) (.cst (.bool false)), none, none, []⟩, ⟨some 4, .mov (.tmp 44), none, none, []⟩]) .ret)))))))

theorem f4 : fnC Try.prog 4 = some (45, c4, [.tmp 4]) := by kernel_rfl

/-! 5: countinghouse/countinghouselaw16.QueuePlays -/

def c5b0 : VC := .seq (.seq (.reg [⟨some 25, .mov (.tmp 7), none, none, []⟩, ⟨some 26, .mov (.tmp 1), none, none, []⟩, ⟨some 27, .lenl (.tmp 26), none, none, []⟩, ⟨some 28, .bin .lss (.tmp 25) (.tmp 27), none, none, []⟩]) (.cond (.tmp 28) .skip (.exit 0))) (.seq (.block 1 (.seq (.reg [⟨some 31, .mov (.tmp 1), none, none, []⟩, ⟨some 32, .mov (.tmp 7), none, none, []⟩, ⟨some 33, .ixa 2 (.tmp 31) (.tmp 32), none, none, []⟩, ⟨some 34, .fld 1 (.tmp 33), none, none, []⟩, ⟨some 35, .load none (.tmp 34), none, none, []⟩, ⟨some 8, .mov (.tmp 35), none, none, []⟩]) (.seq (.seq (.reg [⟨some 36, .mov (.tmp 1), none, none, []⟩, ⟨some 37, .mov (.tmp 7), none, none, []⟩, ⟨some 38, .ixa 2 (.tmp 36) (.tmp 37), none, none, []⟩, ⟨some 39, .fld 0 (.tmp 38), none, none, []⟩, ⟨some 40, .load none (.tmp 39), none, none, []⟩]) (.cond (.tmp 40) (.seq (.reg [⟨some 42, .load (some 2) (.tmp 6), none, none, []⟩, ⟨some 43, .mov (.tmp 8), none, none, []⟩, ⟨some 44, .bin .rem (.tmp 43) (.cst (.int .i64 4)), none, none, []⟩, ⟨some 45, .mov (.cst .undef), some (.cst (.func 15 []), [.tmp 42, .tmp 44]), none, []⟩, ⟨some 41, .mov (.tmp 45), none, none, []⟩, ⟨some 46, .ext (.tmp 41) 0, none, none, []⟩, ⟨some 47, .ext (.tmp 41) 1, none, none, []⟩, ⟨some 9, .alloc (.agg [.sl 0 (some true) true [], .int .i64 0]), none, none, []⟩, ⟨none, .store 2 (.tmp 9) (.tmp 46), none, none, []⟩, ⟨some 10, .mov (.tmp 47), none, none, []⟩]) (.seq (.reg [⟨some 48, .load (some 2) (.tmp 9), none, none, []⟩, ⟨none, .store 2 (.tmp 6) (.tmp 48), none, none, []⟩]) (.seq (.reg [⟨some 49, .mov (.tmp 5), none, none, []⟩, ⟨some 50, .mov (.tmp 8), none, none, []⟩, ⟨some 51, .bin .rem (.tmp 50) (.cst (.int .i64 4)), none, none, []⟩, ⟨some 52, .mov (.cst .undef), some (.cst (.func 12 []), [.tmp 49, .tmp 51]), none, []⟩, ⟨some 53, .mov (.tmp 10), none, none, []⟩, ⟨some 54, .mov (.cst .undef), some (.cst (.func 16 []), [.tmp 52, .tmp 53]), none, []⟩, ⟨some 55, .un .not (.tmp 54), none, none, []⟩]) (.cond (.tmp 55) (.seq (.reg [⟨some 4, .mov (.cst (.bool false)), none, none, []⟩]) .ret) .skip)))) (.seq (.reg [⟨some 57, .load (some 2) (.tmp 6), none, none, []⟩, ⟨some 58, .mov (.tmp 8), none, none, []⟩, ⟨some 59, .mov (.cst .undef), some (.cst (.func 17 []), [.tmp 57, .tmp 58]), none, []⟩, ⟨some 56, .mov (.tmp 59), none, none, []⟩, ⟨some 60, .ext (.tmp 56) 0, none, none, []⟩, ⟨some 61, .ext (.tmp 56) 1, none, none, []⟩, ⟨some 11, .alloc (.agg [.sl 0 (some true) true [], .int .i64 0]), none, none, []⟩, ⟨none, .store 2 (.tmp 11) (.tmp 60), none, none, []⟩, ⟨some 12, .mov (.tmp 61), none, none, []⟩]) (.seq (.reg [⟨some 62, .load (some 2) (.tmp 11), none, none, []⟩, ⟨none, .store 2 (.tmp 6) (.tmp 62), none, none, []⟩]) (.seq (.reg [⟨some 63, .mov (.tmp 5), none, none, []⟩, ⟨some 64, .mov (.tmp 8), none, none, []⟩, ⟨some 65, .mov (.cst .undef), some (.cst (.func 11 []), [.tmp 63, .tmp 64]), none, []⟩, ⟨some 66, .mov (.tmp 12), none, none, []⟩, ⟨some 67, .eqb true (.tmp 65) (.tmp 66), none, none, []⟩]) (.cond (.tmp 67) (.seq (.reg [⟨some 4, .mov (.cst (.bool false)), none, none, []⟩]) .ret) .skip)))))) (.seq (.dreg [⟨some 68, .mov (.tmp 5), none, none, []⟩, ⟨some 69, .mov (.cst .undef), some (.cst (.func 13 []), [.tmp 68]), none, [0]⟩, ⟨some 70, .fld 0 (.tmp 6), none, none, []⟩, ⟨some 71, .load none (.tmp 70), none, none, [2]⟩, ⟨some 72, .lenl (.tmp 71), none, none, [3]⟩, ⟨some 73, .bin .neq (.tmp 69) (.tmp 72), none, none, [1, 4]⟩, ⟨some 74, .mov (.tmp 73), none, none, [5, 1]⟩, ⟨some 75, .mov (.tmp 5), none, some (74, false), [6]⟩, ⟨some 76, .mov (.cst .undef), some (.cst (.func 18 []), [.tmp 75]), some (74, false), [7, 6, 6]⟩, ⟨some 77, .fld 1 (.tmp 6), none, some (74, false), [6]⟩, ⟨some 78, .load none (.tmp 77), none, some (74, false), [9, 6]⟩, ⟨some 79, .fld 0 (.tmp 6), none, some (74, false), [6]⟩, ⟨some 80, .load none (.tmp 79), none, some (74, false), [11, 6]⟩, ⟨some 81, .lenl (.tmp 80), none, some (74, false), [12, 6]⟩, ⟨some 82, .bin .sub (.tmp 78) (.tmp 81), none, some (74, false), [10, 13, 6]⟩, ⟨some 83, .bin .neq (.tmp 76) (.tmp 82), none, some (74, false), [8, 14, 6]⟩, ⟨some 84, .pick (.tmp 74) (.cst (.bool true)) (.tmp 83), none, none, [6, 15]⟩, ⟨some 85, .mov (.tmp 84), none, none, [16, 8]⟩, ⟨some 86, .mov (.tmp 5), none, some (85, false), [17]⟩, ⟨some 87, .mov (.tmp 8), none, some (85, false), [17]⟩, ⟨some 88, .mov (.cst .undef), some (.cst (.func 19 []), [.tmp 86, .tmp 87]), some (85, false), [18, 19, 17, 17]⟩, ⟨some 89, .fld 0 (.tmp 6), none, some (85, false), [17]⟩, ⟨some 90, .load none (.tmp 89), none, some (85, false), [21, 17]⟩, ⟨some 91, .mov (.tmp 8), none, some (85, false), [17]⟩, ⟨some 92, .mov (.cst .undef), some (.cst (.func 20 []), [.tmp 90, .tmp 91]), some (85, false), [22, 23, 20, 17]⟩, ⟨some 93, .eqb true (.tmp 88) (.tmp 92), none, some (85, false), [20, 24, 17]⟩, ⟨some 94, .pick (.tmp 85) (.cst (.bool true)) (.tmp 93), none, none, [17, 25]⟩, ⟨some 95, .mov (.tmp 94), none, none, [26, 24]⟩, ⟨some 96, .mov (.tmp 5), none, some (95, false), [27]⟩, ⟨some 97, .mov (.tmp 8), none, some (95, false), [27]⟩, ⟨some 98, .bin .add (.tmp 97) (.cst (.int .i64 1)), none, some (95, false), [29, 27]⟩, ⟨some 99, .mov (.cst .undef), some (.cst (.func 19 []), [.tmp 96, .tmp 98]), some (95, false), [28, 30, 27, 27]⟩, ⟨some 100, .fld 0 (.tmp 6), none, some (95, false), [27]⟩, ⟨some 101, .load none (.tmp 100), none, some (95, false), [32, 27]⟩, ⟨some 102, .mov (.tmp 8), none, some (95, false), [27]⟩, ⟨some 103, .bin .add (.tmp 102) (.cst (.int .i64 1)), none, some (95, false), [34, 27]⟩, ⟨some 104, .mov (.cst .undef), some (.cst (.func 20 []), [.tmp 101, .tmp 103]), some (95, false), [33, 35, 31, 27]⟩, ⟨some 105, .eqb true (.tmp 99) (.tmp 104), none, some (95, false), [31, 36, 27]⟩, ⟨some 106, .pick (.tmp 95) (.cst (.bool true)) (.tmp 105), none, none, [27, 37]⟩]) (.cond (.tmp 106) (.seq (.reg [⟨some 4, .mov (.cst (.bool false)), none, none, []⟩]) .ret) .skip))))) (.reg [⟨some 29, .mov (.tmp 7), none, none, []⟩, ⟨some 30, .bin .add (.tmp 29) (.cst (.int .i64 1)), none, none, []⟩, ⟨some 7, .mov (.tmp 30), none, none, []⟩]))

def c5 : VC := .seq (.reg [⟨some 4, .mov (.cst (.bool false)), none, none, []⟩]) (.seq (.seq (.reg [⟨some 13, .mov (.cst .undef), some (.cst (.func 9 []), []), none, []⟩, ⟨some 14, .un .not (.tmp 13), none, none, []⟩, ⟨some 15, .mov (.tmp 14), none, none, []⟩, ⟨some 16, .mov (.tmp 1), none, some (15, false), []⟩, ⟨some 17, .lenl (.tmp 16), none, some (15, false), []⟩, ⟨some 18, .bin .gtr (.tmp 17) (.cst (.int .i64 100)), none, some (15, false), []⟩, ⟨some 19, .pick (.tmp 15) (.cst (.bool true)) (.tmp 18), none, none, []⟩]) (.cond (.tmp 19) (.seq (.reg [⟨some 20, .mov (.cst .undef), some (.cst (.func 9 []), []), none, []⟩, ⟨some 4, .mov (.tmp 20), none, none, []⟩]) .ret) .skip)) (.seq (.reg [⟨some 21, .mov (.tmp 0), none, none, []⟩, ⟨some 22, .mov (.cst .undef), some (.cst (.func 10 []), [.tmp 21]), none, []⟩, ⟨some 23, .mov (.tmp 0), none, none, []⟩, ⟨some 24, .mov (.cst .undef), some (.cst (.func 14 []), [.tmp 23]), none, []⟩, ⟨some 6, .alloc (.agg [.sl 0 (some true) true [], .int .i64 0]), none, none, []⟩, ⟨some 5, .mov (.tmp 22), none, none, []⟩, ⟨none, .store 2 (.tmp 6) (.tmp 24), none, none, []⟩]) (.seq (.seq (.reg [⟨some 7, .mov (.cst (.int .i64 0)), none, none, []⟩]) (.block 0 (.loop c5b0))) (.seq (.dreg [⟨some 107, .mov (.tmp 5), none, none, []⟩, ⟨some 108, .mov (.cst .undef), some (.cst (.func 12 []), [.tmp 107, .cst (.int .i64 100)]), none, [0]⟩, ⟨some 109, .fld 0 (.tmp 6), none, none, []⟩, ⟨some 110, .load none (.tmp 109), none, none, [2]⟩, ⟨some 111, .mov (.cst .undef), some (.cst (.func 16 []), [.tmp 108, .tmp 110]), none, [1, 3, 1]⟩, ⟨some 4, .mov (.tmp 111), none, none, [4, 4, 0, 1, 2, 3, 4]⟩]) .ret))))

theorem f5 : fnC Try.prog 5 = some (112, c5, [.tmp 4]) := by kernel_rfl

/-! 6: countinghouse/countinghouselaw16.QueueRoom -/

def c6b0 : VC := .seq (.seq (.reg [⟨some 18, .mov (.tmp 8), none, none, []⟩, ⟨some 19, .mov (.tmp 6), none, none, []⟩, ⟨some 20, .bin .lss (.tmp 18) (.tmp 19), none, none, []⟩]) (.cond (.tmp 20) .skip (.exit 0))) (.seq (.block 1 (.seq (.reg [⟨some 23, .mov (.tmp 5), none, none, []⟩, ⟨some 24, .mov (.tmp 1), none, none, []⟩, ⟨some 25, .mov (.cst .undef), some (.cst (.func 11 []), [.tmp 23, .tmp 24]), none, []⟩, ⟨some 26, .un .not (.tmp 25), none, none, []⟩]) (.cond (.tmp 26) (.seq (.reg [⟨some 4, .mov (.cst (.bool false)), none, none, []⟩]) .ret) .skip))) (.reg [⟨some 21, .mov (.tmp 8), none, none, []⟩, ⟨some 22, .bin .add (.tmp 21) (.cst (.int .i64 1)), none, none, []⟩, ⟨some 8, .mov (.tmp 22), none, none, []⟩]))

def c6 : VC := .seq (.reg [⟨some 4, .mov (.cst (.bool false)), none, none, []⟩]) (.seq (.reg [⟨some 9, .mov (.tmp 0), none, none, []⟩, ⟨some 10, .mov (.cst .undef), some (.cst (.func 10 []), [.tmp 9]), none, []⟩, ⟨some 5, .mov (.tmp 10), none, none, []⟩]) (.seq (.reg [⟨some 11, .mov (.tmp 5), none, none, []⟩, ⟨some 12, .mov (.cst .undef), some (.cst (.func 18 []), [.tmp 11]), none, []⟩, ⟨some 6, .mov (.tmp 12), none, none, []⟩]) (.seq (.reg [⟨some 13, .mov (.tmp 0), none, none, []⟩, ⟨some 7, .mov (.tmp 13), none, none, []⟩]) (.seq (.seq (.reg [⟨some 14, .mov (.tmp 0), none, none, []⟩, ⟨some 15, .bin .lss (.tmp 14) (.cst (.int .i64 0)), none, none, []⟩]) (.cond (.tmp 15) (.reg [⟨some 7, .mov (.cst (.int .i64 0)), none, none, []⟩]) .skip)) (.seq (.seq (.reg [⟨some 16, .mov (.tmp 0), none, none, []⟩, ⟨some 17, .bin .gtr (.tmp 16) (.cst (.int .i64 4)), none, none, []⟩]) (.cond (.tmp 17) (.reg [⟨some 7, .mov (.cst (.int .i64 4)), none, none, []⟩]) .skip)) (.seq (.seq (.reg [⟨some 8, .mov (.cst (.int .i64 0)), none, none, []⟩]) (.block 0 (.loop c6b0))) (.seq (.reg [⟨some 27, .mov (.cst .undef), some (.cst (.func 9 []), []), none, []⟩, ⟨some 28, .mov (.tmp 27), none, none, []⟩, ⟨some 29, .mov (.tmp 6), none, some (28, true), []⟩, ⟨some 30, .mov (.tmp 7), none, some (28, true), []⟩, ⟨some 31, .bin .eql (.tmp 29) (.tmp 30), none, some (28, true), []⟩, ⟨some 32, .pick (.tmp 28) (.tmp 31) (.cst (.bool false)), none, none, []⟩, ⟨some 33, .mov (.tmp 32), none, none, []⟩, ⟨some 34, .mov (.tmp 5), none, some (33, true), []⟩, ⟨some 35, .mov (.tmp 1), none, some (33, true), []⟩, ⟨some 36, .mov (.cst .undef), some (.cst (.func 11 []), [.tmp 34, .tmp 35]), some (33, true), []⟩, ⟨some 37, .un .not (.tmp 36), none, some (33, true), []⟩, ⟨some 38, .pick (.tmp 33) (.tmp 37) (.cst (.bool false)), none, none, []⟩, ⟨some 39, .mov (.tmp 38), none, none, []⟩, ⟨some 40, .mov (.tmp 5), none, some (39, true), []⟩, ⟨some 41, .mov (.cst .undef), some (.cst (.func 13 []), [.tmp 40]), some (39, true), []⟩, ⟨some 42, .mov (.tmp 6), none, some (39, true), []⟩, ⟨some 43, .bin .eql (.tmp 41) (.tmp 42), none, some (39, true), []⟩, ⟨some 44, .pick (.tmp 39) (.tmp 43) (.cst (.bool false)), none, none, []⟩, ⟨some 45, .mov (.tmp 44), none, none, []⟩, ⟨some 46, .mov (.tmp 5), none, some (45, true), []⟩, ⟨some 47, .mov (.tmp 1), none, some (45, true), []⟩, ⟨some 48, .mov (.cst .undef), some (.cst (.func 19 []), [.tmp 46, .tmp 47]), some (45, true), []⟩, ⟨some 49, .mov (.tmp 6), none, some (45, true), []⟩, ⟨some 50, .bin .gtr (.tmp 49) (.cst (.int .i64 0)), none, some (45, true), []⟩, ⟨some 51, .eqb false (.tmp 48) (.tmp 50), none, some (45, true), []⟩, ⟨some 52, .pick (.tmp 45) (.tmp 51) (.cst (.bool false)), none, none, []⟩, ⟨some 53, .mov (.tmp 52), none, none, []⟩, ⟨some 54, .mov (.tmp 5), none, some (53, true), []⟩, ⟨some 55, .mov (.cst .undef), some (.cst (.func 18 []), [.tmp 54]), some (53, true), []⟩, ⟨some 56, .bin .eql (.tmp 55) (.cst (.int .i64 0)), none, some (53, true), []⟩, ⟨some 57, .pick (.tmp 53) (.tmp 56) (.cst (.bool false)), none, none, []⟩, ⟨some 4, .mov (.tmp 57), none, none, []⟩]) .ret)))))))

theorem f6 : fnC Try.prog 6 = some (58, c6, [.tmp 4]) := by kernel_rfl

/-! 7: countinghouse/countinghouselaw16.QueueNil -/

def c7 : VC := .seq (.reg [⟨some 2, .mov (.cst (.bool false)), none, none, []⟩]) (.seq (.reg [⟨some 3, .mov (.cst (.ptr none)), none, none, []⟩]) (.seq (.reg [⟨some 4, .mov (.cst .undef), some (.cst (.func 9 []), []), none, []⟩, ⟨some 5, .mov (.tmp 4), none, none, []⟩, ⟨some 6, .mov (.tmp 3), none, some (5, true), []⟩, ⟨some 7, .mov (.tmp 0), none, some (5, true), []⟩, ⟨some 8, .mov (.cst .undef), some (.cst (.func 11 []), [.tmp 6, .tmp 7]), some (5, true), []⟩, ⟨some 9, .un .not (.tmp 8), none, some (5, true), []⟩, ⟨some 10, .pick (.tmp 5) (.tmp 9) (.cst (.bool false)), none, none, []⟩, ⟨some 11, .mov (.tmp 10), none, none, []⟩, ⟨some 12, .mov (.tmp 3), none, some (11, true), []⟩, ⟨some 13, .mov (.tmp 0), none, some (11, true), []⟩, ⟨some 14, .mov (.cst .undef), some (.cst (.func 12 []), [.tmp 12, .tmp 13]), some (11, true), []⟩, ⟨some 15, .lenl (.tmp 14), none, some (11, true), []⟩, ⟨some 16, .mov (.tmp 3), none, some (11, true), []⟩, ⟨some 17, .mov (.cst .undef), some (.cst (.func 13 []), [.tmp 16]), some (11, true), []⟩, ⟨some 18, .bin .add (.tmp 15) (.tmp 17), none, some (11, true), []⟩, ⟨some 19, .mov (.tmp 3), none, some (11, true), []⟩, ⟨some 20, .mov (.cst .undef), some (.cst (.func 18 []), [.tmp 19]), some (11, true), []⟩, ⟨some 21, .bin .add (.tmp 18) (.tmp 20), none, some (11, true), []⟩, ⟨some 22, .bin .eql (.tmp 21) (.cst (.int .i64 0)), none, some (11, true), []⟩, ⟨some 23, .pick (.tmp 11) (.tmp 22) (.cst (.bool false)), none, none, []⟩, ⟨some 24, .mov (.tmp 23), none, none, []⟩, ⟨some 25, .mov (.tmp 3), none, some (24, true), []⟩, ⟨some 26, .mov (.tmp 0), none, some (24, true), []⟩, ⟨some 27, .mov (.cst .undef), some (.cst (.func 19 []), [.tmp 25, .tmp 26]), some (24, true), []⟩, ⟨some 28, .un .not (.tmp 27), none, some (24, true), []⟩, ⟨some 29, .pick (.tmp 24) (.tmp 28) (.cst (.bool false)), none, none, []⟩, ⟨some 2, .mov (.tmp 29), none, none, []⟩]) .ret))

theorem f7 : fnC Try.prog 7 = some (30, c7, [.tmp 2]) := by kernel_rfl

/-! 8: countinghouse/countinghouselaw16.QueueHas -/

def c8b0 : VC := .seq (.seq (.reg [⟨some 55, .mov (.tmp 6), none, none, []⟩, ⟨some 56, .mov (.tmp 5), none, none, []⟩, ⟨some 57, .lenl (.tmp 56), none, none, []⟩, ⟨some 58, .bin .lss (.tmp 55) (.tmp 57), none, none, []⟩]) (.cond (.tmp 58) .skip (.exit 2))) (.seq (.block 3 (.seq (.reg [⟨some 61, .mov (.tmp 3), none, none, []⟩, ⟨some 62, .mov (.tmp 5), none, none, []⟩, ⟨some 63, .mov (.tmp 6), none, none, []⟩, ⟨some 64, .ixa 1 (.tmp 62) (.tmp 63), none, none, []⟩, ⟨some 65, .load none (.tmp 64), none, none, []⟩, ⟨some 66, .mov (.cst .undef), some (.cst (.func 19 []), [.tmp 61, .tmp 65]), none, []⟩]) (.cond (.tmp 66) (.seq (.reg [⟨some 2, .mov (.cst (.bool false)), none, none, []⟩]) .ret) .skip))) (.reg [⟨some 59, .mov (.tmp 6), none, none, []⟩, ⟨some 60, .bin .add (.tmp 59) (.cst (.int .i64 1)), none, none, []⟩, ⟨some 6, .mov (.tmp 60), none, none, []⟩]))

def c8b1 : VC := .seq (.seq (.reg [⟨some 16, .mov (.tmp 4), none, none, []⟩, ⟨some 17, .mov (.tmp 0), none, none, []⟩, ⟨some 18, .lenl (.tmp 17), none, none, []⟩, ⟨some 19, .bin .lss (.tmp 16) (.tmp 18), none, none, []⟩]) (.cond (.tmp 19) .skip (.exit 0))) (.seq (.block 1 (.seq (.seq (.reg [⟨some 22, .mov (.tmp 3), none, none, []⟩, ⟨some 23, .mov (.tmp 4), none, none, []⟩, ⟨some 24, .mov (.cst .undef), some (.cst (.func 19 []), [.tmp 22, .tmp 23]), none, []⟩]) (.cond (.tmp 24) (.seq (.reg [⟨some 2, .mov (.cst (.bool false)), none, none, []⟩]) .ret) .skip)) (.seq (.seq (.reg [⟨some 25, .mov (.tmp 3), none, none, []⟩, ⟨some 26, .mov (.tmp 4), none, none, []⟩, ⟨some 27, .mov (.cst .undef), some (.cst (.func 11 []), [.tmp 25, .tmp 26]), none, []⟩, ⟨some 28, .un .not (.tmp 27), none, none, []⟩, ⟨some 29, .mov (.tmp 28), none, none, []⟩, ⟨some 30, .mov (.tmp 3), none, some (29, false), []⟩, ⟨some 31, .mov (.tmp 4), none, some (29, false), []⟩, ⟨some 32, .mov (.cst .undef), some (.cst (.func 19 []), [.tmp 30, .tmp 31]), some (29, false), []⟩, ⟨some 33, .un .not (.tmp 32), none, some (29, false), []⟩, ⟨some 34, .pick (.tmp 29) (.cst (.bool true)) (.tmp 33), none, none, []⟩]) (.cond (.tmp 34) (.seq (.reg [⟨some 2, .mov (.cst (.bool false)), none, none, []⟩]) .ret) .skip)) (.seq (.reg [⟨some 35, .mov (.tmp 3), none, none, []⟩, ⟨some 36, .mov (.cst .undef), some (.cst (.func 18 []), [.tmp 35]), none, []⟩, ⟨some 37, .bin .eql (.tmp 36) (.cst (.int .i64 0)), none, none, []⟩, ⟨some 38, .mov (.tmp 37), none, none, []⟩, ⟨some 39, .mov (.tmp 0), none, some (38, false), []⟩, ⟨some 40, .mov (.tmp 4), none, some (38, false), []⟩, ⟨some 41, .ixa 1 (.tmp 39) (.tmp 40), none, some (38, false), []⟩, ⟨some 42, .load none (.tmp 41), none, some (38, false), []⟩, ⟨some 43, .bin .rem (.tmp 42) (.cst (.int .u8 2)), none, some (38, false), []⟩, ⟨some 44, .bin .eql (.tmp 43) (.cst (.int .u8 0)), none, some (38, false), []⟩, ⟨some 45, .pick (.tmp 38) (.cst (.bool true)) (.tmp 44), none, none, []⟩]) (.cond (.tmp 45) (.seq (.reg [⟨some 46, .mov (.tmp 3), none, none, []⟩, ⟨some 47, .mov (.tmp 0), none, none, []⟩, ⟨some 48, .mov (.tmp 4), none, none, []⟩, ⟨some 49, .ixa 1 (.tmp 47) (.tmp 48), none, none, []⟩, ⟨some 50, .load none (.tmp 49), none, none, []⟩, ⟨some 51, .bin .rem (.tmp 50) (.cst (.int .u8 3)), none, none, []⟩, ⟨some 52, .cvi .i64 (.tmp 51), none, none, []⟩, ⟨some 53, .bin .add (.cst (.int .i64 1)) (.tmp 52), none, none, []⟩, ⟨some 54, .mov (.cst .undef), some (.cst (.func 12 []), [.tmp 46, .tmp 53]), none, []⟩, ⟨some 5, .mov (.tmp 54), none, none, []⟩]) (.seq (.reg [⟨some 6, .mov (.cst (.int .i64 0)), none, none, []⟩]) (.block 2 (.loop c8b0)))) .skip))))) (.reg [⟨some 20, .mov (.tmp 4), none, none, []⟩, ⟨some 21, .bin .add (.tmp 20) (.cst (.int .i64 1)), none, none, []⟩, ⟨some 4, .mov (.tmp 21), none, none, []⟩]))

def c8 : VC := .seq (.reg [⟨some 2, .mov (.cst (.bool false)), none, none, []⟩]) (.seq (.seq (.reg [⟨some 7, .mov (.cst .undef), some (.cst (.func 9 []), []), none, []⟩, ⟨some 8, .un .not (.tmp 7), none, none, []⟩, ⟨some 9, .mov (.tmp 8), none, none, []⟩, ⟨some 10, .mov (.tmp 0), none, some (9, false), []⟩, ⟨some 11, .lenl (.tmp 10), none, some (9, false), []⟩, ⟨some 12, .bin .gtr (.tmp 11) (.cst (.int .i64 60)), none, some (9, false), []⟩, ⟨some 13, .pick (.tmp 9) (.cst (.bool true)) (.tmp 12), none, none, []⟩]) (.cond (.tmp 13) (.seq (.reg [⟨some 14, .mov (.cst .undef), some (.cst (.func 9 []), []), none, []⟩, ⟨some 2, .mov (.tmp 14), none, none, []⟩]) .ret) .skip)) (.seq (.reg [⟨some 15, .mov (.cst .undef), some (.cst (.func 10 []), [.cst (.int .i64 4)]), none, []⟩, ⟨some 3, .mov (.tmp 15), none, none, []⟩]) (.seq (.seq (.reg [⟨some 4, .mov (.cst (.int .i64 0)), none, none, []⟩]) (.block 0 (.loop c8b1))) (.seq (.reg [⟨some 67, .mov (.tmp 3), none, none, []⟩, ⟨some 68, .mov (.cst .undef), some (.cst (.func 13 []), [.tmp 67]), none, []⟩, ⟨some 69, .bin .leq (.tmp 68) (.cst (.int .i64 4)), none, none, []⟩, ⟨some 2, .mov (.tmp 69), none, none, []⟩]) .ret))))

theorem f8 : fnC Try.prog 8 = some (70, c8, [.tmp 2]) := by kernel_rfl

/-! 9: countinghouse/countinghouselaw16.two -/

def c9 : VC := .seq (.reg [⟨some 0, .mov (.cst (.bool false)), none, none, []⟩]) (.seq (.reg [⟨some 2, .mov (.cst .undef), some (.cst (.func 10 []), [.cst (.int .i64 2)]), none, []⟩, ⟨some 1, .mov (.tmp 2), none, none, []⟩]) (.seq (.reg [⟨some 3, .mov (.tmp 1), none, none, []⟩, ⟨some 4, .mov (.cst .undef), some (.cst (.func 11 []), [.tmp 3, .cst (.int .i64 5)]), none, []⟩]) (.seq (.reg [⟨some 5, .mov (.tmp 1), none, none, []⟩, ⟨some 6, .mov (.cst .undef), some (.cst (.func 11 []), [.tmp 5, .cst (.int .i64 6)]), none, []⟩]) (.seq (.reg [⟨some 7, .mov (.tmp 1), none, none, []⟩, ⟨some 8, .mov (.cst .undef), some (.cst (.func 11 []), [.tmp 7, .cst (.int .i64 7)]), none, []⟩, ⟨some 9, .un .not (.tmp 8), none, none, []⟩, ⟨some 10, .mov (.tmp 9), none, none, []⟩, ⟨some 11, .mov (.tmp 1), none, some (10, true), []⟩, ⟨some 12, .mov (.cst .undef), some (.cst (.func 12 []), [.tmp 11, .cst (.int .i64 9)]), some (10, true), []⟩, ⟨some 13, .bslice 1 2 [.int .i64 0] [(0, .cst (.int .i64 5)), (1, .cst (.int .i64 6))], none, some (10, true), []⟩, ⟨some 14, .mov (.cst .undef), some (.cst (.func 16 []), [.tmp 12, .tmp 13]), some (10, true), []⟩, ⟨some 15, .pick (.tmp 10) (.tmp 14) (.cst (.bool false)), none, none, []⟩, ⟨some 16, .mov (.tmp 15), none, none, []⟩, ⟨some 17, .mov (.tmp 1), none, some (16, true), []⟩, ⟨some 18, .mov (.cst .undef), some (.cst (.func 13 []), [.tmp 17]), some (16, true), []⟩, ⟨some 19, .bin .eql (.tmp 18) (.cst (.int .i64 0)), none, some (16, true), []⟩, ⟨some 20, .pick (.tmp 16) (.tmp 19) (.cst (.bool false)), none, none, []⟩, ⟨some 0, .mov (.tmp 20), none, none, []⟩]) .ret))))

theorem f9 : fnC Try.prog 9 = some (21, c9, [.tmp 0]) := by kernel_rfl

/-! 10: countinghouse/queue.New -/

def c10 : VC := .seq (.reg [⟨some 2, .mov (.cst (.ptr none)), none, none, []⟩]) (.seq (.reg [⟨some 3, .mov (.tmp 0), none, none, []⟩, ⟨some 4, .mm true (.tmp 3) (.cst (.int .i64 0)), none, none, []⟩, ⟨some 5, .mm false (.tmp 4) (.cst (.int .i64 4)), none, none, []⟩, ⟨some 6, .build [.int .i64 0, .int .i64 0, .int .i64 0, .int .i64 0, .int .i64 0, .int .i64 0, .int .i64 0] [(6, (1, .tmp 5))], none, none, []⟩, ⟨some 7, .box (.tmp 6), none, none, []⟩, ⟨some 2, .mov (.tmp 7), none, none, []⟩]) .ret)

theorem f10 : fnC Try.prog 10 = some (8, c10, [.tmp 2]) := by kernel_rfl

/-! 11: (*countinghouse/queue.Queue).Push -/

def c11 : VC := .seq (.reg [⟨some 4, .mov (.cst (.bool false)), none, none, []⟩]) (.seq (.seq (.reg [⟨some 5, .mov (.tmp 0), none, none, []⟩, ⟨some 6, .mov (.cst .undef), some (.cst (.func 18 []), [.tmp 5]), none, []⟩, ⟨some 7, .bin .eql (.tmp 6) (.cst (.int .i64 0)), none, none, []⟩]) (.cond (.tmp 7) (.seq (.reg [⟨some 4, .mov (.cst (.bool false)), none, none, []⟩]) .ret) .skip)) (.seq (.dreg [⟨some 8, .mov (.tmp 0), none, none, []⟩, ⟨some 9, .mov (.tmp 0), none, none, []⟩, ⟨some 10, .nilck (.tmp 9), none, none, [1]⟩, ⟨some 11, .fld 4 (.tmp 10), none, none, [2]⟩, ⟨some 12, .load none (.tmp 11), none, none, [3]⟩, ⟨some 13, .mov (.tmp 0), none, none, []⟩, ⟨some 14, .nilck (.tmp 13), none, none, [5]⟩, ⟨some 15, .fld 5 (.tmp 14), none, none, [6]⟩, ⟨some 16, .load none (.tmp 15), none, none, [7]⟩, ⟨some 17, .bin .add (.tmp 12) (.tmp 16), none, none, [4, 8]⟩, ⟨some 18, .bin .rem (.tmp 17) (.cst (.int .i64 4)), none, none, [9]⟩, ⟨some 19, .mov (.tmp 1), none, none, []⟩, ⟨some 20, .nilck (.tmp 8), none, none, [0]⟩, ⟨some 21, .fld 0 (.tmp 20), none, none, [12]⟩, ⟨some 22, .ixarr 4 1 (.tmp 21) (.tmp 18), none, none, [13, 10, 0, 1, 2, 3, 4, 5, 6, 7, 8, 9, 10, 11]⟩, ⟨none, .store 1 (.tmp 22) (.tmp 19), none, none, [14, 11, 0, 1, 2, 3, 4, 5, 6, 7, 8, 9, 10, 11]⟩]) (.seq (.reg [⟨some 23, .mov (.tmp 0), none, none, []⟩, ⟨some 24, .nilck (.tmp 23), none, none, []⟩, ⟨some 25, .fld 5 (.tmp 24), none, none, []⟩, ⟨some 26, .load none (.tmp 25), none, none, []⟩, ⟨some 27, .bin .add (.tmp 26) (.cst (.int .i64 1)), none, none, []⟩, ⟨some 28, .nilck (.tmp 23), none, none, []⟩, ⟨some 29, .fld 5 (.tmp 28), none, none, []⟩, ⟨none, .store 1 (.tmp 29) (.tmp 27), none, none, []⟩]) (.seq (.reg [⟨some 4, .mov (.cst (.bool true)), none, none, []⟩]) .ret))))

theorem f11 : fnC Try.prog 11 = some (30, c11, [.tmp 4]) := by kernel_rfl

/-! 12: (*countinghouse/queue.Queue).Pop -/

def c12b0 : VC := .seq (.seq (.reg [⟨some 6, .mov (.tmp 0), none, none, []⟩, ⟨some 7, .mov (.cst .undef), some (.cst (.func 13 []), [.tmp 6]), none, []⟩, ⟨some 8, .bin .gtr (.tmp 7) (.cst (.int .i64 0)), none, none, []⟩, ⟨some 9, .mov (.tmp 8), none, none, []⟩, ⟨some 10, .mov (.tmp 5), none, some (9, true), []⟩, ⟨some 11, .lenl (.tmp 10), none, some (9, true), []⟩, ⟨some 12, .mov (.tmp 1), none, some (9, true), []⟩, ⟨some 13, .bin .lss (.tmp 11) (.tmp 12), none, some (9, true), []⟩, ⟨some 14, .pick (.tmp 9) (.tmp 13) (.cst (.bool false)), none, none, []⟩]) (.cond (.tmp 14) .skip (.exit 0))) (.block 1 (.seq (.dreg [⟨some 15, .mov (.tmp 5), none, none, []⟩, ⟨some 16, .mov (.tmp 0), none, none, []⟩, ⟨some 17, .mov (.tmp 0), none, none, []⟩, ⟨some 18, .nilck (.tmp 17), none, none, [2]⟩, ⟨some 19, .fld 4 (.tmp 18), none, none, [3]⟩, ⟨some 20, .load none (.tmp 19), none, none, [4]⟩, ⟨some 21, .nilck (.tmp 16), none, none, [1]⟩, ⟨some 22, .fld 0 (.tmp 21), none, none, [6]⟩, ⟨some 23, .ixarr 4 1 (.tmp 22) (.tmp 20), none, none, [7, 5]⟩, ⟨some 24, .load none (.tmp 23), none, none, [8]⟩, ⟨some 25, .bslice 1 1 [.int .i64 0] [(0, .tmp 24)], none, none, [9]⟩, ⟨some 26, .app 1 8 (.tmp 15) (.tmp 25), none, none, [0, 10]⟩, ⟨some 5, .mov (.tmp 26), none, none, [11, 11, 0, 1, 2, 3, 4, 5, 6, 7, 8, 9, 10, 11]⟩]) (.seq (.reg [⟨some 27, .mov (.tmp 0), none, none, []⟩, ⟨some 28, .mov (.tmp 0), none, none, []⟩, ⟨some 29, .nilck (.tmp 28), none, none, []⟩, ⟨some 30, .fld 4 (.tmp 29), none, none, []⟩, ⟨some 31, .load none (.tmp 30), none, none, []⟩, ⟨some 32, .bin .add (.tmp 31) (.cst (.int .i64 1)), none, none, []⟩, ⟨some 33, .bin .rem (.tmp 32) (.cst (.int .i64 4)), none, none, []⟩, ⟨some 34, .nilck (.tmp 27), none, none, []⟩, ⟨some 35, .fld 4 (.tmp 34), none, none, []⟩, ⟨none, .store 1 (.tmp 35) (.tmp 33), none, none, []⟩]) (.reg [⟨some 36, .mov (.tmp 0), none, none, []⟩, ⟨some 37, .nilck (.tmp 36), none, none, []⟩, ⟨some 38, .fld 5 (.tmp 37), none, none, []⟩, ⟨some 39, .load none (.tmp 38), none, none, []⟩, ⟨some 40, .bin .sub (.tmp 39) (.cst (.int .i64 1)), none, none, []⟩, ⟨some 41, .nilck (.tmp 36), none, none, []⟩, ⟨some 42, .fld 5 (.tmp 41), none, none, []⟩, ⟨none, .store 1 (.tmp 42) (.tmp 40), none, none, []⟩]))))

def c12 : VC := .seq (.reg [⟨some 4, .mov (.cst (.sl 0 (some true) true [])), none, none, []⟩]) (.seq (.reg [⟨some 5, .mov (.cst (.sl 0 (some true) true [])), none, none, []⟩]) (.seq (.block 0 (.loop c12b0)) (.seq (.reg [⟨some 43, .mov (.tmp 5), none, none, []⟩, ⟨some 4, .mov (.tmp 43), none, none, []⟩]) .ret)))

theorem f12 : fnC Try.prog 12 = some (44, c12, [.tmp 4]) := by kernel_rfl

/-! 13: (*countinghouse/queue.Queue).Len -/

def c13 : VC := .seq (.reg [⟨some 2, .mov (.cst (.int .i64 0)), none, none, []⟩]) (.seq (.seq (.reg [⟨some 3, .mov (.tmp 0), none, none, []⟩, ⟨some 4, .eqn .ptr false (.tmp 3) (.cst (.ptr none)), none, none, []⟩]) (.cond (.tmp 4) (.seq (.reg [⟨some 2, .mov (.cst (.int .i64 0)), none, none, []⟩]) .ret) .skip)) (.seq (.reg [⟨some 5, .mov (.tmp 0), none, none, []⟩, ⟨some 6, .nilck (.tmp 5), none, none, []⟩, ⟨some 7, .fld 5 (.tmp 6), none, none, []⟩, ⟨some 8, .load none (.tmp 7), none, none, []⟩, ⟨some 2, .mov (.tmp 8), none, none, []⟩]) .ret))

theorem f13 : fnC Try.prog 13 = some (9, c13, [.tmp 2]) := by kernel_rfl

/-! 14: countinghouse/countinghouseref16.New -/

def c14 : VC := .seq (.reg [⟨some 2, .alloc (.agg [.sl 0 (some true) true [], .int .i64 0]), none, none, []⟩]) (.seq (.seq (.reg [⟨some 3, .mov (.tmp 0), none, none, []⟩, ⟨some 4, .bin .lss (.tmp 3) (.cst (.int .i64 0)), none, none, []⟩]) (.cond (.tmp 4) (.reg [⟨some 0, .mov (.cst (.int .i64 0)), none, none, []⟩]) .skip)) (.seq (.seq (.reg [⟨some 5, .mov (.tmp 0), none, none, []⟩, ⟨some 6, .bin .gtr (.tmp 5) (.cst (.int .i64 4)), none, none, []⟩]) (.cond (.tmp 6) (.reg [⟨some 0, .mov (.cst (.int .i64 4)), none, none, []⟩]) .skip)) (.seq (.reg [⟨some 7, .mov (.tmp 0), none, none, []⟩, ⟨some 8, .build [.sl 0 (some true) true [], .int .i64 0] [(1, (1, .tmp 7))], none, none, []⟩, ⟨none, .store 2 (.tmp 2) (.tmp 8), none, none, []⟩]) .ret)))

theorem f14 : fnC Try.prog 14 = some (9, c14, [.cell 2 (some 2)]) := by kernel_rfl

/-! 15: countinghouse/countinghouseref16.Pop -/

def c15 : VC := .seq (.reg [⟨some 2, .box (.tmp 0), none, none, []⟩, ⟨some 4, .alloc (.agg [.sl 0 (some true) true [], .int .i64 0]), none, none, []⟩, ⟨some 5, .mov (.cst (.sl 0 (some true) true [])), none, none, []⟩]) (.seq (.seq (.reg [⟨some 6, .mov (.tmp 1), none, none, []⟩, ⟨some 7, .bin .lss (.tmp 6) (.cst (.int .i64 0)), none, none, []⟩]) (.cond (.tmp 7) (.reg [⟨some 1, .mov (.cst (.int .i64 0)), none, none, []⟩]) .skip)) (.seq (.seq (.reg [⟨some 8, .mov (.tmp 1), none, none, []⟩, ⟨some 9, .fld 0 (.tmp 2), none, none, []⟩, ⟨some 10, .load none (.tmp 9), none, none, []⟩, ⟨some 11, .lenl (.tmp 10), none, none, []⟩, ⟨some 12, .bin .gtr (.tmp 8) (.tmp 11), none, none, []⟩]) (.cond (.tmp 12) (.reg [⟨some 13, .fld 0 (.tmp 2), none, none, []⟩, ⟨some 14, .load none (.tmp 13), none, none, []⟩, ⟨some 15, .lenl (.tmp 14), none, none, []⟩, ⟨some 1, .mov (.tmp 15), none, none, []⟩]) .skip)) (.seq (.dreg [⟨some 16, .fld 0 (.tmp 2), none, none, []⟩, ⟨some 17, .load none (.tmp 16), none, none, [0]⟩, ⟨some 18, .mov (.tmp 1), none, none, []⟩, ⟨some 19, .slsl 1 (.tmp 17) (some (.tmp 18)) none, none, none, [1, 2]⟩, ⟨some 20, .fld 1 (.tmp 2), none, none, []⟩, ⟨some 21, .load none (.tmp 20), none, none, [4]⟩, ⟨some 22, .build [.sl 0 (some true) true [], .int .i64 0] [(0, (1, .tmp 19)), (1, (1, .tmp 21))], none, none, [3, 5]⟩, ⟨some 23, .fld 0 (.tmp 2), none, none, []⟩, ⟨some 24, .load none (.tmp 23), none, none, [7]⟩, ⟨some 25, .mov (.tmp 1), none, none, []⟩, ⟨some 26, .slsl 1 (.tmp 24) none (some (.tmp 25)), none, none, [8, 9]⟩, ⟨none, .store 2 (.tmp 4) (.tmp 22), none, none, [6, 0, 1, 2, 3, 4, 5, 6]⟩, ⟨some 5, .mov (.tmp 26), none, none, [10, 11, 0, 1, 2, 3, 4, 5, 6, 7, 8, 9, 10, 11]⟩]) .ret)))

theorem f15 : fnC Try.prog 15 = some (27, c15, [.cell 4 (some 2), .tmp 5]) := by kernel_rfl

/-! 16: countinghouse/countinghouseref16.Ints -/

def c16b0 : VC := .seq (.seq (.reg [⟨some 11, .mov (.tmp 5), none, none, []⟩, ⟨some 12, .mov (.tmp 0), none, none, []⟩, ⟨some 13, .lenl (.tmp 12), none, none, []⟩, ⟨some 14, .bin .lss (.tmp 11) (.tmp 13), none, none, []⟩]) (.cond (.tmp 14) .skip (.exit 0))) (.seq (.block 1 (.seq (.dreg [⟨some 17, .mov (.tmp 0), none, none, []⟩, ⟨some 18, .mov (.tmp 5), none, none, []⟩, ⟨some 19, .ixa 1 (.tmp 17) (.tmp 18), none, none, [0, 1]⟩, ⟨some 20, .load none (.tmp 19), none, none, [2]⟩, ⟨some 21, .mov (.tmp 1), none, none, []⟩, ⟨some 22, .mov (.tmp 5), none, none, []⟩, ⟨some 23, .ixa 1 (.tmp 21) (.tmp 22), none, none, [4, 5]⟩, ⟨some 24, .load none (.tmp 23), none, none, [6]⟩, ⟨some 25, .bin .neq (.tmp 20) (.tmp 24), none, none, [3, 7]⟩]) (.cond (.tmp 25) (.seq (.reg [⟨some 4, .mov (.cst (.bool false)), none, none, []⟩]) .ret) .skip))) (.reg [⟨some 15, .mov (.tmp 5), none, none, []⟩, ⟨some 16, .bin .add (.tmp 15) (.cst (.int .i64 1)), none, none, []⟩, ⟨some 5, .mov (.tmp 16), none, none, []⟩]))

def c16 : VC := .seq (.reg [⟨some 4, .mov (.cst (.bool false)), none, none, []⟩]) (.seq (.seq (.reg [⟨some 6, .mov (.tmp 0), none, none, []⟩, ⟨some 7, .lenl (.tmp 6), none, none, []⟩, ⟨some 8, .mov (.tmp 1), none, none, []⟩, ⟨some 9, .lenl (.tmp 8), none, none, []⟩, ⟨some 10, .bin .neq (.tmp 7) (.tmp 9), none, none, []⟩]) (.cond (.tmp 10) (.seq (.reg [⟨some 4, .mov (.cst (.bool false)), none, none, []⟩]) .ret) .skip)) (.seq (.seq (.reg [⟨some 5, .mov (.cst (.int .i64 0)), none, none, []⟩]) (.block 0 (.loop c16b0))) (.seq (.reg [⟨some 4, .mov (.cst (.bool true)), none, none, []⟩]) .ret)))

theorem f16 : fnC Try.prog 16 = some (26, c16, [.tmp 4]) := by kernel_rfl

/-! 17: countinghouse/countinghouseref16.Push -/

def c17 : VC := .seq (.reg [⟨some 2, .box (.tmp 0), none, none, []⟩, ⟨some 4, .alloc (.agg [.sl 0 (some true) true [], .int .i64 0]), none, none, []⟩, ⟨some 5, .mov (.cst (.bool false)), none, none, []⟩]) (.seq (.seq (.reg [⟨some 7, .fld 0 (.tmp 2), none, none, []⟩, ⟨some 8, .load none (.tmp 7), none, none, []⟩, ⟨some 9, .lenl (.tmp 8), none, none, []⟩, ⟨some 10, .fld 1 (.tmp 2), none, none, []⟩, ⟨some 11, .load none (.tmp 10), none, none, []⟩, ⟨some 12, .bin .geq (.tmp 9) (.tmp 11), none, none, []⟩]) (.cond (.tmp 12) (.seq (.reg [⟨some 13, .load (some 2) (.tmp 2), none, none, []⟩, ⟨none, .store 2 (.tmp 4) (.tmp 13), none, none, []⟩, ⟨some 5, .mov (.cst (.bool false)), none, none, []⟩]) .ret) .skip)) (.seq (.reg [⟨some 6, .mov (.cst (.sl 0 (some true) true [])), none, none, []⟩]) (.seq (.reg [⟨some 14, .mov (.tmp 6), none, none, []⟩, ⟨some 15, .fld 0 (.tmp 2), none, none, []⟩, ⟨some 16, .load none (.tmp 15), none, none, []⟩, ⟨some 17, .app 1 8 (.tmp 14) (.tmp 16), none, none, []⟩, ⟨some 6, .mov (.tmp 17), none, none, []⟩]) (.seq (.dreg [⟨some 18, .mov (.tmp 6), none, none, []⟩, ⟨some 19, .mov (.tmp 1), none, none, []⟩, ⟨some 20, .bslice 1 1 [.int .i64 0] [(0, .tmp 19)], none, none, [1]⟩, ⟨some 21, .app 1 8 (.tmp 18) (.tmp 20), none, none, [0, 2]⟩, ⟨some 22, .fld 1 (.tmp 2), none, none, []⟩, ⟨some 23, .load none (.tmp 22), none, none, [4]⟩, ⟨some 24, .build [.sl 0 (some true) true [], .int .i64 0] [(0, (1, .tmp 21)), (1, (1, .tmp 23))], none, none, [3, 5]⟩, ⟨none, .store 2 (.tmp 4) (.tmp 24), none, none, [6, 3, 0, 1, 2, 3, 4, 5, 6]⟩, ⟨some 5, .mov (.cst (.bool true)), none, none, [7, 0, 1, 2, 3, 4, 5, 6, 7]⟩]) .ret))))

theorem f17 : fnC Try.prog 17 = some (25, c17, [.cell 4 (some 2), .tmp 5]) := by kernel_rfl

/-! 18: (*countinghouse/queue.Queue).Room -/

def c18 : VC := .seq (.reg [⟨some 2, .mov (.cst (.int .i64 0)), none, none, []⟩]) (.seq (.seq (.reg [⟨some 3, .mov (.tmp 0), none, none, []⟩, ⟨some 4, .eqn .ptr false (.tmp 3) (.cst (.ptr none)), none, none, []⟩]) (.cond (.tmp 4) (.seq (.reg [⟨some 2, .mov (.cst (.int .i64 0)), none, none, []⟩]) .ret) .skip)) (.seq (.dreg [⟨some 5, .mov (.tmp 0), none, none, []⟩, ⟨some 6, .nilck (.tmp 5), none, none, [0]⟩, ⟨some 7, .fld 6 (.tmp 6), none, none, [1]⟩, ⟨some 8, .load none (.tmp 7), none, none, [2]⟩, ⟨some 9, .mov (.tmp 0), none, none, []⟩, ⟨some 10, .nilck (.tmp 9), none, none, [4]⟩, ⟨some 11, .fld 5 (.tmp 10), none, none, [5]⟩, ⟨some 12, .load none (.tmp 11), none, none, [6]⟩, ⟨some 13, .bin .sub (.tmp 8) (.tmp 12), none, none, [3, 7]⟩, ⟨some 2, .mov (.tmp 13), none, none, [8, 0, 1, 2, 3, 4, 5, 6, 7, 8]⟩]) .ret))

theorem f18 : fnC Try.prog 18 = some (14, c18, [.tmp 2]) := by kernel_rfl

/-! 19: (*countinghouse/queue.Queue).Has -/

def c19b0 : VC := .seq (.reg [⟨some 9, .bin .lss (.tmp 8) (.tmp 7), none, none, []⟩]) (.seq (.cond (.tmp 9) .skip (.exit 0)) (.seq (.block 1 (.seq (.reg [⟨some 10, .mov (.tmp 8), none, none, []⟩, ⟨some 5, .mov (.tmp 10), none, none, []⟩]) (.seq (.dreg [⟨some 11, .mov (.tmp 0), none, none, []⟩, ⟨some 12, .mov (.tmp 0), none, none, []⟩, ⟨some 13, .nilck (.tmp 12), none, none, [1]⟩, ⟨some 14, .fld 4 (.tmp 13), none, none, [2]⟩, ⟨some 15, .load none (.tmp 14), none, none, [3]⟩, ⟨some 16, .mov (.tmp 5), none, none, []⟩, ⟨some 17, .bin .add (.tmp 15) (.tmp 16), none, none, [4, 5]⟩, ⟨some 18, .bin .rem (.tmp 17) (.cst (.int .i64 4)), none, none, [6]⟩, ⟨some 19, .nilck (.tmp 11), none, none, [0]⟩, ⟨some 20, .fld 0 (.tmp 19), none, none, [8]⟩, ⟨some 21, .ixarr 4 1 (.tmp 20) (.tmp 18), none, none, [9, 7]⟩, ⟨some 22, .load none (.tmp 21), none, none, [10]⟩, ⟨some 23, .mov (.tmp 1), none, none, []⟩, ⟨some 24, .bin .eql (.tmp 22) (.tmp 23), none, none, [11, 12]⟩]) (.cond (.tmp 24) (.seq (.reg [⟨some 4, .mov (.cst (.bool true)), none, none, []⟩]) .ret) .skip)))) (.reg [⟨some 25, .bin .add (.tmp 8) (.cst (.int .i64 1)), none, none, []⟩, ⟨some 8, .mov (.tmp 25), none, none, []⟩])))

def c19 : VC := .seq (.reg [⟨some 4, .mov (.cst (.bool false)), none, none, []⟩]) (.seq (.seq (.reg [⟨some 6, .mov (.tmp 0), none, none, []⟩, ⟨some 7, .mov (.cst .undef), some (.cst (.func 13 []), [.tmp 6]), none, []⟩, ⟨some 8, .mov (.cst (.int .i64 0)), none, none, []⟩]) (.block 0 (.loop c19b0))) (.seq (.reg [⟨some 4, .mov (.cst (.bool false)), none, none, []⟩]) .ret))

theorem f19 : fnC Try.prog 19 = some (26, c19, [.tmp 4]) := by kernel_rfl

/-! 20: countinghouse/countinghouseref16.Has -/

def c20b0 : VC := .seq (.seq (.reg [⟨some 6, .mov (.tmp 5), none, none, []⟩, ⟨some 7, .mov (.tmp 0), none, none, []⟩, ⟨some 8, .lenl (.tmp 7), none, none, []⟩, ⟨some 9, .bin .lss (.tmp 6) (.tmp 8), none, none, []⟩]) (.cond (.tmp 9) .skip (.exit 0))) (.seq (.block 1 (.seq (.reg [⟨some 12, .mov (.tmp 0), none, none, []⟩, ⟨some 13, .mov (.tmp 5), none, none, []⟩, ⟨some 14, .ixa 1 (.tmp 12) (.tmp 13), none, none, []⟩, ⟨some 15, .load none (.tmp 14), none, none, []⟩, ⟨some 16, .mov (.tmp 1), none, none, []⟩, ⟨some 17, .bin .eql (.tmp 15) (.tmp 16), none, none, []⟩]) (.cond (.tmp 17) (.seq (.reg [⟨some 4, .mov (.cst (.bool true)), none, none, []⟩]) .ret) .skip))) (.reg [⟨some 10, .mov (.tmp 5), none, none, []⟩, ⟨some 11, .bin .add (.tmp 10) (.cst (.int .i64 1)), none, none, []⟩, ⟨some 5, .mov (.tmp 11), none, none, []⟩]))

def c20 : VC := .seq (.reg [⟨some 4, .mov (.cst (.bool false)), none, none, []⟩]) (.seq (.seq (.reg [⟨some 5, .mov (.cst (.int .i64 0)), none, none, []⟩]) (.block 0 (.loop c20b0))) (.seq (.reg [⟨some 4, .mov (.cst (.bool false)), none, none, []⟩]) .ret))

theorem f20 : fnC Try.prog 20 = some (18, c20, [.tmp 4]) := by kernel_rfl

end Go.Proofs.Ytolheiddjejlfaa.V

/- The queue: its small functions. -/
namespace Go.Proofs.Ytolheiddjejlfaa.V
open Go.IntWalk

/-- A ring of numbers: what lies in it, where the first one is, how many wait, for how many there is room. -/
structure Qu where
  r : Nat → Int
  f : Nat
  n : Nat
  m : Nat

def qc (r : Nat → Int) (f n m : Nat) : List AV := [.int .i64 (r 0), .int .i64 (r 1), .int .i64 (r 2), .int .i64 (r 3), .int .i64 f, .int .i64 n, .int .i64 m]
def Qu.c (Q : Qu) : List AV := qc Q.r Q.f Q.n Q.m

def Qu.ok (Q : Qu) : Prop := Q.f < 4 ∧ Q.n ≤ Q.m ∧ Q.m ≤ 4

def rset (r : Nat → Int) (i : Nat) (x : Int) : Nat → Int := fun j => match Nat.beq i j with
  | true => x
  | false => r j

def Qu.push (Q : Qu) (x : Int) : Qu := if Q.n < Q.m then ⟨rset Q.r ((Q.f + Q.n) % 4) x, Q.f, Q.n + 1, Q.m⟩ else Q
def Qu.pop1 (Q : Qu) : Qu := ⟨Q.r, (Q.f + 1) % 4, Q.n - 1, Q.m⟩
def Qu.l (Q : Qu) : List Int := (List.range Q.n).map fun i => Q.r ((Q.f + i) % 4)

theorem Qu.np {ok : Nat → Prop} (Q : Qu) : ∀ a, a ∈ Q.c → NP ok a :=
  np_cons (.int _ _) (np_cons (.int _ _) (np_cons (.int _ _) (np_cons (.int _ _) (np_cons (.int _ _) (np_cons (.int _ _) (np_cons (.int _ _) np_nil))))))

theorem lenN (Q : Qu) : VCall Try.prog 13 [.ptr (some (0, 0))] [.cells Q.c] (.int .i64 Q.n) [.cells Q.c] := by
  refine VCall.ofS (tr []) f13 (Nat.le_of_ble_eq_true rfl) (Nat.le_refl _) (.int _ _) (npo1 Q.np) ?_
  refine cond_f rfl ?_
  exact ⟨⟨[], rfl⟩, rfl⟩

theorem roomN (Q : Qu) (hq : Q.ok) : VCall Try.prog 18 [.ptr (some (0, 0))] [.cells Q.c] (.int .i64 (Q.m - Q.n : Nat)) [.cells Q.c] := by
  obtain ⟨h1, h2, h3⟩ := hq
  refine VCall.ofS (tr []) f18 (Nat.le_of_ble_eq_true rfl) (Nat.le_refl _) (.int _ _) (npo1 Q.np) ?_
  refine cond_f rfl ?_
  refine And.intro (by kernel_rfl) ?_
  refine ⟨⟨[], rfl⟩, ?_⟩
  exact int_eq (by rw [i64_in _ (by omega)]; omega)

theorem pushN (Q : Qu) (x : Int) (hq : Q.ok) : VCall Try.prog 11 [.ptr (some (0, 0)), .int .i64 x] [.cells Q.c] (.bool (decide (Q.n < Q.m))) [.cells (Q.push x).c] := by
  have hr := roomN Q hq
  obtain ⟨h1, h2, h3⟩ := hq
  by_cases hlt : Q.n < Q.m
  · rw [decide_eq_true hlt]
    obtain ⟨r, f, n, m⟩ := Q
    simp only [Qu.push] at *
    rw [if_pos hlt]
    replace hr : VCall Try.prog 18 [.ptr (some (0, 0))] [.cells (qc r f n m)] (.int .i64 (m - n : Nat)) [.cells (qc r f n m)] := hr
    change VCall Try.prog 11 [.ptr (some (0, 0)), .int .i64 x] [.cells (qc r f n m)] (.bool true) [.cells (qc (rset r ((f + n) % 4) x) f (n + 1) m)]
    refine VCall.ofS (tr []) f11 (Nat.le_of_ble_eq_true rfl) (Nat.le_refl _) (.bool _) (npo1 (Qu.np ⟨_, _, _, _⟩)) ?_
    refine call_h hr ?_
    refine cond_f (beq_eq_false_iff_ne.2 (by omega)) ?_
    have hf : f = 0 ∨ f = 1 ∨ f = 2 ∨ f = 3 := by omega
    have hn : n = 0 ∨ n = 1 ∨ n = 2 ∨ n = 3 := by omega
    rcases hf with rfl | rfl | rfl | rfl <;> rcases hn with rfl | rfl | rfl | rfl
    all_goals
      refine And.intro (by decide) ?_
      refine And.intro (by decide) ?_
      refine And.intro (by kernel_rfl) ?_
      exact ⟨⟨[], rfl⟩, rfl⟩
  · rw [decide_eq_false hlt, Qu.push, if_neg hlt]
    refine VCall.ofS (tr []) f11 (Nat.le_of_ble_eq_true rfl) (Nat.le_refl _) (.bool _) (npo1 (Qu.np _)) ?_
    refine call_h hr ?_
    refine cond_t (beq_iff_eq.2 (by omega)) ?_
    exact ⟨⟨[], rfl⟩, rfl⟩

end Go.Proofs.Ytolheiddjejlfaa.V

/- The queue: Pop, Has, New. -/
namespace Go.Proofs.Ytolheiddjejlfaa.V
open Go.IntWalk

def pops : Nat → Qu → Qu
  | 0, Q => Q
  | k + 1, Q => pops k Q.pop1

theorem Qu.ok_pop1 {Q : Qu} (h : Q.ok) : Q.pop1.ok := by
  obtain ⟨h1, h2, h3⟩ := h
  exact ⟨Nat.mod_lt _ (by decide), by show Q.n - 1 ≤ Q.m; omega, h3⟩

theorem qc_eq {r : Nat → Int} {f n m : Nat} {a b : Int} (h1 : a = f) (h2 : b = n) : [HObj.cells [.int .i64 (r 0), .int .i64 (r 1), .int .i64 (r 2), .int .i64 (r 3), .int .i64 a, .int .i64 b, .int .i64 m]] = [HObj.cells (qc r f n m)] := by
  rw [h1, h2]; rfl

theorem l_succ {Q : Qu} (h : 0 < Q.n) : Q.l = Q.r (Q.f % 4) :: Q.pop1.l := by
  obtain ⟨r, f, n, m⟩ := Q
  simp only at h
  obtain ⟨k, rfl⟩ : ∃ k, n = k + 1 := ⟨n - 1, by omega⟩
  simp only [Qu.l, Qu.pop1, List.range_succ_eq_map, List.map_cons, List.map_map, Nat.add_zero, Nat.add_sub_cancel]
  congr 1
  apply List.map_congr_left
  intro i _
  simp only [Function.comp]
  congr 1
  omega

theorem lenC (r : Nat → Int) (f n m : Nat) : VCall Try.prog 13 [.ptr (some (0, 0))] [.cells (qc r f n m)] (.int .i64 n) [.cells (qc r f n m)] := lenN ⟨r, f, n, m⟩

def popAt (most : Int) (acc : List Int) : List (Nat × AV) := [(0, .ptr (some (0, 0))), (1, .int .i64 most), (5, .sl 1 none true (ints acc))]

theorem popLoop (most : Int) (r : Nat → Int) (m : Nat) (hm4 : m ≤ 4) (R : VE → Sy → Prop) (res : List Int) (Qf : Qu) (hR : R (.exit 0) ⟨[], [(5, .sl 1 none true (ints res))], [.cells Qf.c]⟩) :
    ∀ (n f : Nat) (acc : List Int), f < 4 → n ≤ m → acc.length + n ≤ 4 → res = acc ++ (Qu.l ⟨r, f, n, m⟩).take (most.toNat - acc.length) → Qf = pops (min n (most.toNat - acc.length)) ⟨r, f, n, m⟩ →
      VloopS Try.prog (tr [15, 26, 5, 43, 4]) 44 1 c12b0 (exW 44 R) ⟨[], popAt most acc, [.cells (qc r f n m)]⟩
  | 0, f, acc, hf, hn, hl, hres, hQf => by
    refine VloopS.round ?_
    refine call_h (lenC r f 0 m) ?_
    refine guard_f (by decide) ?_
    repeat (first | refine guard_t rfl ?_ | refine guard_f (by decide) ?_)
    refine cond_f rfl ?_
    refine ex_w hR rfl ⟨.eq (sl_eq ?_), trivial⟩ ?_
    · rw [hres]
      simp [Qu.l]
    · rw [hQf, Nat.zero_min]; rfl
  | n + 1, f, acc, hf, hn, hl, hres, hQf => by
    refine VloopS.round ?_
    refine call_h (lenC r f (n + 1) m) ?_
    refine guard_t (decide_eq_true (Int.natCast_pos.2 (Nat.succ_pos n))) ?_
    repeat (first | refine guard_t rfl ?_ | refine guard_f (by decide) ?_)
    by_cases hm : (acc.length : Int) < most
    · refine cond_t (decide_eq_true (by rw [ints_len]; exact hm)) ?_
      have hs := l_succ (Q := ⟨r, f, n + 1, m⟩) (Nat.succ_pos n)
      have next := popLoop most r m hm4 R res Qf hR n ((f + 1) % 4) (acc ++ [r (f % 4)]) (Nat.mod_lt _ (by decide)) (by omega) (by simp; omega)
        (by rw [hres, hs, show most.toNat - acc.length = (most.toNat - (acc ++ [r (f % 4)]).length) + 1 by simp; omega, List.take_succ_cons, List.append_assoc]; rfl)
        (by rw [hQf, show min (n + 1) (most.toNat - acc.length) = min n (most.toNat - (acc ++ [r (f % 4)]).length) + 1 by simp; omega]; rfl)
      have hf : f = 0 ∨ f = 1 ∨ f = 2 ∨ f = 3 := by omega
      clear hres hQf hs
      rcases hf with rfl | rfl | rfl | rfl
      all_goals
        refine And.intro (by decide) ?_
        refine And.intro (.inl ⟨rfl, rfl⟩) (And.intro (.inl rfl) (And.intro ?_ ?_))
        · simp only [List.length_cons, List.length_nil, ints_len]; omega
        refine And.intro (by kernel_rfl) ?_
        refine And.intro (by decide) ?_
        refine VloopS.weakE (l := popAt most (acc ++ [r _])) rfl ⟨.refl _, .refl _, .eq (sl_eq (ints_app acc [r _])), trivial⟩ (qc_eq (by decide) ?_) (Nat.le_refl _) next
        rw [i64_in _ (by omega)]
        omega
    · refine cond_f (decide_eq_false (by rw [ints_len]; exact hm)) ?_
      refine ex_w hR rfl ⟨.eq (sl_eq ?_), trivial⟩ ?_
      · rw [hres, show most.toNat - acc.length = 0 by omega]
        simp
      · rw [hQf, show most.toNat - acc.length = 0 by omega, Nat.min_zero]; rfl

theorem popN (Q : Qu) (most : Int) (hq : Q.ok) : VCall Try.prog 12 [.ptr (some (0, 0)), .int .i64 most] [.cells Q.c] (.sl 1 none true (ints (Q.l.take most.toNat))) [.cells (pops (min Q.n most.toNat) Q).c] := by
  obtain ⟨r, f, n, m⟩ := Q
  obtain ⟨h1, h2, h3⟩ := hq
  simp only at h1 h2 h3
  refine VCall.ofS (tr [15, 26, 5, 43, 4]) f12 (Nat.le_of_ble_eq_true rfl) (Nat.le_refl _) (np_ints _) (npo1 (Qu.np _)) ?_
  refine VloopS.weakE (l := popAt most []) rfl ⟨.refl _, .refl _, .nil _ _ _ _ _ (by simp), trivial⟩ rfl (Nat.le_refl _) (VloopS.exW (popLoop most r m h3 _ _ _ ?_ n f [] h1 h2 (by simp; omega) rfl rfl))
  exact ⟨⟨[], rfl⟩, rfl⟩

end Go.Proofs.Ytolheiddjejlfaa.V

/- The queue: Has, New; of no queue. -/
namespace Go.Proofs.Ytolheiddjejlfaa.V
open Go.IntWalk

theorem l_get (Q : Qu) (i : Nat) (h : i < Q.n) : Q.l[i]? = some (Q.r ((Q.f + i) % 4)) := by
  simp [Qu.l, h]

theorem l_len (Q : Qu) : Q.l.length = Q.n := by simp [Qu.l]

def hasAt (x : Int) (n i : Nat) : List (Nat × AV) := [(0, .ptr (some (0, 0))), (1, .int .i64 x), (7, .int .i64 n), (8, .int .i64 i)]

theorem hasLoop (x : Int) (r : Nat → Int) (f n m : Nat) (hf : f < 4) (hn : n ≤ m) (hm4 : m ≤ 4) (R : VE → Sy → Prop)
    (hR1 : x ∈ Qu.l ⟨r, f, n, m⟩ → R .ret ⟨[], [(4, .bool true)], [.cells (qc r f n m)]⟩) (hR2 : x ∉ Qu.l ⟨r, f, n, m⟩ → R (.exit 0) ⟨[], [(4, .bool false)], [.cells (qc r f n m)]⟩) :
    ∀ k i, i + k = n → x ∉ (Qu.l ⟨r, f, n, m⟩).take i → VloopS Try.prog (tr []) 26 1 c19b0 (exW 26 R) ⟨[], (4, .bool false) :: hasAt x n i, [.cells (qc r f n m)]⟩
  | 0, i, hk, hx => by
    have e : i = n := by omega
    subst e
    refine VloopS.round ?_
    refine cond_f (decide_eq_false (by omega)) ?_
    refine ex_w (hR2 ?_) rfl ⟨.refl _, trivial⟩ rfl
    rw [List.take_of_length_le (by rw [l_len]; exact Nat.le_refl _)] at hx
    exact hx
  | k + 1, i, hk, hx => by
    have hlt : i < n := by omega
    have hg := l_get ⟨r, f, n, m⟩ i hlt
    simp only at hg
    have hmem : r ((f + i) % 4) ∈ Qu.l ⟨r, f, n, m⟩ := List.mem_of_getElem? hg
    have htake : (Qu.l ⟨r, f, n, m⟩).take (i + 1) = (Qu.l ⟨r, f, n, m⟩).take i ++ [r ((f + i) % 4)] := by
      rw [List.take_add_one, hg]; rfl
    refine VloopS.round ?_
    refine cond_t (decide_eq_true (by omega)) ?_
    refine And.intro (by decide) ?_
    have e : (IntKind.i64.wrap ((f : Int) + (i : Int))).tmod 4 = (((f + i) % 4 : Nat) : Int) := by
      rw [i64_in _ (by omega), Int.tmod_eq_emod_of_nonneg (by omega)]
      omega
    rw [e]
    have next : x ≠ r ((f + i) % 4) → VloopS Try.prog (tr []) 26 1 c19b0 (exW 26 R) ⟨[], (4, .bool false) :: hasAt x n (i + 1), [.cells (qc r f n m)]⟩ := fun hne =>
      hasLoop x r f n m hf hn hm4 R hR1 hR2 k (i + 1) (by omega) (by rw [htake]; simp [hx, hne])
    clear hg htake e
    obtain ⟨j, hj⟩ : ∃ j, j = (f + i) % 4 := ⟨_, rfl⟩
    rw [← hj] at hmem next ⊢
    have hj4 : j = 0 ∨ j = 1 ∨ j = 2 ∨ j = 3 := by omega
    clear hj
    by_cases hx2 : r j = x
    · rcases hj4 with rfl | rfl | rfl | rfl
      all_goals
        refine And.intro (by decide) ?_
        refine And.intro (by kernel_rfl) ?_
        refine cond_t (beq_iff_eq.2 hx2) ?_
        exact ex_w (hR1 (hx2 ▸ hmem)) rfl ⟨.refl _, trivial⟩ rfl
    · have go := next fun h => hx2 h.symm
      clear next
      rcases hj4 with rfl | rfl | rfl | rfl
      all_goals
        refine And.intro (by decide) ?_
        refine And.intro (by kernel_rfl) ?_
        refine cond_f (beq_eq_false_iff_ne.2 hx2) ?_
        refine VloopS.weakE (l := (4, .bool false) :: hasAt x n (i + 1)) rfl ⟨.refl _, .refl _, .refl _, .refl _, .eq (int_eq ?_), trivial⟩ rfl (Nat.le_refl _) go
        rw [i64_in _ (by omega)]
        omega

theorem hasN (Q : Qu) (x : Int) (hq : Q.ok) : VCall Try.prog 19 [.ptr (some (0, 0)), .int .i64 x] [.cells Q.c] (.bool (decide (x ∈ Q.l))) [.cells Q.c] := by
  obtain ⟨r, f, n, m⟩ := Q
  obtain ⟨h1, h2, h3⟩ := hq
  simp only at h1 h2 h3
  change VCall Try.prog 19 [.ptr (some (0, 0)), .int .i64 x] [.cells (qc r f n m)] (.bool (decide (x ∈ Qu.l ⟨r, f, n, m⟩))) [.cells (qc r f n m)]
  refine VCall.ofS (tr []) f19 (Nat.le_of_ble_eq_true rfl) (Nat.le_refl _) (.bool _) (npo1 (Qu.np ⟨r, f, n, m⟩)) ?_
  refine call_h (lenC r f n m) ?_
  refine VloopS.weakE (l := (4, .bool false) :: hasAt x n 0) rfl ⟨.refl _, .refl _, .refl _, .refl _, .refl _, trivial⟩ rfl (Nat.le_refl _) (VloopS.exW (hasLoop x r f n m h1 h2 h3 _ ?_ ?_ n 0 (by omega) (by simp)))
  · intro hx
    exact ⟨⟨[], rfl⟩, bool_eq (decide_eq_true hx).symm⟩
  · intro hx
    exact ⟨⟨[], rfl⟩, bool_eq (decide_eq_false hx).symm⟩

/-! of no queue -/

theorem lenNil : PCallN Try.prog 13 [.ptr none] (.int .i64 0) := by
  refine PCallN.of (tr []) f13 (Nat.le_of_ble_eq_true rfl) (np_cons .ptrnil np_nil) (.int _ _) ?_
  refine cond_t rfl ?_
  rfl

theorem roomNil : PCallN Try.prog 18 [.ptr none] (.int .i64 0) := by
  refine PCallN.of (tr []) f18 (Nat.le_of_ble_eq_true rfl) (np_cons .ptrnil np_nil) (.int _ _) ?_
  refine cond_t rfl ?_
  rfl

theorem pushNil (x : Int) : PCallN Try.prog 11 [.ptr none, .int .i64 x] (.bool false) := by
  refine PCallN.of (tr []) f11 (Nat.le_of_ble_eq_true rfl) (np_cons .ptrnil (np_cons (.int _ _) np_nil)) (.bool _) ?_
  refine call_p roomNil ?_
  refine cond_t rfl ?_
  rfl

theorem popNil (x : Int) : PCallN Try.prog 12 [.ptr none, .int .i64 x] (.sl 0 (some true) true []) := by
  refine PCallN.of (tr [5, 43, 4]) f12 (Nat.le_of_ble_eq_true rfl) (np_cons .ptrnil (np_cons (.int _ _) np_nil)) np_nilsl ?_
  refine VloopS.round ?_
  refine call_p lenNil ?_
  repeat (first | refine guard_t rfl ?_ | refine guard_f (by decide) ?_)
  refine cond_f rfl ?_
  rfl

theorem hasNil (x : Int) : PCallN Try.prog 19 [.ptr none, .int .i64 x] (.bool false) := by
  refine PCallN.of (tr []) f19 (Nat.le_of_ble_eq_true rfl) (np_cons .ptrnil (np_cons (.int _ _) np_nil)) (.bool _) ?_
  refine call_p lenNil ?_
  refine VloopS.round ?_
  refine cond_f rfl ?_
  rfl

/-- A new one: for how many there is room. -/
def cap4 (n : Int) : Nat := (min (max n 0) 4).toNat

def Qu.new (n : Int) : Qu := ⟨fun _ => 0, 0, 0, cap4 n⟩

theorem new_ok (n : Int) : (Qu.new n).ok := ⟨by show (0 : Nat) < 4; decide, Nat.zero_le _, by show cap4 n ≤ 4; unfold cap4; omega⟩

theorem newN (n : Int) : VCall Try.prog 10 [.int .i64 n] [] (.ptr (some (0, 0))) [.cells (Qu.new n).c] := by
  refine VCall.ofS (tr []) f10 (Nat.le_of_ble_eq_true rfl) (Nat.zero_le _) (.ptr _ _ Nat.zero_lt_one) (npo1 (Qu.np _)) ?_
  refine ⟨⟨[], ?_⟩, rfl⟩
  rw [List.append_nil]
  refine congrArg (fun x => [HObj.cells x]) ?_
  show [AV.int .i64 0, .int .i64 0, .int .i64 0, .int .i64 0, .int .i64 0, .int .i64 0, _] = [AV.int .i64 0, .int .i64 0, .int .i64 0, .int .i64 0, .int .i64 0, .int .i64 0, .int .i64 (cap4 n)]
  refine congrArg (fun x => [AV.int .i64 0, .int .i64 0, .int .i64 0, .int .i64 0, .int .i64 0, .int .i64 0, AV.int .i64 x]) ?_
  unfold cap4
  split <;> split <;> omega

end Go.Proofs.Ytolheiddjejlfaa.V

/- The queue: what it is worth, as a list; the document's Ints; the document's example; of no queue. -/
namespace Go.Proofs.Ytolheiddjejlfaa.V
open Go.IntWalk

theorem rset_same (r : Nat → Int) (i : Nat) (x : Int) : rset r i x i = x := by
  unfold rset
  rw [Nat.beq_refl]
theorem rset_ne (r : Nat → Int) (i : Nat) (x : Int) {j : Nat} (h : i ≠ j) : rset r i x j = r j := by
  unfold rset
  cases hb : Nat.beq i j with
  | true => exact absurd (Nat.eq_of_beq_eq_true hb) h
  | false => rfl

theorem push_full {Q : Qu} {x : Int} (h : ¬ Q.n < Q.m) : Q.push x = Q := by rw [Qu.push, if_neg h]
theorem push_n {Q : Qu} {x : Int} (h : Q.n < Q.m) : (Q.push x).n = Q.n + 1 := by rw [Qu.push, if_pos h]
theorem push_m (Q : Qu) (x : Int) : (Q.push x).m = Q.m := by unfold Qu.push; split <;> rfl
theorem push_ok {Q : Qu} {x : Int} (hq : Q.ok) : (Q.push x).ok := by
  obtain ⟨h1, h2, h3⟩ := hq
  unfold Qu.push
  split
  · exact ⟨h1, by show Q.n + 1 ≤ Q.m; omega, h3⟩
  · exact ⟨h1, h2, h3⟩

theorem push_l {Q : Qu} {x : Int} (hq : Q.ok) (h : Q.n < Q.m) : (Q.push x).l = Q.l ++ [x] := by
  obtain ⟨h1, h2, h3⟩ := hq
  rw [Qu.push, if_pos h]
  simp only [Qu.l, List.range_succ, List.map_append, List.map_cons, List.map_nil]
  rw [rset_same]
  congr 1
  apply List.map_congr_left
  intro i hi
  have := List.mem_range.1 hi
  exact rset_ne _ _ _ (by omega)

theorem pops_m : ∀ (k : Nat) (Q : Qu), (pops k Q).m = Q.m
  | 0, _ => rfl
  | k + 1, Q => pops_m k Q.pop1
theorem pops_ok : ∀ (k : Nat) {Q : Qu}, Q.ok → (pops k Q).ok
  | 0, _, h => h
  | k + 1, _, h => pops_ok k (Qu.ok_pop1 h)
theorem pops_l : ∀ (k : Nat) (Q : Qu), k ≤ Q.n → (pops k Q).l = Q.l.drop k
  | 0, Q, _ => rfl
  | k + 1, Q, h => by
    rw [pops, pops_l k Q.pop1 (by show k ≤ Q.n - 1; omega)]
    conv => rhs; rw [l_succ (Q := Q) (by omega)]
    rfl

theorem pops_min (Q : Qu) (k : Nat) : (pops (min Q.n k) Q).l = Q.l.drop k := by
  rw [pops_l _ _ (Nat.min_le_left _ _)]
  by_cases h : Q.n ≤ k
  · rw [Nat.min_eq_left h, List.drop_of_length_le (by rw [l_len]; exact Nat.le_refl _), List.drop_of_length_le (by rw [l_len]; exact h)]
  · rw [Nat.min_eq_right (by omega)]

/-! Ints -/

def intsAt (a b : List Int) (k : Nat) : List (Nat × AV) := [(0, .sl 1 none false (ints a)), (1, .sl 1 none false (ints b)), (5, .int .i64 k)]

theorem intsLoop (a b : List Int) (R : VE → Sy → Prop) (he : a.length = b.length) (hl : a.length ≤ 1000000) (hR1 : a = b → R (.exit 0) ⟨[], [], []⟩) (hR2 : a ≠ b → R .ret ⟨[], [(4, .bool false)], []⟩) :
    ∀ m k, k + m = a.length → a.take k = b.take k → VloopS Try.prog (tr []) 26 0 c16b0 (exW 26 R) ⟨[], intsAt a b k, []⟩
  | 0, k, hk, ht => by
    refine VloopS.round ?_
    refine cond_f (decide_eq_false (by rw [ints_len]; omega)) ?_
    refine ex_w (hR1 ?_) rfl trivial rfl
    rw [show k = a.length by omega, List.take_length, he, List.take_length] at ht
    exact ht
  | m + 1, k, hk, ht => by
    have hlt : k < a.length := by omega
    have hlt' : k < b.length := by omega
    refine VloopS.round ?_
    refine cond_t (decide_eq_true (by rw [ints_len]; omega)) ?_
    refine And.intro rfl (And.intro (Int.natCast_nonneg k) (Exists.intro [.int .i64 a[k]] (And.intro (ints_get hlt) ?_)))
    refine And.intro rfl (And.intro (Int.natCast_nonneg k) (Exists.intro [.int .i64 b[k]] (And.intro (ints_get hlt') ?_)))
    refine And.intro (by kernel_rfl) ?_
    by_cases hab : a[k] = b[k]
    · refine cond_f (by rw [hab]; exact bne_self_eq_false _) ?_
      refine VloopS.weak (l := intsAt a b (k + 1)) rfl ?_ (Nat.zero_le _) (intsLoop a b R he hl hR1 hR2 m (k + 1) (by omega) (by rw [take_snoc a k hlt, take_snoc b k hlt', ht, hab]))
      exact ⟨.refl _, .refl _, .eq (congrArg (AV.int .i64) (i64_in _ (by omega))), trivial⟩
    · refine cond_t (bne_iff_ne.2 hab) ?_
      exact ex_w (hR2 fun e => hab (by subst e; rfl)) rfl ⟨.refl _, trivial⟩ rfl

theorem intsN (nl nl' : Option Bool) (own own' : Bool) (a b : List Int) (ha : a.length ≤ 1000000) : PCallN Try.prog 16 [.sl 1 nl own (ints a), .sl 1 nl' own' (ints b)] (.bool (decide (a = b))) := by
  refine PCallN.of (tr []) f16 (Nat.le_of_ble_eq_true rfl) (np_cons (np_ints _) (np_cons (np_ints _) np_nil)) (.bool _) ?_
  by_cases he : a.length = b.length
  · refine cond_f (by rw [ints_len, ints_len, he]; exact bne_self_eq_false _) ?_
    refine VloopS.weak (l := intsAt a b 0) rfl ⟨.both _ _ _ _, .both _ _ _ _, .refl _, trivial⟩ (Nat.zero_le _) (VloopS.exW (intsLoop a b _ he ha (fun e => ?_) (fun hne => ?_) a.length 0 (by omega) rfl))
    · exact bool_eq (decide_eq_true e).symm
    · exact bool_eq (decide_eq_false hne).symm
  · refine cond_t (bne_iff_ne.2 (by rw [ints_len, ints_len]; omega)) ?_
    exact bool_eq (decide_eq_false fun e => he (by rw [e])).symm

/-! the example -/

theorem twoN : PCallN Try.prog 9 [] (.bool true) := by
  have h5 := pushN (Qu.new 2) 5 (new_ok 2)
  have h6 := pushN ((Qu.new 2).push 5) 6 (push_ok (new_ok 2))
  have h7 := pushN (((Qu.new 2).push 5).push 6) 7 (push_ok (push_ok (new_ok 2)))
  have h9 := popN ((((Qu.new 2).push 5).push 6).push 7) 9 (push_ok (push_ok (push_ok (new_ok 2))))
  have e9 : ((((Qu.new 2).push 5).push 6).push 7).l.take (9 : Int).toNat = [5, 6] := by decide
  have e9' : (pops (min ((((Qu.new 2).push 5).push 6).push 7).n (9 : Int).toNat) ((((Qu.new 2).push 5).push 6).push 7)).n = 0 := by decide
  have hl := lenN (pops (min ((((Qu.new 2).push 5).push 6).push 7).n (9 : Int).toNat) ((((Qu.new 2).push 5).push 6).push 7))
  rw [e9] at h9
  rw [e9'] at hl
  have hi := intsN none (some false) true true [5, 6] [5, 6] (by decide)
  rw [decide_eq_true rfl] at hi
  refine PCallN.of (tr []) f9 (Nat.le_of_ble_eq_true rfl) np_nil (.bool _) ?_
  refine call_h (newN 2) ?_
  refine call_h h5 ?_
  refine call_h h6 ?_
  refine call_h h7 ?_
  repeat (first | refine guard_t rfl ?_ | refine guard_f (by decide) ?_)
  refine call_h h9 ?_
  repeat (first | refine guard_t rfl ?_ | refine guard_f (by decide) ?_)
  refine call_p hi ?_
  repeat (first | refine guard_t rfl ?_ | refine guard_f (by decide) ?_)
  refine call_h hl ?_
  repeat (first | refine guard_t rfl ?_ | refine guard_f (by decide) ?_)
  exact bool_eq rfl

theorem queueNilN (x : Int) : PCallN Try.prog 7 [.int .i64 x] (.bool true) := by
  refine PCallN.of (tr []) f7 (Nat.le_of_ble_eq_true rfl) (np_cons (.int _ _) np_nil) (.bool _) ?_
  refine call_p twoN ?_
  repeat (first | refine guard_t rfl ?_ | refine guard_f (by decide) ?_)
  refine call_p (pushNil x) ?_
  repeat (first | refine guard_t rfl ?_ | refine guard_f (by decide) ?_)
  refine call_p (popNil x) ?_
  repeat (first | refine guard_t rfl ?_ | refine guard_f (by decide) ?_)
  refine call_p lenNil ?_
  repeat (first | refine guard_t rfl ?_ | refine guard_f (by decide) ?_)
  refine call_p roomNil ?_
  repeat (first | refine guard_t rfl ?_ | refine guard_f (by decide) ?_)
  refine call_p (hasNil x) ?_
  repeat (first | refine guard_t rfl ?_ | refine guard_f (by decide) ?_)
  exact bool_eq rfl

end Go.Proofs.Ytolheiddjejlfaa.V

/- The queue: how many go; for how many there is room. -/
namespace Go.Proofs.Ytolheiddjejlfaa.V
open Go.IntWalk

theorem np_qc {ok : Nat → Prop} (Q : Qu) : ∀ a, a ∈ Q.c → NP ok a := Q.np

def noneAt (n most : Int) (k i : Nat) : List (Nat × AV) := [(0, .int .i64 n), (1, .int .i64 most), (5, .ptr (some (0, 0))), (6, .int .i64 k), (7, .int .i64 i)]

theorem noneLoop (n most : Int) (ht : n.tmod 6 ≤ 5) (R : VE → Sy → Prop) (hR : ∀ Q : Qu, Q.ok → Q.m = 4 → R (.exit 0) ⟨[], [(1, .int .i64 most), (5, .ptr (some (0, 0))), (6, .int .i64 Q.n)], [.cells Q.c]⟩) :
    ∀ (g i : Nat) (Q : Qu), i + g = 5 → Q.ok → Q.m = 4 → VloopS Try.prog (tr []) 45 0 c4b0 (exW 45 R) ⟨[], noneAt n most Q.n i, [.cells Q.c]⟩
  | g, i, Q, hg, hq, hm => by
    refine VloopS.round ?_
    refine And.intro (by decide) ?_
    by_cases hlt : (i : Int) < n.tmod 6
    · refine cond_t (decide_eq_true hlt) ?_
      obtain ⟨g, rfl⟩ : ∃ h, g = h + 1 := ⟨g - 1, by omega⟩
      refine call_h (pushN Q i hq) ?_
      by_cases hf : Q.n < Q.m
      · refine cond_t (decide_eq_true hf) ?_
        refine VloopS.weakE (l := noneAt n most (Q.push i).n (i + 1)) rfl ⟨.refl _, .refl _, .refl _, .eq (int_eq ?_), .eq (int_eq ?_), trivial⟩ rfl (Nat.zero_le _) (noneLoop n most ht R hR g (i + 1) (Q.push i) (by omega) (push_ok hq) ((push_m _ _).trans hm))
        · rw [push_n hf, i64_in _ (by omega)]; omega
        · rw [i64_in _ (by omega)]; omega
      · refine cond_f (decide_eq_false hf) ?_
        refine VloopS.weakE (l := noneAt n most (Q.push i).n (i + 1)) rfl ⟨.refl _, .refl _, .refl _, .eq (int_eq ?_), .eq (int_eq ?_), trivial⟩ rfl (Nat.zero_le _) (noneLoop n most ht R hR g (i + 1) (Q.push i) (by omega) (push_ok hq) ((push_m _ _).trans hm))
        · rw [push_full hf]
        · rw [i64_in _ (by omega)]; omega
    · refine cond_f (decide_eq_false hlt) ?_
      exact ex_w (hR Q hq hm) rfl ⟨.refl _, .refl _, .refl _, trivial⟩ rfl

theorem tmod6 (n : Int) : n.tmod 6 ≤ 5 := by
  have := Int.tmod_lt_of_pos n (b := 6) (by decide)
  omega

theorem queueNoneN (n most : Int) (hmost : -9223372036854775808 ≤ most ∧ most ≤ 9223372036854775807) : PCallN Try.prog 4 [.int .i64 n, .int .i64 most] (.bool true) := by
  refine PCallN.of (tr []) f4 (Nat.le_of_ble_eq_true rfl) (np_cons (.int _ _) (np_cons (.int _ _) np_nil)) (.bool _) ?_
  refine call_h (newN 4) ?_
  refine VloopS.weakE (l := noneAt n most (Qu.new 4).n 0) rfl ⟨.refl _, .refl _, .refl _, .refl _, .refl _, trivial⟩ rfl (Nat.zero_le _) (VloopS.exW (noneLoop n most (tmod6 n) _ ?_ 5 0 (Qu.new 4) rfl (new_ok 4) rfl))
  intro Q hq hm
  have hp := popN Q most hq
  have hl := lenN (pops (min Q.n most.toNat) Q)
  have e1 : (pops (min Q.n most.toNat) Q).n = Q.n - most.toNat := by
    rw [← l_len, pops_min, List.length_drop, l_len]
  have e2 : (ints (Q.l.take most.toNat)).length = min most.toNat Q.n := by rw [ints_len, List.length_take, l_len]
  rw [e1] at hl
  obtain ⟨h1, h2, h3⟩ := hq
  by_cases h0 : most < 0
  · refine cond_t (decide_eq_true h0) ?_
    refine cond_f (decide_eq_false (by omega)) ?_
    refine call_p twoN ?_
    repeat (first | refine guard_t rfl ?_ | refine guard_f (by decide) ?_)
    refine call_h hp ?_
    repeat (first | refine guard_t rfl ?_ | refine guard_f (by decide) ?_)
    refine guard_t (beq_iff_eq.2 (by rw [e2]; omega)) ?_
    repeat (first | refine guard_t rfl ?_ | refine guard_f (by decide) ?_)
    refine call_h hl ?_
    repeat (first | refine guard_t rfl ?_ | refine guard_f (by decide) ?_)
    refine bool_eq (beq_iff_eq.2 ?_)
    rw [i64_in _ (by omega)]; omega
  · refine cond_f (decide_eq_false h0) ?_
    by_cases hk : (Q.n : Int) < most
    · refine cond_t (decide_eq_true hk) ?_
      refine call_p twoN ?_
      repeat (first | refine guard_t rfl ?_ | refine guard_f (by decide) ?_)
      refine call_h hp ?_
      repeat (first | refine guard_t rfl ?_ | refine guard_f (by decide) ?_)
      refine guard_t (beq_iff_eq.2 (by rw [e2]; omega)) ?_
      repeat (first | refine guard_t rfl ?_ | refine guard_f (by decide) ?_)
      refine call_h hl ?_
      repeat (first | refine guard_t rfl ?_ | refine guard_f (by decide) ?_)
      refine bool_eq (beq_iff_eq.2 ?_)
      rw [i64_in _ (by omega)]; omega
    · refine cond_f (decide_eq_false (by omega)) ?_
      refine call_p twoN ?_
      repeat (first | refine guard_t rfl ?_ | refine guard_f (by decide) ?_)
      refine call_h hp ?_
      repeat (first | refine guard_t rfl ?_ | refine guard_f (by decide) ?_)
      refine guard_t (beq_iff_eq.2 (by rw [e2]; omega)) ?_
      repeat (first | refine guard_t rfl ?_ | refine guard_f (by decide) ?_)
      refine call_h hl ?_
      repeat (first | refine guard_t rfl ?_ | refine guard_f (by decide) ?_)
      refine bool_eq (beq_iff_eq.2 ?_)
      rw [i64_in _ (by omega)]; omega

/-! room -/

def roomAt (n x : Int) (k want i : Nat) : List (Nat × AV) := [(0, .int .i64 n), (1, .int .i64 x), (5, .ptr (some (0, 0))), (6, .int .i64 k), (7, .int .i64 want), (8, .int .i64 i)]

theorem roomLoop (n x : Int) (k want : Nat) (hk4 : k ≤ 4) (R : VE → Sy → Prop) (hR : ∀ Q : Qu, Q.ok → Q.m = k → Q.n = k → Q.l = List.replicate k x → R (.exit 0) ⟨[], [(1, .int .i64 x), (5, .ptr (some (0, 0))), (6, .int .i64 k), (7, .int .i64 want)], [.cells Q.c]⟩) :
    ∀ (g i : Nat) (Q : Qu), i + g = k → Q.ok → Q.m = k → Q.n = i → Q.l = List.replicate i x → VloopS Try.prog (tr []) 58 0 c6b0 (exW 58 R) ⟨[], roomAt n x k want i, [.cells Q.c]⟩
  | 0, i, Q, hg, hq, hm, hn, hl => by
    have e : i = k := by omega
    subst e
    refine VloopS.round ?_
    refine cond_f (decide_eq_false (by omega)) ?_
    exact ex_w (hR Q hq hm hn hl) rfl ⟨.refl _, .refl _, .refl _, .refl _, trivial⟩ rfl
  | g + 1, i, Q, hg, hq, hm, hn, hl => by
    refine VloopS.round ?_
    refine cond_t (decide_eq_true (by omega)) ?_
    have hlt : Q.n < Q.m := by omega
    have hp := pushN Q x hq
    rw [decide_eq_true hlt] at hp
    refine call_h hp ?_
    repeat (first | refine guard_t rfl ?_ | refine guard_f (by decide) ?_ | refine cond_t rfl ?_ | refine cond_f rfl ?_)
    refine VloopS.weakE (l := roomAt n x k want (i + 1)) rfl ⟨.refl _, .refl _, .refl _, .refl _, .refl _, .eq (int_eq ?_), trivial⟩ rfl (Nat.zero_le _) (roomLoop n x k want hk4 R hR g (i + 1) (Q.push x) (by omega) (push_ok hq) ((push_m _ _).trans hm) (by rw [push_n hlt, hn]) (by rw [push_l hq hlt, hl, List.replicate_succ']))
    rw [i64_in _ (by omega)]; omega

theorem queueRoomN (n x : Int) : PCallN Try.prog 6 [.int .i64 n, .int .i64 x] (.bool true) := by
  have hk : cap4 n ≤ 4 := by unfold cap4; omega
  have hcap : (cap4 n : Int) = min (max n 0) 4 := by unfold cap4; omega
  have last : ∀ Q : Qu, Q.ok → Q.m = cap4 n → Q.n = cap4 n → Q.l = List.replicate (cap4 n) x → VCall Try.prog 11 [.ptr (some (0, 0)), .int .i64 x] [.cells Q.c] (.bool false) [.cells Q.c] ∧ VCall Try.prog 13 [.ptr (some (0, 0))] [.cells Q.c] (.int .i64 (cap4 n)) [.cells Q.c] ∧
      VCall Try.prog 19 [.ptr (some (0, 0)), .int .i64 x] [.cells Q.c] (.bool (decide ((cap4 n : Int) > 0))) [.cells Q.c] ∧ VCall Try.prog 18 [.ptr (some (0, 0))] [.cells Q.c] (.int .i64 0) [.cells Q.c] := by
    intro Q hq hm hn hl
    have h1 := pushN Q x hq
    have hf : ¬ Q.n < Q.m := by omega
    rw [decide_eq_false hf, push_full hf] at h1
    have h2 := lenN Q
    rw [hn] at h2
    have h3 := hasN Q x hq
    have e : decide (x ∈ Q.l) = decide ((cap4 n : Int) > 0) := by
      rw [hl]
      by_cases h0 : cap4 n = 0
      · simp [h0]
      · rw [decide_eq_true (List.mem_replicate.2 ⟨h0, rfl⟩), decide_eq_true (by omega)]
    rw [e] at h3
    have h4 := roomN Q hq
    rw [show Q.m - Q.n = 0 by omega] at h4
    exact ⟨h1, h2, h3, h4⟩
  have hr0 := roomN (Qu.new n) (new_ok n)
  rw [show (Qu.new n).m - (Qu.new n).n = cap4 n from rfl] at hr0
  refine PCallN.of (tr []) f6 (Nat.le_of_ble_eq_true rfl) (np_cons (.int _ _) (np_cons (.int _ _) np_nil)) (.bool _) ?_
  refine call_h (newN n) ?_
  refine call_h hr0 ?_
  by_cases h0 : n < 0
  · refine cond_t (decide_eq_true h0) ?_
    refine cond_f (decide_eq_false (by omega)) ?_
    refine VloopS.weakE (l := roomAt n x (cap4 n) (cap4 n) 0) rfl ⟨.refl _, .refl _, .refl _, .refl _, .eq (int_eq (by omega)), .refl _, trivial⟩ rfl (Nat.zero_le _) (VloopS.exW (roomLoop n x (cap4 n) (cap4 n) hk _ ?_ (cap4 n) 0 (Qu.new n) (Nat.zero_add _) (new_ok n) rfl rfl rfl))
    intro Q hq hm hn hl
    obtain ⟨c1, c2, c3, c4⟩ := last Q hq hm hn hl
    refine call_p twoN ?_
    repeat (first | refine guard_t rfl ?_ | refine guard_f (by decide) ?_)
    refine guard_t (beq_self_eq_true _) ?_
    repeat (first | refine guard_t rfl ?_ | refine guard_f (by decide) ?_)
    refine call_h c1 ?_
    repeat (first | refine guard_t rfl ?_ | refine guard_f (by decide) ?_)
    refine call_h c2 ?_
    repeat (first | refine guard_t rfl ?_ | refine guard_f (by decide) ?_)
    refine guard_t (beq_self_eq_true _) ?_
    repeat (first | refine guard_t rfl ?_ | refine guard_f (by decide) ?_)
    refine call_h c3 ?_
    repeat (first | refine guard_t rfl ?_ | refine guard_f (by decide) ?_)
    refine guard_t (beq_self_eq_true _) ?_
    repeat (first | refine guard_t rfl ?_ | refine guard_f (by decide) ?_)
    refine call_h c4 ?_
    repeat (first | refine guard_t rfl ?_ | refine guard_f (by decide) ?_)
    exact bool_eq rfl
  · refine cond_f (decide_eq_false h0) ?_
    by_cases h4 : n > 4
    · refine cond_t (decide_eq_true h4) ?_
      refine VloopS.weakE (l := roomAt n x (cap4 n) (cap4 n) 0) rfl ⟨.refl _, .refl _, .refl _, .refl _, .eq (int_eq (by omega)), .refl _, trivial⟩ rfl (Nat.zero_le _) (VloopS.exW (roomLoop n x (cap4 n) (cap4 n) hk _ ?_ (cap4 n) 0 (Qu.new n) (Nat.zero_add _) (new_ok n) rfl rfl rfl))
      intro Q hq hm hn hl
      obtain ⟨c1, c2, c3, c4⟩ := last Q hq hm hn hl
      refine call_p twoN ?_
      repeat (first | refine guard_t rfl ?_ | refine guard_f (by decide) ?_)
      refine guard_t (beq_self_eq_true _) ?_
      repeat (first | refine guard_t rfl ?_ | refine guard_f (by decide) ?_)
      refine call_h c1 ?_
      repeat (first | refine guard_t rfl ?_ | refine guard_f (by decide) ?_)
      refine call_h c2 ?_
      repeat (first | refine guard_t rfl ?_ | refine guard_f (by decide) ?_)
      refine guard_t (beq_self_eq_true _) ?_
      repeat (first | refine guard_t rfl ?_ | refine guard_f (by decide) ?_)
      refine call_h c3 ?_
      repeat (first | refine guard_t rfl ?_ | refine guard_f (by decide) ?_)
      refine guard_t (beq_self_eq_true _) ?_
      repeat (first | refine guard_t rfl ?_ | refine guard_f (by decide) ?_)
      refine call_h c4 ?_
      repeat (first | refine guard_t rfl ?_ | refine guard_f (by decide) ?_)
      exact bool_eq rfl
    · refine cond_f (decide_eq_false h4) ?_
      refine VloopS.weakE (l := roomAt n x (cap4 n) (cap4 n) 0) rfl ⟨.refl _, .refl _, .refl _, .refl _, .eq (int_eq (by omega)), .refl _, trivial⟩ rfl (Nat.zero_le _) (VloopS.exW (roomLoop n x (cap4 n) (cap4 n) hk _ ?_ (cap4 n) 0 (Qu.new n) (Nat.zero_add _) (new_ok n) rfl rfl rfl))
      intro Q hq hm hn hl
      obtain ⟨c1, c2, c3, c4⟩ := last Q hq hm hn hl
      refine call_p twoN ?_
      repeat (first | refine guard_t rfl ?_ | refine guard_f (by decide) ?_)
      refine guard_t (beq_self_eq_true _) ?_
      repeat (first | refine guard_t rfl ?_ | refine guard_f (by decide) ?_)
      refine call_h c1 ?_
      repeat (first | refine guard_t rfl ?_ | refine guard_f (by decide) ?_)
      refine call_h c2 ?_
      repeat (first | refine guard_t rfl ?_ | refine guard_f (by decide) ?_)
      refine guard_t (beq_self_eq_true _) ?_
      repeat (first | refine guard_t rfl ?_ | refine guard_f (by decide) ?_)
      refine call_h c3 ?_
      repeat (first | refine guard_t rfl ?_ | refine guard_f (by decide) ?_)
      refine guard_t (beq_self_eq_true _) ?_
      repeat (first | refine guard_t rfl ?_ | refine guard_f (by decide) ?_)
      refine call_h c4 ?_
      repeat (first | refine guard_t rfl ?_ | refine guard_f (by decide) ?_)
      exact bool_eq rfl

end Go.Proofs.Ytolheiddjejlfaa.V

/- The queue: first come, first gone; who waits is found. -/
namespace Go.Proofs.Ytolheiddjejlfaa.V
open Go.IntWalk

def fifoAt (nl : Option Bool) (own : Bool) (l : List UInt8) (inn out i : Int) : List (Nat × AV) := [(0, .sl 1 nl own (bs l)), (3, .ptr (some (0, 0))), (4, .int .i64 inn), (5, .int .i64 out), (6, .int .i64 i)]

theorem run_take (out : Int) (n : Nat) (h : 0 < n) : ((List.range n).map fun j : Nat => out + (j : Int)).take 1 = [out] := by
  obtain ⟨m, rfl⟩ : ∃ m, n = m + 1 := ⟨n - 1, by omega⟩
  simp [List.range_succ_eq_map]
theorem run_drop (out : Int) (n : Nat) : ((List.range n).map fun j : Nat => out + (j : Int)).drop 1 = (List.range (n - 1)).map fun j : Nat => (out + 1) + (j : Int) := by
  cases n with
  | zero => rfl
  | succ m =>
    simp only [List.range_succ_eq_map, List.map_cons, List.drop_succ_cons, List.drop_zero, List.map_map, Nat.add_sub_cancel]
    apply List.map_congr_left
    intro j _
    simp only [Function.comp]
    omega

theorem fifoLoop (nl : Option Bool) (own : Bool) (l : List UInt8) (h100 : l.length ≤ 100) (R : VE → Sy → Prop)
    (hR : ∀ (Q : Qu) (out : Int), Q.ok → Q.m = 3 → 0 ≤ out ∧ out ≤ 100 → R (.exit 0) ⟨[], [(3, .ptr (some (0, 0))), (4, .int .i64 (out + Q.n)), (5, .int .i64 out)], [.cells Q.c]⟩) :
    ∀ (g i : Nat) (out : Int) (Q : Qu), i + g = l.length → Q.ok → Q.m = 3 → 0 ≤ out → out + Q.n ≤ i → Q.l = ((List.range Q.n).map fun j : Nat => out + (j : Int)) →
      VloopS Try.prog (tr []) 67 0 c3b0 (exW 67 R) ⟨[], fifoAt nl own l (out + Q.n) out i, [.cells Q.c]⟩
  | 0, i, out, Q, hg, hq, hm, h0, h1, hl => by
    refine VloopS.round ?_
    refine cond_f (decide_eq_false (by rw [bs_len]; omega)) ?_
    exact ex_w (hR Q out hq hm ⟨h0, by omega⟩) rfl ⟨.refl _, .refl _, .refl _, trivial⟩ rfl
  | g + 1, i, out, Q, hg, hq, hm, h0, h1, hl => by
    have hlt : i < l.length := by omega
    have hp := pushN Q (out + Q.n) hq
    have hpop := popN Q 1 hq
    have hpn : (pops (min Q.n (1 : Int).toNat) Q).n = Q.n - 1 := by rw [← l_len, pops_min, List.length_drop, l_len]; rfl
    have hpl : (pops (min Q.n (1 : Int).toNat) Q).l = Q.l.drop 1 := pops_min Q 1
    have hok := pops_ok (min Q.n (1 : Int).toNat) hq
    have hpm := (pops_m (min Q.n (1 : Int).toNat) Q).trans hm
    have hpush_ok := push_ok (x := out + Q.n) hq
    have hpush_m := (push_m Q (out + Q.n)).trans hm
    have hq3 := hq.2.1
    refine VloopS.round ?_
    refine cond_t (decide_eq_true (by rw [bs_len]; omega)) ?_
    refine And.intro rfl (And.intro (Int.natCast_nonneg i) (Exists.intro [.int .u8 (l[i].toNat : Int)] (And.intro (bs_get hlt) ?_)))
    refine And.intro (by decide) ?_
    by_cases hb : ((l[i].toNat : Int)).tmod 2 = 0
    · refine cond_t (beq_iff_eq.2 hb) ?_
      refine call_h hp ?_
      by_cases hf : Q.n < Q.m
      · have hn := push_n (x := out + Q.n) hf
        have next := fifoLoop nl own l h100 R hR g (i + 1) out (Q.push (out + Q.n)) (by omega) hpush_ok hpush_m h0 (by rw [hn]; omega)
          (by rw [push_l hq hf, hn, hl, List.range_succ, List.map_append]; rfl)
        refine cond_t (decide_eq_true hf) ?_
        refine VloopS.weakE (l := fifoAt nl own l (out + (Q.push (out + Q.n)).n) out ((i + 1 : Nat) : Int)) rfl ⟨.refl _, .refl _, .eq (int_eq ?_), .refl _, .eq (int_eq ?_), trivial⟩ rfl (Nat.zero_le _) next
        · rw [hn, i64_in _ (by omega)]; omega
        · rw [i64_in _ (by omega)]; omega
      · have next := fifoLoop nl own l h100 R hR g (i + 1) out (Q.push (out + Q.n)) (by omega) hpush_ok hpush_m h0 (by rw [push_full hf]; omega) (by rw [push_full hf]; exact hl)
        refine cond_f (decide_eq_false hf) ?_
        refine VloopS.weakE (l := fifoAt nl own l (out + (Q.push (out + Q.n)).n) out ((i + 1 : Nat) : Int)) rfl ⟨.refl _, .refl _, .eq (int_eq ?_), .refl _, .eq (int_eq ?_), trivial⟩ rfl (Nat.zero_le _) next
        · rw [push_full hf]
        · rw [i64_in _ (by omega)]; omega
    · refine cond_f (beq_eq_false_iff_ne.2 hb) ?_
      by_cases h00 : Q.n = 0
      · have e : Q.l.take (1 : Int).toNat = [] := by rw [hl, h00]; rfl
        rw [e] at hpop
        have next := fifoLoop nl own l h100 R hR g (i + 1) out (pops (min Q.n (1 : Int).toNat) Q) (by omega) hok hpm h0 (by rw [hpn]; omega) (by rw [hpl, hpn, hl, h00]; rfl)
        refine call_h hpop ?_
        repeat (first | refine guard_t rfl ?_ | refine guard_f (by decide) ?_)
        refine cond_f rfl ?_
        refine VloopS.weakE (l := fifoAt nl own l (out + (pops (min Q.n (1 : Int).toNat) Q).n) out ((i + 1 : Nat) : Int)) rfl ⟨.refl _, .refl _, .eq (int_eq ?_), .eq (int_eq ?_), .eq (int_eq ?_), trivial⟩ rfl (Nat.zero_le _) next
        · rw [hpn]; omega
        · rw [i64_in _ (by simp [ints]; omega)]; simp [ints]
        · rw [i64_in _ (by omega)]; omega
      · have e : Q.l.take (1 : Int).toNat = [out] := by rw [hl]; exact run_take out Q.n (by omega)
        rw [e] at hpop
        have next := fifoLoop nl own l h100 R hR g (i + 1) (out + 1) (pops (min Q.n (1 : Int).toNat) Q) (by omega) hok hpm (by omega) (by rw [hpn]; omega) (by rw [hpl, hpn, hl]; exact run_drop out Q.n)
        refine call_h hpop ?_
        repeat (first | refine guard_t rfl ?_ | refine guard_f (by decide) ?_)
        refine And.intro rfl (And.intro (by decide) (Exists.intro [.int .i64 out] (And.intro rfl ?_)))
        repeat (first | refine guard_t rfl ?_ | refine guard_f (by decide) ?_)
        refine cond_f (bne_self_eq_false _) ?_
        refine VloopS.weakE (l := fifoAt nl own l ((out + 1) + (pops (min Q.n (1 : Int).toNat) Q).n) (out + 1) ((i + 1 : Nat) : Int)) rfl ⟨.refl _, .refl _, .eq (int_eq ?_), .eq (int_eq ?_), .eq (int_eq ?_), trivial⟩ rfl (Nat.zero_le _) next
        · rw [hpn]; omega
        · rw [i64_in _ (by simp [ints]; omega)]; simp [ints]
        · rw [i64_in _ (by omega)]; omega

theorem queueFifoN (nl : Option Bool) (own : Bool) (l : List UInt8) : PCallN Try.prog 3 [.sl 1 nl own (bs l)] (.bool true) := by
  refine PCallN.of (tr []) f3 (Nat.le_of_ble_eq_true rfl) (np_cons (np_bs _) np_nil) (.bool _) ?_
  refine call_p twoN ?_
  repeat (first | refine guard_t rfl ?_ | refine guard_f (by decide) ?_)
  by_cases h : 100 < l.length
  · refine cond_t (decide_eq_true (by rw [bs_len]; omega)) ?_
    refine call_p twoN ?_
    exact bool_eq rfl
  · refine cond_f (decide_eq_false (by rw [bs_len]; omega)) ?_
    refine call_h (newN 3) ?_
    refine VloopS.weakE (l := fifoAt nl false l (0 + (Qu.new 3).n) 0 0) rfl ⟨.strip _, .refl _, .refl _, .refl _, .refl _, trivial⟩ rfl (Nat.zero_le _) (VloopS.exW (fifoLoop nl false l (by omega) _ ?_ l.length 0 0 (Qu.new 3) (Nat.zero_add _) (new_ok 3) rfl (Int.le_refl _) (by decide) rfl))
    intro Q out hq hm ho
    have h3 := hq.2.1
    refine call_h (lenN Q) ?_
    refine guard_t (beq_iff_eq.2 (by rw [i64_in _ (by omega)]; omega)) ?_
    repeat (first | refine guard_t rfl ?_ | refine guard_f (by decide) ?_)
    refine bool_eq (decide_eq_true ?_)
    rw [i64_in _ (by omega)]; omega

/-! who waits is found -/

def innerAt (nl : Option Bool) (own : Bool) (l : List UInt8) (i : Int) (xs : List Int) (k : Int) : List (Nat × AV) := [(0, .sl 1 nl own (bs l)), (3, .ptr (some (0, 0))), (4, .int .i64 i), (5, .sl 1 none false (ints xs)), (6, .int .i64 k)]

theorem innerLoop (nl : Option Bool) (own : Bool) (l : List UInt8) (i : Int) (xs : List Int) (Q : Qu) (hq : Q.ok) (hx : ∀ x, x ∈ xs → x ∉ Q.l) (h4 : xs.length ≤ 4) (R : VE → Sy → Prop)
    (hR : R (.exit 2) ⟨[], [(0, .sl 1 nl own (bs l)), (3, .ptr (some (0, 0))), (4, .int .i64 i)], [.cells Q.c]⟩) :
    ∀ (g k : Nat), k + g = xs.length → VloopS Try.prog (tr []) 70 0 c8b0 (exW 70 R) ⟨[], innerAt nl own l i xs k, [.cells Q.c]⟩
  | 0, k, hg => by
    refine VloopS.round ?_
    refine cond_f (decide_eq_false (by rw [ints_len]; omega)) ?_
    exact ex_w hR rfl ⟨.refl _, .refl _, .refl _, trivial⟩ rfl
  | g + 1, k, hg => by
    have hlt : k < xs.length := by omega
    have hh := hasN Q xs[k] hq
    rw [decide_eq_false (hx _ (List.getElem_mem hlt))] at hh
    refine VloopS.round ?_
    refine cond_t (decide_eq_true (by rw [ints_len]; omega)) ?_
    refine And.intro rfl (And.intro (Int.natCast_nonneg k) (Exists.intro [.int .i64 xs[k]] (And.intro (ints_get hlt) ?_)))
    refine call_h hh ?_
    refine cond_f rfl ?_
    refine VloopS.weakE (l := innerAt nl own l i xs ((k + 1 : Nat) : Int)) rfl ⟨.refl _, .refl _, .refl _, .refl _, .eq (int_eq ?_), trivial⟩ rfl (Nat.zero_le _) (innerLoop nl own l i xs Q hq hx h4 R hR g (k + 1) (by omega))
    rw [i64_in _ (by omega)]; omega

def hasLAt (nl : Option Bool) (own : Bool) (l : List UInt8) (i : Int) : List (Nat × AV) := [(0, .sl 1 nl own (bs l)), (3, .ptr (some (0, 0))), (4, .int .i64 i)]

theorem hasLLoop (nl : Option Bool) (own : Bool) (l : List UInt8) (h60 : l.length ≤ 60) (R : VE → Sy → Prop) (hR : ∀ Q : Qu, Q.ok → R (.exit 0) ⟨[], [(3, .ptr (some (0, 0)))], [.cells Q.c]⟩) :
    ∀ (g i : Nat) (Q : Qu), i + g = l.length → Q.ok → Q.m = 4 → Q.n < 4 → Q.l.Pairwise (· < ·) → (∀ x, x ∈ Q.l → x < i) → VloopS Try.prog (tr []) 70 0 c8b1 (exW 70 R) ⟨[], hasLAt nl own l i, [.cells Q.c]⟩
  | 0, i, Q, hg, hq, hm, hn, hs, hx => by
    refine VloopS.round ?_
    refine cond_f (decide_eq_false (by rw [bs_len]; omega)) ?_
    exact ex_w (hR Q hq) rfl ⟨.refl _, trivial⟩ rfl
  | g + 1, i, Q, hg, hq, hm, hn, hs, hx => by
    have hlt : i < l.length := by omega
    have hb := l[i].toNat_lt
    have hf : Q.n < Q.m := by omega
    have h1 := hasN Q i hq
    rw [decide_eq_false (fun h => by have := hx _ h; omega)] at h1
    have h2 := pushN Q i hq
    rw [decide_eq_true hf] at h2
    have hq1 := push_ok (x := (i : Int)) hq
    have hl1 := push_l (x := (i : Int)) hq hf
    have hn1 := push_n (x := (i : Int)) hf
    have hm1 := (push_m Q (i : Int)).trans hm
    generalize Q.push (i : Int) = Q1 at *
    have hs1 : Q1.l.Pairwise (· < ·) := by
      rw [hl1, List.pairwise_append]
      exact ⟨hs, List.pairwise_singleton _ _, fun a ha b hb => by simp at hb; subst hb; exact hx a ha⟩
    have hx1 : ∀ x, x ∈ Q1.l → x < ((i + 1 : Nat) : Int) := by
      intro x hx'
      rw [hl1] at hx'
      rcases List.mem_append.1 hx' with h | h
      · have := hx x h; omega
      · simp at h; subst h; omega
    have h3 := hasN Q1 i hq1
    rw [decide_eq_true (by rw [hl1]; simp)] at h3
    have h4 := roomN Q1 hq1
    -- what goes
    have hpop := popN Q1 (1 + ((l[i].toNat : Int)).tmod 3) hq1
    have hk : ((l[i].toNat : Int)).tmod 3 = (((l[i].toNat % 3 : Nat)) : Int) := by rw [Int.tmod_eq_emod_of_nonneg (by omega)]; rfl
    have hk3 : l[i].toNat % 3 < 3 := Nat.mod_lt _ (by decide)
    have hkt : (1 + ((l[i].toNat : Int)).tmod 3).toNat = 1 + l[i].toNat % 3 := by rw [hk]; omega
    rw [hkt] at hpop
    have hq2 := pops_ok (min Q1.n (1 + l[i].toNat % 3)) hq1
    have hl2 := pops_min Q1 (1 + l[i].toNat % 3)
    have hm2 := (pops_m (min Q1.n (1 + l[i].toNat % 3)) Q1).trans hm1
    have hn2 : (pops (min Q1.n (1 + l[i].toNat % 3)) Q1).n = Q1.n - (1 + l[i].toNat % 3) := by rw [← l_len, hl2, List.length_drop, l_len]
    generalize pops (min Q1.n (1 + l[i].toNat % 3)) Q1 = Q2 at *
    have hsub : ∀ x, x ∈ Q2.l → x ∈ Q1.l := fun x h => by rw [hl2] at h; exact List.mem_of_mem_drop h
    have hgone : ∀ x, x ∈ Q1.l.take (1 + l[i].toNat % 3) → x ∉ Q2.l := by
      intro x h h'
      rw [hl2] at h'
      have := hs1
      rw [← List.take_append_drop (1 + l[i].toNat % 3) Q1.l, List.pairwise_append] at this
      have := this.2.2 x h x h'
      omega
    have hwrap : IntKind.i64.wrap (1 + IntKind.i64.wrap (((l[i].toNat : Int)).tmod 3)) = 1 + ((l[i].toNat : Int)).tmod 3 := by
      rw [hk, i64_in ((l[i].toNat % 3 : Nat) : Int) (by omega), i64_in _ (by omega)]
    rw [← hwrap] at hpop
    have goPop : VloopS Try.prog (tr []) 70 0 c8b1 (exW 70 R) ⟨[], hasLAt nl own l ((i + 1 : Nat) : Int), [.cells Q2.c]⟩ :=
      hasLLoop nl own l h60 R hR g (i + 1) Q2 (by omega) hq2 hm2 (by have := hq1.2.1; omega) (by rw [hl2]; exact hs1.sublist (List.drop_sublist _ _)) fun x h => hx1 x (hsub x h)
    refine VloopS.round ?_
    refine cond_t (decide_eq_true (by rw [bs_len]; omega)) ?_
    refine call_h h1 ?_
    refine cond_f rfl ?_
    refine call_h h2 ?_
    repeat (first | refine guard_t rfl ?_ | refine guard_f (by decide) ?_)
    refine call_h h3 ?_
    repeat (first | refine guard_t rfl ?_ | refine guard_f (by decide) ?_)
    refine cond_f rfl ?_
    refine call_h h4 ?_
    by_cases h0 : Q1.m - Q1.n = 0
    · refine guard_f (by rw [h0]; decide) ?_
      repeat (first | refine guard_t rfl ?_ | refine guard_f (by decide) ?_)
      refine cond_t rfl ?_
      refine And.intro rfl (And.intro (Int.natCast_nonneg i) (Exists.intro [.int .u8 (l[i].toNat : Int)] (And.intro (bs_get hlt) ?_)))
      refine And.intro (by decide) ?_
      refine call_h hpop ?_
      refine VloopS.weakE (l := innerAt nl own l i (Q1.l.take (1 + l[i].toNat % 3)) 0) rfl ⟨.refl _, .refl _, .refl _, .nl _ _ _ _, .refl _, trivial⟩ rfl (Nat.zero_le _) (VloopS.exW (innerLoop nl own l i _ Q2 hq2 hgone (by rw [List.length_take]; omega) _ ?_ _ 0 (Nat.zero_add _)))
      refine VloopS.weakE (l := hasLAt nl own l ((i + 1 : Nat) : Int)) rfl ⟨.refl _, .refl _, .eq (int_eq ?_), trivial⟩ rfl (Nat.zero_le _) goPop
      rw [i64_in _ (by omega)]; omega
    · refine guard_t (beq_eq_false_iff_ne.2 (by omega)) ?_
      repeat (first | refine guard_t rfl ?_ | refine guard_f (by decide) ?_)
      refine And.intro rfl (And.intro (Int.natCast_nonneg i) (Exists.intro [.int .u8 (l[i].toNat : Int)] (And.intro (bs_get hlt) ?_)))
      repeat (first | refine guard_t rfl ?_ | refine guard_f (by decide) ?_)
      refine And.intro (by decide) ?_
      repeat (first | refine guard_t rfl ?_ | refine guard_f (by decide) ?_)
      by_cases hb2 : ((l[i].toNat : Int)).tmod 2 = 0
      · refine cond_t (beq_iff_eq.2 hb2) ?_
        refine And.intro rfl (And.intro (Int.natCast_nonneg i) (Exists.intro [.int .u8 (l[i].toNat : Int)] (And.intro (bs_get hlt) ?_)))
        refine And.intro (by decide) ?_
        refine call_h hpop ?_
        refine VloopS.weakE (l := innerAt nl own l i (Q1.l.take (1 + l[i].toNat % 3)) 0) rfl ⟨.refl _, .refl _, .refl _, .nl _ _ _ _, .refl _, trivial⟩ rfl (Nat.zero_le _) (VloopS.exW (innerLoop nl own l i _ Q2 hq2 hgone (by rw [List.length_take]; omega) _ ?_ _ 0 (Nat.zero_add _)))
        refine VloopS.weakE (l := hasLAt nl own l ((i + 1 : Nat) : Int)) rfl ⟨.refl _, .refl _, .eq (int_eq ?_), trivial⟩ rfl (Nat.zero_le _) goPop
        rw [i64_in _ (by omega)]; omega
      · refine cond_f (beq_eq_false_iff_ne.2 hb2) ?_
        refine VloopS.weakE (l := hasLAt nl own l ((i + 1 : Nat) : Int)) rfl ⟨.refl _, .refl _, .eq (int_eq ?_), trivial⟩ rfl (Nat.zero_le _) (hasLLoop nl own l h60 R hR g (i + 1) Q1 (by omega) hq1 hm1 (by omega) hs1 hx1)
        rw [i64_in _ (by omega)]; omega

theorem queueHasN (nl : Option Bool) (own : Bool) (l : List UInt8) : PCallN Try.prog 8 [.sl 1 nl own (bs l)] (.bool true) := by
  refine PCallN.of (tr []) f8 (Nat.le_of_ble_eq_true rfl) (np_cons (np_bs _) np_nil) (.bool _) ?_
  refine call_p twoN ?_
  repeat (first | refine guard_t rfl ?_ | refine guard_f (by decide) ?_)
  by_cases h : 60 < l.length
  · refine cond_t (decide_eq_true (by rw [bs_len]; omega)) ?_
    refine call_p twoN ?_
    exact bool_eq rfl
  · refine cond_f (decide_eq_false (by rw [bs_len]; omega)) ?_
    refine call_h (newN 4) ?_
    refine VloopS.weakE (l := hasLAt nl false l 0) rfl ⟨.strip _, .refl _, .refl _, trivial⟩ rfl (Nat.zero_le _) (VloopS.exW (hasLLoop nl false l (by omega) _ ?_ l.length 0 (Qu.new 4) (Nat.zero_add _) (new_ok 4) rfl (by decide) (by simp [Qu.l, Qu.new]) (by simp [Qu.l, Qu.new])))
    intro Q hq
    have h3 := hq.2.1
    have h4 := hq.2.2
    refine call_h (lenN Q) ?_
    refine bool_eq (decide_eq_true ?_)
    omega

end Go.Proofs.Ytolheiddjejlfaa.V

/- What the rows of this seat share: what is known of the program. -/
namespace Go.Proofs.Ytolheiddjejlfaa
set_option maxRecDepth 100000
theorem Try.own : ownKnob Try.prog.godebug = none := by kernel_rfl
theorem Try.laidOut : laidOutB Try.prog = true := by kernel_rfl
end Go.Proofs.Ytolheiddjejlfaa

/- The queue: whatever comes and goes. -/
namespace Go.Proofs.Ytolheiddjejlfaa.V
open Go.IntWalk

/-! the document's queue -/

def mq (L : List Int) (room : Nat) : List AV := [.sl 1 none false (ints L), .int .i64 room]

theorem np_mq {ok : Nat → Prop} (L : List Int) (room : Nat) : ∀ a, a ∈ mq L room → NP ok a := np_cons (np_ints _) (np_cons (.int _ _) np_nil)

theorem rNewN (n : Int) : PCallN Try.prog 14 [.int .i64 n] (.agg (mq [] (cap4 n))) := by
  refine PCallN.weakRet (ret := .agg [.sl 0 (some true) true [], .int .i64 (cap4 n)]) (.agg _ _ (.cons _ _ _ _ (.nil _ _ _ _ _ (by simp)) (.cons _ _ _ _ (.refl _) .nil))) ?_
  refine PCallN.weakRet (ret := .agg [.sl 0 (some true) false [], .int .i64 (cap4 n)]) (.agg _ _ (.cons _ _ _ _ (.nil _ _ _ _ _ (by simp)) (.cons _ _ _ _ (.refl _) .nil))) ?_
  refine PCallN.of (tr []) f14 (Nat.le_of_ble_eq_true rfl) (np_cons (.int _ _) np_nil) (.agg _ (np_cons np_nilsl (np_cons (.int _ _) np_nil))) ?_
  unfold cap4
  by_cases h0 : n < 0
  · refine cond_t (decide_eq_true h0) ?_
    repeat (first | refine guard_t rfl ?_ | refine guard_f (by decide) ?_ | refine cond_t rfl ?_ | refine cond_f rfl ?_)
    exact agg2 rfl (int_eq (by omega))
  · refine cond_f (decide_eq_false h0) ?_
    by_cases h4 : n > 4
    · refine cond_t (decide_eq_true h4) ?_
      exact agg2 rfl (int_eq (by omega))
    · refine cond_f (decide_eq_false h4) ?_
      exact agg2 rfl (int_eq (by omega))

theorem cut_ints {l : List Int} {i j : Int} {a b : Nat} (hi : i = a) (hj : j = b) : ((ints l).drop i.toNat).take (j.toNat - i.toNat) = ints ((l.drop a).take (b - a)) := by
  subst hi hj
  rw [ints_drop, ints_take]
  simp

def popK (L : List Int) (most : Int) : Nat := min most.toNat L.length

theorem rPopN (L : List Int) (room : Nat) (most : Int) : PCallN Try.prog 15 [.agg (mq L room), .int .i64 most] (.tup [.agg (mq (L.drop (popK L most)) room), .sl 1 none false (ints (L.take (popK L most)))]) := by
  have fin : ∀ k : Nat, k ≤ L.length → k = popK L most → ((ints L).drop (k : Int).toNat).take (((ints L).length : Int).toNat - (k : Int).toNat) = ints (L.drop (popK L most)) ∧ ((ints L).drop (0 : Int).toNat).take ((k : Int).toNat - (0 : Int).toNat) = ints (L.take (popK L most)) := by
    intro k hk e
    constructor
    · rw [cut_ints (a := k) (b := L.length) rfl (congrArg Nat.cast (ints_len L)), List.take_of_length_le (by simp), e]
    · rw [cut_ints (i := 0) (a := 0) (b := k) rfl rfl, e]; simp
  have np2 : NP (fun _ => False) (.tup [.agg (mq (L.drop (popK L most)) room), .sl 1 none false (ints (L.take (popK L most)))]) := .tup _ (np_cons (.agg _ (np_mq _ _)) (np_cons (np_ints _) np_nil))
  refine PCallN.of (tr []) f15 (Nat.le_of_ble_eq_true rfl) (np_cons (.agg _ (np_mq _ _)) (np_cons (.int _ _) np_nil)) np2 ?_
  by_cases h0 : most < 0
  · refine cond_t (decide_eq_true h0) ?_
    refine cond_f (decide_eq_false (by omega)) ?_
    obtain ⟨e1, e2⟩ := fin 0 (by omega) (by unfold popK; omega)
    refine And.intro (.inl rfl) (And.intro (by rw [ints_len]; omega) ?_)
    refine And.intro (.inl rfl) (And.intro (by rw [ints_len]; omega) ?_)
    refine And.intro (by kernel_rfl) ?_
    exact tup2 (agg2 (sl_eq e1) rfl) (sl_eq e2)
  · refine cond_f (decide_eq_false h0) ?_
    by_cases h4 : most > L.length
    · refine cond_t (decide_eq_true (by rw [ints_len]; omega)) ?_
      obtain ⟨e1, e2⟩ := fin L.length (by omega) (by unfold popK; omega)
      refine And.intro (.inl rfl) (And.intro (by rw [ints_len]; omega) ?_)
      refine And.intro (.inl rfl) (And.intro (by rw [ints_len]; omega) ?_)
      refine And.intro (by kernel_rfl) ?_
      rw [ints_len]
      refine tup2 (agg2 (sl_eq ?_) rfl) (sl_eq e2)
      rw [← e1, ints_len]
    · refine cond_f (decide_eq_false (by rw [ints_len]; omega)) ?_
      obtain ⟨m, rfl⟩ : ∃ m : Nat, most = m := ⟨most.toNat, by omega⟩
      obtain ⟨e1, e2⟩ := fin m (by omega) (by unfold popK; omega)
      refine And.intro (.inl rfl) (And.intro (by rw [ints_len]; omega) ?_)
      refine And.intro (.inl rfl) (And.intro (by rw [ints_len]; omega) ?_)
      refine And.intro (by kernel_rfl) ?_
      exact tup2 (agg2 (sl_eq e1) rfl) (sl_eq e2)

theorem rPushN (L : List Int) (room : Nat) (x : Int) (hl : L.length ≤ 1000) : PCallN Try.prog 17 [.agg (mq L room), .int .i64 x] (.tup [.agg (mq (if L.length < room then L ++ [x] else L) room), .bool (decide (L.length < room))]) := by
  by_cases h : L.length < room
  · rw [if_pos h, decide_eq_true h]
    refine PCallN.of (tr [14, 17, 6, 18, 21]) f17 (Nat.le_of_ble_eq_true rfl) (np_cons (.agg _ (np_mq _ _)) (np_cons (.int _ _) np_nil)) (.tup _ (np_cons (.agg _ (np_mq _ _)) (np_cons (.bool _) np_nil))) ?_
    refine cond_f (decide_eq_false (by rw [ints_len]; omega)) ?_
    refine And.intro (.inr ⟨rfl, rfl⟩) (And.intro (.inl rfl) (And.intro ?_ ?_))
    · simp only [List.length_nil, ints_len]; omega
    refine And.intro (.inl ⟨rfl, rfl⟩) (And.intro (.inl rfl) (And.intro ?_ ?_))
    · simp only [List.length_append, List.length_cons, List.length_nil, ints_len]; omega
    refine And.intro (by kernel_rfl) ?_
    exact tup2 (agg2 (sl_eq (ints_app L [x])) rfl) rfl
  · rw [if_neg h, decide_eq_false h]
    refine PCallN.of (tr []) f17 (Nat.le_of_ble_eq_true rfl) (np_cons (.agg _ (np_mq _ _)) (np_cons (.int _ _) np_nil)) (.tup _ (np_cons (.agg _ (np_mq _ _)) (np_cons (.bool _) np_nil))) ?_
    refine cond_t (decide_eq_true (by rw [ints_len]; omega)) ?_
    exact tup2 (agg2 rfl rfl) rfl

def rhAt (L : List Int) (x : Int) (i : Nat) : List (Nat × AV) := [(0, .sl 1 none false (ints L)), (1, .int .i64 x), (5, .int .i64 i)]

theorem rHasLoop (L : List Int) (x : Int) (hl : L.length ≤ 1000000) (R : VE → Sy → Prop) (hR1 : x ∈ L → R .ret ⟨[], [(4, .bool true)], []⟩) (hR2 : x ∉ L → R (.exit 0) ⟨[], [], []⟩) :
    ∀ k i, i + k = L.length → x ∉ L.take i → VloopS Try.prog (tr []) 18 0 c20b0 (exW 18 R) ⟨[], rhAt L x i, []⟩
  | 0, i, hk, hx => by
    refine VloopS.round ?_
    refine cond_f (decide_eq_false (by rw [ints_len]; omega)) ?_
    refine ex_w (hR2 ?_) rfl trivial rfl
    rw [List.take_of_length_le (by omega)] at hx
    exact hx
  | k + 1, i, hk, hx => by
    have hlt : i < L.length := by omega
    refine VloopS.round ?_
    refine cond_t (decide_eq_true (by rw [ints_len]; omega)) ?_
    refine And.intro rfl (And.intro (Int.natCast_nonneg i) (Exists.intro [.int .i64 L[i]] (And.intro (ints_get hlt) ?_)))
    by_cases hx2 : L[i] = x
    · refine cond_t (beq_iff_eq.2 hx2) ?_
      exact ex_w (hR1 (hx2 ▸ List.getElem_mem hlt)) rfl ⟨.refl _, trivial⟩ rfl
    · refine cond_f (beq_eq_false_iff_ne.2 hx2) ?_
      refine VloopS.weakE (l := rhAt L x (i + 1)) rfl ⟨.refl _, .refl _, .eq (int_eq ?_), trivial⟩ rfl (Nat.zero_le _) (rHasLoop L x hl R hR1 hR2 k (i + 1) (by omega) (fun h => by
        rw [take_snoc L i hlt] at h
        rcases List.mem_append.1 h with h | h
        · exact hx h
        · simp only [List.mem_singleton] at h
          exact hx2 h.symm))
      rw [i64_in _ (by omega)]; omega

theorem rHasN (nl : Option Bool) (own : Bool) (L : List Int) (x : Int) (hl : L.length ≤ 1000000) : PCallN Try.prog 20 [.sl 1 nl own (ints L), .int .i64 x] (.bool (decide (x ∈ L))) := by
  refine PCallN.of (tr []) f20 (Nat.le_of_ble_eq_true rfl) (np_cons (np_ints _) (np_cons (.int _ _) np_nil)) (.bool _) ?_
  refine VloopS.weak (l := rhAt L x 0) rfl ⟨.both _ _ _ _, .refl _, .refl _, trivial⟩ (Nat.zero_le _) (VloopS.exW (rHasLoop L x hl _ ?_ ?_ L.length 0 (by omega) (by simp)))
  · intro h
    exact bool_eq (decide_eq_true h).symm
  · intro h
    exact bool_eq (decide_eq_false h).symm

end Go.Proofs.Ytolheiddjejlfaa.V

/- The queue plays as the document's does. -/
namespace Go.Proofs.Ytolheiddjejlfaa.V
open Go.IntWalk

def acts (l : List (Bool × Int)) : List (List AV) := l.map fun a => [.bool a.1, .int .i64 a.2]
theorem acts_len (l : List (Bool × Int)) : (acts l).length = l.length := by simp [acts]
theorem acts_get {l : List (Bool × Int)} {i : Nat} (h : i < l.length) : (acts l)[i]? = some [.bool l[i].1, .int .i64 l[i].2] := by simp [acts, h]
theorem np_acts {ok : Nat → Prop} {sz : Nat} {nl : Option Bool} {own : Bool} (l : List (Bool × Int)) : NP ok (.sl sz nl own (acts l)) := by
  refine .sl _ _ _ _ fun x hx a ha => ?_
  simp only [acts, List.mem_map] at hx
  obtain ⟨b, _, rfl⟩ := hx
  simp only [List.mem_cons, List.not_mem_nil, or_false] at ha
  rcases ha with rfl | rfl
  · exact .bool _
  · exact .int _ _

def plAt (nl : Option Bool) (l : List (Bool × Int)) (i : Int) : List (Nat × AV) := [(1, .sl 2 nl false (acts l)), (5, .ptr (some (0, 0))), (6, .ptr (some (1, 0))), (7, .int .i64 i)]

theorem npo_qc (Q : Qu) : NPo (fun _ => False) (.cells Q.c) := Q.np

theorem pl_np (nl : Option Bool) (l : List (Bool × Int)) (i : Int) : ∀ p, p ∈ plAt nl l i → NP (fun i => i < 2) p.2 := by
  intro p hp
  simp only [plAt, List.mem_cons, List.not_mem_nil, or_false] at hp
  rcases hp with rfl | rfl | rfl | rfl
  · exact np_acts _
  · exact .ptr _ _ Nat.zero_lt_two
  · exact .ptr _ _ Nat.one_lt_two
  · exact .int _ _

theorem pl_npo (Q : Qu) (L : List Int) (room : Nat) : ∀ o, o ∈ [HObj.cells Q.c, .cells (mq L room)] → NPo (fun i => i < 2) o := by
  intro o ho
  simp only [List.mem_cons, List.not_mem_nil, or_false] at ho
  rcases ho with rfl | rfl
  · exact Q.np
  · exact np_mq _ _

theorem playLoop (nl : Option Bool) (l : List (Bool × Int)) (h100 : l.length ≤ 100) (hw : ∀ a, a ∈ l → -9223372036854775808 ≤ a.2 ∧ a.2 ≤ 9223372036854775807) (R : VE → Sy → Prop)
    (hR : ∀ Q : Qu, Q.ok → R (.exit 0) ⟨[], [(5, .ptr (some (0, 0))), (6, .ptr (some (1, 0)))], [.cells Q.c, .cells (mq Q.l Q.m)]⟩) :
    ∀ (g i : Nat) (Q : Qu), i + g = l.length → Q.ok → VloopS Try.prog (tr []) 112 0 c5b0 (exW 112 R) ⟨[], plAt nl l i, [.cells Q.c, .cells (mq Q.l Q.m)]⟩
  | 0, i, Q, hg, hq => by
    refine VloopS.round ?_
    refine cond_f (decide_eq_false (by rw [acts_len]; omega)) ?_
    exact ex_w (hR Q hq) rfl ⟨.refl _, .refl _, trivial⟩ rfl
  | g + 1, i, Q, hg, hq => by
    have hlt : i < l.length := by omega
    have hx := hw l[i] (List.getElem_mem hlt)
    obtain ⟨b, x, hli⟩ : ∃ b x, l[i] = (b, x) := ⟨l[i].1, l[i].2, rfl⟩
    rw [hli] at hx
    simp only at hx
    have hget := acts_get hlt
    rw [hli] at hget
    -- what both come to behind the action
    have fin : ∀ (Q' : Qu), Q'.ok → VloopS Try.prog (tr []) 112 0 c5b0 (exW 112 R) ⟨[], plAt nl l ((i + 1 : Nat) : Int), [.cells Q'.c, .cells (mq Q'.l Q'.m)]⟩ := fun Q' hq' => playLoop nl l h100 hw R hR g (i + 1) Q' (by omega) hq'
    have hm4 := hq.2.2
    have hn4 := hq.2.1
    have hl4 := l_len Q
    cases b with
    | true =>
      have hp := popN Q (x.tmod 4) hq
      have hrp := rPopN Q.l Q.m (x.tmod 4)
      have e1 : Q.l.drop (popK Q.l (x.tmod 4)) = Q.l.drop (x.tmod 4).toNat := by
        unfold popK
        by_cases h : (x.tmod 4).toNat ≤ Q.l.length
        · rw [Nat.min_eq_left h]
        · rw [Nat.min_eq_right (by omega), List.drop_of_length_le (by omega), List.drop_of_length_le (by omega)]
      have e2 : Q.l.take (popK Q.l (x.tmod 4)) = Q.l.take (x.tmod 4).toNat := by
        unfold popK
        by_cases h : (x.tmod 4).toNat ≤ Q.l.length
        · rw [Nat.min_eq_left h]
        · rw [Nat.min_eq_right (by omega), List.take_of_length_le (by omega), List.take_of_length_le (by omega)]
      rw [e1, e2, ← pops_min] at hrp
      have hq' := pops_ok (min Q.n (x.tmod 4).toNat) hq
      have hm' := pops_m (min Q.n (x.tmod 4).toNat) Q
      have hi := intsN none none true false (Q.l.take (x.tmod 4).toNat) (Q.l.take (x.tmod 4).toNat) (by rw [List.length_take]; omega)
      rw [decide_eq_true rfl] at hi
      generalize pops (min Q.n (x.tmod 4).toNat) Q = Q' at *
      generalize Q.l.take (x.tmod 4).toNat = W at *
      have hn4' := hq'.2.1
      refine VloopS.round ?_
      refine cond_t (decide_eq_true (by rw [acts_len]; omega)) ?_
      refine And.intro rfl (And.intro (Int.natCast_nonneg i) (Exists.intro _ (And.intro hget ?_)))
      refine And.intro rfl (And.intro (Int.natCast_nonneg i) (Exists.intro _ (And.intro hget ?_)))
      refine cond_t rfl ?_
      refine And.intro (by decide) ?_
      refine call_p hrp ?_
      refine And.intro (by decide) ?_
      refine call_b (np_cons (.int _ _) np_nil) (npo_qc Q) (npo_qc Q') (np_ints _) hp ?_
      refine call_p hi ?_
      refine cond_f rfl ?_
      refine call_b np_nil (npo_qc Q') (npo_qc Q') (.int _ _) (lenN Q') ?_
      (refine guard_t (by rw [ints_len, l_len]; exact bne_self_eq_false _) ?_; repeat (first | refine guard_t rfl ?_ | refine guard_f (by decide) ?_))
      refine call_b np_nil (npo_qc Q') (npo_qc Q') (.int _ _) (roomN Q' hq') ?_
      repeat (first | refine guard_t rfl ?_ | refine guard_f (by decide) ?_)
      (refine guard_t (by rw [ints_len, l_len, i64_in _ (by omega)]; exact bne_eq_false_iff_eq.2 (by omega)) ?_; repeat (first | refine guard_t rfl ?_ | refine guard_f (by decide) ?_))
      refine call_b (np_cons (.int _ _) np_nil) (npo_qc Q') (npo_qc Q') (.bool _) (hasN Q' x hq') ?_
      repeat (first | refine guard_t rfl ?_ | refine guard_f (by decide) ?_)
      refine call_d (rHasN _ _ Q'.l x (by rw [l_len]; omega)) ?_
      repeat (first | refine guard_t rfl ?_ | refine guard_f (by decide) ?_)
      (refine guard_t (by rw [beq_self_eq_true]; rfl) ?_; repeat (first | refine guard_t rfl ?_ | refine guard_f (by decide) ?_))
      refine call_b (np_cons (.int _ _) np_nil) (npo_qc Q') (npo_qc Q') (.bool _) (hasN Q' _ hq') ?_
      repeat (first | refine guard_t rfl ?_ | refine guard_f (by decide) ?_)
      refine call_d (rHasN _ _ Q'.l _ (by rw [l_len]; omega)) ?_
      repeat (first | refine guard_t rfl ?_ | refine guard_f (by decide) ?_)
      refine And.intro (by kernel_rfl) ?_
      refine cond_f (by rw [beq_self_eq_true]; rfl) ?_
      refine VloopS.weakBox (h := [.cells Q'.c, .cells (mq Q'.l Q'.m)]) (l := plAt nl l ((i + 1 : Nat) : Int)) rfl ⟨.refl _, .refl _, .refl _, .eq (int_eq ?_), trivial⟩ (by rw [show mq Q'.l Q'.m = mq Q'.l Q.m by rw [hm']]; rfl) (Nat.zero_le _) (pl_np nl l _) (pl_npo Q' Q'.l Q'.m) (fin Q' hq')
      rw [i64_in _ (by omega)]; omega
    | false =>
      have hp := pushN Q x hq
      have hrp := rPushN Q.l Q.m x (by omega)
      have e1 : (if Q.l.length < Q.m then Q.l ++ [x] else Q.l) = (Q.push x).l := by
        rw [hl4]
        split
        · rename_i h; exact (push_l hq h).symm
        · rename_i h; rw [push_full h]
      rw [e1, hl4] at hrp
      have hq' := push_ok (x := x) hq
      have hm' := push_m Q x
      generalize Q.push x = Q' at *
      have hn4' := hq'.2.1
      refine VloopS.round ?_
      refine cond_t (decide_eq_true (by rw [acts_len]; omega)) ?_
      refine And.intro rfl (And.intro (Int.natCast_nonneg i) (Exists.intro _ (And.intro hget ?_)))
      refine And.intro rfl (And.intro (Int.natCast_nonneg i) (Exists.intro _ (And.intro hget ?_)))
      refine cond_f rfl ?_
      refine call_p hrp ?_
      refine call_b (np_cons (.int _ _) np_nil) (npo_qc Q) (npo_qc Q') (.bool _) hp ?_
      refine cond_f (by rw [beq_self_eq_true]; rfl) ?_
      refine call_b np_nil (npo_qc Q') (npo_qc Q') (.int _ _) (lenN Q') ?_
      (refine guard_t (by rw [ints_len, l_len]; exact bne_self_eq_false _) ?_; repeat (first | refine guard_t rfl ?_ | refine guard_f (by decide) ?_))
      refine call_b np_nil (npo_qc Q') (npo_qc Q') (.int _ _) (roomN Q' hq') ?_
      repeat (first | refine guard_t rfl ?_ | refine guard_f (by decide) ?_)
      (refine guard_t (by rw [ints_len, l_len, i64_in _ (by omega)]; exact bne_eq_false_iff_eq.2 (by omega)) ?_; repeat (first | refine guard_t rfl ?_ | refine guard_f (by decide) ?_))
      refine call_b (np_cons (.int _ _) np_nil) (npo_qc Q') (npo_qc Q') (.bool _) (hasN Q' x hq') ?_
      repeat (first | refine guard_t rfl ?_ | refine guard_f (by decide) ?_)
      refine call_d (rHasN _ _ Q'.l x (by rw [l_len]; omega)) ?_
      repeat (first | refine guard_t rfl ?_ | refine guard_f (by decide) ?_)
      (refine guard_t (by rw [beq_self_eq_true]; rfl) ?_; repeat (first | refine guard_t rfl ?_ | refine guard_f (by decide) ?_))
      refine call_b (np_cons (.int _ _) np_nil) (npo_qc Q') (npo_qc Q') (.bool _) (hasN Q' _ hq') ?_
      repeat (first | refine guard_t rfl ?_ | refine guard_f (by decide) ?_)
      refine call_d (rHasN _ _ Q'.l _ (by rw [l_len]; omega)) ?_
      repeat (first | refine guard_t rfl ?_ | refine guard_f (by decide) ?_)
      refine And.intro (by kernel_rfl) ?_
      refine cond_f (by rw [beq_self_eq_true]; rfl) ?_
      refine VloopS.weakBox (h := [.cells Q'.c, .cells (mq Q'.l Q'.m)]) (l := plAt nl l ((i + 1 : Nat) : Int)) rfl ⟨.refl _, .refl _, .refl _, .eq (int_eq ?_), trivial⟩ (by rw [show mq Q'.l Q'.m = mq Q'.l Q.m by rw [hm']]; rfl) (Nat.zero_le _) (pl_np nl l _) (pl_npo Q' Q'.l Q'.m) (fin Q' hq')
      rw [i64_in _ (by omega)]; omega

theorem queuePlaysN (nl : Option Bool) (own : Bool) (n : Int) (l : List (Bool × Int)) (hw : ∀ a, a ∈ l → -9223372036854775808 ≤ a.2 ∧ a.2 ≤ 9223372036854775807) : PCallN Try.prog 5 [.int .i64 n, .sl 2 nl own (acts l)] (.bool true) := by
  refine PCallN.of (tr []) f5 (Nat.le_of_ble_eq_true rfl) (np_cons (.int _ _) (np_cons (np_acts _) np_nil)) (.bool _) ?_
  refine call_p twoN ?_
  repeat (first | refine guard_t rfl ?_ | refine guard_f (by decide) ?_)
  by_cases h : 100 < l.length
  · refine cond_t (decide_eq_true (by rw [acts_len]; omega)) ?_
    refine call_p twoN ?_
    exact bool_eq rfl
  · refine cond_f (decide_eq_false (by rw [acts_len]; omega)) ?_
    refine call_h (newN n) ?_
    refine call_p (rNewN n) ?_
    refine VloopS.weakE (l := plAt nl l 0) rfl ⟨.strip _, .refl _, .refl _, .refl _, trivial⟩ rfl (Nat.zero_le _) (VloopS.exW (playLoop nl l (by omega) hw _ ?_ l.length 0 (Qu.new n) (Nat.zero_add _) (new_ok n)))
    intro Q hq
    have hm4 := hq.2.2
    have hn4 := hq.2.1
    have hl4 := l_len Q
    have hp := popN Q 100 hq
    rw [List.take_of_length_le (by show Q.l.length ≤ 100; omega)] at hp
    have hi := intsN none none true false Q.l Q.l (by omega)
    rw [decide_eq_true rfl] at hi
    refine call_b (np_cons (.int _ _) np_nil) (npo_qc Q) (npo_qc _) (np_ints _) hp ?_
    refine call_d hi ?_
    refine And.intro (by kernel_rfl) ?_
    exact bool_eq rfl

end Go.Proofs.Ytolheiddjejlfaa.V

/- What a list of acts may be. -/
namespace Go.Proofs.Ytolheiddjejlfaa.V
section
variable {P : Program} {e t1 t2 : TypeId} {fs : Array Field}
theorem acts_of (ht : P.underlying e = some (.struct fs)) (hfs : fs.toList.map (·.type) = [t1, t2]) (h1 : P.underlying t1 = some .bool) (h2 : P.underlying t2 = some (.int .i64)) :
    ∀ xs : List (List AV), (∀ x, x ∈ xs → Shape P e x) → ∃ l : List (Bool × Int), xs = acts l ∧ ∀ a, a ∈ l → -9223372036854775808 ≤ a.2 ∧ a.2 ≤ 9223372036854775807
  | [], _ => ⟨[], rfl, by simp⟩
  | x :: xs, h => by
    obtain ⟨l, rfl, hw⟩ := acts_of ht hfs h1 h2 xs fun y hy => h y (by simp [hy])
    have hs := (h x (by simp)).inv_struct ht
    rw [hfs] at hs
    obtain ⟨a1, r1, rfl, k1, hs⟩ := hs.inv_cons
    obtain ⟨a2, r2, rfl, k2, hs⟩ := hs.inv_cons
    have hs := hs.inv_nil
    subst hs
    obtain ⟨b, rfl⟩ := k1.inv_bool h1
    obtain ⟨n, rfl, w2⟩ := k2.inv_int h2
    simp [Lit.wf, IntKind.min, IntKind.max, IntKind.signed, IntKind.bits] at w2
    refine ⟨(b, n) :: l, rfl, fun a ha => ?_⟩
    rcases List.mem_cons.1 ha with rfl | ha
    · exact w2
    · exact hw a ha
end
end Go.Proofs.Ytolheiddjejlfaa.V
