/-
  What the rows of this seat share: what is known of the program, and what words are.
-/
import Derived.Test.YtjlcnnijpmijhaaFb
import Derived.Test.YtjlcnnijpmijhaaRows

/- The code of functions, as the logic of values reads it. -/
namespace Go.Proofs.Ytjlcnnijpmijhaa.V

/-! 2: gosem.cut.init -/

def c2 : VC := .reg [⟨some 0, .mov (.cst .undef), some (.cst (.func 1 []), []), none, []⟩]

theorem f2 : fnC Try.prog 2 = some (1, c2, []) := by kernel_rfl

/-! 3: countinghouse/countinghouselaw01.ValueBack -/

def c3 : VC := .seq (.reg [⟨some 2, .box (.tmp 0), none, none, []⟩, ⟨some 4, .mov (.cst (.bool false)), none, none, []⟩]) (.seq (.seq (.reg [⟨some 10, .mov (.cst .undef), some (.cst (.func 9 []), []), none, []⟩, ⟨some 11, .un .not (.tmp 10), none, none, []⟩, ⟨some 12, .mov (.tmp 11), none, none, []⟩, ⟨some 13, .mov (.tmp 1), none, some (12, false), []⟩, ⟨some 14, .lenl (.tmp 13), none, some (12, false), []⟩, ⟨some 15, .bin .gtr (.tmp 14) (.cst (.int .i64 60)), none, some (12, false), []⟩, ⟨some 16, .pick (.tmp 12) (.cst (.bool true)) (.tmp 15), none, none, []⟩]) (.cond (.tmp 16) (.seq (.reg [⟨some 17, .mov (.cst .undef), some (.cst (.func 9 []), []), none, []⟩, ⟨some 4, .mov (.tmp 17), none, none, []⟩]) .ret) .skip)) (.seq (.reg [⟨some 18, .load (some 3) (.tmp 2), none, none, []⟩, ⟨some 19, .mov (.cst .undef), some (.cst (.func 10 []), [.tmp 18]), none, []⟩, ⟨some 5, .alloc (.agg [.int .u8 0, .int .i64 0, .str ⟨#[]⟩]), none, none, []⟩, ⟨none, .store 3 (.tmp 5) (.tmp 19), none, none, []⟩]) (.seq (.reg [⟨some 20, .load (some 3) (.tmp 5), none, none, []⟩, ⟨some 21, .mov (.cst .undef), some (.cst (.func 11 []), [.tmp 20]), none, []⟩, ⟨some 6, .mov (.tmp 21), none, none, []⟩]) (.seq (.reg [⟨some 23, .mov (.tmp 6), none, none, []⟩, ⟨some 24, .mov (.tmp 1), none, none, []⟩, ⟨some 25, .mov (.cst .undef), some (.cst (.func 13 []), [.tmp 23, .tmp 24]), none, []⟩, ⟨some 26, .mov (.cst .undef), some (.cst (.func 12 []), [.tmp 25]), none, []⟩, ⟨some 22, .mov (.tmp 26), none, none, []⟩, ⟨some 27, .ext (.tmp 22) 0, none, none, []⟩, ⟨some 28, .ext (.tmp 22) 1, none, none, []⟩, ⟨some 29, .ext (.tmp 22) 2, none, none, []⟩, ⟨some 7, .alloc (.agg [.int .u8 0, .int .i64 0, .str ⟨#[]⟩]), none, none, []⟩, ⟨none, .store 3 (.tmp 7) (.tmp 27), none, none, []⟩, ⟨some 8, .mov (.tmp 28), none, none, []⟩, ⟨some 9, .mov (.tmp 29), none, none, []⟩]) (.seq (.reg [⟨some 30, .load (some 3) (.tmp 5), none, none, []⟩, ⟨some 31, .mov (.cst .undef), some (.cst (.func 14 []), [.tmp 30]), none, []⟩, ⟨some 32, .mov (.tmp 31), none, none, []⟩, ⟨some 33, .mov (.tmp 6), none, some (32, true), []⟩, ⟨some 34, .load (some 3) (.tmp 5), none, some (32, true), []⟩, ⟨some 35, .mov (.cst .undef), some (.cst (.func 16 []), [.tmp 34]), some (32, true), []⟩, ⟨some 36, .mov (.cst .undef), some (.cst (.func 15 []), [.tmp 33, .tmp 35]), some (32, true), []⟩, ⟨some 37, .pick (.tmp 32) (.tmp 36) (.cst (.bool false)), none, none, []⟩, ⟨some 38, .mov (.tmp 37), none, none, []⟩, ⟨some 39, .mov (.tmp 9), none, some (38, true), []⟩, ⟨some 40, .bin .eql (.tmp 39) (.cst (.int .i64 0)), none, some (38, true), []⟩, ⟨some 41, .pick (.tmp 38) (.tmp 40) (.cst (.bool false)), none, none, []⟩, ⟨some 42, .mov (.tmp 41), none, none, []⟩, ⟨some 43, .load (some 3) (.tmp 7), none, some (42, true), []⟩, ⟨some 44, .load (some 3) (.tmp 5), none, some (42, true), []⟩, ⟨some 45, .eqv false [.int .u8, .int .i64, .str] (.tmp 43) (.tmp 44), none, some (42, true), []⟩, ⟨some 46, .pick (.tmp 42) (.tmp 45) (.cst (.bool false)), none, none, []⟩, ⟨some 47, .mov (.tmp 46), none, none, []⟩, ⟨some 48, .mov (.tmp 8), none, some (47, true), []⟩, ⟨some 49, .mov (.tmp 1), none, some (47, true), []⟩, ⟨some 50, .mov (.cst .undef), some (.cst (.func 15 []), [.tmp 48, .tmp 49]), some (47, true), []⟩, ⟨some 51, .pick (.tmp 47) (.tmp 50) (.cst (.bool false)), none, none, []⟩, ⟨some 4, .mov (.tmp 51), none, none, []⟩]) .ret)))))

theorem f3 : fnC Try.prog 3 = some (52, c3, [.tmp 4]) := by kernel_rfl

/-! 4: countinghouse/countinghouselaw01.ValueReads -/

def c4 : VC := .seq (.reg [⟨some 2, .mov (.cst (.bool false)), none, none, []⟩]) (.seq (.seq (.reg [⟨some 9, .mov (.tmp 0), none, none, []⟩, ⟨some 10, .lenl (.tmp 9), none, none, []⟩, ⟨some 11, .bin .gtr (.tmp 10) (.cst (.int .i64 300)), none, none, []⟩]) (.cond (.tmp 11) (.seq (.reg [⟨some 12, .mov (.cst .undef), some (.cst (.func 9 []), []), none, []⟩, ⟨some 2, .mov (.tmp 12), none, none, []⟩]) .ret) .skip)) (.seq (.reg [⟨some 14, .mov (.tmp 0), none, none, []⟩, ⟨some 15, .mov (.cst .undef), some (.cst (.func 12 []), [.tmp 14]), none, []⟩, ⟨some 13, .mov (.tmp 15), none, none, []⟩, ⟨some 16, .ext (.tmp 13) 0, none, none, []⟩, ⟨some 17, .ext (.tmp 13) 1, none, none, []⟩, ⟨some 18, .ext (.tmp 13) 2, none, none, []⟩, ⟨some 3, .alloc (.agg [.int .u8 0, .int .i64 0, .str ⟨#[]⟩]), none, none, []⟩, ⟨none, .store 3 (.tmp 3) (.tmp 16), none, none, []⟩, ⟨some 4, .mov (.tmp 17), none, none, []⟩, ⟨some 5, .mov (.tmp 18), none, none, []⟩]) (.seq (.reg [⟨some 20, .mov (.tmp 0), none, none, []⟩, ⟨some 21, .mov (.cst .undef), some (.cst (.func 17 []), [.tmp 20]), none, []⟩, ⟨some 19, .mov (.tmp 21), none, none, []⟩, ⟨some 22, .ext (.tmp 19) 0, none, none, []⟩, ⟨some 23, .ext (.tmp 19) 1, none, none, []⟩, ⟨some 24, .ext (.tmp 19) 2, none, none, []⟩, ⟨some 6, .alloc (.agg [.int .u8 0, .int .i64 0, .str ⟨#[]⟩]), none, none, []⟩, ⟨none, .store 3 (.tmp 6) (.tmp 22), none, none, []⟩, ⟨some 7, .mov (.tmp 23), none, none, []⟩, ⟨some 8, .mov (.tmp 24), none, none, []⟩]) (.seq (.dreg [⟨some 25, .mov (.cst .undef), some (.cst (.func 9 []), []), none, []⟩, ⟨some 26, .mov (.tmp 25), none, none, [0, 0]⟩, ⟨some 27, .mov (.tmp 5), none, some (26, true), [1]⟩, ⟨some 28, .mov (.tmp 8), none, some (26, true), [1]⟩, ⟨some 29, .bin .eql (.tmp 27) (.tmp 28), none, some (26, true), [2, 3, 1]⟩, ⟨some 30, .pick (.tmp 26) (.tmp 29) (.cst (.bool false)), none, none, [1, 4]⟩, ⟨some 31, .mov (.tmp 30), none, none, [5, 1]⟩, ⟨some 32, .load (some 3) (.tmp 3), none, some (31, true), [6]⟩, ⟨some 33, .load (some 3) (.tmp 6), none, some (31, true), [6]⟩, ⟨some 34, .eqv false [.int .u8, .int .i64, .str] (.tmp 32) (.tmp 33), none, some (31, true), [7, 8, 6]⟩, ⟨some 35, .pick (.tmp 31) (.tmp 34) (.cst (.bool false)), none, none, [6, 9]⟩, ⟨some 36, .mov (.tmp 35), none, none, [10, 6]⟩, ⟨some 37, .mov (.tmp 5), none, some (36, true), [11]⟩, ⟨some 38, .bin .neq (.tmp 37) (.cst (.int .i64 0)), none, some (36, true), [12, 11]⟩, ⟨some 39, .mov (.tmp 38), none, some (36, true), [13, 11, 11]⟩, ⟨some 40, .mov (.tmp 4), none, some (39, true), [14]⟩, ⟨some 41, .lenl (.tmp 40), none, some (39, true), [15, 14]⟩, ⟨some 42, .bin .eql (.tmp 41) (.cst (.int .i64 0)), none, some (39, true), [16, 14]⟩, ⟨some 43, .pick (.tmp 39) (.tmp 42) (.cst (.bool false)), none, some (36, true), [14, 17, 11]⟩, ⟨some 44, .mov (.tmp 43), none, some (36, true), [18, 14, 11]⟩, ⟨some 45, .mov (.tmp 5), none, some (44, false), [19]⟩, ⟨some 46, .bin .eql (.tmp 45) (.cst (.int .i64 0)), none, some (44, false), [20, 19]⟩, ⟨some 47, .mov (.tmp 46), none, some (44, false), [21, 19, 19]⟩, ⟨some 48, .mov (.tmp 4), none, some (47, true), [22]⟩, ⟨some 49, .mov (.tmp 0), none, some (47, true), [22]⟩, ⟨some 50, .mov (.tmp 7), none, some (47, true), [22]⟩, ⟨some 51, .slsl 1 (.tmp 49) (some (.tmp 50)) none, none, some (47, true), [24, 25, 22]⟩, ⟨some 52, .mov (.cst .undef), some (.cst (.func 15 []), [.tmp 48, .tmp 51]), some (47, true), [23, 26, 22, 22]⟩, ⟨some 53, .pick (.tmp 47) (.tmp 52) (.cst (.bool false)), none, some (44, false), [22, 27, 19]⟩, ⟨some 54, .mov (.tmp 53), none, some (44, false), [28, 27, 19]⟩, ⟨some 55, .load (some 3) (.tmp 3), none, some (54, true), [29]⟩, ⟨some 56, .mov (.cst .undef), some (.cst (.func 14 []), [.tmp 55]), some (54, true), [30, 29, 29]⟩, ⟨some 57, .pick (.tmp 54) (.tmp 56) (.cst (.bool false)), none, some (44, false), [29, 31, 19]⟩, ⟨some 58, .mov (.tmp 57), none, some (44, false), [32, 31, 19]⟩, ⟨some 59, .load (some 3) (.tmp 3), none, some (58, true), [33]⟩, ⟨some 60, .mov (.cst .undef), some (.cst (.func 11 []), [.tmp 59]), some (58, true), [34, 33, 33]⟩, ⟨some 61, .mov (.tmp 0), none, some (58, true), [33]⟩, ⟨some 62, .mov (.tmp 7), none, some (58, true), [33]⟩, ⟨some 63, .slsl 1 (.tmp 61) none (some (.tmp 62)), none, some (58, true), [36, 37, 33]⟩, ⟨some 64, .mov (.cst .undef), some (.cst (.func 15 []), [.tmp 60, .tmp 63]), some (58, true), [35, 38, 35, 33]⟩, ⟨some 65, .pick (.tmp 58) (.tmp 64) (.cst (.bool false)), none, some (44, false), [33, 39, 19]⟩, ⟨some 66, .pick (.tmp 44) (.cst (.bool true)) (.tmp 65), none, some (36, true), [19, 40, 11]⟩, ⟨some 67, .pick (.tmp 36) (.tmp 66) (.cst (.bool false)), none, none, [11, 41]⟩, ⟨some 2, .mov (.tmp 67), none, none, [42, 39, 0, 1, 2, 3, 4, 5, 6, 7, 8, 9, 10, 11, 12, 13, 14, 15, 16, 17, 18, 19, 20, 21, 22, 23, 24, 25, 26, 27, 28, 29, 30, 31, 32, 33, 34, 35, 36, 37, 38, 39, 40, 41, 42]⟩]) .ret))))

theorem f4 : fnC Try.prog 4 = some (68, c4, [.tmp 2]) := by kernel_rfl

/-! 5: countinghouse/countinghouselaw01.ValueCut -/

def c5 : VC := .seq (.reg [⟨some 3, .box (.tmp 0), none, none, []⟩, ⟨some 4, .box (.tmp 1), none, none, []⟩, ⟨some 6, .mov (.cst (.bool false)), none, none, []⟩]) (.seq (.dreg [⟨some 15, .load (some 3) (.tmp 3), none, none, []⟩, ⟨some 16, .mov (.cst .undef), some (.cst (.func 10 []), [.tmp 15]), none, [0]⟩, ⟨some 17, .load (some 3) (.tmp 4), none, none, []⟩, ⟨some 18, .mov (.cst .undef), some (.cst (.func 10 []), [.tmp 17]), none, [2, 1]⟩, ⟨some 7, .alloc (.agg [.int .u8 0, .int .i64 0, .str ⟨#[]⟩]), none, none, []⟩, ⟨some 8, .alloc (.agg [.int .u8 0, .int .i64 0, .str ⟨#[]⟩]), none, none, []⟩, ⟨none, .store 3 (.tmp 7) (.tmp 16), none, none, [4, 1, 3, 0, 1, 4, 5]⟩, ⟨none, .store 3 (.tmp 8) (.tmp 18), none, none, [5, 3, 6, 0, 1, 2, 3, 4, 5, 6]⟩]) (.seq (.dreg [⟨some 19, .load (some 3) (.tmp 7), none, none, []⟩, ⟨some 20, .mov (.cst .undef), some (.cst (.func 11 []), [.tmp 19]), none, [0]⟩, ⟨some 21, .load (some 3) (.tmp 8), none, none, []⟩, ⟨some 22, .mov (.cst .undef), some (.cst (.func 11 []), [.tmp 21]), none, [2, 1]⟩, ⟨some 9, .mov (.tmp 20), none, none, [1, 3, 0, 1]⟩, ⟨some 10, .mov (.tmp 22), none, none, [3, 4, 0, 1, 2, 3, 4]⟩]) (.seq (.seq (.reg [⟨some 23, .mov (.cst .undef), some (.cst (.func 9 []), []), none, []⟩, ⟨some 24, .un .not (.tmp 23), none, none, []⟩, ⟨some 25, .mov (.tmp 24), none, none, []⟩, ⟨some 26, .mov (.tmp 9), none, some (25, false), []⟩, ⟨some 27, .lenl (.tmp 26), none, some (25, false), []⟩, ⟨some 28, .bin .eql (.tmp 27) (.cst (.int .i64 0)), none, some (25, false), []⟩, ⟨some 29, .pick (.tmp 25) (.cst (.bool true)) (.tmp 28), none, none, []⟩]) (.cond (.tmp 29) (.seq (.reg [⟨some 6, .mov (.cst (.bool false)), none, none, []⟩]) .ret) .skip)) (.seq (.reg [⟨some 31, .mov (.tmp 9), none, none, []⟩, ⟨some 32, .mov (.tmp 2), none, none, []⟩, ⟨some 33, .cvi .i64 (.tmp 32), none, none, []⟩, ⟨some 34, .mov (.tmp 9), none, none, []⟩, ⟨some 35, .lenl (.tmp 34), none, none, []⟩, ⟨some 36, .bin .rem (.tmp 33) (.tmp 35), none, none, []⟩, ⟨some 37, .slsl 1 (.tmp 31) none (some (.tmp 36)), none, none, []⟩, ⟨some 38, .mov (.cst .undef), some (.cst (.func 12 []), [.tmp 37]), none, []⟩, ⟨some 30, .mov (.tmp 38), none, none, []⟩, ⟨some 39, .ext (.tmp 30) 0, none, none, []⟩, ⟨some 40, .ext (.tmp 30) 1, none, none, []⟩, ⟨some 41, .ext (.tmp 30) 2, none, none, []⟩, ⟨some 11, .alloc (.agg [.int .u8 0, .int .i64 0, .str ⟨#[]⟩]), none, none, []⟩, ⟨none, .store 3 (.tmp 11) (.tmp 39), none, none, []⟩, ⟨some 12, .mov (.tmp 40), none, none, []⟩, ⟨some 13, .mov (.tmp 41), none, none, []⟩]) (.seq (.reg [⟨some 42, .mov (.tmp 9), none, none, []⟩, ⟨some 43, .lenl (.tmp 42), none, none, []⟩, ⟨some 44, .mov (.tmp 10), none, none, []⟩, ⟨some 45, .lenl (.tmp 44), none, none, []⟩, ⟨some 46, .bin .leq (.tmp 43) (.tmp 45), none, none, []⟩, ⟨some 47, .mov (.tmp 46), none, none, []⟩, ⟨some 48, .mov (.tmp 10), none, some (47, true), []⟩, ⟨some 49, .mov (.tmp 9), none, some (47, true), []⟩, ⟨some 50, .lenl (.tmp 49), none, some (47, true), []⟩, ⟨some 51, .slsl 1 (.tmp 48) none (some (.tmp 50)), none, some (47, true), []⟩, ⟨some 52, .mov (.tmp 9), none, some (47, true), []⟩, ⟨some 53, .mov (.cst .undef), some (.cst (.func 15 []), [.tmp 51, .tmp 52]), some (47, true), []⟩, ⟨some 54, .pick (.tmp 47) (.tmp 53) (.cst (.bool false)), none, none, []⟩, ⟨some 14, .mov (.tmp 54), none, none, []⟩]) (.seq (.reg [⟨some 55, .mov (.tmp 13), none, none, []⟩, ⟨some 56, .bin .eql (.tmp 55) (.cst (.int .i64 3)), none, none, []⟩, ⟨some 57, .mov (.tmp 56), none, none, []⟩, ⟨some 58, .mov (.tmp 12), none, some (57, true), []⟩, ⟨some 59, .lenl (.tmp 58), none, some (57, true), []⟩, ⟨some 60, .bin .eql (.tmp 59) (.cst (.int .i64 0)), none, some (57, true), []⟩, ⟨some 61, .pick (.tmp 57) (.tmp 60) (.cst (.bool false)), none, none, []⟩, ⟨some 62, .mov (.tmp 61), none, none, []⟩, ⟨some 63, .mov (.tmp 14), none, some (62, true), []⟩, ⟨some 64, .load (some 3) (.tmp 7), none, some (62, true), []⟩, ⟨some 65, .load (some 3) (.tmp 8), none, some (62, true), []⟩, ⟨some 66, .eqv false [.int .u8, .int .i64, .str] (.tmp 64) (.tmp 65), none, some (62, true), []⟩, ⟨some 67, .eqb false (.tmp 63) (.tmp 66), none, some (62, true), []⟩, ⟨some 68, .pick (.tmp 62) (.tmp 67) (.cst (.bool false)), none, none, []⟩, ⟨some 6, .mov (.tmp 68), none, none, []⟩]) .ret))))))

theorem f5 : fnC Try.prog 5 = some (69, c5, [.tmp 6]) := by kernel_rfl

/-! 6: countinghouse/countinghouselaw01.ValueMany -/

def c6b0 : VC := .seq (.seq (.reg [⟨some 31, .mov (.tmp 5), none, none, []⟩, ⟨some 32, .mov (.tmp 0), none, none, []⟩, ⟨some 33, .lenl (.tmp 32), none, none, []⟩, ⟨some 34, .bin .lss (.tmp 31) (.tmp 33), none, none, []⟩]) (.cond (.tmp 34) .skip (.exit 2))) (.seq (.block 3 (.seq (.reg [⟨some 38, .mov (.tmp 3), none, none, []⟩, ⟨some 39, .mov (.cst .undef), some (.cst (.func 12 []), [.tmp 38]), none, []⟩, ⟨some 37, .mov (.tmp 39), none, none, []⟩, ⟨some 40, .ext (.tmp 37) 0, none, none, []⟩, ⟨some 41, .ext (.tmp 37) 1, none, none, []⟩, ⟨some 42, .ext (.tmp 37) 2, none, none, []⟩, ⟨some 6, .alloc (.agg [.int .u8 0, .int .i64 0, .str ⟨#[]⟩]), none, none, []⟩, ⟨none, .store 3 (.tmp 6) (.tmp 40), none, none, []⟩, ⟨some 7, .mov (.tmp 41), none, none, []⟩, ⟨some 8, .mov (.tmp 42), none, none, []⟩]) (.seq (.seq (.dreg [⟨some 43, .mov (.tmp 8), none, none, []⟩, ⟨some 44, .bin .neq (.tmp 43) (.cst (.int .i64 0)), none, none, [0]⟩, ⟨some 45, .mov (.tmp 44), none, none, [1]⟩, ⟨some 46, .load (some 3) (.tmp 6), none, some (45, false), [2]⟩, ⟨some 47, .mov (.tmp 0), none, some (45, false), [2]⟩, ⟨some 48, .mov (.tmp 5), none, some (45, false), [2]⟩, ⟨some 49, .ixa 3 (.tmp 47) (.tmp 48), none, some (45, false), [4, 5, 2]⟩, ⟨some 50, .load (some 3) (.tmp 49), none, some (45, false), [6, 2]⟩, ⟨some 51, .mov (.cst .undef), some (.cst (.func 10 []), [.tmp 50]), some (45, false), [7, 2, 2]⟩, ⟨some 52, .eqv true [.int .u8, .int .i64, .str] (.tmp 46) (.tmp 51), none, some (45, false), [3, 8, 2]⟩, ⟨some 53, .pick (.tmp 45) (.cst (.bool true)) (.tmp 52), none, none, [2, 9]⟩, ⟨some 54, .mov (.tmp 53), none, none, [10, 8]⟩, ⟨some 55, .mov (.tmp 7), none, some (54, false), [11]⟩, ⟨some 56, .lenl (.tmp 55), none, some (54, false), [12, 11]⟩, ⟨some 57, .mov (.tmp 3), none, some (54, false), [11]⟩, ⟨some 58, .lenl (.tmp 57), none, some (54, false), [14, 11]⟩, ⟨some 59, .bin .geq (.tmp 56) (.tmp 58), none, some (54, false), [13, 15, 11]⟩, ⟨some 60, .pick (.tmp 54) (.cst (.bool true)) (.tmp 59), none, none, [11, 16]⟩]) (.cond (.tmp 60) (.seq (.reg [⟨some 2, .mov (.cst (.bool false)), none, none, []⟩]) .ret) .skip)) (.reg [⟨some 61, .mov (.tmp 7), none, none, []⟩, ⟨some 3, .mov (.tmp 61), none, none, []⟩])))) (.reg [⟨some 35, .mov (.tmp 5), none, none, []⟩, ⟨some 36, .bin .add (.tmp 35) (.cst (.int .i64 1)), none, none, []⟩, ⟨some 5, .mov (.tmp 36), none, none, []⟩]))

def c6b1 : VC := .seq (.seq (.reg [⟨some 17, .mov (.tmp 4), none, none, []⟩, ⟨some 18, .mov (.tmp 0), none, none, []⟩, ⟨some 19, .lenl (.tmp 18), none, none, []⟩, ⟨some 20, .bin .lss (.tmp 17) (.tmp 19), none, none, []⟩]) (.cond (.tmp 20) .skip (.exit 0))) (.seq (.block 1 (.reg [⟨some 23, .mov (.tmp 3), none, none, []⟩, ⟨some 24, .mov (.tmp 0), none, none, []⟩, ⟨some 25, .mov (.tmp 4), none, none, []⟩, ⟨some 26, .ixa 3 (.tmp 24) (.tmp 25), none, none, []⟩, ⟨some 27, .load (some 3) (.tmp 26), none, none, []⟩, ⟨some 28, .mov (.cst .undef), some (.cst (.func 10 []), [.tmp 27]), none, []⟩, ⟨some 29, .mov (.cst .undef), some (.cst (.func 11 []), [.tmp 28]), none, []⟩, ⟨some 30, .mov (.cst .undef), some (.cst (.func 13 []), [.tmp 23, .tmp 29]), none, []⟩, ⟨some 3, .mov (.tmp 30), none, none, []⟩])) (.reg [⟨some 21, .mov (.tmp 4), none, none, []⟩, ⟨some 22, .bin .add (.tmp 21) (.cst (.int .i64 1)), none, none, []⟩, ⟨some 4, .mov (.tmp 22), none, none, []⟩]))

def c6 : VC := .seq (.reg [⟨some 2, .mov (.cst (.bool false)), none, none, []⟩]) (.seq (.seq (.reg [⟨some 9, .mov (.cst .undef), some (.cst (.func 9 []), []), none, []⟩, ⟨some 10, .un .not (.tmp 9), none, none, []⟩, ⟨some 11, .mov (.tmp 10), none, none, []⟩, ⟨some 12, .mov (.tmp 0), none, some (11, false), []⟩, ⟨some 13, .lenl (.tmp 12), none, some (11, false), []⟩, ⟨some 14, .bin .gtr (.tmp 13) (.cst (.int .i64 20)), none, some (11, false), []⟩, ⟨some 15, .pick (.tmp 11) (.cst (.bool true)) (.tmp 14), none, none, []⟩]) (.cond (.tmp 15) (.seq (.reg [⟨some 16, .mov (.cst .undef), some (.cst (.func 9 []), []), none, []⟩, ⟨some 2, .mov (.tmp 16), none, none, []⟩]) .ret) .skip)) (.seq (.reg [⟨some 3, .mov (.cst (.sl 0 (some true) true [])), none, none, []⟩]) (.seq (.seq (.reg [⟨some 4, .mov (.cst (.int .i64 0)), none, none, []⟩]) (.block 0 (.loop c6b1))) (.seq (.seq (.reg [⟨some 5, .mov (.cst (.int .i64 0)), none, none, []⟩]) (.block 2 (.loop c6b0))) (.seq (.reg [⟨some 62, .mov (.tmp 3), none, none, []⟩, ⟨some 63, .lenl (.tmp 62), none, none, []⟩, ⟨some 64, .bin .eql (.tmp 63) (.cst (.int .i64 0)), none, none, []⟩, ⟨some 2, .mov (.tmp 64), none, none, []⟩]) .ret)))))

theorem f6 : fnC Try.prog 6 = some (65, c6, [.tmp 2]) := by kernel_rfl

/-! 7: countinghouse/countinghouselaw01.ValueRight -/

def c7 : VC := .seq (.reg [⟨some 8, .mov (.cst (.bool false)), none, none, []⟩]) (.seq (.reg [⟨some 11, .mov (.tmp 0), none, none, []⟩, ⟨some 12, .mov (.tmp 1), none, none, []⟩, ⟨some 13, .mov (.tmp 2), none, none, []⟩, ⟨some 14, .build [.int .u8 0, .int .i64 0, .str ⟨#[]⟩] [(0, (1, .tmp 11)), (1, (1, .tmp 12)), (2, (1, .tmp 13))], none, none, []⟩, ⟨some 9, .alloc (.agg [.int .u8 0, .int .i64 0, .str ⟨#[]⟩]), none, none, []⟩, ⟨none, .store 3 (.tmp 9) (.tmp 14), none, none, []⟩]) (.seq (.reg [⟨some 15, .mov (.tmp 3), none, none, []⟩, ⟨some 16, .bin .rem (.tmp 15) (.cst (.int .u16 260)), none, none, []⟩, ⟨some 17, .cvi .i64 (.tmp 16), none, none, []⟩, ⟨some 18, .mk 1 1 [.int .u8 0] (.tmp 17), none, none, []⟩, ⟨some 19, .cvbs (.tmp 18), none, none, []⟩, ⟨some 20, .build [.int .u8 0, .int .i64 0, .str ⟨#[]⟩] [(0, (1, .cst (.int .u8 2))), (2, (1, .tmp 19))], none, none, []⟩, ⟨some 10, .alloc (.agg [.int .u8 0, .int .i64 0, .str ⟨#[]⟩]), none, none, []⟩, ⟨none, .store 3 (.tmp 10) (.tmp 20), none, none, []⟩]) (.seq (.dreg [⟨some 21, .mov (.cst .undef), some (.cst (.func 9 []), []), none, []⟩, ⟨some 22, .mov (.tmp 21), none, none, [0, 0]⟩, ⟨some 23, .load (some 3) (.tmp 9), none, some (22, true), [1]⟩, ⟨some 24, .mov (.cst .undef), some (.cst (.func 14 []), [.tmp 23]), some (22, true), [2, 1, 1]⟩, ⟨some 25, .load (some 3) (.tmp 9), none, some (22, true), [1]⟩, ⟨some 26, .mov (.cst .undef), some (.cst (.func 18 []), [.tmp 25]), some (22, true), [4, 3, 1]⟩, ⟨some 27, .eqb false (.tmp 24) (.tmp 26), none, some (22, true), [3, 5, 1]⟩, ⟨some 28, .pick (.tmp 22) (.tmp 27) (.cst (.bool false)), none, none, [1, 6]⟩, ⟨some 29, .mov (.tmp 28), none, none, [7, 5]⟩, ⟨some 30, .load (some 3) (.tmp 10), none, some (29, true), [8]⟩, ⟨some 31, .mov (.cst .undef), some (.cst (.func 14 []), [.tmp 30]), some (29, true), [9, 8, 8]⟩, ⟨some 32, .mov (.tmp 3), none, some (29, true), [8]⟩, ⟨some 33, .bin .rem (.tmp 32) (.cst (.int .u16 260)), none, some (29, true), [11, 8]⟩, ⟨some 34, .bin .leq (.tmp 33) (.cst (.int .u16 200)), none, some (29, true), [12, 8]⟩, ⟨some 35, .eqb false (.tmp 31) (.tmp 34), none, some (29, true), [10, 13, 8]⟩, ⟨some 36, .pick (.tmp 29) (.tmp 35) (.cst (.bool false)), none, none, [8, 14]⟩, ⟨some 37, .mov (.tmp 36), none, none, [15, 10]⟩, ⟨some 38, .load (some 3) (.tmp 9), none, some (37, true), [16]⟩, ⟨some 39, .load (some 3) (.tmp 9), none, some (37, true), [16]⟩, ⟨some 40, .mov (.cst .undef), some (.cst (.func 19 []), [.tmp 38, .tmp 39]), some (37, true), [17, 18, 16, 16]⟩, ⟨some 41, .pick (.tmp 37) (.tmp 40) (.cst (.bool false)), none, none, [16, 19]⟩, ⟨some 42, .mov (.tmp 41), none, none, [20, 19]⟩, ⟨some 43, .load (some 3) (.tmp 9), none, some (42, true), [21]⟩, ⟨some 44, .load (some 3) (.tmp 10), none, some (42, true), [21]⟩, ⟨some 45, .mov (.cst .undef), some (.cst (.func 19 []), [.tmp 43, .tmp 44]), some (42, true), [22, 23, 21, 21]⟩, ⟨some 46, .load (some 3) (.tmp 9), none, some (42, true), [21]⟩, ⟨some 47, .load (some 3) (.tmp 10), none, some (42, true), [21]⟩, ⟨some 48, .eqv false [.int .u8, .int .i64, .str] (.tmp 46) (.tmp 47), none, some (42, true), [25, 26, 21]⟩, ⟨some 49, .eqb false (.tmp 45) (.tmp 48), none, some (42, true), [24, 27, 21]⟩, ⟨some 50, .pick (.tmp 42) (.tmp 49) (.cst (.bool false)), none, none, [21, 28]⟩, ⟨some 8, .mov (.tmp 50), none, none, [29, 24, 0, 1, 2, 3, 4, 5, 6, 7, 8, 9, 10, 11, 12, 13, 14, 15, 16, 17, 18, 19, 20, 21, 22, 23, 24, 25, 26, 27, 28, 29]⟩]) .ret)))

theorem f7 : fnC Try.prog 7 = some (51, c7, [.tmp 8]) := by kernel_rfl

/-! 8: countinghouse/countinghouselaw01.ValueOrder -/

def c8 : VC := .seq (.reg [⟨some 3, .box (.tmp 0), none, none, []⟩, ⟨some 4, .box (.tmp 1), none, none, []⟩, ⟨some 5, .box (.tmp 2), none, none, []⟩, ⟨some 6, .mov (.cst (.bool false)), none, none, []⟩]) (.seq (.dreg [⟨some 10, .load (some 3) (.tmp 3), none, none, []⟩, ⟨some 11, .mov (.cst .undef), some (.cst (.func 10 []), [.tmp 10]), none, [0]⟩, ⟨some 12, .load (some 3) (.tmp 4), none, none, []⟩, ⟨some 13, .mov (.cst .undef), some (.cst (.func 10 []), [.tmp 12]), none, [2, 1]⟩, ⟨some 14, .load (some 3) (.tmp 5), none, none, []⟩, ⟨some 15, .mov (.cst .undef), some (.cst (.func 10 []), [.tmp 14]), none, [4, 3]⟩, ⟨some 7, .alloc (.agg [.int .u8 0, .int .i64 0, .str ⟨#[]⟩]), none, none, []⟩, ⟨some 8, .alloc (.agg [.int .u8 0, .int .i64 0, .str ⟨#[]⟩]), none, none, []⟩, ⟨some 9, .alloc (.agg [.int .u8 0, .int .i64 0, .str ⟨#[]⟩]), none, none, []⟩, ⟨none, .store 3 (.tmp 7) (.tmp 11), none, none, [6, 1, 5, 0, 1, 6, 7, 8]⟩, ⟨none, .store 3 (.tmp 8) (.tmp 13), none, none, [7, 3, 9, 0, 1, 2, 3, 6, 7, 8, 9]⟩, ⟨none, .store 3 (.tmp 9) (.tmp 15), none, none, [8, 5, 10, 0, 1, 2, 3, 4, 5, 6, 7, 8, 9, 10]⟩]) (.seq (.seq (.dreg [⟨some 16, .mov (.cst .undef), some (.cst (.func 9 []), []), none, []⟩, ⟨some 17, .un .not (.tmp 16), none, none, [0]⟩, ⟨some 18, .mov (.tmp 17), none, none, [1, 0]⟩, ⟨some 19, .load (some 3) (.tmp 7), none, some (18, false), [2]⟩, ⟨some 20, .load (some 3) (.tmp 8), none, some (18, false), [2]⟩, ⟨some 21, .mov (.cst .undef), some (.cst (.func 20 []), [.tmp 19, .tmp 20]), some (18, false), [3, 4, 2, 2]⟩, ⟨some 22, .load (some 3) (.tmp 7), none, some (18, false), [2]⟩, ⟨some 23, .load (some 3) (.tmp 8), none, some (18, false), [2]⟩, ⟨some 24, .mov (.cst .undef), some (.cst (.func 21 []), [.tmp 22, .tmp 23]), some (18, false), [6, 7, 5, 2]⟩, ⟨some 25, .bin .neq (.tmp 21) (.tmp 24), none, some (18, false), [5, 8, 2]⟩, ⟨some 26, .pick (.tmp 18) (.cst (.bool true)) (.tmp 25), none, none, [2, 9]⟩, ⟨some 27, .mov (.tmp 26), none, none, [10, 8]⟩, ⟨some 28, .load (some 3) (.tmp 7), none, some (27, false), [11]⟩, ⟨some 29, .load (some 3) (.tmp 8), none, some (27, false), [11]⟩, ⟨some 30, .mov (.cst .undef), some (.cst (.func 20 []), [.tmp 28, .tmp 29]), some (27, false), [12, 13, 11, 11]⟩, ⟨some 31, .load (some 3) (.tmp 8), none, some (27, false), [11]⟩, ⟨some 32, .load (some 3) (.tmp 7), none, some (27, false), [11]⟩, ⟨some 33, .mov (.cst .undef), some (.cst (.func 20 []), [.tmp 31, .tmp 32]), some (27, false), [15, 16, 14, 11]⟩, ⟨some 34, .un .neg (.tmp 33), none, some (27, false), [17, 11]⟩, ⟨some 35, .bin .neq (.tmp 30) (.tmp 34), none, some (27, false), [14, 18, 11]⟩, ⟨some 36, .pick (.tmp 27) (.cst (.bool true)) (.tmp 35), none, none, [11, 19]⟩, ⟨some 37, .mov (.tmp 36), none, none, [20, 17]⟩, ⟨some 38, .load (some 3) (.tmp 7), none, some (37, false), [21]⟩, ⟨some 39, .load (some 3) (.tmp 7), none, some (37, false), [21]⟩, ⟨some 40, .mov (.cst .undef), some (.cst (.func 20 []), [.tmp 38, .tmp 39]), some (37, false), [22, 23, 21, 21]⟩, ⟨some 41, .bin .neq (.tmp 40) (.cst (.int .i64 0)), none, some (37, false), [24, 21]⟩, ⟨some 42, .pick (.tmp 37) (.cst (.bool true)) (.tmp 41), none, none, [21, 25]⟩]) (.cond (.tmp 42) (.seq (.reg [⟨some 6, .mov (.cst (.bool false)), none, none, []⟩]) .ret) .skip)) (.seq (.dreg [⟨some 43, .load (some 3) (.tmp 7), none, none, []⟩, ⟨some 44, .load (some 3) (.tmp 8), none, none, []⟩, ⟨some 45, .mov (.cst .undef), some (.cst (.func 20 []), [.tmp 43, .tmp 44]), none, [0, 1]⟩, ⟨some 46, .bin .eql (.tmp 45) (.cst (.int .i64 0)), none, none, [2]⟩, ⟨some 47, .load (some 3) (.tmp 7), none, none, []⟩, ⟨some 48, .load (some 3) (.tmp 8), none, none, []⟩, ⟨some 49, .mov (.cst .undef), some (.cst (.func 19 []), [.tmp 47, .tmp 48]), none, [4, 5, 2]⟩, ⟨some 50, .eqb false (.tmp 46) (.tmp 49), none, none, [3, 6]⟩, ⟨some 51, .mov (.tmp 50), none, none, [7, 6]⟩, ⟨some 52, .load (some 3) (.tmp 7), none, some (51, true), [8]⟩, ⟨some 53, .load (some 3) (.tmp 8), none, some (51, true), [8]⟩, ⟨some 54, .mov (.cst .undef), some (.cst (.func 20 []), [.tmp 52, .tmp 53]), some (51, true), [9, 10, 8, 8]⟩, ⟨some 55, .bin .geq (.tmp 54) (.cst (.int .i64 0)), none, some (51, true), [11, 8]⟩, ⟨some 56, .mov (.tmp 55), none, some (51, true), [12, 11, 8]⟩, ⟨some 57, .load (some 3) (.tmp 8), none, some (56, false), [13]⟩, ⟨some 58, .load (some 3) (.tmp 9), none, some (56, false), [13]⟩, ⟨some 59, .mov (.cst .undef), some (.cst (.func 20 []), [.tmp 57, .tmp 58]), some (56, false), [14, 15, 13, 13]⟩, ⟨some 60, .bin .geq (.tmp 59) (.cst (.int .i64 0)), none, some (56, false), [16, 13]⟩, ⟨some 61, .pick (.tmp 56) (.cst (.bool true)) (.tmp 60), none, some (51, true), [13, 17, 8]⟩, ⟨some 62, .mov (.tmp 61), none, some (51, true), [18, 16, 8]⟩, ⟨some 63, .load (some 3) (.tmp 7), none, some (62, false), [19]⟩, ⟨some 64, .load (some 3) (.tmp 9), none, some (62, false), [19]⟩, ⟨some 65, .mov (.cst .undef), some (.cst (.func 20 []), [.tmp 63, .tmp 64]), some (62, false), [20, 21, 19, 19]⟩, ⟨some 66, .bin .lss (.tmp 65) (.cst (.int .i64 0)), none, some (62, false), [22, 19]⟩, ⟨some 67, .pick (.tmp 62) (.cst (.bool true)) (.tmp 66), none, some (51, true), [19, 23, 8]⟩, ⟨some 68, .pick (.tmp 51) (.tmp 67) (.cst (.bool false)), none, none, [8, 24]⟩, ⟨some 6, .mov (.tmp 68), none, none, [25, 22, 0, 1, 2, 3, 4, 5, 6, 7, 8, 9, 10, 11, 12, 13, 14, 15, 16, 17, 18, 19, 20, 21, 22, 23, 24, 25]⟩]) .ret)))

theorem f8 : fnC Try.prog 8 = some (69, c8, [.tmp 6]) := by kernel_rfl

/-! 9: countinghouse/countinghouselaw01.text -/

def c9 : VC := .seq (.reg [⟨some 0, .mov (.cst (.bool false)), none, none, []⟩]) (.seq (.reg [⟨some 5, .build [.int .u8 0, .int .i64 0, .str ⟨#[]⟩] [(0, (1, .cst (.int .u8 2))), (2, (1, .cst (.str ⟨#[97, 98]⟩)))], none, none, []⟩, ⟨some 1, .alloc (.agg [.int .u8 0, .int .i64 0, .str ⟨#[]⟩]), none, none, []⟩, ⟨none, .store 3 (.tmp 1) (.tmp 5), none, none, []⟩]) (.seq (.reg [⟨some 7, .bslice 1 5 [.int .u8 0] [(0, .cst (.int .u8 2)), (1, .cst (.int .u8 0)), (2, .cst (.int .u8 2)), (3, .cst (.int .u8 97)), (4, .cst (.int .u8 98))], none, none, []⟩, ⟨some 8, .mov (.cst .undef), some (.cst (.func 12 []), [.tmp 7]), none, []⟩, ⟨some 6, .mov (.tmp 8), none, none, []⟩, ⟨some 9, .ext (.tmp 6) 0, none, none, []⟩, ⟨some 10, .ext (.tmp 6) 1, none, none, []⟩, ⟨some 11, .ext (.tmp 6) 2, none, none, []⟩, ⟨some 2, .alloc (.agg [.int .u8 0, .int .i64 0, .str ⟨#[]⟩]), none, none, []⟩, ⟨none, .store 3 (.tmp 2) (.tmp 9), none, none, []⟩, ⟨some 3, .mov (.tmp 10), none, none, []⟩, ⟨some 4, .mov (.tmp 11), none, none, []⟩]) (.seq (.reg [⟨some 12, .load (some 3) (.tmp 1), none, none, []⟩, ⟨some 13, .mov (.cst .undef), some (.cst (.func 11 []), [.tmp 12]), none, []⟩, ⟨some 14, .bslice 1 5 [.int .u8 0] [(0, .cst (.int .u8 2)), (1, .cst (.int .u8 0)), (2, .cst (.int .u8 2)), (3, .cst (.int .u8 97)), (4, .cst (.int .u8 98))], none, none, []⟩, ⟨some 15, .mov (.cst .undef), some (.cst (.func 15 []), [.tmp 13, .tmp 14]), none, []⟩, ⟨some 16, .mov (.tmp 15), none, none, []⟩, ⟨some 17, .load (some 3) (.tmp 2), none, some (16, true), []⟩, ⟨some 18, .load (some 3) (.tmp 1), none, some (16, true), []⟩, ⟨some 19, .eqv false [.int .u8, .int .i64, .str] (.tmp 17) (.tmp 18), none, some (16, true), []⟩, ⟨some 20, .pick (.tmp 16) (.tmp 19) (.cst (.bool false)), none, none, []⟩, ⟨some 21, .mov (.tmp 20), none, none, []⟩, ⟨some 22, .mov (.tmp 3), none, some (21, true), []⟩, ⟨some 23, .lenl (.tmp 22), none, some (21, true), []⟩, ⟨some 24, .bin .eql (.tmp 23) (.cst (.int .i64 0)), none, some (21, true), []⟩, ⟨some 25, .pick (.tmp 21) (.tmp 24) (.cst (.bool false)), none, none, []⟩, ⟨some 26, .mov (.tmp 25), none, none, []⟩, ⟨some 27, .mov (.tmp 4), none, some (26, true), []⟩, ⟨some 28, .bin .eql (.tmp 27) (.cst (.int .i64 0)), none, some (26, true), []⟩, ⟨some 29, .pick (.tmp 26) (.tmp 28) (.cst (.bool false)), none, none, []⟩, ⟨some 30, .mov (.tmp 29), none, none, []⟩, ⟨some 31, .load (some 3) (.tmp 1), none, some (30, true), []⟩, ⟨some 32, .mov (.cst .undef), some (.cst (.func 14 []), [.tmp 31]), some (30, true), []⟩, ⟨some 33, .pick (.tmp 30) (.tmp 32) (.cst (.bool false)), none, none, []⟩, ⟨some 0, .mov (.tmp 33), none, none, []⟩]) .ret)))

theorem f9 : fnC Try.prog 9 = some (34, c9, [.tmp 0]) := by kernel_rfl

/-! 10: countinghouse/countinghouseref01.Of -/

def c10 : VC := .seq (.reg [⟨some 1, .box (.tmp 0), none, none, []⟩, ⟨some 2, .alloc (.agg [.int .u8 0, .int .i64 0, .str ⟨#[]⟩]), none, none, []⟩]) (.seq (.seq (.reg [⟨some 4, .fld 0 (.tmp 1), none, none, []⟩, ⟨some 5, .load none (.tmp 4), none, none, []⟩, ⟨some 6, .bin .rem (.tmp 5) (.cst (.int .u8 4)), none, none, []⟩]) (.block 0 (.seq (.reg [⟨some 8, .bin .eql (.tmp 6) (.cst (.int .u8 0)), none, none, []⟩, ⟨some 7, .mov (.tmp 8), none, none, []⟩]) (.cond (.tmp 7) (.seq (.reg [⟨some 9, .build [.int .u8 0, .int .i64 0, .str ⟨#[]⟩] [], none, none, []⟩, ⟨none, .store 3 (.tmp 2) (.tmp 9), none, none, []⟩]) .ret) (.seq (.reg [⟨some 11, .bin .eql (.tmp 6) (.cst (.int .u8 1)), none, none, []⟩, ⟨some 10, .mov (.tmp 11), none, none, []⟩]) (.cond (.tmp 10) (.seq (.reg [⟨some 12, .fld 1 (.tmp 1), none, none, []⟩, ⟨some 13, .load none (.tmp 12), none, none, []⟩, ⟨some 14, .build [.int .u8 0, .int .i64 0, .str ⟨#[]⟩] [(0, (1, .cst (.int .u8 1))), (1, (1, .tmp 13))], none, none, []⟩, ⟨none, .store 3 (.tmp 2) (.tmp 14), none, none, []⟩]) .ret) .skip)))))) (.seq (.reg [⟨some 15, .fld 2 (.tmp 1), none, none, []⟩, ⟨some 16, .load none (.tmp 15), none, none, []⟩, ⟨some 3, .mov (.tmp 16), none, none, []⟩]) (.seq (.seq (.reg [⟨some 17, .mov (.tmp 3), none, none, []⟩, ⟨some 18, .lens (.tmp 17), none, none, []⟩, ⟨some 19, .bin .gtr (.tmp 18) (.cst (.int .i64 200)), none, none, []⟩]) (.cond (.tmp 19) (.reg [⟨some 20, .mov (.tmp 3), none, none, []⟩, ⟨some 21, .slstr (.tmp 20) none (some (.cst (.int .i64 200))), none, none, []⟩, ⟨some 3, .mov (.tmp 21), none, none, []⟩]) .skip)) (.seq (.reg [⟨some 22, .mov (.tmp 3), none, none, []⟩, ⟨some 23, .build [.int .u8 0, .int .i64 0, .str ⟨#[]⟩] [(0, (1, .cst (.int .u8 2))), (2, (1, .tmp 22))], none, none, []⟩, ⟨none, .store 3 (.tmp 2) (.tmp 23), none, none, []⟩]) .ret))))

theorem f10 : fnC Try.prog 10 = some (24, c10, [.cell 2 (some 3)]) := by kernel_rfl

/-! 11: countinghouse/value.Encode -/

def c11b0 : VC := .seq (.seq (.reg [⟨some 12, .mov (.tmp 4), none, none, []⟩, ⟨some 13, .bin .geq (.tmp 12) (.cst (.int .i64 0)), none, none, []⟩]) (.cond (.tmp 13) .skip (.exit 1))) (.seq (.block 2 (.reg [⟨some 16, .mov (.tmp 3), none, none, []⟩, ⟨some 17, .fld 1 (.tmp 1), none, none, []⟩, ⟨some 18, .load none (.tmp 17), none, none, []⟩, ⟨some 19, .mov (.tmp 4), none, none, []⟩, ⟨some 20, .bin .mul (.cst (.int .i64 8)) (.tmp 19), none, none, []⟩, ⟨some 21, .bin .shr (.tmp 18) (.tmp 20), none, none, []⟩, ⟨some 22, .cvi .u8 (.tmp 21), none, none, []⟩, ⟨some 23, .bslice 1 1 [.int .u8 0] [(0, .tmp 22)], none, none, []⟩, ⟨some 24, .app 1 1 (.tmp 16) (.tmp 23), none, none, []⟩, ⟨some 3, .mov (.tmp 24), none, none, []⟩])) (.reg [⟨some 14, .mov (.tmp 4), none, none, []⟩, ⟨some 15, .bin .sub (.tmp 14) (.cst (.int .i64 1)), none, none, []⟩, ⟨some 4, .mov (.tmp 15), none, none, []⟩]))

def c11 : VC := .seq (.reg [⟨some 1, .box (.tmp 0), none, none, []⟩, ⟨some 2, .mov (.cst (.sl 0 (some true) true [])), none, none, []⟩]) (.seq (.reg [⟨some 5, .fld 0 (.tmp 1), none, none, []⟩, ⟨some 6, .load none (.tmp 5), none, none, []⟩, ⟨some 7, .bslice 1 1 [.int .u8 0] [(0, .tmp 6)], none, none, []⟩, ⟨some 3, .mov (.tmp 7), none, none, []⟩]) (.seq (.seq (.reg [⟨some 8, .fld 0 (.tmp 1), none, none, []⟩, ⟨some 9, .load none (.tmp 8), none, none, []⟩]) (.block 0 (.seq (.reg [⟨some 11, .bin .eql (.tmp 9) (.cst (.int .u8 1)), none, none, []⟩, ⟨some 10, .mov (.tmp 11), none, none, []⟩]) (.cond (.tmp 10) (.seq (.reg [⟨some 4, .mov (.cst (.int .i64 7)), none, none, []⟩]) (.block 1 (.loop c11b0))) (.seq (.reg [⟨some 26, .bin .eql (.tmp 9) (.cst (.int .u8 2)), none, none, []⟩, ⟨some 25, .mov (.tmp 26), none, none, []⟩]) (.cond (.tmp 25) (.seq (.reg [⟨some 27, .mov (.tmp 3), none, none, []⟩, ⟨some 28, .fld 2 (.tmp 1), none, none, []⟩, ⟨some 29, .load none (.tmp 28), none, none, []⟩, ⟨some 30, .lens (.tmp 29), none, none, []⟩, ⟨some 31, .bin .shr (.tmp 30) (.cst (.int .u64 8)), none, none, []⟩, ⟨some 32, .cvi .u8 (.tmp 31), none, none, []⟩, ⟨some 33, .fld 2 (.tmp 1), none, none, []⟩, ⟨some 34, .load none (.tmp 33), none, none, []⟩, ⟨some 35, .lens (.tmp 34), none, none, []⟩, ⟨some 36, .cvi .u8 (.tmp 35), none, none, []⟩, ⟨some 37, .bslice 1 2 [.int .u8 0] [(0, .tmp 32), (1, .tmp 36)], none, none, []⟩, ⟨some 38, .app 1 1 (.tmp 27) (.tmp 37), none, none, []⟩, ⟨some 3, .mov (.tmp 38), none, none, []⟩]) (.reg [⟨some 39, .mov (.tmp 3), none, none, []⟩, ⟨some 40, .fld 2 (.tmp 1), none, none, []⟩, ⟨some 41, .load none (.tmp 40), none, none, []⟩, ⟨some 42, .apps 1 (.tmp 39) (.tmp 41), none, none, []⟩, ⟨some 3, .mov (.tmp 42), none, none, []⟩])) .skip)))))) (.seq (.reg [⟨some 43, .mov (.tmp 3), none, none, []⟩, ⟨some 2, .mov (.tmp 43), none, none, []⟩]) .ret)))

theorem f11 : fnC Try.prog 11 = some (44, c11, [.tmp 2]) := by kernel_rfl

/-! 12: countinghouse/value.Decode -/

def c12 : VC := .seq (.reg [⟨some 2, .alloc (.agg [.int .u8 0, .int .i64 0, .str ⟨#[]⟩]), none, none, []⟩, ⟨some 3, .mov (.cst (.sl 0 (some true) true [])), none, none, []⟩, ⟨some 4, .mov (.cst (.int .i64 0)), none, none, []⟩]) (.seq (.reg [⟨some 17, .mov (.tmp 0), none, none, []⟩, ⟨some 18, .mov (.cst .undef), some (.cst (.func 22 []), [.tmp 17, .cst (.int .i64 1)]), none, []⟩, ⟨some 16, .mov (.tmp 18), none, none, []⟩, ⟨some 19, .ext (.tmp 16) 0, none, none, []⟩, ⟨some 20, .ext (.tmp 16) 1, none, none, []⟩, ⟨some 21, .ext (.tmp 16) 2, none, none, []⟩, ⟨some 5, .mov (.tmp 19), none, none, []⟩, ⟨some 0, .mov (.tmp 20), none, none, []⟩, ⟨some 6, .mov (.tmp 21), none, none, []⟩]) (.seq (.seq (.reg [⟨some 22, .mov (.tmp 6), none, none, []⟩, ⟨some 23, .un .not (.tmp 22), none, none, []⟩]) (.cond (.tmp 23) (.seq (.reg [⟨some 24, .mov (.cst .undef), some (.cst (.func 23 []), []), none, []⟩, ⟨some 25, .ext (.tmp 24) 0, none, none, []⟩, ⟨some 26, .ext (.tmp 24) 1, none, none, []⟩, ⟨some 27, .ext (.tmp 24) 2, none, none, []⟩, ⟨none, .store 3 (.tmp 2) (.tmp 25), none, none, []⟩, ⟨some 3, .mov (.tmp 26), none, none, []⟩, ⟨some 4, .mov (.tmp 27), none, none, []⟩]) .ret) .skip)) (.seq (.reg [⟨some 28, .mov (.tmp 5), none, none, []⟩, ⟨some 29, .ixa 1 (.tmp 28) (.cst (.int .i64 0)), none, none, []⟩, ⟨some 30, .load none (.tmp 29), none, none, []⟩, ⟨some 31, .build [.int .u8 0, .int .i64 0, .str ⟨#[]⟩] [(0, (1, .tmp 30))], none, none, []⟩, ⟨some 7, .alloc (.agg [.int .u8 0, .int .i64 0, .str ⟨#[]⟩]), none, none, []⟩, ⟨none, .store 3 (.tmp 7) (.tmp 31), none, none, []⟩]) (.seq (.seq (.reg [⟨some 32, .fld 0 (.tmp 7), none, none, []⟩, ⟨some 33, .load none (.tmp 32), none, none, []⟩]) (.block 0 (.seq (.reg [⟨some 36, .bin .eql (.tmp 33) (.cst (.int .u8 0)), none, none, []⟩, ⟨some 35, .mov (.tmp 36), none, none, []⟩]) (.cond (.tmp 35) .skip (.seq (.reg [⟨some 38, .bin .eql (.tmp 33) (.cst (.int .u8 1)), none, none, []⟩, ⟨some 37, .mov (.tmp 38), none, none, []⟩]) (.cond (.tmp 37) (.seq (.reg [⟨some 40, .mov (.tmp 0), none, none, []⟩, ⟨some 41, .mov (.cst .undef), some (.cst (.func 22 []), [.tmp 40, .cst (.int .i64 8)]), none, []⟩, ⟨some 39, .mov (.tmp 41), none, none, []⟩, ⟨some 42, .ext (.tmp 39) 0, none, none, []⟩, ⟨some 43, .ext (.tmp 39) 1, none, none, []⟩, ⟨some 44, .ext (.tmp 39) 2, none, none, []⟩, ⟨some 8, .mov (.tmp 42), none, none, []⟩, ⟨some 9, .mov (.tmp 43), none, none, []⟩, ⟨some 10, .mov (.tmp 44), none, none, []⟩]) (.seq (.seq (.reg [⟨some 45, .mov (.tmp 10), none, none, []⟩, ⟨some 46, .un .not (.tmp 45), none, none, []⟩]) (.cond (.tmp 46) (.seq (.reg [⟨some 47, .mov (.cst .undef), some (.cst (.func 23 []), []), none, []⟩, ⟨some 48, .ext (.tmp 47) 0, none, none, []⟩, ⟨some 49, .ext (.tmp 47) 1, none, none, []⟩, ⟨some 50, .ext (.tmp 47) 2, none, none, []⟩, ⟨none, .store 3 (.tmp 2) (.tmp 48), none, none, []⟩, ⟨some 3, .mov (.tmp 49), none, none, []⟩, ⟨some 4, .mov (.tmp 50), none, none, []⟩]) .ret) .skip)) (.reg [⟨some 51, .mov (.tmp 8), none, none, []⟩, ⟨some 52, .mov (.cst .undef), some (.cst (.func 24 []), [.tmp 51]), none, []⟩, ⟨some 53, .cvi .i64 (.tmp 52), none, none, []⟩, ⟨some 54, .mov (.tmp 9), none, none, []⟩, ⟨some 55, .fld 1 (.tmp 7), none, none, []⟩, ⟨none, .store 1 (.tmp 55) (.tmp 53), none, none, []⟩, ⟨some 0, .mov (.tmp 54), none, none, []⟩]))) (.seq (.reg [⟨some 57, .bin .eql (.tmp 33) (.cst (.int .u8 2)), none, none, []⟩, ⟨some 56, .mov (.tmp 57), none, none, []⟩]) (.cond (.tmp 56) (.seq (.reg [⟨some 59, .mov (.tmp 0), none, none, []⟩, ⟨some 60, .mov (.cst .undef), some (.cst (.func 22 []), [.tmp 59, .cst (.int .i64 2)]), none, []⟩, ⟨some 58, .mov (.tmp 60), none, none, []⟩, ⟨some 61, .ext (.tmp 58) 0, none, none, []⟩, ⟨some 62, .ext (.tmp 58) 1, none, none, []⟩, ⟨some 63, .ext (.tmp 58) 2, none, none, []⟩, ⟨some 11, .mov (.tmp 61), none, none, []⟩, ⟨some 12, .mov (.tmp 62), none, none, []⟩, ⟨some 13, .mov (.tmp 63), none, none, []⟩]) (.seq (.seq (.reg [⟨some 64, .mov (.tmp 13), none, none, []⟩, ⟨some 65, .un .not (.tmp 64), none, none, []⟩]) (.cond (.tmp 65) (.seq (.reg [⟨some 66, .mov (.cst .undef), some (.cst (.func 23 []), []), none, []⟩, ⟨some 67, .ext (.tmp 66) 0, none, none, []⟩, ⟨some 68, .ext (.tmp 66) 1, none, none, []⟩, ⟨some 69, .ext (.tmp 66) 2, none, none, []⟩, ⟨none, .store 3 (.tmp 2) (.tmp 67), none, none, []⟩, ⟨some 3, .mov (.tmp 68), none, none, []⟩, ⟨some 4, .mov (.tmp 69), none, none, []⟩]) .ret) .skip)) (.seq (.reg [⟨some 70, .mov (.tmp 11), none, none, []⟩, ⟨some 71, .mov (.cst .undef), some (.cst (.func 24 []), [.tmp 70]), none, []⟩, ⟨some 72, .cvi .i64 (.tmp 71), none, none, []⟩, ⟨some 14, .mov (.tmp 72), none, none, []⟩]) (.seq (.seq (.reg [⟨some 73, .mov (.tmp 14), none, none, []⟩, ⟨some 74, .bin .gtr (.tmp 73) (.cst (.int .i64 200)), none, none, []⟩]) (.cond (.tmp 74) (.seq (.reg [⟨some 75, .build [.int .u8 0, .int .i64 0, .str ⟨#[]⟩] [], none, none, []⟩, ⟨none, .store 3 (.tmp 2) (.tmp 75), none, none, []⟩, ⟨some 3, .mov (.cst (.sl 0 (some true) true [])), none, none, []⟩, ⟨some 4, .mov (.cst (.int .i64 2)), none, none, []⟩]) .ret) .skip)) (.seq (.reg [⟨some 77, .mov (.tmp 12), none, none, []⟩, ⟨some 78, .mov (.tmp 14), none, none, []⟩, ⟨some 79, .mov (.cst .undef), some (.cst (.func 22 []), [.tmp 77, .tmp 78]), none, []⟩, ⟨some 76, .mov (.tmp 79), none, none, []⟩, ⟨some 80, .ext (.tmp 76) 0, none, none, []⟩, ⟨some 81, .ext (.tmp 76) 1, none, none, []⟩, ⟨some 82, .ext (.tmp 76) 2, none, none, []⟩, ⟨some 15, .mov (.tmp 80), none, none, []⟩, ⟨some 12, .mov (.tmp 81), none, none, []⟩, ⟨some 13, .mov (.tmp 82), none, none, []⟩]) (.seq (.seq (.reg [⟨some 83, .mov (.tmp 13), none, none, []⟩, ⟨some 84, .un .not (.tmp 83), none, none, []⟩]) (.cond (.tmp 84) (.seq (.reg [⟨some 85, .mov (.cst .undef), some (.cst (.func 23 []), []), none, []⟩, ⟨some 86, .ext (.tmp 85) 0, none, none, []⟩, ⟨some 87, .ext (.tmp 85) 1, none, none, []⟩, ⟨some 88, .ext (.tmp 85) 2, none, none, []⟩, ⟨none, .store 3 (.tmp 2) (.tmp 86), none, none, []⟩, ⟨some 3, .mov (.tmp 87), none, none, []⟩, ⟨some 4, .mov (.tmp 88), none, none, []⟩]) .ret) .skip)) (.reg [⟨some 89, .mov (.tmp 15), none, none, []⟩, ⟨some 90, .cvbs (.tmp 89), none, none, []⟩, ⟨some 91, .mov (.tmp 12), none, none, []⟩, ⟨some 92, .fld 2 (.tmp 7), none, none, []⟩, ⟨none, .store 1 (.tmp 92) (.tmp 90), none, none, []⟩, ⟨some 0, .mov (.tmp 91), none, none, []⟩]))))))) (.seq (.reg [⟨some 34, .build [.int .u8 0, .int .i64 0, .str ⟨#[]⟩] [], none, none, []⟩, ⟨none, .store 3 (.tmp 2) (.tmp 34), none, none, []⟩, ⟨some 3, .mov (.cst (.sl 0 (some true) true [])), none, none, []⟩, ⟨some 4, .mov (.cst (.int .i64 2)), none, none, []⟩]) .ret))))))))) (.seq (.dreg [⟨some 93, .load (some 3) (.tmp 7), none, none, []⟩, ⟨some 94, .mov (.tmp 0), none, none, []⟩, ⟨some 95, .mov (.cst .undef), some (.cst (.func 25 []), [.tmp 94]), none, [1]⟩, ⟨none, .store 3 (.tmp 2) (.tmp 93), none, none, [0, 2, 0]⟩, ⟨some 3, .mov (.tmp 95), none, none, [2, 3, 0, 1, 2, 3]⟩, ⟨some 4, .mov (.cst (.int .i64 0)), none, none, [4, 0, 1, 2, 3, 4]⟩]) .ret)))))

theorem f12 : fnC Try.prog 12 = some (96, c12, [.cell 2 (some 3), .tmp 3, .tmp 4]) := by kernel_rfl

/-! 13: countinghouse/countinghouseref01.Join -/

def c13 : VC := .seq (.reg [⟨some 4, .mov (.cst (.sl 0 (some true) true [])), none, none, []⟩]) (.seq (.reg [⟨some 5, .mov (.cst (.sl 0 (some true) true [])), none, none, []⟩]) (.seq (.reg [⟨some 6, .mov (.tmp 5), none, none, []⟩, ⟨some 7, .mov (.tmp 0), none, none, []⟩, ⟨some 8, .app 1 1 (.tmp 6) (.tmp 7), none, none, []⟩, ⟨some 5, .mov (.tmp 8), none, none, []⟩]) (.seq (.reg [⟨some 9, .mov (.tmp 5), none, none, []⟩, ⟨some 10, .mov (.tmp 1), none, none, []⟩, ⟨some 11, .app 1 1 (.tmp 9) (.tmp 10), none, none, []⟩, ⟨some 4, .mov (.tmp 11), none, none, []⟩]) .ret)))

theorem f13 : fnC Try.prog 13 = some (12, c13, [.tmp 4]) := by kernel_rfl

/-! 14: countinghouse/value.Right -/

def c14 : VC := .seq (.reg [⟨some 1, .box (.tmp 0), none, none, []⟩, ⟨some 2, .mov (.cst (.bool false)), none, none, []⟩]) (.seq (.seq (.reg [⟨some 3, .fld 0 (.tmp 1), none, none, []⟩, ⟨some 4, .load none (.tmp 3), none, none, []⟩]) (.block 0 (.seq (.reg [⟨some 6, .bin .eql (.tmp 4) (.cst (.int .u8 0)), none, none, []⟩, ⟨some 5, .mov (.tmp 6), none, none, []⟩]) (.cond (.tmp 5) (.seq (.reg [⟨some 7, .fld 1 (.tmp 1), none, none, []⟩, ⟨some 8, .load none (.tmp 7), none, none, []⟩, ⟨some 9, .bin .eql (.tmp 8) (.cst (.int .i64 0)), none, none, []⟩, ⟨some 10, .mov (.tmp 9), none, none, []⟩, ⟨some 11, .fld 2 (.tmp 1), none, some (10, true), []⟩, ⟨some 12, .load none (.tmp 11), none, some (10, true), []⟩, ⟨some 13, .bin .eql (.tmp 12) (.cst (.str ⟨#[]⟩)), none, some (10, true), []⟩, ⟨some 14, .pick (.tmp 10) (.tmp 13) (.cst (.bool false)), none, none, []⟩, ⟨some 2, .mov (.tmp 14), none, none, []⟩]) .ret) (.seq (.reg [⟨some 16, .bin .eql (.tmp 4) (.cst (.int .u8 1)), none, none, []⟩, ⟨some 15, .mov (.tmp 16), none, none, []⟩]) (.cond (.tmp 15) (.seq (.reg [⟨some 17, .fld 2 (.tmp 1), none, none, []⟩, ⟨some 18, .load none (.tmp 17), none, none, []⟩, ⟨some 19, .bin .eql (.tmp 18) (.cst (.str ⟨#[]⟩)), none, none, []⟩, ⟨some 2, .mov (.tmp 19), none, none, []⟩]) .ret) (.seq (.reg [⟨some 21, .bin .eql (.tmp 4) (.cst (.int .u8 2)), none, none, []⟩, ⟨some 20, .mov (.tmp 21), none, none, []⟩]) (.cond (.tmp 20) (.seq (.reg [⟨some 22, .fld 1 (.tmp 1), none, none, []⟩, ⟨some 23, .load none (.tmp 22), none, none, []⟩, ⟨some 24, .bin .eql (.tmp 23) (.cst (.int .i64 0)), none, none, []⟩, ⟨some 25, .mov (.tmp 24), none, none, []⟩, ⟨some 26, .fld 2 (.tmp 1), none, some (25, true), []⟩, ⟨some 27, .load none (.tmp 26), none, some (25, true), []⟩, ⟨some 28, .lens (.tmp 27), none, some (25, true), []⟩, ⟨some 29, .bin .leq (.tmp 28) (.cst (.int .i64 200)), none, some (25, true), []⟩, ⟨some 30, .pick (.tmp 25) (.tmp 29) (.cst (.bool false)), none, none, []⟩, ⟨some 2, .mov (.tmp 30), none, none, []⟩]) .ret) .skip)))))))) (.seq (.reg [⟨some 2, .mov (.cst (.bool false)), none, none, []⟩]) .ret))

theorem f14 : fnC Try.prog 14 = some (31, c14, [.tmp 2]) := by kernel_rfl

/-! 15: countinghouse/countinghouseref01.Bytes -/

def c15b0 : VC := .seq (.seq (.reg [⟨some 11, .mov (.tmp 5), none, none, []⟩, ⟨some 12, .mov (.tmp 0), none, none, []⟩, ⟨some 13, .lenl (.tmp 12), none, none, []⟩, ⟨some 14, .bin .lss (.tmp 11) (.tmp 13), none, none, []⟩]) (.cond (.tmp 14) .skip (.exit 0))) (.seq (.block 1 (.seq (.dreg [⟨some 17, .mov (.tmp 0), none, none, []⟩, ⟨some 18, .mov (.tmp 5), none, none, []⟩, ⟨some 19, .ixa 1 (.tmp 17) (.tmp 18), none, none, [0, 1]⟩, ⟨some 20, .load none (.tmp 19), none, none, [2]⟩, ⟨some 21, .mov (.tmp 1), none, none, []⟩, ⟨some 22, .mov (.tmp 5), none, none, []⟩, ⟨some 23, .ixa 1 (.tmp 21) (.tmp 22), none, none, [4, 5]⟩, ⟨some 24, .load none (.tmp 23), none, none, [6]⟩, ⟨some 25, .bin .neq (.tmp 20) (.tmp 24), none, none, [3, 7]⟩]) (.cond (.tmp 25) (.seq (.reg [⟨some 4, .mov (.cst (.bool false)), none, none, []⟩]) .ret) .skip))) (.reg [⟨some 15, .mov (.tmp 5), none, none, []⟩, ⟨some 16, .bin .add (.tmp 15) (.cst (.int .i64 1)), none, none, []⟩, ⟨some 5, .mov (.tmp 16), none, none, []⟩]))

def c15 : VC := .seq (.reg [⟨some 4, .mov (.cst (.bool false)), none, none, []⟩]) (.seq (.seq (.reg [⟨some 6, .mov (.tmp 0), none, none, []⟩, ⟨some 7, .lenl (.tmp 6), none, none, []⟩, ⟨some 8, .mov (.tmp 1), none, none, []⟩, ⟨some 9, .lenl (.tmp 8), none, none, []⟩, ⟨some 10, .bin .neq (.tmp 7) (.tmp 9), none, none, []⟩]) (.cond (.tmp 10) (.seq (.reg [⟨some 4, .mov (.cst (.bool false)), none, none, []⟩]) .ret) .skip)) (.seq (.seq (.reg [⟨some 5, .mov (.cst (.int .i64 0)), none, none, []⟩]) (.block 0 (.loop c15b0))) (.seq (.reg [⟨some 4, .mov (.cst (.bool true)), none, none, []⟩]) .ret)))

theorem f15 : fnC Try.prog 15 = some (26, c15, [.tmp 4]) := by kernel_rfl

/-! 16: countinghouse/countinghouseref01.Encode -/

def c16 : VC := .seq (.reg [⟨some 1, .box (.tmp 0), none, none, []⟩, ⟨some 2, .mov (.cst (.sl 0 (some true) true [])), none, none, []⟩]) (.seq (.reg [⟨some 4, .fld 0 (.tmp 1), none, none, []⟩, ⟨some 5, .load none (.tmp 4), none, none, []⟩, ⟨some 6, .bslice 1 1 [.int .u8 0] [(0, .tmp 5)], none, none, []⟩, ⟨some 3, .mov (.tmp 6), none, none, []⟩]) (.seq (.seq (.reg [⟨some 7, .fld 0 (.tmp 1), none, none, []⟩, ⟨some 8, .load none (.tmp 7), none, none, []⟩, ⟨some 9, .bin .eql (.tmp 8) (.cst (.int .u8 1)), none, none, []⟩]) (.cond (.tmp 9) (.reg [⟨some 10, .mov (.tmp 3), none, none, []⟩, ⟨some 11, .fld 1 (.tmp 1), none, none, []⟩, ⟨some 12, .load none (.tmp 11), none, none, []⟩, ⟨some 13, .cvi .u64 (.tmp 12), none, none, []⟩, ⟨some 14, .mov (.cst .undef), some (.cst (.func 26 []), [.tmp 13, .cst (.int .i64 8)]), none, []⟩, ⟨some 15, .mov (.cst .undef), some (.cst (.func 13 []), [.tmp 10, .tmp 14]), none, []⟩, ⟨some 3, .mov (.tmp 15), none, none, []⟩]) .skip)) (.seq (.seq (.reg [⟨some 16, .fld 0 (.tmp 1), none, none, []⟩, ⟨some 17, .load none (.tmp 16), none, none, []⟩, ⟨some 18, .bin .eql (.tmp 17) (.cst (.int .u8 2)), none, none, []⟩]) (.cond (.tmp 18) (.dreg [⟨some 19, .mov (.tmp 3), none, none, []⟩, ⟨some 20, .fld 2 (.tmp 1), none, none, []⟩, ⟨some 21, .load none (.tmp 20), none, none, [1]⟩, ⟨some 22, .lens (.tmp 21), none, none, [2]⟩, ⟨some 23, .cvi .u64 (.tmp 22), none, none, [3]⟩, ⟨some 24, .mov (.cst .undef), some (.cst (.func 26 []), [.tmp 23, .cst (.int .i64 2)]), none, [4]⟩, ⟨some 25, .mov (.cst .undef), some (.cst (.func 13 []), [.tmp 19, .tmp 24]), none, [0, 5, 5]⟩, ⟨some 26, .fld 2 (.tmp 1), none, none, []⟩, ⟨some 27, .load none (.tmp 26), none, none, [7]⟩, ⟨some 28, .cvsb (.tmp 27), none, none, [8]⟩, ⟨some 29, .mov (.cst .undef), some (.cst (.func 13 []), [.tmp 25, .tmp 28]), none, [6, 9, 6]⟩, ⟨some 3, .mov (.tmp 29), none, none, [10, 10, 0, 1, 2, 3, 4, 5, 6, 7, 8, 9, 10]⟩]) .skip)) (.seq (.reg [⟨some 30, .mov (.tmp 3), none, none, []⟩, ⟨some 2, .mov (.tmp 30), none, none, []⟩]) .ret))))

theorem f16 : fnC Try.prog 16 = some (31, c16, [.tmp 2]) := by kernel_rfl

/-! 17: countinghouse/countinghouseref01.Decode -/

def c17 : VC := .seq (.reg [⟨some 2, .alloc (.agg [.int .u8 0, .int .i64 0, .str ⟨#[]⟩]), none, none, []⟩, ⟨some 3, .mov (.cst (.int .i64 0)), none, none, []⟩, ⟨some 4, .mov (.cst (.int .i64 0)), none, none, []⟩]) (.seq (.reg [⟨some 5, .alloc (.agg [.int .u8 0, .int .i64 0, .str ⟨#[]⟩]), none, none, []⟩]) (.seq (.seq (.reg [⟨some 7, .mov (.tmp 0), none, none, []⟩, ⟨some 8, .lenl (.tmp 7), none, none, []⟩, ⟨some 9, .bin .lss (.tmp 8) (.cst (.int .i64 1)), none, none, []⟩]) (.cond (.tmp 9) (.seq (.reg [⟨some 10, .load (some 3) (.tmp 5), none, none, []⟩, ⟨none, .store 3 (.tmp 2) (.tmp 10), none, none, []⟩, ⟨some 3, .mov (.cst (.int .i64 0)), none, none, []⟩, ⟨some 4, .mov (.cst (.int .i64 3)), none, none, []⟩]) .ret) .skip)) (.seq (.seq (.reg [⟨some 11, .mov (.tmp 0), none, none, []⟩, ⟨some 12, .ixa 1 (.tmp 11) (.cst (.int .i64 0)), none, none, []⟩, ⟨some 13, .load none (.tmp 12), none, none, []⟩]) (.block 0 (.seq (.reg [⟨some 15, .bin .eql (.tmp 13) (.cst (.int .u8 0)), none, none, []⟩, ⟨some 14, .mov (.tmp 15), none, none, []⟩]) (.cond (.tmp 14) (.seq (.reg [⟨some 16, .load (some 3) (.tmp 5), none, none, []⟩, ⟨none, .store 3 (.tmp 2) (.tmp 16), none, none, []⟩, ⟨some 3, .mov (.cst (.int .i64 1)), none, none, []⟩, ⟨some 4, .mov (.cst (.int .i64 0)), none, none, []⟩]) .ret) (.seq (.reg [⟨some 18, .bin .eql (.tmp 13) (.cst (.int .u8 1)), none, none, []⟩, ⟨some 17, .mov (.tmp 18), none, none, []⟩]) (.cond (.tmp 17) (.seq (.seq (.reg [⟨some 19, .mov (.tmp 0), none, none, []⟩, ⟨some 20, .lenl (.tmp 19), none, none, []⟩, ⟨some 21, .bin .lss (.tmp 20) (.cst (.int .i64 9)), none, none, []⟩]) (.cond (.tmp 21) (.seq (.reg [⟨some 22, .load (some 3) (.tmp 5), none, none, []⟩, ⟨none, .store 3 (.tmp 2) (.tmp 22), none, none, []⟩, ⟨some 3, .mov (.cst (.int .i64 0)), none, none, []⟩, ⟨some 4, .mov (.cst (.int .i64 3)), none, none, []⟩]) .ret) .skip)) (.seq (.reg [⟨some 23, .mov (.tmp 0), none, none, []⟩, ⟨some 24, .slsl 1 (.tmp 23) (some (.cst (.int .i64 1))) (some (.cst (.int .i64 9))), none, none, []⟩, ⟨some 25, .mov (.cst .undef), some (.cst (.func 27 []), [.tmp 24]), none, []⟩, ⟨some 26, .cvi .i64 (.tmp 25), none, none, []⟩, ⟨some 27, .build [.int .u8 0, .int .i64 0, .str ⟨#[]⟩] [(0, (1, .cst (.int .u8 1))), (1, (1, .tmp 26))], none, none, []⟩, ⟨none, .store 3 (.tmp 2) (.tmp 27), none, none, []⟩, ⟨some 3, .mov (.cst (.int .i64 9)), none, none, []⟩, ⟨some 4, .mov (.cst (.int .i64 0)), none, none, []⟩]) .ret)) (.seq (.reg [⟨some 29, .bin .eql (.tmp 13) (.cst (.int .u8 2)), none, none, []⟩, ⟨some 28, .mov (.tmp 29), none, none, []⟩]) (.cond (.tmp 28) (.seq (.seq (.reg [⟨some 30, .mov (.tmp 0), none, none, []⟩, ⟨some 31, .lenl (.tmp 30), none, none, []⟩, ⟨some 32, .bin .lss (.tmp 31) (.cst (.int .i64 3)), none, none, []⟩]) (.cond (.tmp 32) (.seq (.reg [⟨some 33, .load (some 3) (.tmp 5), none, none, []⟩, ⟨none, .store 3 (.tmp 2) (.tmp 33), none, none, []⟩, ⟨some 3, .mov (.cst (.int .i64 0)), none, none, []⟩, ⟨some 4, .mov (.cst (.int .i64 3)), none, none, []⟩]) .ret) .skip)) (.seq (.reg [⟨some 34, .mov (.tmp 0), none, none, []⟩, ⟨some 35, .slsl 1 (.tmp 34) (some (.cst (.int .i64 1))) (some (.cst (.int .i64 3))), none, none, []⟩, ⟨some 36, .mov (.cst .undef), some (.cst (.func 27 []), [.tmp 35]), none, []⟩, ⟨some 37, .cvi .i64 (.tmp 36), none, none, []⟩, ⟨some 6, .mov (.tmp 37), none, none, []⟩]) (.seq (.seq (.reg [⟨some 38, .mov (.tmp 6), none, none, []⟩, ⟨some 39, .bin .gtr (.tmp 38) (.cst (.int .i64 200)), none, none, []⟩]) (.cond (.tmp 39) (.seq (.reg [⟨some 40, .load (some 3) (.tmp 5), none, none, []⟩, ⟨none, .store 3 (.tmp 2) (.tmp 40), none, none, []⟩, ⟨some 3, .mov (.cst (.int .i64 0)), none, none, []⟩, ⟨some 4, .mov (.cst (.int .i64 2)), none, none, []⟩]) .ret) .skip)) (.seq (.seq (.reg [⟨some 41, .mov (.tmp 0), none, none, []⟩, ⟨some 42, .lenl (.tmp 41), none, none, []⟩, ⟨some 43, .mov (.tmp 6), none, none, []⟩, ⟨some 44, .bin .add (.cst (.int .i64 3)) (.tmp 43), none, none, []⟩, ⟨some 45, .bin .lss (.tmp 42) (.tmp 44), none, none, []⟩]) (.cond (.tmp 45) (.seq (.reg [⟨some 46, .load (some 3) (.tmp 5), none, none, []⟩, ⟨none, .store 3 (.tmp 2) (.tmp 46), none, none, []⟩, ⟨some 3, .mov (.cst (.int .i64 0)), none, none, []⟩, ⟨some 4, .mov (.cst (.int .i64 3)), none, none, []⟩]) .ret) .skip)) (.seq (.reg [⟨some 47, .mov (.tmp 0), none, none, []⟩, ⟨some 48, .mov (.tmp 6), none, none, []⟩, ⟨some 49, .bin .add (.cst (.int .i64 3)) (.tmp 48), none, none, []⟩, ⟨some 50, .slsl 1 (.tmp 47) (some (.cst (.int .i64 3))) (some (.tmp 49)), none, none, []⟩, ⟨some 51, .cvbs (.tmp 50), none, none, []⟩, ⟨some 52, .build [.int .u8 0, .int .i64 0, .str ⟨#[]⟩] [(0, (1, .cst (.int .u8 2))), (2, (1, .tmp 51))], none, none, []⟩, ⟨some 53, .mov (.tmp 6), none, none, []⟩, ⟨some 54, .bin .add (.cst (.int .i64 3)) (.tmp 53), none, none, []⟩, ⟨none, .store 3 (.tmp 2) (.tmp 52), none, none, []⟩, ⟨some 3, .mov (.tmp 54), none, none, []⟩, ⟨some 4, .mov (.cst (.int .i64 0)), none, none, []⟩]) .ret))))) .skip)))))))) (.seq (.reg [⟨some 55, .load (some 3) (.tmp 5), none, none, []⟩, ⟨none, .store 3 (.tmp 2) (.tmp 55), none, none, []⟩, ⟨some 3, .mov (.cst (.int .i64 0)), none, none, []⟩, ⟨some 4, .mov (.cst (.int .i64 2)), none, none, []⟩]) .ret))))

theorem f17 : fnC Try.prog 17 = some (56, c17, [.cell 2 (some 3), .tmp 3, .tmp 4]) := by kernel_rfl

/-! 18: countinghouse/countinghouseref01.Right -/

def c18 : VC := .seq (.reg [⟨some 1, .box (.tmp 0), none, none, []⟩, ⟨some 2, .mov (.cst (.bool false)), none, none, []⟩]) (.seq (.seq (.reg [⟨some 3, .fld 0 (.tmp 1), none, none, []⟩, ⟨some 4, .load none (.tmp 3), none, none, []⟩, ⟨some 5, .bin .eql (.tmp 4) (.cst (.int .u8 0)), none, none, []⟩]) (.cond (.tmp 5) (.seq (.reg [⟨some 6, .fld 1 (.tmp 1), none, none, []⟩, ⟨some 7, .load none (.tmp 6), none, none, []⟩, ⟨some 8, .bin .eql (.tmp 7) (.cst (.int .i64 0)), none, none, []⟩, ⟨some 9, .mov (.tmp 8), none, none, []⟩, ⟨some 10, .fld 2 (.tmp 1), none, some (9, true), []⟩, ⟨some 11, .load none (.tmp 10), none, some (9, true), []⟩, ⟨some 12, .lens (.tmp 11), none, some (9, true), []⟩, ⟨some 13, .bin .eql (.tmp 12) (.cst (.int .i64 0)), none, some (9, true), []⟩, ⟨some 14, .pick (.tmp 9) (.tmp 13) (.cst (.bool false)), none, none, []⟩, ⟨some 2, .mov (.tmp 14), none, none, []⟩]) .ret) .skip)) (.seq (.seq (.reg [⟨some 15, .fld 0 (.tmp 1), none, none, []⟩, ⟨some 16, .load none (.tmp 15), none, none, []⟩, ⟨some 17, .bin .eql (.tmp 16) (.cst (.int .u8 1)), none, none, []⟩]) (.cond (.tmp 17) (.seq (.reg [⟨some 18, .fld 2 (.tmp 1), none, none, []⟩, ⟨some 19, .load none (.tmp 18), none, none, []⟩, ⟨some 20, .lens (.tmp 19), none, none, []⟩, ⟨some 21, .bin .eql (.tmp 20) (.cst (.int .i64 0)), none, none, []⟩, ⟨some 2, .mov (.tmp 21), none, none, []⟩]) .ret) .skip)) (.seq (.reg [⟨some 22, .fld 0 (.tmp 1), none, none, []⟩, ⟨some 23, .load none (.tmp 22), none, none, []⟩, ⟨some 24, .bin .eql (.tmp 23) (.cst (.int .u8 2)), none, none, []⟩, ⟨some 25, .mov (.tmp 24), none, none, []⟩, ⟨some 26, .fld 1 (.tmp 1), none, some (25, true), []⟩, ⟨some 27, .load none (.tmp 26), none, some (25, true), []⟩, ⟨some 28, .bin .eql (.tmp 27) (.cst (.int .i64 0)), none, some (25, true), []⟩, ⟨some 29, .pick (.tmp 25) (.tmp 28) (.cst (.bool false)), none, none, []⟩, ⟨some 30, .mov (.tmp 29), none, none, []⟩, ⟨some 31, .fld 2 (.tmp 1), none, some (30, true), []⟩, ⟨some 32, .load none (.tmp 31), none, some (30, true), []⟩, ⟨some 33, .lens (.tmp 32), none, some (30, true), []⟩, ⟨some 34, .bin .leq (.tmp 33) (.cst (.int .i64 200)), none, some (30, true), []⟩, ⟨some 35, .pick (.tmp 30) (.tmp 34) (.cst (.bool false)), none, none, []⟩, ⟨some 2, .mov (.tmp 35), none, none, []⟩]) .ret)))

theorem f18 : fnC Try.prog 18 = some (36, c18, [.tmp 2]) := by kernel_rfl

/-! 19: countinghouse/value.Same -/

def c19 : VC := .seq (.reg [⟨some 2, .box (.tmp 0), none, none, []⟩, ⟨some 3, .box (.tmp 1), none, none, []⟩, ⟨some 4, .mov (.cst (.bool false)), none, none, []⟩]) (.seq (.reg [⟨some 5, .load (some 3) (.tmp 2), none, none, []⟩, ⟨some 6, .load (some 3) (.tmp 3), none, none, []⟩, ⟨some 7, .eqv false [.int .u8, .int .i64, .str] (.tmp 5) (.tmp 6), none, none, []⟩, ⟨some 4, .mov (.tmp 7), none, none, []⟩]) .ret)

theorem f19 : fnC Try.prog 19 = some (8, c19, [.tmp 4]) := by kernel_rfl

/-! 20: countinghouse/value.Compare -/

def c20 : VC := .seq (.reg [⟨some 2, .box (.tmp 0), none, none, []⟩, ⟨some 3, .box (.tmp 1), none, none, []⟩, ⟨some 4, .mov (.cst (.int .i64 0)), none, none, []⟩]) (.seq (.dreg [⟨some 5, .fld 0 (.tmp 2), none, none, []⟩, ⟨some 6, .load none (.tmp 5), none, none, [0]⟩, ⟨some 7, .fld 0 (.tmp 3), none, none, []⟩, ⟨some 8, .load none (.tmp 7), none, none, [2]⟩, ⟨some 9, .mov (.cst .undef), some (.cst (.func 29 []), [.tmp 6, .tmp 8]), none, [1, 3]⟩, ⟨some 10, .fld 1 (.tmp 2), none, none, []⟩, ⟨some 11, .load none (.tmp 10), none, none, [5]⟩, ⟨some 12, .fld 1 (.tmp 3), none, none, []⟩, ⟨some 13, .load none (.tmp 12), none, none, [7]⟩, ⟨some 14, .mov (.cst .undef), some (.cst (.func 30 []), [.tmp 11, .tmp 13]), none, [6, 8, 4]⟩, ⟨some 15, .fld 2 (.tmp 2), none, none, []⟩, ⟨some 16, .load none (.tmp 15), none, none, [10]⟩, ⟨some 17, .fld 2 (.tmp 3), none, none, []⟩, ⟨some 18, .load none (.tmp 17), none, none, [12]⟩, ⟨some 19, .mov (.cst .undef), some (.cst (.func 31 []), [.tmp 16, .tmp 18]), none, [11, 13, 9]⟩, ⟨some 20, .bslice 1 3 [.int .i64 0] [(0, .tmp 9), (1, .tmp 14), (2, .tmp 19)], none, none, [4, 9, 14]⟩, ⟨some 21, .mov (.cst .undef), some (.cst (.func 28 []), [.tmp 20]), none, [15, 14]⟩, ⟨some 4, .mov (.tmp 21), none, none, [16, 16, 0, 1, 2, 3, 4, 5, 6, 7, 8, 9, 10, 11, 12, 13, 14, 15, 16]⟩]) .ret)

theorem f20 : fnC Try.prog 20 = some (22, c20, [.tmp 4]) := by kernel_rfl

/-! 21: countinghouse/countinghouseref01.Compare -/

def c21 : VC := .seq (.reg [⟨some 2, .box (.tmp 0), none, none, []⟩, ⟨some 3, .box (.tmp 1), none, none, []⟩, ⟨some 4, .mov (.cst (.int .i64 0)), none, none, []⟩]) (.seq (.seq (.reg [⟨some 5, .fld 0 (.tmp 2), none, none, []⟩, ⟨some 6, .load none (.tmp 5), none, none, []⟩, ⟨some 7, .fld 0 (.tmp 3), none, none, []⟩, ⟨some 8, .load none (.tmp 7), none, none, []⟩, ⟨some 9, .bin .neq (.tmp 6) (.tmp 8), none, none, []⟩]) (.cond (.tmp 9) (.seq (.seq (.reg [⟨some 10, .fld 0 (.tmp 2), none, none, []⟩, ⟨some 11, .load none (.tmp 10), none, none, []⟩, ⟨some 12, .fld 0 (.tmp 3), none, none, []⟩, ⟨some 13, .load none (.tmp 12), none, none, []⟩, ⟨some 14, .bin .lss (.tmp 11) (.tmp 13), none, none, []⟩]) (.cond (.tmp 14) (.seq (.reg [⟨some 4, .mov (.cst (.int .i64 (-1))), none, none, []⟩]) .ret) .skip)) (.seq (.reg [⟨some 4, .mov (.cst (.int .i64 1)), none, none, []⟩]) .ret)) .skip)) (.seq (.seq (.reg [⟨some 15, .fld 1 (.tmp 2), none, none, []⟩, ⟨some 16, .load none (.tmp 15), none, none, []⟩, ⟨some 17, .fld 1 (.tmp 3), none, none, []⟩, ⟨some 18, .load none (.tmp 17), none, none, []⟩, ⟨some 19, .bin .lss (.tmp 16) (.tmp 18), none, none, []⟩, ⟨some 20, .mov (.tmp 19), none, none, []⟩, ⟨some 21, .fld 2 (.tmp 2), none, some (20, false), []⟩, ⟨some 22, .load none (.tmp 21), none, some (20, false), []⟩, ⟨some 23, .fld 2 (.tmp 3), none, some (20, false), []⟩, ⟨some 24, .load none (.tmp 23), none, some (20, false), []⟩, ⟨some 25, .bin .lss (.tmp 22) (.tmp 24), none, some (20, false), []⟩, ⟨some 26, .pick (.tmp 20) (.cst (.bool true)) (.tmp 25), none, none, []⟩]) (.cond (.tmp 26) (.seq (.reg [⟨some 4, .mov (.cst (.int .i64 (-1))), none, none, []⟩]) .ret) .skip)) (.seq (.seq (.reg [⟨some 27, .fld 1 (.tmp 2), none, none, []⟩, ⟨some 28, .load none (.tmp 27), none, none, []⟩, ⟨some 29, .fld 1 (.tmp 3), none, none, []⟩, ⟨some 30, .load none (.tmp 29), none, none, []⟩, ⟨some 31, .bin .gtr (.tmp 28) (.tmp 30), none, none, []⟩, ⟨some 32, .mov (.tmp 31), none, none, []⟩, ⟨some 33, .fld 2 (.tmp 2), none, some (32, false), []⟩, ⟨some 34, .load none (.tmp 33), none, some (32, false), []⟩, ⟨some 35, .fld 2 (.tmp 3), none, some (32, false), []⟩, ⟨some 36, .load none (.tmp 35), none, some (32, false), []⟩, ⟨some 37, .bin .gtr (.tmp 34) (.tmp 36), none, some (32, false), []⟩, ⟨some 38, .pick (.tmp 32) (.cst (.bool true)) (.tmp 37), none, none, []⟩]) (.cond (.tmp 38) (.seq (.reg [⟨some 4, .mov (.cst (.int .i64 1)), none, none, []⟩]) .ret) .skip)) (.seq (.reg [⟨some 4, .mov (.cst (.int .i64 0)), none, none, []⟩]) .ret))))

theorem f21 : fnC Try.prog 21 = some (39, c21, [.tmp 4]) := by kernel_rfl

/-! 22: countinghouse/value.take -/

def c22 : VC := .seq (.reg [⟨some 4, .mov (.cst (.sl 0 (some true) true [])), none, none, []⟩, ⟨some 5, .mov (.cst (.sl 0 (some true) true [])), none, none, []⟩, ⟨some 6, .mov (.cst (.bool false)), none, none, []⟩]) (.seq (.seq (.reg [⟨some 7, .mov (.tmp 0), none, none, []⟩, ⟨some 8, .lenl (.tmp 7), none, none, []⟩, ⟨some 9, .mov (.tmp 1), none, none, []⟩, ⟨some 10, .bin .lss (.tmp 8) (.tmp 9), none, none, []⟩]) (.cond (.tmp 10) (.seq (.reg [⟨some 4, .mov (.cst (.sl 0 (some true) true [])), none, none, []⟩, ⟨some 5, .mov (.cst (.sl 0 (some true) true [])), none, none, []⟩, ⟨some 6, .mov (.cst (.bool false)), none, none, []⟩]) .ret) .skip)) (.seq (.dreg [⟨some 11, .mov (.tmp 0), none, none, []⟩, ⟨some 12, .mov (.tmp 1), none, none, []⟩, ⟨some 13, .slsl 1 (.tmp 11) none (some (.tmp 12)), none, none, [0, 1]⟩, ⟨some 14, .mov (.tmp 0), none, none, []⟩, ⟨some 15, .mov (.tmp 1), none, none, []⟩, ⟨some 16, .slsl 1 (.tmp 14) (some (.tmp 15)) none, none, none, [3, 4]⟩, ⟨some 4, .mov (.tmp 13), none, none, [2, 0, 1, 2]⟩, ⟨some 5, .mov (.tmp 16), none, none, [5, 6, 0, 1, 2, 3, 4, 5, 6]⟩, ⟨some 6, .mov (.cst (.bool true)), none, none, [7, 0, 1, 2, 3, 4, 5, 6, 7]⟩]) .ret))

theorem f22 : fnC Try.prog 22 = some (17, c22, [.tmp 4, .tmp 5, .tmp 6]) := by kernel_rfl

/-! 23: countinghouse/value.short -/

def c23 : VC := .seq (.reg [⟨some 0, .alloc (.agg [.int .u8 0, .int .i64 0, .str ⟨#[]⟩]), none, none, []⟩, ⟨some 1, .mov (.cst (.sl 0 (some true) true [])), none, none, []⟩, ⟨some 2, .mov (.cst (.int .i64 0)), none, none, []⟩]) (.seq (.reg [⟨some 3, .build [.int .u8 0, .int .i64 0, .str ⟨#[]⟩] [], none, none, []⟩, ⟨none, .store 3 (.tmp 0) (.tmp 3), none, none, []⟩, ⟨some 1, .mov (.cst (.sl 0 (some true) true [])), none, none, []⟩, ⟨some 2, .mov (.cst (.int .i64 3)), none, none, []⟩]) .ret)

theorem f23 : fnC Try.prog 23 = some (4, c23, [.cell 0 (some 3), .tmp 1, .tmp 2]) := by kernel_rfl

/-! 24: countinghouse/value.number -/

def c24b0 : VC := .seq (.reg [⟨some 9, .bin .lss (.tmp 8) (.tmp 7), none, none, []⟩]) (.seq (.cond (.tmp 9) .skip (.exit 0)) (.seq (.block 1 (.seq (.reg [⟨some 10, .ixa 1 (.tmp 6) (.tmp 8), none, none, []⟩, ⟨some 11, .load none (.tmp 10), none, none, []⟩, ⟨some 5, .mov (.tmp 11), none, none, []⟩]) (.reg [⟨some 12, .mov (.tmp 3), none, none, []⟩, ⟨some 13, .bin .shl (.tmp 12) (.cst (.int .u64 8)), none, none, []⟩, ⟨some 14, .mov (.tmp 5), none, none, []⟩, ⟨some 15, .cvi .u64 (.tmp 14), none, none, []⟩, ⟨some 16, .bin .or (.tmp 13) (.tmp 15), none, none, []⟩, ⟨some 3, .mov (.tmp 16), none, none, []⟩]))) (.reg [⟨some 17, .bin .add (.tmp 8) (.cst (.int .i64 1)), none, none, []⟩, ⟨some 8, .mov (.tmp 17), none, none, []⟩])))

def c24 : VC := .seq (.reg [⟨some 2, .mov (.cst (.int .u64 0)), none, none, []⟩]) (.seq (.reg [⟨some 3, .mov (.cst (.int .u64 0)), none, none, []⟩]) (.seq (.seq (.reg [⟨some 6, .mov (.tmp 0), none, none, []⟩, ⟨some 7, .lenl (.tmp 6), none, none, []⟩, ⟨some 8, .mov (.cst (.int .i64 0)), none, none, []⟩]) (.block 0 (.loop c24b0))) (.seq (.reg [⟨some 18, .mov (.tmp 3), none, none, []⟩, ⟨some 2, .mov (.tmp 18), none, none, []⟩]) .ret)))

theorem f24 : fnC Try.prog 24 = some (19, c24, [.tmp 2]) := by kernel_rfl

/-! 25: bytes.Clone -/

def c25 : VC := .seq (.reg [⟨some 2, .mov (.cst (.sl 0 (some true) true [])), none, none, []⟩]) (.seq (.seq (.reg [⟨some 3, .mov (.tmp 0), none, none, []⟩, ⟨some 4, .eqn .slice false (.tmp 3) (.cst (.sl 0 (some true) true [])), none, none, []⟩]) (.cond (.tmp 4) (.seq (.reg [⟨some 2, .mov (.cst (.sl 0 (some true) true [])), none, none, []⟩]) .ret) .skip)) (.seq (.reg [⟨some 5, .bslice 1 0 [.int .u8 0] [], none, none, []⟩, ⟨some 6, .mov (.tmp 0), none, none, []⟩, ⟨some 7, .app 1 1 (.tmp 5) (.tmp 6), none, none, []⟩, ⟨some 2, .mov (.tmp 7), none, none, []⟩]) .ret))

theorem f25 : fnC Try.prog 25 = some (8, c25, [.tmp 2]) := by kernel_rfl

/-! 26: countinghouse/countinghouseref01.Num -/

def c26b0 : VC := .seq (.seq (.reg [⟨some 7, .mov (.tmp 6), none, none, []⟩, ⟨some 8, .mov (.tmp 1), none, none, []⟩, ⟨some 9, .bin .lss (.tmp 7) (.tmp 8), none, none, []⟩]) (.cond (.tmp 9) .skip (.exit 0))) (.seq (.block 1 (.reg [⟨some 12, .mov (.tmp 5), none, none, []⟩, ⟨some 13, .mov (.tmp 0), none, none, []⟩, ⟨some 14, .mov (.tmp 1), none, none, []⟩, ⟨some 15, .bin .sub (.tmp 14) (.cst (.int .i64 1)), none, none, []⟩, ⟨some 16, .mov (.tmp 6), none, none, []⟩, ⟨some 17, .bin .sub (.tmp 15) (.tmp 16), none, none, []⟩, ⟨some 18, .bin .mul (.cst (.int .i64 8)) (.tmp 17), none, none, []⟩, ⟨some 19, .bin .shr (.tmp 13) (.tmp 18), none, none, []⟩, ⟨some 20, .cvi .u8 (.tmp 19), none, none, []⟩, ⟨some 21, .bslice 1 1 [.int .u8 0] [(0, .tmp 20)], none, none, []⟩, ⟨some 22, .app 1 1 (.tmp 12) (.tmp 21), none, none, []⟩, ⟨some 5, .mov (.tmp 22), none, none, []⟩])) (.reg [⟨some 10, .mov (.tmp 6), none, none, []⟩, ⟨some 11, .bin .add (.tmp 10) (.cst (.int .i64 1)), none, none, []⟩, ⟨some 6, .mov (.tmp 11), none, none, []⟩]))

def c26 : VC := .seq (.reg [⟨some 4, .mov (.cst (.sl 0 (some true) true [])), none, none, []⟩]) (.seq (.reg [⟨some 5, .mov (.cst (.sl 0 (some true) true [])), none, none, []⟩]) (.seq (.seq (.reg [⟨some 6, .mov (.cst (.int .i64 0)), none, none, []⟩]) (.block 0 (.loop c26b0))) (.seq (.reg [⟨some 23, .mov (.tmp 5), none, none, []⟩, ⟨some 4, .mov (.tmp 23), none, none, []⟩]) .ret)))

theorem f26 : fnC Try.prog 26 = some (24, c26, [.tmp 4]) := by kernel_rfl

/-! 27: countinghouse/countinghouseref01.Read -/

def c27b0 : VC := .seq (.seq (.reg [⟨some 5, .mov (.tmp 4), none, none, []⟩, ⟨some 6, .mov (.tmp 0), none, none, []⟩, ⟨some 7, .lenl (.tmp 6), none, none, []⟩, ⟨some 8, .bin .lss (.tmp 5) (.tmp 7), none, none, []⟩]) (.cond (.tmp 8) .skip (.exit 0))) (.seq (.block 1 (.reg [⟨some 11, .mov (.tmp 3), none, none, []⟩, ⟨some 12, .bin .mul (.cst (.int .u64 256)) (.tmp 11), none, none, []⟩, ⟨some 13, .mov (.tmp 0), none, none, []⟩, ⟨some 14, .mov (.tmp 4), none, none, []⟩, ⟨some 15, .ixa 1 (.tmp 13) (.tmp 14), none, none, []⟩, ⟨some 16, .load none (.tmp 15), none, none, []⟩, ⟨some 17, .cvi .u64 (.tmp 16), none, none, []⟩, ⟨some 18, .bin .add (.tmp 12) (.tmp 17), none, none, []⟩, ⟨some 3, .mov (.tmp 18), none, none, []⟩])) (.reg [⟨some 9, .mov (.tmp 4), none, none, []⟩, ⟨some 10, .bin .add (.tmp 9) (.cst (.int .i64 1)), none, none, []⟩, ⟨some 4, .mov (.tmp 10), none, none, []⟩]))

def c27 : VC := .seq (.reg [⟨some 2, .mov (.cst (.int .u64 0)), none, none, []⟩]) (.seq (.reg [⟨some 3, .mov (.cst (.int .u64 0)), none, none, []⟩]) (.seq (.seq (.reg [⟨some 4, .mov (.cst (.int .i64 0)), none, none, []⟩]) (.block 0 (.loop c27b0))) (.seq (.reg [⟨some 19, .mov (.tmp 3), none, none, []⟩, ⟨some 2, .mov (.tmp 19), none, none, []⟩]) .ret)))

theorem f27 : fnC Try.prog 27 = some (20, c27, [.tmp 2]) := by kernel_rfl

/-! 28: cmp.Or[int] -/

def c28b0 : VC := .seq (.reg [⟨some 9, .bin .lss (.tmp 8) (.tmp 7), none, none, []⟩]) (.seq (.cond (.tmp 9) .skip (.exit 0)) (.seq (.block 1 (.seq (.reg [⟨some 10, .ixa 1 (.tmp 6) (.tmp 8), none, none, []⟩, ⟨some 11, .load none (.tmp 10), none, none, []⟩, ⟨some 5, .mov (.tmp 11), none, none, []⟩]) (.seq (.reg [⟨some 12, .mov (.tmp 5), none, none, []⟩, ⟨some 13, .mov (.tmp 3), none, none, []⟩, ⟨some 14, .bin .neq (.tmp 12) (.tmp 13), none, none, []⟩]) (.cond (.tmp 14) (.seq (.reg [⟨some 15, .mov (.tmp 5), none, none, []⟩, ⟨some 2, .mov (.tmp 15), none, none, []⟩]) .ret) .skip)))) (.reg [⟨some 16, .bin .add (.tmp 8) (.cst (.int .i64 1)), none, none, []⟩, ⟨some 8, .mov (.tmp 16), none, none, []⟩])))

def c28 : VC := .seq (.reg [⟨some 2, .mov (.cst (.int .i64 0)), none, none, []⟩]) (.seq (.reg [⟨some 3, .mov (.cst (.int .i64 0)), none, none, []⟩]) (.seq (.seq (.reg [⟨some 6, .mov (.tmp 0), none, none, []⟩, ⟨some 7, .lenl (.tmp 6), none, none, []⟩, ⟨some 8, .mov (.cst (.int .i64 0)), none, none, []⟩]) (.block 0 (.loop c28b0))) (.seq (.reg [⟨some 17, .mov (.tmp 3), none, none, []⟩, ⟨some 2, .mov (.tmp 17), none, none, []⟩]) .ret)))

theorem f28 : fnC Try.prog 28 = some (18, c28, [.tmp 2]) := by kernel_rfl

/-! 29: cmp.Compare[byte] -/

def c29 : VC := .seq (.reg [⟨some 4, .mov (.cst (.int .i64 0)), none, none, []⟩]) (.seq (.reg [⟨some 7, .mov (.tmp 0), none, none, []⟩, ⟨some 8, .mov (.cst .undef), some (.cst (.func 32 []), [.tmp 7]), none, []⟩, ⟨some 5, .mov (.tmp 8), none, none, []⟩]) (.seq (.reg [⟨some 9, .mov (.tmp 1), none, none, []⟩, ⟨some 10, .mov (.cst .undef), some (.cst (.func 32 []), [.tmp 9]), none, []⟩, ⟨some 6, .mov (.tmp 10), none, none, []⟩]) (.seq (.seq (.reg [⟨some 11, .mov (.tmp 5), none, none, []⟩]) (.cond (.tmp 11) (.seq (.seq (.reg [⟨some 12, .mov (.tmp 6), none, none, []⟩]) (.cond (.tmp 12) (.seq (.reg [⟨some 4, .mov (.cst (.int .i64 0)), none, none, []⟩]) .ret) .skip)) (.seq (.reg [⟨some 4, .mov (.cst (.int .i64 (-1))), none, none, []⟩]) .ret)) .skip)) (.seq (.seq (.reg [⟨some 13, .mov (.tmp 6), none, none, []⟩]) (.cond (.tmp 13) (.seq (.reg [⟨some 4, .mov (.cst (.int .i64 1)), none, none, []⟩]) .ret) .skip)) (.seq (.seq (.reg [⟨some 14, .mov (.tmp 0), none, none, []⟩, ⟨some 15, .mov (.tmp 1), none, none, []⟩, ⟨some 16, .bin .lss (.tmp 14) (.tmp 15), none, none, []⟩]) (.cond (.tmp 16) (.seq (.reg [⟨some 4, .mov (.cst (.int .i64 (-1))), none, none, []⟩]) .ret) .skip)) (.seq (.seq (.reg [⟨some 17, .mov (.tmp 0), none, none, []⟩, ⟨some 18, .mov (.tmp 1), none, none, []⟩, ⟨some 19, .bin .gtr (.tmp 17) (.tmp 18), none, none, []⟩]) (.cond (.tmp 19) (.seq (.reg [⟨some 4, .mov (.cst (.int .i64 1)), none, none, []⟩]) .ret) .skip)) (.seq (.reg [⟨some 4, .mov (.cst (.int .i64 0)), none, none, []⟩]) .ret)))))))

theorem f29 : fnC Try.prog 29 = some (20, c29, [.tmp 4]) := by kernel_rfl

/-! 30: cmp.Compare[int64] -/

def c30 : VC := .seq (.reg [⟨some 4, .mov (.cst (.int .i64 0)), none, none, []⟩]) (.seq (.reg [⟨some 7, .mov (.tmp 0), none, none, []⟩, ⟨some 8, .mov (.cst .undef), some (.cst (.func 33 []), [.tmp 7]), none, []⟩, ⟨some 5, .mov (.tmp 8), none, none, []⟩]) (.seq (.reg [⟨some 9, .mov (.tmp 1), none, none, []⟩, ⟨some 10, .mov (.cst .undef), some (.cst (.func 33 []), [.tmp 9]), none, []⟩, ⟨some 6, .mov (.tmp 10), none, none, []⟩]) (.seq (.seq (.reg [⟨some 11, .mov (.tmp 5), none, none, []⟩]) (.cond (.tmp 11) (.seq (.seq (.reg [⟨some 12, .mov (.tmp 6), none, none, []⟩]) (.cond (.tmp 12) (.seq (.reg [⟨some 4, .mov (.cst (.int .i64 0)), none, none, []⟩]) .ret) .skip)) (.seq (.reg [⟨some 4, .mov (.cst (.int .i64 (-1))), none, none, []⟩]) .ret)) .skip)) (.seq (.seq (.reg [⟨some 13, .mov (.tmp 6), none, none, []⟩]) (.cond (.tmp 13) (.seq (.reg [⟨some 4, .mov (.cst (.int .i64 1)), none, none, []⟩]) .ret) .skip)) (.seq (.seq (.reg [⟨some 14, .mov (.tmp 0), none, none, []⟩, ⟨some 15, .mov (.tmp 1), none, none, []⟩, ⟨some 16, .bin .lss (.tmp 14) (.tmp 15), none, none, []⟩]) (.cond (.tmp 16) (.seq (.reg [⟨some 4, .mov (.cst (.int .i64 (-1))), none, none, []⟩]) .ret) .skip)) (.seq (.seq (.reg [⟨some 17, .mov (.tmp 0), none, none, []⟩, ⟨some 18, .mov (.tmp 1), none, none, []⟩, ⟨some 19, .bin .gtr (.tmp 17) (.tmp 18), none, none, []⟩]) (.cond (.tmp 19) (.seq (.reg [⟨some 4, .mov (.cst (.int .i64 1)), none, none, []⟩]) .ret) .skip)) (.seq (.reg [⟨some 4, .mov (.cst (.int .i64 0)), none, none, []⟩]) .ret)))))))

theorem f30 : fnC Try.prog 30 = some (20, c30, [.tmp 4]) := by kernel_rfl

/-! 31: strings.Compare -/

def c31 : VC := .seq (.reg [⟨some 4, .mov (.cst (.int .i64 0)), none, none, []⟩]) (.seq (.reg [⟨some 5, .mov (.tmp 0), none, none, []⟩, ⟨some 6, .mov (.tmp 1), none, none, []⟩, ⟨some 7, .mov (.cst .undef), some (.cst (.func 34 []), [.tmp 5, .tmp 6]), none, []⟩, ⟨some 4, .mov (.tmp 7), none, none, []⟩]) .ret)

theorem f31 : fnC Try.prog 31 = some (8, c31, [.tmp 4]) := by kernel_rfl

/-! 32: cmp.isNaN[byte] -/

def c32 : VC := .seq (.reg [⟨some 2, .mov (.cst (.bool false)), none, none, []⟩]) (.seq (.reg [⟨some 3, .mov (.tmp 0), none, none, []⟩, ⟨some 4, .mov (.tmp 0), none, none, []⟩, ⟨some 5, .bin .neq (.tmp 3) (.tmp 4), none, none, []⟩, ⟨some 2, .mov (.tmp 5), none, none, []⟩]) .ret)

theorem f32 : fnC Try.prog 32 = some (6, c32, [.tmp 2]) := by kernel_rfl

/-! 33: cmp.isNaN[int64] -/

def c33 : VC := .seq (.reg [⟨some 2, .mov (.cst (.bool false)), none, none, []⟩]) (.seq (.reg [⟨some 3, .mov (.tmp 0), none, none, []⟩, ⟨some 4, .mov (.tmp 0), none, none, []⟩, ⟨some 5, .bin .neq (.tmp 3) (.tmp 4), none, none, []⟩, ⟨some 2, .mov (.tmp 5), none, none, []⟩]) .ret)

theorem f33 : fnC Try.prog 33 = some (6, c33, [.tmp 2]) := by kernel_rfl

/-! 34: internal/bytealg.CompareString -/

def c34 : VC := .seq (.reg [⟨some 4, .mov (.cst (.int .i64 0)), none, none, []⟩]) (.seq (.reg [⟨some 5, .mov (.tmp 0), none, none, []⟩, ⟨some 6, .mov (.tmp 1), none, none, []⟩, ⟨some 7, .mov (.cst .undef), some (.cst (.func 35 []), [.tmp 5, .tmp 6]), none, []⟩, ⟨some 4, .mov (.tmp 7), none, none, []⟩]) .ret)

theorem f34 : fnC Try.prog 34 = some (8, c34, [.tmp 4]) := by kernel_rfl

end Go.Proofs.Ytjlcnnijpmijhaa.V

/- Values' bytes: what the small functions come to. -/
namespace Go.Proofs.Ytjlcnnijpmijhaa.V
open Go.IntWalk

/-- The number of bytes, the highest first. -/
def num (l : List UInt8) : UInt64 := l.foldl (fun n b => n <<< 8 ||| b.toUInt64) 0

theorem takeN (nl : Option Bool) (own : Bool) (l : List UInt8) (n : Nat) (h : n ≤ l.length) : PCallN Try.prog 22 [.sl 1 nl own (bs l), .int .i64 n] (.tup [.sl 1 nl false (bs (l.take n)), .sl 1 nl false (bs (l.drop n)), .bool true]) := by
  refine PCallN.of (tr []) f22 (Nat.le_of_ble_eq_true rfl) (np_cons (np_bs _) (np_cons (.int _ _) np_nil)) (.tup _ (np_cons (np_bs _) (np_cons (np_bs _) (np_cons (.bool _) np_nil)))) ?_
  refine cond_f (decide_eq_false (by rw [bs_len]; omega)) ?_
  refine And.intro (.inl rfl) (And.intro (by rw [bs_len]; omega) ?_)
  refine And.intro (.inl rfl) (And.intro (by rw [bs_len]; omega) ?_)
  refine And.intro (by kernel_rfl) ?_
  refine tup3 (sl_eq ?_) (sl_eq ?_) (bool_eq rfl)
  · exact cut_bs (a := 0) rfl rfl h
  · rw [cut_bs rfl (congrArg Nat.cast (bs_len l)) (Nat.le_refl _), List.take_of_length_le (by simp)]

theorem takeF (nl : Option Bool) (own : Bool) (l : List UInt8) (n : Int) (h : l.length < n) : PCallN Try.prog 22 [.sl 1 nl own (bs l), .int .i64 n] (.tup [.sl 0 (some true) false [], .sl 0 (some true) false [], .bool false]) := by
  refine PCallN.of (tr []) f22 (Nat.le_of_ble_eq_true rfl) (np_cons (np_bs _) (np_cons (.int _ _) np_nil)) (.tup _ (np_cons np_nilsl (np_cons np_nilsl (np_cons (.bool _) np_nil)))) ?_
  refine cond_t (decide_eq_true (by rw [bs_len]; omega)) ?_
  exact tup3 (sl_eq rfl) (sl_eq rfl) (bool_eq rfl)

theorem numStep (n : UInt64) (b : UInt8) : IntKind.u64.wrap ((BitVec.ofInt 64 (IntKind.u64.wrap ((n.toNat : Int) * 2 ^ 8))) ||| BitVec.ofInt 64 (IntKind.u64.wrap (b.toNat : Int))).toNat = ((n <<< 8 ||| b.toUInt64).toNat : Int) := by
  rw [w_u64, w_u64, w_u64]
  have h1 := n.toNat_lt
  have h2 := b.toNat_lt
  have e1 : BitVec.ofInt 64 ((n.toNat : Int) * 2 ^ 8 % 18446744073709551616) = n.toBitVec <<< 8 := by
    apply BitVec.eq_of_toNat_eq
    rw [BitVec.toNat_ofInt, BitVec.toNat_shiftLeft, Nat.shiftLeft_eq]
    simp only [UInt64.toNat_toBitVec]
    omega
  have e2 : BitVec.ofInt 64 ((b.toNat : Int) % 18446744073709551616) = b.toUInt64.toBitVec := by
    apply BitVec.eq_of_toNat_eq
    rw [BitVec.toNat_ofInt]
    simp only [UInt64.toNat_toBitVec, UInt8.toNat_toUInt64]
    omega
  rw [e1, e2]
  have e3 : (n <<< 8 ||| b.toUInt64).toBitVec = (n.toBitVec <<< 8 ||| b.toUInt64.toBitVec) := by
    simp [UInt64.toBitVec_or, UInt64.toBitVec_shiftLeft]
  rw [← e3]
  have := (n <<< 8 ||| b.toUInt64).toNat_lt
  simp only [UInt64.toNat_toBitVec]
  omega

theorem num_snoc (l : List UInt8) (b : UInt8) : num (l ++ [b]) = num l <<< 8 ||| b.toUInt64 := by simp [num]

def numAt (l : List UInt8) (k : Nat) : List (Nat × AV) := [(3, .int .u64 (num (l.take k)).toNat), (6, .sl 1 none false (bs l)), (7, .int .i64 l.length), (8, .int .i64 k)]

theorem numLoop (l : List UInt8) (Q : VE → Sy → Prop) (hl : l.length ≤ 1000000) (hQ : Q (.exit 0) ⟨[], (9, .bool (decide ((l.length : Int) < l.length))) :: numAt l l.length, []⟩) :
    ∀ m k, k + m = l.length → VloopS Try.prog (tr []) 19 0 c24b0 Q ⟨[], numAt l k, []⟩
  | 0, k, hk => by
    have e : k = l.length := by omega
    subst e
    refine VloopS.round ?_
    refine cond_f (decide_eq_false (by omega)) ?_
    exact hQ
  | m + 1, k, hk => by
    have hlt : k < l.length := by omega
    refine VloopS.round ?_
    refine cond_t (decide_eq_true (by omega)) ?_
    refine And.intro rfl (And.intro (Int.natCast_nonneg k) (Exists.intro [.int .u8 (l[k].toNat : Int)] (And.intro (bs_get hlt) ?_)))
    refine And.intro (by decide) ?_
    refine VloopS.weak (l := numAt l (k + 1)) rfl ?_ (Nat.zero_le _) (numLoop l Q hl hQ m (k + 1) (by omega))
    refine ⟨.eq ?_, .refl _, .refl _, .eq ?_, trivial⟩
    · refine congrArg (AV.int .u64) ((numStep (num (l.take k)) l[k]).trans ?_)
      rw [take_snoc l k hlt, num_snoc]
    · exact congrArg (AV.int .i64) (i64_in _ (by omega))

theorem numberN (nl : Option Bool) (own : Bool) (l : List UInt8) (hl : l.length ≤ 1000000) : PCallN Try.prog 24 [.sl 1 nl own (bs l)] (.int .u64 (num l).toNat) := by
  refine PCallN.of (tr []) f24 (Nat.le_of_ble_eq_true rfl) (np_cons (np_bs _) np_nil) (.int _ _) ?_
  refine VloopS.weak (l := numAt l 0) rfl ⟨.refl _, .both _ _ _ _, .eq (by rw [← bs_len]; rfl), .refl _, trivial⟩ (Nat.zero_le _) (numLoop l _ hl ?_ l.length 0 (by omega))
  exact int_eq (by rw [List.take_length])

/-! Read -/

theorem readStep (n : UInt64) (b : UInt8) : IntKind.u64.wrap (IntKind.u64.wrap (256 * (n.toNat : Int)) + IntKind.u64.wrap (b.toNat : Int)) = ((n <<< 8 ||| b.toUInt64).toNat : Int) := by
  rw [← numStep, w_u64, w_u64, w_u64, w_u64, w_u64]
  have h1 := n.toNat_lt
  have h2 := b.toNat_lt
  have e1 : BitVec.ofInt 64 ((n.toNat : Int) * 2 ^ 8 % 18446744073709551616) = n.toBitVec <<< 8 := by
    apply BitVec.eq_of_toNat_eq
    rw [BitVec.toNat_ofInt, BitVec.toNat_shiftLeft, Nat.shiftLeft_eq]
    simp only [UInt64.toNat_toBitVec]
    omega
  have e2 : (BitVec.ofInt 64 ((b.toNat : Int) % 18446744073709551616)).toNat = b.toNat := by
    rw [BitVec.toNat_ofInt]
    omega
  rw [BitVec.toNat_or, e1, e2, BitVec.toNat_shiftLeft]
  simp only [UInt64.toNat_toBitVec, Nat.shiftLeft_eq]
  have e4 : n.toNat * 2 ^ 8 % 2 ^ 64 ||| b.toNat = n.toNat * 2 ^ 8 % 2 ^ 64 + b.toNat := by
    have e5 : n.toNat * 2 ^ 8 % 2 ^ 64 = (n.toNat % 2 ^ 56) <<< 8 := by rw [Nat.shiftLeft_eq]; omega
    rw [e5, Nat.shiftLeft_add_eq_or_of_lt (by omega)]
  rw [e4]
  omega

def readAt (l : List UInt8) (k : Nat) : List (Nat × AV) := [(0, .sl 1 none false (bs l)), (3, .int .u64 (num (l.take k)).toNat), (4, .int .i64 k)]

theorem readLoop (l : List UInt8) (Q : VE → Sy → Prop) (hl : l.length ≤ 1000000) (hQ : Q (.exit 0) ⟨[], (8, .bool (decide ((l.length : Int) < (bs l).length))) :: (7, .int .i64 (bs l).length) :: (6, .sl 1 none false (bs l)) :: (5, .int .i64 l.length) :: readAt l l.length, []⟩) :
    ∀ m k, k + m = l.length → VloopS Try.prog (tr []) 20 0 c27b0 Q ⟨[], readAt l k, []⟩
  | 0, k, hk => by
    have e : k = l.length := by omega
    subst e
    refine VloopS.round ?_
    refine cond_f (decide_eq_false (by rw [bs_len]; omega)) ?_
    exact hQ
  | m + 1, k, hk => by
    have hlt : k < l.length := by omega
    refine VloopS.round ?_
    refine cond_t (decide_eq_true (by rw [bs_len]; omega)) ?_
    refine And.intro rfl (And.intro (Int.natCast_nonneg k) (Exists.intro [.int .u8 (l[k].toNat : Int)] (And.intro (bs_get hlt) ?_)))
    refine VloopS.weak (l := readAt l (k + 1)) rfl ?_ (Nat.zero_le _) (readLoop l Q hl hQ m (k + 1) (by omega))
    refine ⟨.refl _, .eq ?_, .eq ?_, trivial⟩
    · refine congrArg (AV.int .u64) ((readStep (num (l.take k)) l[k]).trans ?_)
      rw [take_snoc l k hlt, num_snoc]
    · exact congrArg (AV.int .i64) (i64_in _ (by omega))

theorem readN (nl : Option Bool) (own : Bool) (l : List UInt8) (hl : l.length ≤ 1000000) : PCallN Try.prog 27 [.sl 1 nl own (bs l)] (.int .u64 (num l).toNat) := by
  refine PCallN.of (tr []) f27 (Nat.le_of_ble_eq_true rfl) (np_cons (np_bs _) np_nil) (.int _ _) ?_
  refine VloopS.weak (l := readAt l 0) rfl ⟨.both _ _ _ _, .refl _, .refl _, trivial⟩ (Nat.zero_le _) (readLoop l _ hl ?_ l.length 0 (by omega))
  exact int_eq (by rw [List.take_length])

/-! Join, Clone -/

theorem joinN (nl nl' : Option Bool) (own own' : Bool) (a b : List UInt8) (h : a.length + b.length ≤ 1000000) : PCallN Try.prog 13 [.sl 1 nl own (bs a), .sl 1 nl' own' (bs b)] (.sl 1 none true (bs (a ++ b))) := by
  refine PCallN.of (tr [4, 5, 9]) f13 (Nat.le_of_ble_eq_true rfl) (np_cons (np_bs _) (np_cons (np_bs _) np_nil)) (np_bs _) ?_
  refine And.intro (.inr ⟨rfl, rfl⟩) (And.intro (.inl rfl) (And.intro ?_ ?_))
  · simp only [List.length_nil, bs_len]; omega
  refine And.intro (.inl ⟨rfl, rfl⟩) (And.intro (.inl rfl) (And.intro ?_ ?_))
  · simp only [List.length_append, List.length_nil, bs_len]; omega
  exact sl_eq (bs_app a b)

theorem cloneN (nl : Option Bool) (own : Bool) (l : List UInt8) (h : l.length ≤ 1000000) : PCallN Try.prog 25 [.sl 1 nl own (bs l)] (.sl 1 none false (bs l)) := by
  have hn : ∀ a, a ∈ [AV.sl 1 nl own (bs l)] → NP (fun _ => False) a := np_cons (np_bs _) np_nil
  refine PCallN.weakArgs (args' := [.sl 1 none own (bs l)]) (.cons _ _ _ _ (.nl _ _ _ _) .nil) hn ?_
  refine PCallN.splitNil 0 rfl (np_cons (np_bs _) np_nil) (fun e => ?_) ?_
  · have el : l = [] := by simpa [bs] using e
    subst el
    refine PCallN.weakRet (ret := .sl 0 (some true) false []) (.nil _ _ _ _ _ (by simp)) ?_
    refine PCallN.of (tr []) f25 (Nat.le_of_ble_eq_true rfl) (np_cons np_nilsl np_nil) np_nilsl ?_
    refine cond_t rfl ?_
    exact sl_eq rfl
  · refine PCallN.weakRet (ret := .sl 1 (some false) false (bs l)) (.nl _ _ _ _) ?_
    refine PCallN.of (tr []) f25 (Nat.le_of_ble_eq_true rfl) (np_cons (np_bs _) np_nil) (np_bs _) ?_
    refine cond_f rfl ?_
    refine And.intro (.inl ⟨rfl, rfl⟩) (And.intro (.inl rfl) (And.intro ?_ ?_))
    · simp only [List.length_nil, bs_len]; omega
    exact sl_eq rfl

/-! Bytes -/

def byAt (a b : List UInt8) (k : Nat) : List (Nat × AV) := [(0, .sl 1 none false (bs a)), (1, .sl 1 none false (bs b)), (5, .int .i64 k)]

theorem byLoop (a b : List UInt8) (Q : VE → Sy → Prop) (he : a.length = b.length) (hl : a.length ≤ 1000000)
    (hQ : a = b → Q (.exit 0) ⟨[], (14, .bool (decide ((a.length : Int) < (bs a).length))) :: (13, .int .i64 (bs a).length) :: (12, .sl 1 none false (bs a)) :: (11, .int .i64 a.length) :: byAt a b a.length, []⟩)
    (hr : ∀ σ : Sy, a ≠ b → σ.get 4 = .bool false → Q .ret σ) :
    ∀ m k, k + m = a.length → a.take k = b.take k → VloopS Try.prog (tr []) 26 0 c15b0 Q ⟨[], byAt a b k, []⟩
  | 0, k, hk, ht => by
    have e : k = a.length := by omega
    subst e
    refine VloopS.round ?_
    refine cond_f (decide_eq_false (by rw [bs_len]; omega)) ?_
    refine hQ ?_
    rw [List.take_length, he, List.take_length] at ht
    exact ht
  | m + 1, k, hk, ht => by
    have hlt : k < a.length := by omega
    have hlt' : k < b.length := by omega
    refine VloopS.round ?_
    refine cond_t (decide_eq_true (by rw [bs_len]; omega)) ?_
    refine And.intro rfl (And.intro (Int.natCast_nonneg k) (Exists.intro [.int .u8 (a[k].toNat : Int)] (And.intro (bs_get hlt) ?_)))
    refine And.intro rfl (And.intro (Int.natCast_nonneg k) (Exists.intro [.int .u8 (b[k].toNat : Int)] (And.intro (bs_get hlt') ?_)))
    refine And.intro (by kernel_rfl) ?_
    by_cases hab : a[k] = b[k]
    · refine cond_f (by rw [hab]; exact bne_self_eq_false _) ?_
      refine VloopS.weak (l := byAt a b (k + 1)) rfl ?_ (Nat.zero_le _) (byLoop a b Q he hl hQ hr m (k + 1) (by omega) (by rw [take_snoc a k hlt, take_snoc b k hlt', ht, hab]))
      exact ⟨.refl _, .refl _, .eq (congrArg (AV.int .i64) (i64_in _ (by omega))), trivial⟩
    · refine cond_t (bne_iff_ne.2 fun e => hab (UInt8.toNat_inj.1 (by omega))) ?_
      exact hr _ (fun e => hab (by subst e; rfl)) rfl

theorem bytesN (nl nl' : Option Bool) (own own' : Bool) (a b : List UInt8) (ha : a.length ≤ 1000000) : PCallN Try.prog 15 [.sl 1 nl own (bs a), .sl 1 nl' own' (bs b)] (.bool (decide (a = b))) := by
  refine PCallN.of (tr []) f15 (Nat.le_of_ble_eq_true rfl) (np_cons (np_bs _) (np_cons (np_bs _) np_nil)) (.bool _) ?_
  by_cases he : a.length = b.length
  · refine cond_f (by rw [bs_len, bs_len, he]; exact bne_self_eq_false _) ?_
    refine VloopS.weak (l := byAt a b 0) rfl ⟨.both _ _ _ _, .both _ _ _ _, .refl _, trivial⟩ (Nat.zero_le _) (byLoop a b _ he ha (fun e => ?_) (fun σ hne hσ => ?_) a.length 0 (by omega) rfl)
    · exact bool_eq (decide_eq_true e).symm
    · exact hσ.trans (bool_eq (decide_eq_false hne).symm)
  · refine cond_t (bne_iff_ne.2 (by rw [bs_len, bs_len]; omega)) ?_
    exact bool_eq (decide_eq_false fun e => he (by rw [e])).symm

end Go.Proofs.Ytjlcnnijpmijhaa.V

/- Values: what Encode and Num come to. -/
namespace Go.Proofs.Ytjlcnnijpmijhaa.V
open Go.IntWalk

structure Va where
  k : UInt8
  n : Int
  s : List UInt8
  deriving DecidableEq

def Va.c (v : Va) : List AV := [.int .u8 v.k.toNat, .int .i64 v.n, .str (st v.s)]
def Va.av (v : Va) : AV := .agg v.c

theorem Va.np {ok : Nat → Prop} (v : Va) : NP ok v.av := .agg _ (np_cons (.int _ _) (np_cons (.int _ _) (np_cons (.str _) np_nil)))

theorem w_u8 (n : Int) : IntKind.u8.wrap n = n % 256 := by simp [IntKind.wrap, IntKind.bits, IntKind.signed]

def byteAt (n : Int) (i : Nat) : UInt8 := UInt8.ofNat (n / 2 ^ (8 * i) % 256).toNat

theorem byteAt_toNat (n : Int) (i : Nat) : ((byteAt n i).toNat : Int) = n / 2 ^ (8 * i) % 256 := by
  unfold byteAt
  have h1 : 0 ≤ n / 2 ^ (8 * i) % 256 := Int.emod_nonneg _ (by decide)
  have h2 : n / 2 ^ (8 * i) % 256 < 256 := Int.emod_lt_of_pos _ (by decide)
  simp only [UInt8.toNat_ofNat']
  omega

/-- So many bytes of a number, the highest first. -/
def be (n : Int) : Nat → List UInt8
  | 0 => []
  | m + 1 => byteAt n m :: be n m

theorem be_len (n : Int) (m : Nat) : (be n m).length = m := by
  induction m with
  | zero => rfl
  | succ m ih => simp [be, ih]

def Va.enc (v : Va) : List UInt8 := v.k :: (if v.k = 1 then be v.n 8 else if v.k = 2 then be v.s.length 2 ++ v.s else [])

theorem shr_byte (n : Int) (m : Nat) (hm : m ≤ 7) : IntKind.u8.wrap (n.fdiv (2 ^ min (IntKind.i64.wrap (8 * (m : Int))).toNat 64)) = ((byteAt n m).toNat : Int) := by
  rw [byteAt_toNat, w_u8, i64_in _ (by omega)]
  have : min (8 * (m : Int)).toNat 64 = 8 * m := by omega
  rw [this, Int.fdiv_eq_ediv_of_nonneg _ (Int.pow_nonneg (by decide))]

def encAt (_v : Va) (p : List UInt8) (m : Nat) : List (Nat × AV) := [(1, .ptr (some (0, 0))), (3, .sl 1 none true (bs p)), (4, .int .i64 ((m : Int) - 1))]

theorem encLoop (v : Va) (Q : VE → Sy → Prop) (tot : List UInt8) (ht : tot.length ≤ 1000) (hQ : Q (.exit 1) ⟨[], (13, .bool (decide ((0 : Int) - 1 ≥ 0))) :: (12, .int .i64 ((0 : Int) - 1)) :: encAt v tot 0, [.cells v.c]⟩) :
    ∀ m p, m ≤ 8 → p ++ be v.n m = tot → VloopS Try.prog (tr [3, 16]) 44 0 c11b0 Q ⟨[], encAt v p m, [.cells v.c]⟩
  | 0, p, hm, hp => by
    have e : p = tot := by simpa [be] using hp
    subst e
    refine VloopS.round ?_
    refine cond_f (by decide) ?_
    exact hQ
  | m + 1, p, hm, hp => by
    refine VloopS.round ?_
    have hl : p.length + (m + 1) = tot.length := by rw [← hp, List.length_append, be_len]
    refine cond_t (decide_eq_true (by omega)) ?_
    refine And.intro ?_ ?_
    · rw [i64_in _ (by omega)]; omega
    refine And.intro (.inl ⟨rfl, rfl⟩) (And.intro (.inl rfl) (And.intro ?_ ?_))
    · simp only [List.length_cons, List.length_nil, bs_len]; omega
    refine VloopS.weak (l := encAt v (p ++ [byteAt v.n m]) m) rfl ?_ (Nat.zero_le _) (encLoop v Q tot ht hQ m (p ++ [byteAt v.n m]) (by omega) (by rw [← hp]; simp [be]))
    refine ⟨.refl _, .eq (sl_eq ?_), .eq (int_eq ?_), trivial⟩
    · rw [← bs_app]
      refine congrArg (bs p ++ ·) ?_
      refine congrArg (fun x => [[AV.int .u8 x]]) ?_
      have : (((m + 1 : Nat) : Int) - 1) = (m : Int) := by omega
      rw [this]
      exact shr_byte v.n m (by omega)
    · rw [i64_in _ (by omega)]; omega

theorem u8_eq {k : UInt8} {c : Int} (h : (k.toNat : Int) = c) : ((k.toNat : Int) == c) = true := beq_iff_eq.2 h
theorem u8_ne {k : UInt8} {c : Int} (h : (k.toNat : Int) ≠ c) : ((k.toNat : Int) == c) = false := beq_eq_false_iff_ne.2 h
theorem u8_val {k c : UInt8} (h : k ≠ c) : (k.toNat : Int) ≠ (c.toNat : Int) := fun e => h (UInt8.toNat_inj.1 (by omega))

theorem low_byte (n : Int) : IntKind.u8.wrap n = ((byteAt n 0).toNat : Int) := by
  rw [byteAt_toNat, w_u8]
  simp

theorem encodeN (v : Va) (hs : v.s.length ≤ 200) : PCallN Try.prog 11 [v.av] (.sl 1 none true (bs v.enc)) := by
  by_cases h1 : v.k = 1
  · refine PCallN.of (tr [2, 3, 16, 27, 39, 43]) f11 (Nat.le_of_ble_eq_true rfl) (np_cons v.np np_nil) (np_bs _) ?_
    refine cond_t (by rw [h1]; rfl) ?_
    have he : v.enc = v.k :: be v.n 8 := by rw [Va.enc, if_pos h1]
    refine VloopS.weak (l := encAt v [v.k] 8) rfl ⟨.refl _, .nl _ _ _ _, .eq (int_eq rfl), trivial⟩ (Nat.zero_le _) ?_
    refine encLoop v _ v.enc (by rw [he, List.length_cons, be_len]; decide) ?_ 8 [v.k] (by decide) (by rw [he]; rfl)
    exact sl_eq rfl
  · by_cases h2 : v.k = 2
    · refine PCallN.weakRet (ret := .sl 1 (some false) true (bs v.enc)) (.nl _ _ _ _) ?_
      refine PCallN.of (tr [2, 3, 16, 27, 39, 43]) f11 (Nat.le_of_ble_eq_true rfl) (np_cons v.np np_nil) (np_bs _) ?_
      refine cond_f (by rw [h2]; rfl) ?_
      refine cond_t (by rw [h2]; rfl) ?_
      refine And.intro (by decide) ?_
      refine And.intro (.inl ⟨rfl, rfl⟩) (And.intro (.inl rfl) (And.intro (And.intro (Nat.le_of_ble_eq_true rfl) (Nat.le_of_ble_eq_true rfl)) ?_))
      refine And.intro (.inl ⟨rfl, rfl⟩) (And.intro ?_ ?_)
      · simp only [List.length_append, List.length_cons, List.length_nil, st_size]; omega
      refine sl_eq ?_
      rw [Va.enc, if_neg h1, if_pos h2, bs_st, st_size]
      have e1 := shr_byte (v.s.length : Int) 1 (by decide)
      have e2 := low_byte (v.s.length : Int)
      have e3 : IntKind.u8.wrap ((v.s.length : Int).fdiv (2 ^ min (8 : Int).toNat IntKind.i64.bits)) = ((byteAt v.s.length 1).toNat : Int) := by
        rw [← e1, i64_in _ (by omega)]; rfl
      show [AV.int .u8 v.k.toNat] :: [AV.int .u8 _] :: [AV.int .u8 _] :: bs v.s = _
      rw [e3, e2]
      rfl
    · refine PCallN.weakRet (ret := .sl 1 (some false) true (bs v.enc)) (.nl _ _ _ _) ?_
      refine PCallN.of (tr [2, 3, 16, 27, 39, 43]) f11 (Nat.le_of_ble_eq_true rfl) (np_cons v.np np_nil) (np_bs _) ?_
      refine cond_f (u8_ne (u8_val h1)) ?_
      refine cond_f (u8_ne (u8_val h2)) ?_
      refine sl_eq ?_
      rw [Va.enc, if_neg h1, if_neg h2]
      rfl

end Go.Proofs.Ytjlcnnijpmijhaa.V

/- Values: what the document's Encode comes to; what is right. -/
namespace Go.Proofs.Ytjlcnnijpmijhaa.V
open Go.IntWalk

def nmAt (x : Int) (size : Nat) (p : List UInt8) (m : Nat) : List (Nat × AV) := [(0, .int .u64 x), (1, .int .i64 size), (5, .sl 1 none true (bs p)), (6, .int .i64 ((size : Int) - m))]

theorem nmLoop (x : Int) (size : Nat) (hs : size ≤ 8) (Q : VE → Sy → Prop) (hQ : Q (.exit 0) ⟨[], (9, .bool (decide ((size : Int) - (0 : Nat) < size))) :: (8, .int .i64 size) :: (7, .int .i64 ((size : Int) - (0 : Nat))) :: nmAt x size (be x size) 0, []⟩) :
    ∀ m p, m ≤ size → p ++ be x m = be x size → VloopS Try.prog (tr [5, 12]) 24 0 c26b0 Q ⟨[], nmAt x size p m, []⟩
  | 0, p, hm, hp => by
    have e : p = be x size := by simpa [be] using hp
    subst e
    refine VloopS.round ?_
    refine cond_f (decide_eq_false (by omega)) ?_
    exact hQ
  | m + 1, p, hm, hp => by
    refine VloopS.round ?_
    have hl : p.length + (m + 1) = size := by
      have := congrArg List.length hp
      rw [List.length_append, be_len, be_len] at this
      exact this
    refine cond_t (decide_eq_true (by omega)) ?_
    have e0 : IntKind.i64.wrap (IntKind.i64.wrap ((size : Int) - 1) - ((size : Int) - ((m + 1 : Nat) : Int))) = (m : Int) := by
      rw [i64_in ((size : Int) - 1) (by omega), i64_in _ (by omega)]; omega
    refine And.intro ?_ ?_
    · rw [e0, i64_in _ (by omega)]; omega
    refine And.intro (.inl ⟨rfl, rfl⟩) (And.intro (.inl rfl) (And.intro ?_ ?_))
    · simp only [List.length_cons, List.length_nil, bs_len]; omega
    refine VloopS.weak (l := nmAt x size (p ++ [byteAt x m]) m) rfl ?_ (Nat.zero_le _) (nmLoop x size hs Q hQ m (p ++ [byteAt x m]) (by omega) (by rw [← hp]; simp [be]))
    refine ⟨.refl _, .refl _, .eq (sl_eq ?_), .eq (int_eq ?_), trivial⟩
    · rw [← bs_app]
      refine congrArg (bs p ++ ·) ?_
      refine congrArg (fun x => [[AV.int .u8 x]]) ?_
      rw [e0]
      exact shr_byte x m (by omega)
    · rw [i64_in _ (by omega)]; omega

theorem numSN (x : Int) (size : Nat) (hs : size ≤ 8) : PCallN Try.prog 26 [.int .u64 x, .int .i64 size] (.sl 1 none true (bs (be x size))) := by
  refine PCallN.of (tr [4, 5, 12, 23]) f26 (Nat.le_of_ble_eq_true rfl) (np_cons (.int _ _) (np_cons (.int _ _) np_nil)) (np_bs _) ?_
  refine VloopS.weak (l := nmAt x size [] size) rfl ⟨.refl _, .refl _, .nil _ _ _ _ _ (by simp), .eq (int_eq (by omega)), trivial⟩ (Nat.zero_le _) ?_
  refine nmLoop x size hs _ ?_ size [] (Nat.le_refl _) rfl
  exact sl_eq rfl

theorem be_u64 (n : Int) : be (IntKind.u64.wrap n) 8 = be n 8 := by
  rw [w_u64]
  have key : ∀ i, i ≤ 7 → byteAt (n % 18446744073709551616) i = byteAt n i := by
    intro i hi
    apply UInt8.toNat_inj.1
    have h1 := byteAt_toNat (n % 18446744073709551616) i
    have h2 := byteAt_toNat n i
    have h3 : n % 18446744073709551616 / 2 ^ (8 * i) % 256 = n / 2 ^ (8 * i) % 256 := by
      have : i = 0 ∨ i = 1 ∨ i = 2 ∨ i = 3 ∨ i = 4 ∨ i = 5 ∨ i = 6 ∨ i = 7 := by omega
      rcases this with rfl | rfl | rfl | rfl | rfl | rfl | rfl | rfl <;> omega
    omega
  simp only [be, key 7 (by decide), key 6 (by decide), key 5 (by decide), key 4 (by decide), key 3 (by decide), key 2 (by decide), key 1 (by decide), key 0 (by decide)]

theorem rEncodeN (v : Va) (hs : v.s.length ≤ 200) : PCallN Try.prog 16 [v.av] (.sl 1 none false (bs v.enc)) := by
  by_cases h1 : v.k = 1
  · have he : v.enc = v.k :: be v.n 8 := by rw [Va.enc, if_pos h1]
    refine PCallN.of (tr []) f16 (Nat.le_of_ble_eq_true rfl) (np_cons v.np np_nil) (np_bs _) ?_
    refine cond_t (by rw [h1]; rfl) ?_
    refine call_p (numSN _ 8 (by decide)) ?_
    refine call_p (joinN _ _ _ _ [v.k] _ (by rw [be_len]; exact Nat.le_of_ble_eq_true rfl)) ?_
    refine cond_f (by rw [h1]; rfl) ?_
    refine sl_eq ?_
    rw [be_u64, he]
    rfl
  · by_cases h2 : v.k = 2
    · refine PCallN.of (tr []) f16 (Nat.le_of_ble_eq_true rfl) (np_cons v.np np_nil) (np_bs _) ?_
      refine cond_f (by rw [h2]; rfl) ?_
      refine cond_t (by rw [h2]; rfl) ?_
      refine call_d (numSN _ 2 (by decide)) ?_
      refine call_d (joinN _ _ _ _ [v.k] _ (by rw [be_len]; exact Nat.le_of_ble_eq_true rfl)) ?_
      have e1 : IntKind.u64.wrap ((st v.s).size : Int) = (v.s.length : Int) := by rw [st_size, u64_in _ (by omega)]
      rw [e1]
      refine call_d (joinN _ _ _ _ _ v.s (by simp only [List.length_append, be_len, List.length_cons, List.length_nil]; omega)) ?_
      refine And.intro (by kernel_rfl) ?_
      refine sl_eq ?_
      rw [Va.enc, if_neg h1, if_pos h2, List.append_assoc]
      rfl
    · refine PCallN.weakRet (ret := .sl 1 (some false) false (bs v.enc)) (.nl _ _ _ _) ?_
      refine PCallN.of (tr []) f16 (Nat.le_of_ble_eq_true rfl) (np_cons v.np np_nil) (np_bs _) ?_
      refine cond_f (u8_ne (u8_val h1)) ?_
      refine cond_f (u8_ne (u8_val h2)) ?_
      refine sl_eq ?_
      rw [Va.enc, if_neg h1, if_neg h2]
      rfl

end Go.Proofs.Ytjlcnnijpmijhaa.V

/- Values: what is right; of a word; Decode. -/
namespace Go.Proofs.Ytjlcnnijpmijhaa.V
open Go.IntWalk

theorem st_list (l : List UInt8) : (st l).toList = l := by rw [ByteArray.toList_eq]; rfl
theorem st_beq (a b : List UInt8) : ((st a).toList == (st b).toList) = decide (a = b) := by
  rw [st_list, st_list]
  exact Bool.eq_iff_iff.2 ⟨fun h => decide_eq_true (beq_iff_eq.1 h), fun h => beq_iff_eq.2 (of_decide_eq_true h)⟩

def Va.right (v : Va) : Bool := if v.k = 0 then v.n == 0 && decide (v.s = []) else if v.k = 1 then decide (v.s = []) else if v.k = 2 then v.n == 0 && decide ((v.s.length : Int) ≤ 200) else false

theorem rightN (v : Va) : PCallN Try.prog 14 [v.av] (.bool v.right) := by
  refine PCallN.of (tr []) f14 (Nat.le_of_ble_eq_true rfl) (np_cons v.np np_nil) (.bool _) ?_
  by_cases h0 : v.k = 0
  · refine cond_t (by rw [h0]; rfl) ?_
    rw [Va.right, if_pos h0]
    cases hn : v.n == 0
    · refine guard_f (by rw [hn]; decide) ?_
      rw [hn]
      refine guard_f (by decide) ?_
      refine guard_f (by decide) ?_
      exact bool_eq rfl
    · refine guard_t hn ?_
      rw [hn]
      refine guard_t rfl ?_
      refine guard_t rfl ?_
      exact bool_eq (st_beq v.s [])
  refine cond_f (u8_ne (u8_val h0)) ?_
  by_cases h1 : v.k = 1
  · refine cond_t (by rw [h1]; rfl) ?_
    rw [Va.right, if_neg h0, if_pos h1]
    exact bool_eq (st_beq v.s [])
  refine cond_f (u8_ne (u8_val h1)) ?_
  by_cases h2 : v.k = 2
  · refine cond_t (by rw [h2]; rfl) ?_
    rw [Va.right, if_neg h0, if_neg h1, if_pos h2]
    cases hn : v.n == 0
    · refine guard_f (by rw [hn]; decide) ?_
      rw [hn]
      refine guard_f (by decide) ?_
      refine guard_f (by decide) ?_
      refine guard_f (by decide) ?_
      exact bool_eq rfl
    · refine guard_t hn ?_
      rw [hn]
      refine guard_t rfl ?_
      refine guard_t rfl ?_
      refine guard_t rfl ?_
      exact bool_eq (by rw [st_size]; rfl)
  refine cond_f (u8_ne (u8_val h2)) ?_
  rw [Va.right, if_neg h0, if_neg h1, if_neg h2]
  exact bool_eq rfl

theorem len_beq (l : List UInt8) : (((st l).size : Int) == 0) = decide (l = []) := by
  rw [st_size]
  cases l with
  | nil => rfl
  | cons a l => rw [decide_eq_false (by simp)]; exact beq_eq_false_iff_ne.2 (by simp; omega)

theorem rRightN (v : Va) : PCallN Try.prog 18 [v.av] (.bool v.right) := by
  refine PCallN.of (tr []) f18 (Nat.le_of_ble_eq_true rfl) (np_cons v.np np_nil) (.bool _) ?_
  by_cases h0 : v.k = 0
  · refine cond_t (by rw [h0]; rfl) ?_
    rw [Va.right, if_pos h0]
    cases hn : v.n == 0
    · refine guard_f (by rw [hn]; decide) ?_
      rw [hn]
      refine guard_f (by decide) ?_
      refine guard_f (by decide) ?_
      refine guard_f (by decide) ?_
      exact bool_eq rfl
    · refine guard_t hn ?_
      rw [hn]
      refine guard_t rfl ?_
      refine guard_t rfl ?_
      refine guard_t rfl ?_
      exact bool_eq (len_beq v.s)
  refine cond_f (u8_ne (u8_val h0)) ?_
  by_cases h1 : v.k = 1
  · refine cond_t (by rw [h1]; rfl) ?_
    rw [Va.right, if_neg h0, if_pos h1]
    exact bool_eq (len_beq v.s)
  refine cond_f (u8_ne (u8_val h1)) ?_
  rw [Va.right, if_neg h0, if_neg h1]
  by_cases h2 : v.k = 2
  · rw [if_pos h2]
    refine guard_t (by rw [h2]; rfl) ?_
    rw [h2]
    refine guard_t rfl ?_
    refine guard_t rfl ?_
    cases hn : v.n == 0
    · refine guard_f (by show ¬(v.n == 0) = true; rw [hn]; decide) ?_
      rw [hn]
      refine guard_f (by decide) ?_
      refine guard_f (by decide) ?_
      refine guard_f (by decide) ?_
      exact bool_eq rfl
    · refine guard_t hn ?_
      rw [hn]
      refine guard_t rfl ?_
      refine guard_t rfl ?_
      refine guard_t rfl ?_
      exact bool_eq (by rw [st_size]; rfl)
  · rw [if_neg h2]
    have hk : ((v.k.toNat : Int) == 2) = false := u8_ne (u8_val h2)
    refine guard_f (by show ¬((v.k.toNat : Int) == 2) = true; rw [hk]; decide) ?_
    rw [hk]
    refine guard_f (by decide) ?_
    refine guard_f (by decide) ?_
    refine guard_f (by decide) ?_
    refine guard_f (by decide) ?_
    refine guard_f (by decide) ?_
    refine guard_f (by decide) ?_
    exact bool_eq rfl

def Va.of (w : Va) : Va := if w.k % 4 = 0 then ⟨0, 0, []⟩ else if w.k % 4 = 1 then ⟨1, w.n, []⟩ else ⟨2, 0, w.s.take 200⟩

theorem of_mod (k : UInt8) : ((k.toNat : Int).tmod 4) = ((k % 4).toNat : Int) := by
  rw [UInt8.toNat_mod, Int.tmod_eq_emod_of_nonneg (by omega)]
  rfl

theorem ofN (w : Va) : PCallN Try.prog 10 [w.av] w.of.av := by
  refine PCallN.of (tr []) f10 (Nat.le_of_ble_eq_true rfl) (np_cons w.np np_nil) (Va.np _) ?_
  refine And.intro (by decide) ?_
  rw [of_mod]
  by_cases h0 : w.k % 4 = 0
  · refine cond_t (by rw [h0]; rfl) ?_
    rw [Va.of, if_pos h0]
    exact agg3 rfl rfl rfl
  refine cond_f (u8_ne (u8_val h0)) ?_
  by_cases h1 : w.k % 4 = 1
  · refine cond_t (by rw [h1]; rfl) ?_
    rw [Va.of, if_neg h0, if_pos h1]
    exact agg3 rfl rfl rfl
  refine cond_f (u8_ne (u8_val h1)) ?_
  rw [Va.of, if_neg h0, if_neg h1]
  by_cases h2 : w.s.length ≤ 200
  · refine cond_f (decide_eq_false (by rw [st_size]; omega)) ?_
    refine agg3 (int_eq rfl) (int_eq rfl) (str_eq ?_)
    rw [List.take_of_length_le h2]
  · refine cond_t (decide_eq_true (by rw [st_size]; omega)) ?_
    refine And.intro (by rw [st_size]; omega) ?_
    refine agg3 (int_eq rfl) (int_eq rfl) (str_eq ?_)
    exact st_cut w.s 0 200

end Go.Proofs.Ytjlcnnijpmijhaa.V

/- Values: Decode. -/
namespace Go.Proofs.Ytjlcnnijpmijhaa.V
open Go.IntWalk

theorem num_snoc_val (l : List UInt8) (b : UInt8) : ((num (l ++ [b])).toNat : Int) = (256 * (num l).toNat + b.toNat) % 18446744073709551616 := by
  rw [num_snoc, ← readStep, w_u64, w_u64, w_u64]
  omega

theorem num_two (a b : UInt8) : (num [a, b]).toNat = 256 * a.toNat + b.toNat := by
  have h1 := num_snoc_val [a] b
  have h2 := num_snoc_val [] a
  have h3 : num [] = 0 := rfl
  have ha := a.toNat_lt
  have hb := b.toNat_lt
  rw [h3] at h2
  simp only [List.nil_append, List.singleton_append, UInt64.toNat_zero] at h1 h2
  omega

def zero : Va := ⟨0, 0, []⟩

def decT (r : List UInt8) : Va × List UInt8 × Int :=
  match r with
  | a :: b :: r => if 200 < 256 * a.toNat + b.toNat then (zero, [], 2) else if r.length < 256 * a.toNat + b.toNat then (zero, [], 3)
      else (⟨2, 0, r.take (256 * a.toNat + b.toNat)⟩, r.drop (256 * a.toNat + b.toNat), 0)
  | _ => (zero, [], 3)

/-- What any bytes begin with: the value, what stands behind it, the error. -/
def dec (p : List UInt8) : Va × List UInt8 × Int :=
  match p with
  | [] => (zero, [], 3)
  | k :: r =>
    if k = 0 then (zero, r, 0)
    else if k = 1 then (if r.length < 8 then (zero, [], 3) else (⟨1, IntKind.i64.wrap (num (r.take 8)).toNat, []⟩, r.drop 8, 0))
    else if k = 2 then decT r else (zero, [], 2)

def decAV (x : Va × List UInt8 × Int) : AV := .tup [x.1.av, .sl 1 none false (bs x.2.1), .int .i64 x.2.2]

theorem shortN : PCallN Try.prog 23 [] (.tup [zero.av, .sl 0 (some true) false [], .int .i64 3]) := by
  refine PCallN.of (tr []) f23 (Nat.le_of_ble_eq_true rfl) np_nil (.tup _ (np_cons (Va.np _) (np_cons np_nilsl (np_cons (.int _ _) np_nil)))) ?_
  exact tup3 (agg3 rfl rfl rfl) (sl_eq rfl) (int_eq rfl)

theorem dec_bad {e : Int} {f : Nat} {args : List AV} (h : PCallN Try.prog f args (.tup [zero.av, .sl 0 (some true) false [], .int .i64 e])) : PCallN Try.prog f args (decAV (zero, [], e)) :=
  h.weakRet (.tup _ _ (.cons _ _ _ _ (.refl _) (.cons _ _ _ _ (.nil _ _ _ _ _ (by simp)) (.cons _ _ _ _ (.refl _) .nil))))

theorem dec_np {ok : Nat → Prop} (v : Va) (nl : Option Bool) (own : Bool) (sz : Nat) (l : List UInt8) (e : Int) : NP ok (.tup [v.av, .sl sz nl own (bs l), .int .i64 e]) := .tup _ (np_cons (Va.np _) (np_cons (np_bs _) (np_cons (.int _ _) np_nil)))

theorem dec_start {nl : Option Bool} {own : Bool} {p : List UInt8} {v : Va} {nl' : Option Bool} {own' : Bool} {sz : Nat} {l : List UInt8} {e : Int}
    (h : wpV Try.prog (tr []) 96 0 c12 (retS [.cell 2 (some 3), .tmp 3, .tmp 4] (.tup [v.av, .sl sz nl' own' (bs l), .int .i64 e])) ⟨[.sl 1 nl own (bs p)], [], []⟩) : PCallN Try.prog 12 [.sl 1 nl own (bs p)] (.tup [v.av, .sl sz nl' own' (bs l), .int .i64 e]) :=
  PCallN.of (tr []) f12 (Nat.le_of_ble_eq_true rfl) (np_cons (np_bs _) np_nil) (dec_np _ _ _ _ _ _) h

theorem decodeN (nl : Option Bool) (own : Bool) (p : List UInt8) (hp : p.length ≤ 100000) : PCallN Try.prog 12 [.sl 1 nl own (bs p)] (decAV (dec p)) := by
  cases p with
  | nil =>
    refine dec_bad (dec_start (l := []) ?_)
    refine call_p (takeF nl false [] 1 (by decide)) ?_
    refine cond_t rfl ?_
    refine call_p shortN ?_
    exact tup3 (agg3 rfl rfl rfl) (sl_eq rfl) (int_eq rfl)
  | cons k r =>
    have hr : r.length ≤ 100000 := by simp at hp; omega
    by_cases h0 : k = 0
    · rw [show dec (k :: r) = (zero, r, 0) by rw [dec, if_pos h0]]
      refine dec_start ?_
      refine call_p (takeN nl false (k :: r) 1 (by simp)) ?_
      refine cond_f rfl ?_
      refine And.intro rfl (And.intro (by decide) (Exists.intro [.int .u8 (k.toNat : Int)] (And.intro rfl ?_)))
      refine cond_t (by rw [h0]; rfl) ?_
      refine call_d (cloneN _ _ r (by omega)) ?_
      refine And.intro (by kernel_rfl) ?_
      exact tup3 (agg3 (int_eq (by rw [h0]; rfl)) rfl rfl) (sl_eq rfl) (int_eq rfl)
    by_cases h1 : k = 1
    · by_cases h8 : r.length < 8
      · rw [show dec (k :: r) = (zero, [], 3) by rw [dec, if_neg h0, if_pos h1, if_pos h8]]
        refine dec_bad (dec_start (l := []) ?_)
        refine call_p (takeN nl false (k :: r) 1 (by simp)) ?_
        refine cond_f rfl ?_
        refine And.intro rfl (And.intro (by decide) (Exists.intro [.int .u8 (k.toNat : Int)] (And.intro rfl ?_)))
        refine cond_f (u8_ne (u8_val h0)) ?_
        refine cond_t (by rw [h1]; rfl) ?_
        refine call_p (takeF nl false r 8 (by omega)) ?_
        refine cond_t rfl ?_
        refine call_p shortN ?_
        exact tup3 (agg3 rfl rfl rfl) (sl_eq rfl) (int_eq rfl)
      · rw [show dec (k :: r) = (⟨1, IntKind.i64.wrap (num (r.take 8)).toNat, []⟩, r.drop 8, 0) by rw [dec, if_neg h0, if_pos h1, if_neg h8]]
        refine dec_start ?_
        refine call_p (takeN nl false (k :: r) 1 (by simp)) ?_
        refine cond_f rfl ?_
        refine And.intro rfl (And.intro (by decide) (Exists.intro [.int .u8 (k.toNat : Int)] (And.intro rfl ?_)))
        refine cond_f (u8_ne (u8_val h0)) ?_
        refine cond_t (by rw [h1]; rfl) ?_
        refine call_p (takeN nl false r 8 (by omega)) ?_
        refine cond_f rfl ?_
        refine call_p (numberN nl false (r.take 8) (by simp; omega)) ?_
        refine call_d (cloneN _ _ (r.drop 8) (by simp; omega)) ?_
        refine And.intro (by kernel_rfl) ?_
        exact tup3 (agg3 (int_eq (by rw [h1])) (int_eq rfl) rfl) (sl_eq rfl) (int_eq rfl)
    by_cases h2 : k = 2
    · have hshort : r.length < 2 → PCallN Try.prog 12 [.sl 1 nl own (bs (k :: r))] (decAV (zero, [], 3)) := by
        intro h
        refine dec_bad (dec_start (l := []) ?_)
        refine call_p (takeN nl false (k :: r) 1 (by simp)) ?_
        refine cond_f rfl ?_
        refine And.intro rfl (And.intro (by decide) (Exists.intro [.int .u8 (k.toNat : Int)] (And.intro rfl ?_)))
        refine cond_f (u8_ne (u8_val h0)) ?_
        refine cond_f (u8_ne (u8_val h1)) ?_
        refine cond_t (by rw [h2]; rfl) ?_
        refine call_p (takeF nl false r 2 (by omega)) ?_
        refine cond_t rfl ?_
        refine call_p shortN ?_
        exact tup3 (agg3 rfl rfl rfl) (sl_eq rfl) (int_eq rfl)
      match r, hshort, hr with
      | [], hshort, _ =>
        rw [show dec [k] = (zero, [], 3) by rw [dec, if_neg h0, if_neg h1, if_pos h2]; rfl]
        exact hshort (Nat.lt_of_sub_pos (by simp))
      | [a], hshort, _ =>
        rw [show dec [k, a] = (zero, [], 3) by rw [dec, if_neg h0, if_neg h1, if_pos h2]; rfl]
        exact hshort (Nat.lt_of_sub_pos (by simp))
      | a :: b :: r, _, hr =>
        have ha := a.toNat_lt
        have hb := b.toNat_lt
        have hr' : r.length ≤ 100000 := by simp at hr; omega
        have hn : IntKind.i64.wrap ((num [a, b]).toNat : Int) = ((256 * a.toNat + b.toNat : Nat) : Int) := by
          rw [num_two, i64_in _ (by omega)]
        by_cases h200 : 200 < 256 * a.toNat + b.toNat
        · rw [show dec (k :: a :: b :: r) = (zero, [], 2) by rw [dec, if_neg h0, if_neg h1, if_pos h2, decT, if_pos h200]]
          refine dec_bad (dec_start (l := []) ?_)
          refine call_p (takeN nl false (k :: a :: b :: r) 1 (by simp)) ?_
          refine cond_f rfl ?_
          refine And.intro rfl (And.intro (by decide) (Exists.intro [.int .u8 (k.toNat : Int)] (And.intro rfl ?_)))
          refine cond_f (u8_ne (u8_val h0)) ?_
          refine cond_f (u8_ne (u8_val h1)) ?_
          refine cond_t (by rw [h2]; rfl) ?_
          refine call_p (takeN nl false (a :: b :: r) 2 (by simp)) ?_
          refine cond_f rfl ?_
          refine call_p (numberN nl false [a, b] (Nat.le_of_ble_eq_true rfl)) ?_
          refine cond_t (decide_eq_true (by rw [hn]; omega)) ?_
          exact tup3 (agg3 rfl rfl rfl) (sl_eq rfl) (int_eq rfl)
        · by_cases hl : r.length < 256 * a.toNat + b.toNat
          · rw [show dec (k :: a :: b :: r) = (zero, [], 3) by rw [dec, if_neg h0, if_neg h1, if_pos h2, decT, if_neg h200, if_pos hl]]
            refine dec_bad (dec_start (l := []) ?_)
            refine call_p (takeN nl false (k :: a :: b :: r) 1 (by simp)) ?_
            refine cond_f rfl ?_
            refine And.intro rfl (And.intro (by decide) (Exists.intro [.int .u8 (k.toNat : Int)] (And.intro rfl ?_)))
            refine cond_f (u8_ne (u8_val h0)) ?_
            refine cond_f (u8_ne (u8_val h1)) ?_
            refine cond_t (by rw [h2]; rfl) ?_
            refine call_p (takeN nl false (a :: b :: r) 2 (by simp)) ?_
            refine cond_f rfl ?_
            refine call_p (numberN nl false [a, b] (Nat.le_of_ble_eq_true rfl)) ?_
            refine cond_f (decide_eq_false (by rw [hn]; omega)) ?_
            rw [hn]
            refine call_p (takeF nl false r _ (by omega)) ?_
            refine cond_t rfl ?_
            refine call_p shortN ?_
            exact tup3 (agg3 rfl rfl rfl) (sl_eq rfl) (int_eq rfl)
          · rw [show dec (k :: a :: b :: r) = (⟨2, 0, r.take (256 * a.toNat + b.toNat)⟩, r.drop (256 * a.toNat + b.toNat), 0) by rw [dec, if_neg h0, if_neg h1, if_pos h2, decT, if_neg h200, if_neg hl]]
            refine dec_start ?_
            refine call_p (takeN nl false (k :: a :: b :: r) 1 (by simp)) ?_
            refine cond_f rfl ?_
            refine And.intro rfl (And.intro (by decide) (Exists.intro [.int .u8 (k.toNat : Int)] (And.intro rfl ?_)))
            refine cond_f (u8_ne (u8_val h0)) ?_
            refine cond_f (u8_ne (u8_val h1)) ?_
            refine cond_t (by rw [h2]; rfl) ?_
            refine call_p (takeN nl false (a :: b :: r) 2 (by simp)) ?_
            refine cond_f rfl ?_
            refine call_p (numberN nl false [a, b] (Nat.le_of_ble_eq_true rfl)) ?_
            refine cond_f (decide_eq_false (by rw [hn]; omega)) ?_
            rw [hn]
            refine call_p (takeN nl false r _ (by omega)) ?_
            refine cond_f rfl ?_
            refine Exists.intro _ (And.intro (toBytes_bs _) ?_)
            refine call_d (cloneN _ _ (r.drop _) (by simp; omega)) ?_
            refine And.intro (by kernel_rfl) ?_
            exact tup3 (agg3 (int_eq (by rw [h2])) (int_eq rfl) rfl) (sl_eq rfl) (int_eq rfl)
    · rw [show dec (k :: r) = (zero, [], 2) by rw [dec, if_neg h0, if_neg h1, if_neg h2]]
      refine dec_bad (dec_start (l := []) ?_)
      refine call_p (takeN nl false (k :: r) 1 (by simp)) ?_
      refine cond_f rfl ?_
      refine And.intro rfl (And.intro (by decide) (Exists.intro [.int .u8 (k.toNat : Int)] (And.intro rfl ?_)))
      refine cond_f (u8_ne (u8_val h0)) ?_
      refine cond_f (u8_ne (u8_val h1)) ?_
      refine cond_f (u8_ne (u8_val h2)) ?_
      exact tup3 (agg3 rfl rfl rfl) (sl_eq rfl) (int_eq rfl)

end Go.Proofs.Ytjlcnnijpmijhaa.V

/- Values: the document's Decode; Same; the document's example. -/
namespace Go.Proofs.Ytjlcnnijpmijhaa.V
open Go.IntWalk

/-- How many bytes it has. -/
def decN (p : List UInt8) : Nat := if (dec p).2.2 = 0 then p.length - (dec p).2.1.length else 0

theorem decN_bad {p : List UInt8} {v : Va} {l : List UInt8} {e : Int} (h : dec p = (v, l, e)) (he : e ≠ 0) : decN p = 0 := by
  rw [decN, h, if_neg he]
theorem decN_ok {p : List UInt8} {v : Va} {l : List UInt8} (h : dec p = (v, l, 0)) : decN p = p.length - l.length := by
  rw [decN, h, if_pos rfl]

theorem rdec_start {nl : Option Bool} {own : Bool} {p : List UInt8} {v : Va} {n : Int} {e : Int}
    (h : wpV Try.prog (tr []) 56 0 c17 (retS [.cell 2 (some 3), .tmp 3, .tmp 4] (.tup [v.av, .int .i64 n, .int .i64 e])) ⟨[.sl 1 nl own (bs p)], [], []⟩) : PCallN Try.prog 17 [.sl 1 nl own (bs p)] (.tup [v.av, .int .i64 n, .int .i64 e]) :=
  PCallN.of (tr []) f17 (Nat.le_of_ble_eq_true rfl) (np_cons (np_bs _) np_nil) (.tup _ (np_cons (Va.np _) (np_cons (.int _ _) (np_cons (.int _ _) np_nil)))) h

theorem rDecodeN (nl : Option Bool) (own : Bool) (p : List UInt8) (hp : p.length ≤ 100000) : PCallN Try.prog 17 [.sl 1 nl own (bs p)] (.tup [(dec p).1.av, .int .i64 (decN p), .int .i64 (dec p).2.2]) := by
  cases p with
  | nil =>
    refine rdec_start ?_
    refine cond_t rfl ?_
    exact tup3 (agg3 rfl rfl rfl) (int_eq rfl) (int_eq rfl)
  | cons k r =>
    have hr : r.length ≤ 100000 := by simp at hp; omega
    have hlen : (bs (k :: r)).length = r.length + 1 := by rw [bs_len, List.length_cons]
    by_cases h0 : k = 0
    · have hd : dec (k :: r) = (zero, r, 0) := by rw [dec, if_pos h0]
      rw [decN_ok hd, hd]
      refine rdec_start ?_
      refine cond_f (decide_eq_false (by rw [hlen]; omega)) ?_
      refine And.intro rfl (And.intro (by decide) (Exists.intro [.int .u8 (k.toNat : Int)] (And.intro rfl ?_)))
      refine cond_t (by rw [h0]; rfl) ?_
      exact tup3 (agg3 rfl rfl rfl) (int_eq (by simp)) (int_eq rfl)
    by_cases h1 : k = 1
    · by_cases h8 : r.length < 8
      · have hd : dec (k :: r) = (zero, [], 3) := by rw [dec, if_neg h0, if_pos h1, if_pos h8]
        rw [decN_bad hd (by decide), hd]
        refine rdec_start ?_
        refine cond_f (decide_eq_false (by rw [hlen]; omega)) ?_
        refine And.intro rfl (And.intro (by decide) (Exists.intro [.int .u8 (k.toNat : Int)] (And.intro rfl ?_)))
        refine cond_f (u8_ne (u8_val h0)) ?_
        refine cond_t (by rw [h1]; rfl) ?_
        refine cond_t (decide_eq_true (by rw [hlen]; omega)) ?_
        exact tup3 (agg3 rfl rfl rfl) (int_eq rfl) (int_eq rfl)
      · have hd : dec (k :: r) = (⟨1, IntKind.i64.wrap (num (r.take 8)).toNat, []⟩, r.drop 8, 0) := by rw [dec, if_neg h0, if_pos h1, if_neg h8]
        rw [decN_ok hd, hd]
        refine rdec_start ?_
        refine cond_f (decide_eq_false (by rw [hlen]; omega)) ?_
        refine And.intro rfl (And.intro (by decide) (Exists.intro [.int .u8 (k.toNat : Int)] (And.intro rfl ?_)))
        refine cond_f (u8_ne (u8_val h0)) ?_
        refine cond_t (by rw [h1]; rfl) ?_
        refine cond_f (decide_eq_false (by rw [hlen]; omega)) ?_
        refine And.intro (.inl rfl) (And.intro (by rw [hlen]; omega) ?_)
        rw [cut_bs (l := k :: r) (i := 1) (j := 9) (a := 1) (b := 9) rfl rfl (by simp; omega)]
        refine call_p (readN nl false (r.take 8) (by simp; omega)) ?_
        exact tup3 (agg3 (int_eq rfl) (int_eq rfl) rfl) (int_eq (by simp; omega)) (int_eq rfl)
    by_cases h2 : k = 2
    · match r, hr, hlen with
      | [], _, _ =>
        have hd : dec [k] = (zero, [], 3) := by rw [dec, if_neg h0, if_neg h1, if_pos h2]; rfl
        rw [decN_bad hd (by decide), hd]
        refine rdec_start ?_
        refine cond_f rfl ?_
        refine And.intro rfl (And.intro (by decide) (Exists.intro [.int .u8 (k.toNat : Int)] (And.intro rfl ?_)))
        refine cond_f (u8_ne (u8_val h0)) ?_
        refine cond_f (u8_ne (u8_val h1)) ?_
        refine cond_t (by rw [h2]; rfl) ?_
        refine cond_t rfl ?_
        exact tup3 (agg3 rfl rfl rfl) (int_eq rfl) (int_eq rfl)
      | [a], _, _ =>
        have hd : dec [k, a] = (zero, [], 3) := by rw [dec, if_neg h0, if_neg h1, if_pos h2]; rfl
        rw [decN_bad hd (by decide), hd]
        refine rdec_start ?_
        refine cond_f rfl ?_
        refine And.intro rfl (And.intro (by decide) (Exists.intro [.int .u8 (k.toNat : Int)] (And.intro rfl ?_)))
        refine cond_f (u8_ne (u8_val h0)) ?_
        refine cond_f (u8_ne (u8_val h1)) ?_
        refine cond_t (by rw [h2]; rfl) ?_
        refine cond_t rfl ?_
        exact tup3 (agg3 rfl rfl rfl) (int_eq rfl) (int_eq rfl)
      | a :: b :: r, hr, hlen =>
        have ha := a.toNat_lt
        have hb := b.toNat_lt
        have hr' : r.length ≤ 100000 := by simp at hr; omega
        have hlen' : (bs (k :: a :: b :: r)).length = r.length + 3 := by rw [bs_len]; simp
        have hn : IntKind.i64.wrap ((num [a, b]).toNat : Int) = ((256 * a.toNat + b.toNat : Nat) : Int) := by
          rw [num_two, i64_in _ (by omega)]
        have h3 : IntKind.i64.wrap (3 + ((256 * a.toNat + b.toNat : Nat) : Int)) = ((3 + (256 * a.toNat + b.toNat) : Nat) : Int) := by
          rw [i64_in _ (by omega)]; omega
        by_cases h200 : 200 < 256 * a.toNat + b.toNat
        · have hd : dec (k :: a :: b :: r) = (zero, [], 2) := by rw [dec, if_neg h0, if_neg h1, if_pos h2, decT, if_pos h200]
          rw [decN_bad hd (by decide), hd]
          refine rdec_start ?_
          refine cond_f (decide_eq_false (by rw [hlen']; omega)) ?_
          refine And.intro rfl (And.intro (by decide) (Exists.intro [.int .u8 (k.toNat : Int)] (And.intro rfl ?_)))
          refine cond_f (u8_ne (u8_val h0)) ?_
          refine cond_f (u8_ne (u8_val h1)) ?_
          refine cond_t (by rw [h2]; rfl) ?_
          refine cond_f (decide_eq_false (by rw [hlen']; omega)) ?_
          refine And.intro (.inl rfl) (And.intro (by rw [hlen']; omega) ?_)
          refine call_p (readN nl false [a, b] (Nat.le_of_ble_eq_true rfl)) ?_
          refine cond_t (decide_eq_true (by rw [hn]; omega)) ?_
          exact tup3 (agg3 rfl rfl rfl) (int_eq rfl) (int_eq rfl)
        · by_cases hl : r.length < 256 * a.toNat + b.toNat
          · have hd : dec (k :: a :: b :: r) = (zero, [], 3) := by rw [dec, if_neg h0, if_neg h1, if_pos h2, decT, if_neg h200, if_pos hl]
            rw [decN_bad hd (by decide), hd]
            refine rdec_start ?_
            refine cond_f (decide_eq_false (by rw [hlen']; omega)) ?_
            refine And.intro rfl (And.intro (by decide) (Exists.intro [.int .u8 (k.toNat : Int)] (And.intro rfl ?_)))
            refine cond_f (u8_ne (u8_val h0)) ?_
            refine cond_f (u8_ne (u8_val h1)) ?_
            refine cond_t (by rw [h2]; rfl) ?_
            refine cond_f (decide_eq_false (by rw [hlen']; omega)) ?_
            refine And.intro (.inl rfl) (And.intro (by rw [hlen']; omega) ?_)
            refine call_p (readN nl false [a, b] (Nat.le_of_ble_eq_true rfl)) ?_
            refine cond_f (decide_eq_false (by rw [hn]; omega)) ?_
            rw [hn]
            refine cond_t (decide_eq_true (by rw [h3, hlen']; omega)) ?_
            exact tup3 (agg3 rfl rfl rfl) (int_eq rfl) (int_eq rfl)
          · have hd : dec (k :: a :: b :: r) = (⟨2, 0, r.take (256 * a.toNat + b.toNat)⟩, r.drop (256 * a.toNat + b.toNat), 0) := by rw [dec, if_neg h0, if_neg h1, if_pos h2, decT, if_neg h200, if_neg hl]
            rw [decN_ok hd, hd]
            refine rdec_start ?_
            refine cond_f (decide_eq_false (by rw [hlen']; omega)) ?_
            refine And.intro rfl (And.intro (by decide) (Exists.intro [.int .u8 (k.toNat : Int)] (And.intro rfl ?_)))
            refine cond_f (u8_ne (u8_val h0)) ?_
            refine cond_f (u8_ne (u8_val h1)) ?_
            refine cond_t (by rw [h2]; rfl) ?_
            refine cond_f (decide_eq_false (by rw [hlen']; omega)) ?_
            refine And.intro (.inl rfl) (And.intro (by rw [hlen']; omega) ?_)
            refine call_p (readN nl false [a, b] (Nat.le_of_ble_eq_true rfl)) ?_
            refine cond_f (decide_eq_false (by rw [hn]; omega)) ?_
            rw [hn]
            refine cond_f (decide_eq_false (by rw [h3, hlen']; omega)) ?_
            rw [h3]
            refine And.intro (.inl rfl) (And.intro (by rw [h3, hlen']; omega) ?_)
            rw [h3, cut_bs (l := k :: a :: b :: r) (i := 3) (a := 3) rfl rfl (by simp; omega)]
            refine Exists.intro _ (And.intro (toBytes_bs _) ?_)
            refine tup3 (agg3 (int_eq rfl) (int_eq rfl) (str_eq ?_)) (int_eq ?_) (int_eq rfl)
            · rw [show 3 + (256 * a.toNat + b.toNat) - 3 = 256 * a.toNat + b.toNat by omega]
              rfl
            · rw [h3]; simp; omega
    · have hd : dec (k :: r) = (zero, [], 2) := by rw [dec, if_neg h0, if_neg h1, if_neg h2]
      rw [decN_bad hd (by decide), hd]
      refine rdec_start ?_
      refine cond_f (decide_eq_false (by rw [hlen]; omega)) ?_
      refine And.intro rfl (And.intro (by decide) (Exists.intro [.int .u8 (k.toNat : Int)] (And.intro rfl ?_)))
      refine cond_f (u8_ne (u8_val h0)) ?_
      refine cond_f (u8_ne (u8_val h1)) ?_
      refine cond_f (u8_ne (u8_val h2)) ?_
      exact tup3 (agg3 rfl rfl rfl) (int_eq rfl) (int_eq rfl)

end Go.Proofs.Ytjlcnnijpmijhaa.V

/- Values: Same; the document's example; a value is read as it was written. -/
namespace Go.Proofs.Ytjlcnnijpmijhaa.V
open Go.IntWalk

theorem va_beq (a b : Va) : (((a.k.toNat : Int) == b.k.toNat) && ((a.n == b.n) && (((st a.s).toList == (st b.s).toList) && true))) = decide (a = b) := by
  rw [st_beq]
  refine Bool.eq_iff_iff.2 ⟨fun h => ?_, fun h => ?_⟩
  · simp only [Bool.and_eq_true, beq_iff_eq, decide_eq_true_eq, and_true] at h ⊢
    obtain ⟨h1, h2, h3⟩ := h
    match a, b, h1, h2, h3 with
    | ⟨ak, an, al⟩, ⟨bk, bn, bl⟩, h1, h2, h3 =>
      simp only at h1 h2 h3
      have h4 : ak = bk := UInt8.toNat_inj.1 (by omega)
      rw [h4, h2, h3]
  · have e := of_decide_eq_true h
    subst e
    simp

theorem sameN (a b : Va) : PCallN Try.prog 19 [a.av, b.av] (.bool (decide (a = b))) := by
  refine PCallN.of (tr []) f19 (Nat.le_of_ble_eq_true rfl) (np_cons a.np (np_cons b.np np_nil)) (.bool _) ?_
  exact bool_eq (va_beq a b)

theorem textN : PCallN Try.prog 9 [] (.bool true) := by
  have h1 : dec [2, 0, 2, 97, 98] = (⟨2, 0, [97, 98]⟩, [], 0) := by decide
  have h2 := decodeN (some false) true [2, 0, 2, 97, 98] (by decide)
  rw [h1] at h2
  have h3 : Va.enc ⟨2, 0, [97, 98]⟩ = [2, 0, 2, 97, 98] := by decide
  have h4 := encodeN ⟨2, 0, [97, 98]⟩ (by decide)
  rw [h3] at h4
  have h5 := bytesN none (some false) true true [2, 0, 2, 97, 98] [2, 0, 2, 97, 98] (by decide)
  have h6 := rightN ⟨2, 0, [97, 98]⟩
  rw [decide_eq_true rfl] at h5
  rw [show Va.right ⟨2, 0, [97, 98]⟩ = true by decide] at h6
  refine PCallN.of (tr []) f9 (Nat.le_of_ble_eq_true rfl) np_nil (.bool _) ?_
  refine call_p h2 ?_
  refine call_p h4 ?_
  refine call_p h5 ?_
  refine guard_t rfl ?_
  refine guard_t rfl ?_
  refine guard_t rfl ?_
  have h7 := va_beq ⟨2, 0, [97, 98]⟩ ⟨2, 0, [97, 98]⟩
  rw [decide_eq_true rfl] at h7
  refine guard_t h7 ?_
  refine guard_t rfl ?_
  refine guard_t rfl ?_
  refine guard_t rfl ?_
  refine guard_t rfl ?_
  refine guard_t rfl ?_
  refine guard_t rfl ?_
  refine call_p h6 ?_
  exact bool_eq rfl

end Go.Proofs.Ytjlcnnijpmijhaa.V

/- Values: a value is read as it was written: the law, plainly; and of the program. -/
namespace Go.Proofs.Ytjlcnnijpmijhaa.V
open Go.IntWalk

theorem byteAt_succ (n : Int) (m : Nat) : byteAt n (m + 1) = byteAt (n / 256) m := by
  unfold byteAt
  rw [Int.ediv_ediv_of_nonneg (by decide), show (2 : Int) ^ (8 * (m + 1)) = 256 * 2 ^ (8 * m) by rw [Nat.mul_add, Int.pow_add, Int.mul_comm]; rfl]

theorem be_snoc (n : Int) : ∀ m, be n (m + 1) = be (n / 256) m ++ [byteAt n 0]
  | 0 => rfl
  | m + 1 => by
    rw [be, be_snoc n m, be, byteAt_succ]
    rfl

theorem num_be_succ (n : Int) (m : Nat) : ((num (be n (m + 1))).toNat : Int) = (256 * (num (be (n / 256) m)).toNat + n % 256) % 18446744073709551616 := by
  rw [be_snoc, num_snoc_val, byteAt_toNat]
  simp

theorem num_be8 (n : Int) : ((num (be n 8)).toNat : Int) = n % 18446744073709551616 := by
  have h0 : ∀ n : Int, ((num (be n 0)).toNat : Int) = 0 := fun n => rfl
  have h1 : ∀ n : Int, ((num (be n 1)).toNat : Int) = n % 256 := fun n => by rw [num_be_succ, h0]; omega
  have h2 : ∀ n : Int, ((num (be n 2)).toNat : Int) = n % 65536 := fun n => by rw [num_be_succ, h1]; omega
  have h3 : ∀ n : Int, ((num (be n 3)).toNat : Int) = n % 16777216 := fun n => by rw [num_be_succ, h2]; omega
  have h4 : ∀ n : Int, ((num (be n 4)).toNat : Int) = n % 4294967296 := fun n => by rw [num_be_succ, h3]; omega
  have h5 : ∀ n : Int, ((num (be n 5)).toNat : Int) = n % 1099511627776 := fun n => by rw [num_be_succ, h4]; omega
  have h6 : ∀ n : Int, ((num (be n 6)).toNat : Int) = n % 281474976710656 := fun n => by rw [num_be_succ, h5]; omega
  have h7 : ∀ n : Int, ((num (be n 7)).toNat : Int) = n % 72057594037927936 := fun n => by rw [num_be_succ, h6]; omega
  rw [num_be_succ, h7]
  omega

theorem w_i64 (n : Int) (h0 : -9223372036854775808 ≤ n) (h1 : n ≤ 9223372036854775807) : IntKind.i64.wrap (n % 18446744073709551616) = n := by
  rw [IntKind.wrap_i64]
  omega

def Va.ok (v : Va) : Prop := -9223372036854775808 ≤ v.n ∧ v.n ≤ 9223372036854775807

theorem dec_enc (v : Va) (hr : v.right = true) (hn : v.ok) (more : List UInt8) : dec (v.enc ++ more) = (v, more, 0) := by
  obtain ⟨hn1, hn2⟩ := hn
  match v, hr, hn1, hn2 with
  | ⟨k, n, s⟩, hr, hn1, hn2 =>
    simp only at hn1 hn2
    by_cases h0 : k = 0
    · subst h0
      simp only [Va.right, ↓reduceIte, Bool.and_eq_true, beq_iff_eq, decide_eq_true_eq] at hr
      rw [hr.1, hr.2]
      rfl
    · by_cases h1 : k = 1
      · subst h1
        have hs : s = [] := by simpa [Va.right] using hr
        subst hs
        have : Va.enc ⟨1, n, []⟩ ++ more = 1 :: (be n 8 ++ more) := rfl
        rw [this, dec, if_neg (by decide), if_pos rfl, if_neg (by simp [be_len]), List.take_left' (be_len n 8), List.drop_left' (be_len n 8), num_be8, w_i64 n hn1 hn2]
      · by_cases h2 : k = 2
        · subst h2
          simp only [Va.right, show ((2 : UInt8) = 0) = False by decide, show ((2 : UInt8) = 1) = False by decide, ↓reduceIte, Bool.and_eq_true, beq_iff_eq, decide_eq_true_eq] at hr
          have hs : s.length ≤ 200 := by omega
          rw [hr.1]
          have : Va.enc ⟨2, 0, s⟩ ++ more = 2 :: byteAt s.length 1 :: byteAt s.length 0 :: (s ++ more) := by simp [Va.enc, be]
          have b1 := byteAt_toNat s.length 1
          have b0 := byteAt_toNat s.length 0
          have hlen : 256 * (byteAt s.length 1).toNat + (byteAt s.length 0).toNat = s.length := by
            simp only [Nat.reduceMul, Int.reducePow] at b1 b0
            omega
          rw [this, dec, if_neg (by decide), if_neg (by decide), if_pos rfl, decT, hlen, if_neg (by omega), if_neg (by simp), List.take_left' rfl, List.drop_left' rfl]
        · simp [Va.right, h0, h1, h2] at hr

theorem of_right (w : Va) : w.of.right = true := by
  unfold Va.of
  split
  · rfl
  · split
    · rfl
    · have : ((w.s.take 200).length : Int) ≤ 200 := by rw [List.length_take]; omega
      simp only [Va.right, show ((2 : UInt8) = 0) = False by decide, show ((2 : UInt8) = 1) = False by decide, ↓reduceIte, Bool.and_eq_true, beq_self_eq_true, true_and, decide_eq_true_eq]
      exact this

theorem of_ok (w : Va) (h : w.ok) : w.of.ok := by
  unfold Va.of
  split
  · exact ⟨by decide, by decide⟩
  · split
    · exact h
    · exact ⟨show (-9223372036854775808 : Int) ≤ 0 by decide, show (0 : Int) ≤ 9223372036854775807 by decide⟩

theorem of_len (w : Va) : w.of.s.length ≤ 200 := by
  unfold Va.of
  split
  · exact Nat.zero_le _
  · split
    · exact Nat.zero_le _
    · show (w.s.take 200).length ≤ 200
      rw [List.length_take]; omega

theorem enc_len (v : Va) (h : v.s.length ≤ 200) : v.enc.length ≤ 203 := by
  unfold Va.enc
  split
  · simp [be_len]
  · split
    · simp [be_len]; omega
    · simp

theorem valueBackN (w : Va) (nl : Option Bool) (own : Bool) (more : List UInt8) (hw : w.ok) : PCallN Try.prog 3 [w.av, .sl 1 nl own (bs more)] (.bool true) := by
  refine PCallN.of (tr []) f3 (Nat.le_of_ble_eq_true rfl) (np_cons w.np (np_cons (np_bs _) np_nil)) (.bool _) ?_
  refine call_p textN ?_
  refine guard_t rfl ?_
  refine guard_t rfl ?_
  refine guard_t rfl ?_
  by_cases hm : 60 < more.length
  · refine cond_t (decide_eq_true (by rw [bs_len]; omega)) ?_
    refine call_p textN ?_
    exact bool_eq rfl
  have hl := of_len w
  have he := enc_len w.of hl
  have hd := decodeN none true (w.of.enc ++ more) (by rw [List.length_append]; omega)
  rw [dec_enc w.of (of_right w) (of_ok w hw)] at hd
  have hb := bytesN none none false false w.of.enc w.of.enc (by omega)
  rw [decide_eq_true rfl] at hb
  have hb' := bytesN none nl false false more more (by omega)
  rw [decide_eq_true rfl] at hb'
  have hrt := rightN w.of
  rw [of_right] at hrt
  refine cond_f (decide_eq_false (by rw [bs_len]; omega)) ?_
  refine call_p (ofN w) ?_
  refine call_p (encodeN w.of hl) ?_
  refine call_p (joinN _ _ _ _ _ _ (by omega)) ?_
  refine call_p hd ?_
  refine call_p hrt ?_
  refine guard_t rfl ?_
  refine guard_t rfl ?_
  refine guard_t rfl ?_
  refine call_p (rEncodeN w.of hl) ?_
  refine guard_t rfl ?_
  refine call_p hb ?_
  refine guard_t rfl ?_
  refine guard_t rfl ?_
  refine guard_t rfl ?_
  refine guard_t rfl ?_
  refine guard_t rfl ?_
  have h7 := va_beq w.of w.of
  rw [decide_eq_true rfl] at h7
  refine guard_t h7 ?_
  refine guard_t rfl ?_
  refine guard_t rfl ?_
  refine call_p hb' ?_
  exact bool_eq rfl

end Go.Proofs.Ytjlcnnijpmijhaa.V

/- What the rows of this seat share: what is known of the program, and what words are. -/
namespace Go.Proofs.Ytjlcnnijpmijhaa
set_option maxRecDepth 100000
theorem Try.own : ownKnob Try.prog.godebug = none := by kernel_rfl
theorem Try.laidOut : laidOutB Try.prog = true := by kernel_rfl

namespace V
section
variable {P : Program} {t t1 t2 t3 : TypeId} {fs : Array Field}
theorem word_cells (ht : P.underlying t = some (.struct fs)) (hfs : fs.toList.map (·.type) = [t1, t2, t3]) (h1 : P.underlying t1 = some (.int .u8)) (h2 : P.underlying t2 = some (.int .i64)) (h3 : P.underlying t3 = some .string)
    {us : List AV} (h : Shape P t us) : ∃ w : Va, us = w.c ∧ w.ok := by
  have hs := h.inv_struct ht
  rw [hfs] at hs
  obtain ⟨a1, r1, rfl, k1, hs⟩ := hs.inv_cons
  obtain ⟨a2, r2, rfl, k2, hs⟩ := hs.inv_cons
  obtain ⟨a3, r3, rfl, k3, hs⟩ := hs.inv_cons
  have hs := hs.inv_nil
  subst hs
  obtain ⟨n1, rfl, w1⟩ := k1.inv_int h1
  obtain ⟨n2, rfl, w2⟩ := k2.inv_int h2
  obtain ⟨s, rfl, _⟩ := k3.inv_str h3
  simp [Lit.wf, IntKind.min, IntKind.max, IntKind.signed, IntKind.bits] at w1 w2
  refine ⟨⟨UInt8.ofNat n1.toNat, n2, s⟩, ?_, w2.1, w2.2⟩
  have e : ((UInt8.ofNat n1.toNat).toNat : Int) = n1 := by simp only [UInt8.toNat_ofNat']; omega
  simp only [Va.c, e, List.cons_append, List.nil_append]

theorem word_inv (ht : P.underlying t = some (.struct fs)) (hfs : fs.toList.map (·.type) = [t1, t2, t3]) (h1 : P.underlying t1 = some (.int .u8)) (h2 : P.underlying t2 = some (.int .i64)) (h3 : P.underlying t3 = some .string)
    {a : AV} (h : Par P t a) : ∃ w : Va, a = w.av ∧ w.ok := by
  cases h with
  | one _ hn _ => exact absurd ht (hn fs)
  | agg fs' us h' hs =>
    obtain ⟨w, rfl, hw⟩ := word_cells ht hfs h1 h2 h3 hs
    exact ⟨w, rfl, hw⟩

theorem words_of {e : TypeId} (ht : P.underlying e = some (.struct fs)) (hfs : fs.toList.map (·.type) = [t1, t2, t3]) (h1 : P.underlying t1 = some (.int .u8)) (h2 : P.underlying t2 = some (.int .i64)) (h3 : P.underlying t3 = some .string) :
    ∀ xs : List (List AV), (∀ x, x ∈ xs → Shape P e x) → ∃ ws : List Va, xs = ws.map Va.c ∧ ∀ w, w ∈ ws → w.ok
  | [], _ => ⟨[], rfl, by simp⟩
  | x :: xs, h => by
    obtain ⟨ws, rfl, hw⟩ := words_of ht hfs h1 h2 h3 xs fun y hy => h y (by simp [hy])
    obtain ⟨w, rfl, hw'⟩ := word_cells ht hfs h1 h2 h3 (h x (by simp))
    refine ⟨w :: ws, rfl, fun u hu => ?_⟩
    rcases List.mem_cons.1 hu with rfl | hu
    · exact hw'
    · exact hw u hu

theorem words_inv {e : TypeId} (hsl : P.underlying t = some (.slice e)) (hc : P.cellsOf e = 3) (ht : P.underlying e = some (.struct fs)) (hfs : fs.toList.map (·.type) = [t1, t2, t3]) (h1 : P.underlying t1 = some (.int .u8)) (h2 : P.underlying t2 = some (.int .i64)) (h3 : P.underlying t3 = some .string)
    {a : AV} (h : Par P t a) : ∃ nl ws, a = .sl 3 (some nl) false (List.map Va.c ws) ∧ (∀ w, w ∈ ws → w.ok) ∧ ws.length ≤ maxLen := by
  obtain ⟨nl, xs, rfl, hx, hl, _⟩ := h.inv_sl hsl
  obtain ⟨ws, rfl, hw⟩ := words_of ht hfs h1 h2 h3 xs hx
  rw [hc]
  exact ⟨nl, ws, rfl, hw, by rw [List.length_map] at hl; exact hl⟩
end
end V
end Go.Proofs.Ytjlcnnijpmijhaa
