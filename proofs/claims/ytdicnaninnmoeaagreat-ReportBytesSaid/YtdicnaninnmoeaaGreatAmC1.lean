/- Part of the proof: an abstract machine of our own over the model; no condition. -/
import Derived.Test.YtdicnaninnmoeaaGreatAmTy
set_option linter.unusedSectionVars false
set_option linter.unusedSimpArgs false
set_option linter.unusedVariables false
set_option linter.unnecessarySimpa false
/- The code of some functions of the program, as a walk looks at it (printed by a program of ours). -/
set_option maxRecDepth 100000
namespace Go.Am.Q
open Go Go.Am Go.Proofs

/-! fascicle/fasciclelaw30.ReportBytes -/
def tail3_24 : Code :=
  .seq (.region 24 #[⟨(some 117), (.move (.tmp 17)), 0, "", #[], none⟩,
  ⟨(some 118), (.fieldAddr 45 (.tmp 18) 2), 0, "", #[], none⟩,
  ⟨(some 119), (.load 3 (.tmp 118)), 0, "", #[], none⟩,
  ⟨(some 120), (.binOp .eql 3 (.tmp 117) (.tmp 119) 3), 0, "", #[], none⟩,
  ⟨(some 121), (.move (.tmp 120)), 0, "", #[], none⟩,
  ⟨(some 122), (.move (.tmp 17)), 0, "", #[], (some (4, true))⟩,
  ⟨(some 123), (.binOp .neq 35 (.tmp 122) (.const (.int .i64 0)) 35), 0, "", #[], (some (4, true))⟩,
  ⟨(some 124), (.move (.tmp 123)), 0, "", #[], (some (4, true))⟩,
  ⟨(some 125), (.load 22 (.tmp 13)), 0, "", #[], (some (7, false))⟩,
  ⟨(some 126), (.move (.tmp 19)), 0, "", #[], (some (7, false))⟩,
  ⟨(some 127), (.call { callee := (.value (.func 13)), args := #[(.tmp 125), (.tmp 126)], argTypes := #[22, 29] }), 0, "", #[], (some (7, false))⟩,
  ⟨(some 128), (.pick (.tmp 124) (.const (.bool true)) (.tmp 127)), 0, "", #[], (some (4, true))⟩,
  ⟨(some 129), (.pick (.tmp 121) (.tmp 128) (.const (.bool false))), 0, "", #[], none⟩,
  ⟨(some 4), (.assign (.tmp 129)), 0, "", #[], none⟩] false)
  (.ret)
def tail3_23 : Code :=
  .seq (.region 23 #[⟨(some 111), (.move (.tmp 1)), 0, "", #[], none⟩,
  ⟨(some 112), (.convert 23 9 (.tmp 111)), 0, "", #[], none⟩,
  ⟨(some 113), (.build 45 #[(0, (.tmp 112))]), 0, "", #[], none⟩,
  ⟨(some 114), (.call { callee := (.value (.func 15)), args := #[(.tmp 113)], argTypes := #[45] }), 0, "", #[], none⟩,
  ⟨(some 110), (.move (.tmp 114)), 0, "", #[], none⟩,
  ⟨(some 115), (.extract (.tmp 110) 0), 0, "", #[], none⟩,
  ⟨(some 116), (.extract (.tmp 110) 1), 0, "", #[], none⟩,
  ⟨(some 18), (.alloc 45), 0, "", #[], none⟩,
  ⟨none, (.store 45 (.tmp 18) (.tmp 115)), 0, "", #[], none⟩,
  ⟨(some 19), (.assign (.tmp 116)), 0, "", #[], none⟩] false)
  tail3_24
def tail3_22 : Code :=
  .seq (.region 22 #[⟨(some 105), (.move (.tmp 1)), 0, "", #[], none⟩,
  ⟨(some 106), (.makeFunc (.func 14) #[] #[(.tmp 13)]), 0, "", #[], none⟩,
  ⟨(some 107), (.call { callee := (.value (.func 7)), args := #[(.tmp 105), (.tmp 106)], argTypes := #[23, 41] }), 0, "", #[], none⟩,
  ⟨(some 104), (.move (.tmp 107)), 0, "", #[], none⟩,
  ⟨(some 108), (.extract (.tmp 104) 0), 0, "", #[], none⟩,
  ⟨(some 109), (.extract (.tmp 104) 1), 0, "", #[], none⟩,
  ⟨(some 16), (.assign (.tmp 108)), 0, "", #[], none⟩,
  ⟨(some 17), (.assign (.tmp 109)), 0, "", #[], none⟩] false)
  tail3_23
def tail3_20 : Code :=
  .seq (.seq (.region 20 #[⟨(some 86), (.call { callee := (.value (.func 8)), args := #[(.tmp 5)], argTypes := #[26] }), 0, "", #[], none⟩,
  ⟨(some 87), (.convert 23 9 (.tmp 86)), 0, "", #[], none⟩,
  ⟨(some 88), (.move (.tmp 6)), 0, "", #[], none⟩,
  ⟨(some 89), (.call { callee := (.value (.func 12)), args := #[(.tmp 88)], argTypes := #[29] }), 0, "", #[], none⟩,
  ⟨(some 90), (.binOp .neq 9 (.tmp 87) (.tmp 89) 9), 0, "", #[], none⟩,
  ⟨(some 91), (.move (.tmp 90)), 0, "", #[], none⟩,
  ⟨(some 92), (.move (.tmp 7)), 0, "", #[], (some (5, false))⟩,
  ⟨(some 93), (.move (.tmp 92)), 0, "", #[], (some (5, false))⟩,
  ⟨(some 94), (.move (.tmp 15)), 0, "", #[], (some (7, true))⟩,
  ⟨(some 95), (.binOp .neq 35 (.tmp 94) (.const (.int .i64 0)) 35), 0, "", #[], (some (7, true))⟩,
  ⟨(some 96), (.move (.tmp 95)), 0, "", #[], (some (7, true))⟩,
  ⟨(some 97), (.load 22 (.tmp 12)), 0, "", #[], (some (10, false))⟩,
  ⟨(some 98), (.move (.tmp 6)), 0, "", #[], (some (10, false))⟩,
  ⟨(some 99), (.call { callee := (.value (.func 13)), args := #[(.tmp 97), (.tmp 98)], argTypes := #[22, 29] }), 0, "", #[], (some (10, false))⟩,
  ⟨(some 100), (.unOp .not 4 (.tmp 99)), 0, "", #[], (some (10, false))⟩,
  ⟨(some 101), (.pick (.tmp 96) (.const (.bool true)) (.tmp 100)), 0, "", #[], (some (7, true))⟩,
  ⟨(some 102), (.pick (.tmp 93) (.tmp 101) (.const (.bool false))), 0, "", #[], (some (5, false))⟩,
  ⟨(some 103), (.pick (.tmp 91) (.const (.bool true)) (.tmp 102)), 0, "", #[], none⟩] true)
  (.cond (.tmp 103)
  (.seq (.region 21 #[⟨(some 4), (.assign (.const (.bool false))), 0, "", #[], none⟩] false)
  (.ret))
  (.skip)))
  tail3_22
def tail3_18 : Code :=
  .seq (.region 18 #[⟨(some 12), (.alloc 22), 0, "", #[], none⟩,
  ⟨(some 13), (.alloc 22), 0, "", #[], none⟩] false)
  (.seq (.region 19 #[⟨(some 81), (.call { callee := (.value (.func 8)), args := #[(.tmp 5)], argTypes := #[26] }), 0, "", #[], none⟩,
  ⟨(some 82), (.makeFunc (.func 9) #[] #[(.tmp 12)]), 0, "", #[], none⟩,
  ⟨(some 83), (.call { callee := (.value (.func 7)), args := #[(.tmp 81), (.tmp 82)], argTypes := #[23, 41] }), 0, "", #[], none⟩,
  ⟨(some 80), (.move (.tmp 83)), 0, "", #[], none⟩,
  ⟨(some 84), (.extract (.tmp 80) 0), 0, "", #[], none⟩,
  ⟨(some 85), (.extract (.tmp 80) 1), 0, "", #[], none⟩,
  ⟨(some 14), (.assign (.tmp 84)), 0, "", #[], none⟩,
  ⟨(some 15), (.assign (.tmp 85)), 0, "", #[], none⟩] false)
  tail3_20)
def body3_0 : Code :=
  .seq (.region 12 #[⟨(some 60), (.binOp .lss 3 (.tmp 59) (.tmp 58) 3), 0, "", #[], none⟩] false)
  (.seq (.cond (.tmp 60)
  (.skip)
  (.exit 2))
  (.seq (.block 3 (.seq (.region 13 #[⟨(some 61), (.indexAddr 34 (.tmp 57) (.tmp 59)), 0, "", #[], none⟩,
  ⟨(some 62), (.load 3 (.tmp 61)), 0, "", #[], none⟩,
  ⟨(some 11), (.assign (.tmp 62)), 0, "", #[], none⟩] false)
  (.region 14 #[⟨(some 63), (.move (.tmp 7)), 0, "", #[], none⟩,
  ⟨(some 64), (.move (.tmp 63)), 0, "", #[], none⟩,
  ⟨(some 65), (.move (.tmp 11)), 0, "", #[], (some (1, true))⟩,
  ⟨(some 66), (.binOp .geq 3 (.tmp 65) (.const (.int .i64 0)) 3), 0, "", #[], (some (1, true))⟩,
  ⟨(some 67), (.pick (.tmp 64) (.tmp 66) (.const (.bool false))), 0, "", #[], none⟩,
  ⟨(some 68), (.move (.tmp 67)), 0, "", #[], none⟩,
  ⟨(some 69), (.move (.tmp 11)), 0, "", #[], (some (5, true))⟩,
  ⟨(some 70), (.binOp .leq 3 (.tmp 69) (.const (.int .i64 1099511627776)) 3), 0, "", #[], (some (5, true))⟩,
  ⟨(some 71), (.pick (.tmp 68) (.tmp 70) (.const (.bool false))), 0, "", #[], none⟩,
  ⟨(some 7), (.assign (.tmp 71)), 0, "", #[], none⟩] false)))
  (.region 15 #[⟨(some 72), (.binOp .add 3 (.tmp 59) (.const (.int .i64 1)) 3), 0, "", #[], none⟩,
  ⟨(some 59), (.move (.tmp 72)), 0, "", #[], none⟩] false)))
def body3_1 : Code :=
  .seq (.region 8 #[⟨(some 38), (.binOp .lss 3 (.tmp 37) (.tmp 36) 3), 0, "", #[], none⟩] false)
  (.seq (.cond (.tmp 38)
  (.skip)
  (.exit 0))
  (.seq (.block 1 (.seq (.region 9 #[⟨(some 39), (.indexAddr 22 (.tmp 35) (.tmp 37)), 0, "", #[], none⟩,
  ⟨(some 40), (.load 32 (.tmp 39)), 0, "", #[], none⟩,
  ⟨(some 9), (.alloc 32), 0, "", #[], none⟩,
  ⟨none, (.store 32 (.tmp 9) (.tmp 40)), 0, "", #[], none⟩] false)
  (.seq (.region 10 #[⟨(some 41), (.move (.tmp 6)), 0, "", #[], none⟩,
  ⟨(some 42), (.load 32 (.tmp 9)), 0, "", #[], none⟩,
  ⟨(some 43), (.buildSlice 29 1 #[(0, (.tmp 42))]), 0, "", #[], none⟩,
  ⟨(some 44), (.call { callee := (.builtin .append), args := #[(.tmp 41), (.tmp 43)], argTypes := #[29, 29] }), 0, "", #[], none⟩,
  ⟨(some 6), (.assign (.tmp 44)), 0, "", #[], none⟩] false)
  (.seq (.seq (.region 11 #[⟨(some 45), (.fieldAddr 32 (.tmp 9) 1), 0, "", #[], none⟩,
  ⟨(some 46), (.load 3 (.tmp 45)), 0, "", #[], none⟩,
  ⟨(some 47), (.fieldAddr 32 (.tmp 9) 2), 0, "", #[], none⟩,
  ⟨(some 48), (.load 3 (.tmp 47)), 0, "", #[], none⟩,
  ⟨(some 49), (.fieldAddr 32 (.tmp 9) 3), 0, "", #[], none⟩,
  ⟨(some 50), (.load 3 (.tmp 49)), 0, "", #[], none⟩,
  ⟨(some 51), (.fieldAddr 32 (.tmp 9) 4), 0, "", #[], none⟩,
  ⟨(some 52), (.load 3 (.tmp 51)), 0, "", #[], none⟩,
  ⟨(some 53), (.fieldAddr 32 (.tmp 9) 5), 0, "", #[], none⟩,
  ⟨(some 54), (.load 3 (.tmp 53)), 0, "", #[], none⟩,
  ⟨(some 55), (.fieldAddr 32 (.tmp 9) 6), 0, "", #[], none⟩,
  ⟨(some 56), (.load 3 (.tmp 55)), 0, "", #[], none⟩,
  ⟨(some 57), (.buildSlice 34 6 #[(0, (.tmp 46)), (1, (.tmp 48)), (2, (.tmp 50)), (3, (.tmp 52)), (4, (.tmp 54)), (5, (.tmp 56))]), 0, "", #[], none⟩,
  ⟨(some 58), (.call { callee := (.builtin .len), args := #[(.tmp 57)], argTypes := #[34] }), 0, "", #[], none⟩,
  ⟨(some 59), (.move (.const (.int .i64 0))), 0, "", #[], none⟩] false)
  (.block 2 (.loop body3_0)))
  (.region 16 #[⟨(some 73), (.move (.tmp 7)), 0, "", #[], none⟩,
  ⟨(some 74), (.move (.tmp 73)), 0, "", #[], none⟩,
  ⟨(some 75), (.fieldAddr 32 (.tmp 9) 0), 0, "", #[], (some (1, true))⟩,
  ⟨(some 76), (.load 30 (.tmp 75)), 0, "", #[], (some (1, true))⟩,
  ⟨(some 77), (.binOp .leq 30 (.tmp 76) (.const (.int .u64 1099511627776)) 30), 0, "", #[], (some (1, true))⟩,
  ⟨(some 78), (.pick (.tmp 74) (.tmp 77) (.const (.bool false))), 0, "", #[], none⟩,
  ⟨(some 7), (.assign (.tmp 78)), 0, "", #[], none⟩] false)))))
  (.region 17 #[⟨(some 79), (.binOp .add 3 (.tmp 37) (.const (.int .i64 1)) 3), 0, "", #[], none⟩,
  ⟨(some 37), (.move (.tmp 79)), 0, "", #[], none⟩] false)))
def code3 : Code :=
  .seq (.region 0 #[⟨(some 4), (.assign (.const (.bool false))), 0, "", #[], none⟩] false)
  (.seq (.seq (.region 1 #[⟨(some 20), (.call { callee := (.value (.func 5)), args := #[], argTypes := #[] }), 0, "", #[], none⟩,
  ⟨(some 21), (.unOp .not 4 (.tmp 20)), 0, "", #[], none⟩,
  ⟨(some 22), (.move (.tmp 21)), 0, "", #[], none⟩,
  ⟨(some 23), (.move (.tmp 0)), 0, "", #[], (some (2, false))⟩,
  ⟨(some 24), (.call { callee := (.builtin .len), args := #[(.tmp 23)], argTypes := #[22] }), 0, "", #[], (some (2, false))⟩,
  ⟨(some 25), (.binOp .gtr 3 (.tmp 24) (.const (.int .i64 20)) 3), 0, "", #[], (some (2, false))⟩,
  ⟨(some 26), (.pick (.tmp 22) (.const (.bool true)) (.tmp 25)), 0, "", #[], none⟩,
  ⟨(some 27), (.move (.tmp 26)), 0, "", #[], none⟩,
  ⟨(some 28), (.move (.tmp 1)), 0, "", #[], (some (7, false))⟩,
  ⟨(some 29), (.call { callee := (.builtin .len), args := #[(.tmp 28)], argTypes := #[23] }), 0, "", #[], (some (7, false))⟩,
  ⟨(some 30), (.binOp .gtr 3 (.tmp 29) (.const (.int .i64 600)) 3), 0, "", #[], (some (7, false))⟩,
  ⟨(some 31), (.pick (.tmp 27) (.const (.bool true)) (.tmp 30)), 0, "", #[], none⟩] false)
  (.cond (.tmp 31)
  (.seq (.region 2 #[⟨(some 32), (.call { callee := (.value (.func 5)), args := #[], argTypes := #[] }), 0, "", #[], none⟩,
  ⟨(some 4), (.assign (.tmp 32)), 0, "", #[], none⟩] false)
  (.ret))
  (.skip)))
  (.seq (.region 3 #[⟨(some 5), (.alloc 26), 0, "", #[], none⟩] false)
  (.seq (.region 4 #[⟨(some 33), (.move (.tmp 0)), 0, "", #[], none⟩,
  ⟨(some 34), (.call { callee := (.value (.func 6)), args := #[(.tmp 5), (.tmp 33)], argTypes := #[28, 22] }), 0, "", #[], none⟩] false)
  (.seq (.region 5 #[⟨(some 6), (.assign (.const (.slice none 0 0))), 0, "", #[], none⟩] false)
  (.seq (.region 6 #[⟨(some 7), (.assign (.const (.bool true))), 0, "", #[], none⟩] false)
  (.seq (.seq (.region 7 #[⟨(some 35), (.move (.tmp 0)), 0, "", #[], none⟩,
  ⟨(some 36), (.call { callee := (.builtin .len), args := #[(.tmp 35)], argTypes := #[22] }), 0, "", #[], none⟩,
  ⟨(some 37), (.move (.const (.int .i64 0))), 0, "", #[], none⟩] false)
  (.block 0 (.loop body3_1)))
  tail3_18))))))
noncomputable def x3 : FnI := ⟨Tryz.f3.body.getD .skip, 130, [(.tmp 4)]⟩
theorem fn3 : fnOf P 3 = some x3 := by kernel_rfl
theorem sx3 : strip x3.code = code3 := by kernel_rfl
theorem ok3 : codeOk (plsOf plans 3) x3.code = true := plsOf_ok P plans_ok 3 x3 fn3
theorem pl3_20 : planFor (plsOf plans 3) 20 = some [⟨[2], [], some 0⟩, ⟨[1], [2], some 3⟩, ⟨[4, 5, 6, 7, 8, 9, 10, 11, 12], [1], some 13⟩, ⟨[14, 15, 16, 17], [4, 5, 6, 7, 8, 9, 1], none⟩] := by kernel_rfl
theorem rs3 : x3.results = [(.tmp 4)] := rfl
theorem ex3 : E.ext 3 = none := by kernel_rfl
theorem nt3 : x3.ntmps = 130 := rfl

/-! fascicle/report.Put -/
def tail6_13 : Code :=
  .seq (.region 13 #[⟨(some 50), (.move (.tmp 0)), 0, "", #[], none⟩,
  ⟨(some 51), (.move (.tmp 8)), 0, "", #[], none⟩,
  ⟨(some 52), (.call { callee := (.value (.func 29)), args := #[(.tmp 50), (.tmp 51)], argTypes := #[28, 5] }), 0, "", #[], none⟩] false)
  (.region 14 #[⟨(some 53), (.move (.tmp 0)), 0, "", #[], none⟩,
  ⟨(some 54), (.load 32 (.tmp 5)), 0, "", #[], none⟩,
  ⟨(some 55), (.call { callee := (.value (.func 27)), args := #[(.tmp 54)], argTypes := #[32] }), 0, "", #[], none⟩,
  ⟨(some 56), (.call { callee := (.value (.func 30)), args := #[(.tmp 53), (.tmp 55)], argTypes := #[28, 76] }), 0, "", #[], none⟩] false)
def tail6_10 : Code :=
  .seq (.region 10 #[⟨(some 8), (.assign (.const (.int .u8 0))), 0, "", #[], none⟩] false)
  (.seq (.seq (.region 11 #[⟨(some 48), (.fieldAddr 32 (.tmp 5) 7), 0, "", #[], none⟩,
  ⟨(some 49), (.load 4 (.tmp 48)), 0, "", #[], none⟩] false)
  (.cond (.tmp 49)
  (.region 12 #[⟨(some 8), (.assign (.const (.int .u8 1))), 0, "", #[], none⟩] false)
  (.skip)))
  tail6_13)
def body6_0 : Code :=
  .seq (.region 6 #[⟨(some 39), (.binOp .lss 3 (.tmp 38) (.tmp 37) 3), 0, "", #[], none⟩] false)
  (.seq (.cond (.tmp 39)
  (.skip)
  (.exit 2))
  (.seq (.block 3 (.seq (.region 7 #[⟨(some 40), (.indexAddr 34 (.tmp 36) (.tmp 38)), 0, "", #[], none⟩,
  ⟨(some 41), (.load 3 (.tmp 40)), 0, "", #[], none⟩,
  ⟨(some 7), (.assign (.tmp 41)), 0, "", #[], none⟩] false)
  (.region 8 #[⟨(some 42), (.move (.tmp 0)), 0, "", #[], none⟩,
  ⟨(some 43), (.move (.tmp 7)), 0, "", #[], none⟩,
  ⟨(some 44), (.call { callee := (.builtin .max), args := #[(.const (.int .i64 0)), (.tmp 43)], argTypes := #[3, 3] }), 0, "", #[], none⟩,
  ⟨(some 45), (.convert 3 30 (.tmp 44)), 0, "", #[], none⟩,
  ⟨(some 46), (.call { callee := (.value (.func 28)), args := #[(.tmp 42), (.tmp 45)], argTypes := #[28, 30] }), 0, "", #[], none⟩] false)))
  (.region 9 #[⟨(some 47), (.binOp .add 3 (.tmp 38) (.const (.int .i64 1)) 3), 0, "", #[], none⟩,
  ⟨(some 38), (.move (.tmp 47)), 0, "", #[], none⟩] false)))
def tail6_5 : Code :=
  .seq (.seq (.region 5 #[⟨(some 24), (.fieldAddr 32 (.tmp 5) 1), 0, "", #[], none⟩,
  ⟨(some 25), (.load 3 (.tmp 24)), 0, "", #[], none⟩,
  ⟨(some 26), (.fieldAddr 32 (.tmp 5) 2), 0, "", #[], none⟩,
  ⟨(some 27), (.load 3 (.tmp 26)), 0, "", #[], none⟩,
  ⟨(some 28), (.fieldAddr 32 (.tmp 5) 3), 0, "", #[], none⟩,
  ⟨(some 29), (.load 3 (.tmp 28)), 0, "", #[], none⟩,
  ⟨(some 30), (.fieldAddr 32 (.tmp 5) 4), 0, "", #[], none⟩,
  ⟨(some 31), (.load 3 (.tmp 30)), 0, "", #[], none⟩,
  ⟨(some 32), (.fieldAddr 32 (.tmp 5) 5), 0, "", #[], none⟩,
  ⟨(some 33), (.load 3 (.tmp 32)), 0, "", #[], none⟩,
  ⟨(some 34), (.fieldAddr 32 (.tmp 5) 6), 0, "", #[], none⟩,
  ⟨(some 35), (.load 3 (.tmp 34)), 0, "", #[], none⟩,
  ⟨(some 36), (.buildSlice 34 6 #[(0, (.tmp 25)), (1, (.tmp 27)), (2, (.tmp 29)), (3, (.tmp 31)), (4, (.tmp 33)), (5, (.tmp 35))]), 0, "", #[], none⟩,
  ⟨(some 37), (.call { callee := (.builtin .len), args := #[(.tmp 36)], argTypes := #[34] }), 0, "", #[], none⟩,
  ⟨(some 38), (.move (.const (.int .i64 0))), 0, "", #[], none⟩] false)
  (.block 2 (.loop body6_0)))
  tail6_10
def body6_1 : Code :=
  .seq (.region 2 #[⟨(some 17), (.binOp .lss 3 (.tmp 16) (.tmp 15) 3), 0, "", #[], none⟩] false)
  (.seq (.cond (.tmp 17)
  (.skip)
  (.exit 0))
  (.seq (.block 1 (.seq (.region 3 #[⟨(some 18), (.indexAddr 22 (.tmp 14) (.tmp 16)), 0, "", #[], none⟩,
  ⟨(some 19), (.load 32 (.tmp 18)), 0, "", #[], none⟩,
  ⟨(some 5), (.alloc 32), 0, "", #[], none⟩,
  ⟨none, (.store 32 (.tmp 5) (.tmp 19)), 0, "", #[], none⟩] false)
  (.seq (.region 4 #[⟨(some 20), (.move (.tmp 0)), 0, "", #[], none⟩,
  ⟨(some 21), (.fieldAddr 32 (.tmp 5) 0), 0, "", #[], none⟩,
  ⟨(some 22), (.load 30 (.tmp 21)), 0, "", #[], none⟩,
  ⟨(some 23), (.call { callee := (.value (.func 28)), args := #[(.tmp 20), (.tmp 22)], argTypes := #[28, 30] }), 0, "", #[], none⟩] false)
  tail6_5)))
  (.region 15 #[⟨(some 57), (.binOp .add 3 (.tmp 16) (.const (.int .i64 1)) 3), 0, "", #[], none⟩,
  ⟨(some 16), (.move (.tmp 57)), 0, "", #[], none⟩] false)))
def code6 : Code :=
  .seq (.region 0 #[⟨(some 9), (.move (.tmp 0)), 0, "", #[], none⟩,
  ⟨(some 10), (.move (.tmp 1)), 0, "", #[], none⟩,
  ⟨(some 11), (.call { callee := (.builtin .len), args := #[(.tmp 10)], argTypes := #[22] }), 0, "", #[], none⟩,
  ⟨(some 12), (.convert 3 30 (.tmp 11)), 0, "", #[], none⟩,
  ⟨(some 13), (.call { callee := (.value (.func 28)), args := #[(.tmp 9), (.tmp 12)], argTypes := #[28, 30] }), 0, "", #[], none⟩] false)
  (.seq (.region 1 #[⟨(some 14), (.move (.tmp 1)), 0, "", #[], none⟩,
  ⟨(some 15), (.call { callee := (.builtin .len), args := #[(.tmp 14)], argTypes := #[22] }), 0, "", #[], none⟩,
  ⟨(some 16), (.move (.const (.int .i64 0))), 0, "", #[], none⟩] false)
  (.block 0 (.loop body6_1)))
noncomputable def x6 : FnI := ⟨Tryz.f6.body.getD .skip, 58, []⟩
theorem fn6 : fnOf P 6 = some x6 := by kernel_rfl
theorem sx6 : strip x6.code = code6 := by kernel_rfl
theorem ok6 : codeOk (plsOf plans 6) x6.code = true := plsOf_ok P plans_ok 6 x6 fn6
theorem rs6 : x6.results = [] := rfl
theorem ex6 : E.ext 6 = none := by kernel_rfl
theorem nt6 : x6.ntmps = 58 := rfl

/-! fascicle/cursor.Run -/
def code7 : Code :=
  .seq (.region 0 #[⟨(some 4), (.alloc 3), 0, "", #[], none⟩,
  ⟨(some 5), (.alloc 35), 0, "", #[], none⟩] false)
  (.seq (.seq (.region 1 #[⟨(some 7), (.move (.tmp 1)), 0, "", #[], none⟩,
  ⟨(some 8), (.binOp .eql 41 (.tmp 7) (.const .nilFunc) 41), 0, "", #[], none⟩] false)
  (.cond (.tmp 8)
  (.seq (.region 2 #[⟨none, (.store 3 (.tmp 4) (.const (.int .i64 0))), 0, "", #[], none⟩,
  ⟨none, (.store 35 (.tmp 5) (.const (.int .i64 0))), 0, "", #[], none⟩] false)
  (.ret))
  (.skip)))
  (.seq (.region 3 #[⟨(some 9), (.move (.tmp 0)), 0, "", #[], none⟩,
  ⟨(some 10), (.call { callee := (.value (.func 31)), args := #[(.tmp 9)], argTypes := #[23] }), 0, "", #[], none⟩,
  ⟨(some 11), (.build 83 #[(0, (.tmp 10)), (2, (.const (.bool true)))]), 0, "", #[], none⟩,
  ⟨(some 12), (.box 83 (.tmp 11)), 0, "", #[], none⟩,
  ⟨(some 6), (.alloc 39), 0, "", #[], none⟩,
  ⟨none, (.store 39 (.tmp 6) (.tmp 12)), 0, "", #[], none⟩] false)
  (.seq (.region 4 #[⟨(some 13), (.makeFunc (.func 32) #[] #[(.tmp 6), (.tmp 4), (.tmp 5)]), 0, "", #[], none⟩,
  ⟨none, (.defer { callee := (.value (.tmp 13)), args := #[], argTypes := #[] }), 0, "", #[], none⟩] false)
  (.seq (.region 5 #[⟨(some 14), (.move (.tmp 1)), 0, "", #[], none⟩,
  ⟨(some 15), (.load 39 (.tmp 6)), 0, "", #[], none⟩,
  ⟨(some 16), (.call { callee := (.value (.tmp 14)), args := #[(.tmp 15)], argTypes := #[39] }), 0, "", #[], none⟩] false)
  (.seq (.region 6 #[⟨(some 17), (.load 39 (.tmp 6)), 0, "", #[], none⟩,
  ⟨(some 18), (.nilCheck (.tmp 17)), 0, "", #[], none⟩,
  ⟨(some 19), (.fieldAddr 83 (.tmp 18) 1), 0, "", #[], none⟩,
  ⟨(some 20), (.load 3 (.tmp 19)), 0, "", #[], none⟩,
  ⟨none, (.store 3 (.tmp 4) (.tmp 20)), 0, "", #[], none⟩,
  ⟨none, (.store 35 (.tmp 5) (.const (.int .i64 0))), 0, "", #[], none⟩] false)
  (.ret))))))
noncomputable def x7 : FnI := ⟨Tryz.f7.body.getD .skip, 21, [(.cell 4 3), (.cell 5 35)]⟩
theorem fn7 : fnOf P 7 = some x7 := by kernel_rfl
theorem sx7 : strip x7.code = code7 := by kernel_rfl
theorem ok7 : codeOk (plsOf plans 7) x7.code = true := plsOf_ok P plans_ok 7 x7 fn7
theorem rs7 : x7.results = [(.cell 4 3), (.cell 5 35)] := rfl
theorem ex7 : E.ext 7 = none := by kernel_rfl
theorem nt7 : x7.ntmps = 21 := rfl

/-! (*fascicle/cursor.Buffer).Bytes -/
def code8 : Code :=
  .seq (.region 0 #[⟨(some 2), (.assign (.const (.slice none 0 0))), 0, "", #[], none⟩] false)
  (.seq (.region 1 #[⟨(some 3), (.move (.tmp 0)), 0, "", #[], none⟩,
  ⟨(some 4), (.nilCheck (.tmp 3)), 0, "", #[], none⟩,
  ⟨(some 5), (.fieldAddr 26 (.tmp 4) 0), 0, "", #[], none⟩,
  ⟨(some 6), (.load 23 (.tmp 5)), 0, "", #[], none⟩,
  ⟨(some 7), (.call { callee := (.value (.func 31)), args := #[(.tmp 6)], argTypes := #[23] }), 0, "", #[], none⟩,
  ⟨(some 2), (.assign (.tmp 7)), 0, "", #[], none⟩] false)
  (.ret))
noncomputable def x8 : FnI := ⟨Tryz.f8.body.getD .skip, 8, [(.tmp 2)]⟩
theorem fn8 : fnOf P 8 = some x8 := by kernel_rfl
theorem sx8 : strip x8.code = code8 := by kernel_rfl
theorem ok8 : codeOk (plsOf plans 8) x8.code = true := plsOf_ok P plans_ok 8 x8 fn8
theorem rs8 : x8.results = [(.tmp 2)] := rfl
theorem ex8 : E.ext 8 = none := by kernel_rfl
theorem nt8 : x8.ntmps = 8 := rfl

/-! fascicle/fasciclelaw30.ReportBytes.1 -/
def code9 : Code :=
  .seq (.region 0 #[⟨(some 3), (.move (.tmp 0)), 0, "", #[], none⟩,
  ⟨(some 4), (.call { callee := (.value (.func 10)), args := #[(.tmp 3)], argTypes := #[39] }), 0, "", #[], none⟩,
  ⟨none, (.store 22 (.tmp 1) (.tmp 4)), 0, "", #[], none⟩] false)
  (.region 1 #[⟨(some 5), (.move (.tmp 0)), 0, "", #[], none⟩,
  ⟨(some 6), (.call { callee := (.value (.func 11)), args := #[(.tmp 5)], argTypes := #[39] }), 0, "", #[], none⟩] false)
noncomputable def x9 : FnI := ⟨Tryz.f9.body.getD .skip, 7, []⟩
theorem fn9 : fnOf P 9 = some x9 := by kernel_rfl
theorem sx9 : strip x9.code = code9 := by kernel_rfl
theorem ok9 : codeOk (plsOf plans 9) x9.code = true := plsOf_ok P plans_ok 9 x9 fn9
theorem rs9 : x9.results = [] := rfl
theorem ex9 : E.ext 9 = none := by kernel_rfl
theorem nt9 : x9.ntmps = 7 := rfl

/-! fascicle/report.Get -/
def tail10_16 : Code :=
  .region 16 #[⟨(some 50), (.move (.tmp 3)), 0, "", #[], none⟩,
  ⟨(some 51), (.load 32 (.tmp 4)), 0, "", #[], none⟩,
  ⟨(some 52), (.buildSlice 22 1 #[(0, (.tmp 51))]), 0, "", #[], none⟩,
  ⟨(some 53), (.call { callee := (.builtin .append), args := #[(.tmp 50), (.tmp 52)], argTypes := #[22, 22] }), 0, "", #[], none⟩,
  ⟨(some 3), (.assign (.tmp 53)), 0, "", #[], none⟩] false
def tail10_14 : Code :=
  .seq (.seq (.region 14 #[⟨(some 42), (.move (.tmp 0)), 0, "", #[], none⟩,
  ⟨(some 43), (.call { callee := (.value (.func 37)), args := #[(.tmp 42)], argTypes := #[39] }), 0, "", #[], none⟩,
  ⟨(some 44), (.load 32 (.tmp 4)), 0, "", #[], none⟩,
  ⟨(some 45), (.call { callee := (.value (.func 27)), args := #[(.tmp 44)], argTypes := #[32] }), 0, "", #[], none⟩,
  ⟨(some 46), (.call { callee := (.value (.func 36)), args := #[(.tmp 43), (.tmp 45)], argTypes := #[76, 76] }), 0, "", #[], none⟩,
  ⟨(some 47), (.unOp .not 4 (.tmp 46)), 0, "", #[], none⟩] true)
  (.cond (.tmp 47)
  (.region 15 #[⟨(some 48), (.move (.tmp 0)), 0, "", #[], none⟩,
  ⟨(some 49), (.call { callee := (.value (.func 35)), args := #[(.tmp 48), (.const (.int .i64 4))], argTypes := #[39, 35] }), 0, "", #[], none⟩] false)
  (.skip)))
  tail10_16
def tail10_10 : Code :=
  .seq (.region 10 #[⟨(some 33), (.move (.tmp 0)), 0, "", #[], none⟩,
  ⟨(some 34), (.call { callee := (.value (.func 34)), args := #[(.tmp 33)], argTypes := #[39] }), 0, "", #[], none⟩,
  ⟨(some 7), (.assign (.tmp 34)), 0, "", #[], none⟩] false)
  (.seq (.seq (.region 11 #[⟨(some 35), (.move (.tmp 7)), 0, "", #[], none⟩,
  ⟨(some 36), (.binOp .gtr 5 (.tmp 35) (.const (.int .u8 1)) 5), 0, "", #[], none⟩] false)
  (.cond (.tmp 36)
  (.region 12 #[⟨(some 37), (.move (.tmp 0)), 0, "", #[], none⟩,
  ⟨(some 38), (.call { callee := (.value (.func 35)), args := #[(.tmp 37), (.const (.int .i64 4))], argTypes := #[39, 35] }), 0, "", #[], none⟩] false)
  (.skip)))
  (.seq (.region 13 #[⟨(some 39), (.move (.tmp 7)), 0, "", #[], none⟩,
  ⟨(some 40), (.binOp .eql 5 (.tmp 39) (.const (.int .u8 1)) 5), 0, "", #[], none⟩,
  ⟨(some 41), (.fieldAddr 32 (.tmp 4) 7), 0, "", #[], none⟩,
  ⟨none, (.store 4 (.tmp 41) (.tmp 40)), 0, "", #[], none⟩] false)
  tail10_14))
def body10_0 : Code :=
  .seq (.region 6 #[⟨(some 24), (.binOp .lss 3 (.tmp 23) (.tmp 22) 3), 0, "", #[], none⟩] false)
  (.seq (.cond (.tmp 24)
  (.skip)
  (.exit 2))
  (.seq (.block 3 (.seq (.region 7 #[⟨(some 25), (.indexAddr 88 (.tmp 21) (.tmp 23)), 0, "", #[], none⟩,
  ⟨(some 26), (.load 87 (.tmp 25)), 0, "", #[], none⟩,
  ⟨(some 6), (.assign (.tmp 26)), 0, "", #[], none⟩] false)
  (.region 8 #[⟨(some 27), (.move (.tmp 6)), 0, "", #[], none⟩,
  ⟨(some 28), (.move (.tmp 0)), 0, "", #[], none⟩,
  ⟨(some 29), (.call { callee := (.value (.func 33)), args := #[(.tmp 28), (.const (.int .u64 1099511627776))], argTypes := #[39, 30] }), 0, "", #[], none⟩,
  ⟨(some 30), (.convert 30 3 (.tmp 29)), 0, "", #[], none⟩,
  ⟨(some 31), (.nilCheck (.tmp 27)), 0, "", #[], none⟩,
  ⟨none, (.store 3 (.tmp 31) (.tmp 30)), 0, "", #[], none⟩] false)))
  (.region 9 #[⟨(some 32), (.binOp .add 3 (.tmp 23) (.const (.int .i64 1)) 3), 0, "", #[], none⟩,
  ⟨(some 23), (.move (.tmp 32)), 0, "", #[], none⟩] false)))
def tail10_5 : Code :=
  .seq (.seq (.region 5 #[⟨(some 15), (.fieldAddr 32 (.tmp 4) 1), 0, "", #[], none⟩,
  ⟨(some 16), (.fieldAddr 32 (.tmp 4) 2), 0, "", #[], none⟩,
  ⟨(some 17), (.fieldAddr 32 (.tmp 4) 3), 0, "", #[], none⟩,
  ⟨(some 18), (.fieldAddr 32 (.tmp 4) 4), 0, "", #[], none⟩,
  ⟨(some 19), (.fieldAddr 32 (.tmp 4) 5), 0, "", #[], none⟩,
  ⟨(some 20), (.fieldAddr 32 (.tmp 4) 6), 0, "", #[], none⟩,
  ⟨(some 21), (.buildSlice 88 6 #[(0, (.tmp 15)), (1, (.tmp 16)), (2, (.tmp 17)), (3, (.tmp 18)), (4, (.tmp 19)), (5, (.tmp 20))]), 0, "", #[], none⟩,
  ⟨(some 22), (.call { callee := (.builtin .len), args := #[(.tmp 21)], argTypes := #[88] }), 0, "", #[], none⟩,
  ⟨(some 23), (.move (.const (.int .i64 0))), 0, "", #[], none⟩] false)
  (.block 2 (.loop body10_0)))
  tail10_10
def body10_1 : Code :=
  .seq (.region 3 #[⟨(some 11), (.binOp .lss 30 (.tmp 10) (.tmp 9) 30), 0, "", #[], none⟩] false)
  (.seq (.cond (.tmp 11)
  (.skip)
  (.exit 0))
  (.seq (.block 1 (.seq (.region 4 #[⟨(some 12), (.move (.tmp 0)), 0, "", #[], none⟩,
  ⟨(some 13), (.call { callee := (.value (.func 33)), args := #[(.tmp 12), (.const (.int .u64 1099511627776))], argTypes := #[39, 30] }), 0, "", #[], none⟩,
  ⟨(some 14), (.build 32 #[(0, (.tmp 13))]), 0, "", #[], none⟩,
  ⟨(some 4), (.alloc 32), 0, "", #[], none⟩,
  ⟨none, (.store 32 (.tmp 4) (.tmp 14)), 0, "", #[], none⟩] false)
  tail10_5))
  (.region 17 #[⟨(some 54), (.binOp .add 30 (.tmp 10) (.const (.int .u64 1)) 30), 0, "", #[], none⟩,
  ⟨(some 10), (.move (.tmp 54)), 0, "", #[], none⟩] false)))
def code10 : Code :=
  .seq (.region 0 #[⟨(some 2), (.assign (.const (.slice none 0 0))), 0, "", #[], none⟩] false)
  (.seq (.region 1 #[⟨(some 3), (.assign (.const (.slice none 0 0))), 0, "", #[], none⟩] false)
  (.seq (.seq (.region 2 #[⟨(some 8), (.move (.tmp 0)), 0, "", #[], none⟩,
  ⟨(some 9), (.call { callee := (.value (.func 33)), args := #[(.tmp 8), (.const (.int .u64 65536))], argTypes := #[39, 30] }), 0, "", #[], none⟩,
  ⟨(some 10), (.move (.const (.int .u64 0))), 0, "", #[], none⟩] false)
  (.block 0 (.loop body10_1)))
  (.seq (.region 18 #[⟨(some 55), (.move (.tmp 3)), 0, "", #[], none⟩,
  ⟨(some 2), (.assign (.tmp 55)), 0, "", #[], none⟩] false)
  (.ret))))
noncomputable def x10 : FnI := ⟨Tryz.f10.body.getD .skip, 56, [(.tmp 2)]⟩
theorem fn10 : fnOf P 10 = some x10 := by kernel_rfl
theorem sx10 : strip x10.code = code10 := by kernel_rfl
theorem ok10 : codeOk (plsOf plans 10) x10.code = true := plsOf_ok P plans_ok 10 x10 fn10
theorem pl10_14 : planFor (plsOf plans 10) 14 = some [⟨[0, 2], [], some 1⟩, ⟨[], [2], some 3⟩, ⟨[], [], some 4⟩, ⟨[5], [], none⟩] := by kernel_rfl
theorem rs10 : x10.results = [(.tmp 2)] := rfl
theorem ex10 : E.ext 10 = none := by kernel_rfl
theorem nt10 : x10.ntmps = 56 := rfl

/-! (*fascicle/cursor.Cursor).End -/
def code11 : Code :=
  .seq (.region 0 #[⟨(some 2), (.move (.tmp 0)), 0, "", #[], none⟩,
  ⟨(some 3), (.call { callee := (.value (.func 38)), args := #[(.tmp 2)], argTypes := #[39] }), 0, "", #[], none⟩,
  ⟨(some 4), (.binOp .gtr 3 (.tmp 3) (.const (.int .i64 0)) 3), 0, "", #[], none⟩] false)
  (.cond (.tmp 4)
  (.region 1 #[⟨(some 5), (.move (.tmp 0)), 0, "", #[], none⟩,
  ⟨(some 6), (.call { callee := (.value (.func 35)), args := #[(.tmp 5), (.const (.int .i64 3))], argTypes := #[39, 35] }), 0, "", #[], none⟩] false)
  (.skip))
noncomputable def x11 : FnI := ⟨Tryz.f11.body.getD .skip, 7, []⟩
theorem fn11 : fnOf P 11 = some x11 := by kernel_rfl
theorem sx11 : strip x11.code = code11 := by kernel_rfl
theorem ok11 : codeOk (plsOf plans 11) x11.code = true := plsOf_ok P plans_ok 11 x11 fn11
theorem rs11 : x11.results = [] := rfl
theorem ex11 : E.ext 11 = none := by kernel_rfl
theorem nt11 : x11.ntmps = 7 := rfl

/-! fascicle/fascicleref30.Text -/
def body12_0 : Code :=
  .seq (.region 7 #[⟨(some 38), (.binOp .lss 3 (.tmp 37) (.tmp 36) 3), 0, "", #[], none⟩] false)
  (.seq (.cond (.tmp 38)
  (.skip)
  (.exit 2))
  (.seq (.block 3 (.seq (.region 8 #[⟨(some 39), (.indexAddr 34 (.tmp 35) (.tmp 37)), 0, "", #[], none⟩,
  ⟨(some 40), (.load 3 (.tmp 39)), 0, "", #[], none⟩,
  ⟨(some 7), (.assign (.tmp 40)), 0, "", #[], none⟩] false)
  (.region 9 #[⟨(some 41), (.move (.tmp 3)), 0, "", #[], none⟩,
  ⟨(some 42), (.move (.tmp 7)), 0, "", #[], none⟩,
  ⟨(some 43), (.call { callee := (.builtin .max), args := #[(.const (.int .i64 0)), (.tmp 42)], argTypes := #[3, 3] }), 0, "", #[], none⟩,
  ⟨(some 44), (.convert 3 30 (.tmp 43)), 0, "", #[], none⟩,
  ⟨(some 45), (.call { callee := (.value (.func 39)), args := #[(.tmp 44)], argTypes := #[30] }), 0, "", #[], none⟩,
  ⟨(some 46), (.binOp .add 9 (.tmp 41) (.tmp 45) 9), 0, "", #[], none⟩,
  ⟨(some 3), (.assign (.tmp 46)), 0, "", #[], none⟩] false)))
  (.region 10 #[⟨(some 47), (.binOp .add 3 (.tmp 37) (.const (.int .i64 1)) 3), 0, "", #[], none⟩,
  ⟨(some 37), (.move (.tmp 47)), 0, "", #[], none⟩] false)))
def body12_1 : Code :=
  .seq (.region 3 #[⟨(some 15), (.binOp .lss 3 (.tmp 14) (.tmp 13) 3), 0, "", #[], none⟩] false)
  (.seq (.cond (.tmp 15)
  (.skip)
  (.exit 0))
  (.seq (.block 1 (.seq (.region 4 #[⟨(some 16), (.indexAddr 29 (.tmp 12) (.tmp 14)), 0, "", #[], none⟩,
  ⟨(some 17), (.load 33 (.tmp 16)), 0, "", #[], none⟩,
  ⟨(some 5), (.alloc 33), 0, "", #[], none⟩,
  ⟨none, (.store 33 (.tmp 5) (.tmp 17)), 0, "", #[], none⟩] false)
  (.seq (.region 5 #[⟨(some 18), (.move (.tmp 3)), 0, "", #[], none⟩,
  ⟨(some 19), (.fieldAddr 33 (.tmp 5) 0), 0, "", #[], none⟩,
  ⟨(some 20), (.load 30 (.tmp 19)), 0, "", #[], none⟩,
  ⟨(some 21), (.call { callee := (.value (.func 39)), args := #[(.tmp 20)], argTypes := #[30] }), 0, "", #[], none⟩,
  ⟨(some 22), (.binOp .add 9 (.tmp 18) (.tmp 21) 9), 0, "", #[], none⟩,
  ⟨(some 3), (.assign (.tmp 22)), 0, "", #[], none⟩] false)
  (.seq (.seq (.region 6 #[⟨(some 23), (.fieldAddr 33 (.tmp 5) 1), 0, "", #[], none⟩,
  ⟨(some 24), (.load 3 (.tmp 23)), 0, "", #[], none⟩,
  ⟨(some 25), (.fieldAddr 33 (.tmp 5) 2), 0, "", #[], none⟩,
  ⟨(some 26), (.load 3 (.tmp 25)), 0, "", #[], none⟩,
  ⟨(some 27), (.fieldAddr 33 (.tmp 5) 3), 0, "", #[], none⟩,
  ⟨(some 28), (.load 3 (.tmp 27)), 0, "", #[], none⟩,
  ⟨(some 29), (.fieldAddr 33 (.tmp 5) 4), 0, "", #[], none⟩,
  ⟨(some 30), (.load 3 (.tmp 29)), 0, "", #[], none⟩,
  ⟨(some 31), (.fieldAddr 33 (.tmp 5) 5), 0, "", #[], none⟩,
  ⟨(some 32), (.load 3 (.tmp 31)), 0, "", #[], none⟩,
  ⟨(some 33), (.fieldAddr 33 (.tmp 5) 6), 0, "", #[], none⟩,
  ⟨(some 34), (.load 3 (.tmp 33)), 0, "", #[], none⟩,
  ⟨(some 35), (.buildSlice 34 6 #[(0, (.tmp 24)), (1, (.tmp 26)), (2, (.tmp 28)), (3, (.tmp 30)), (4, (.tmp 32)), (5, (.tmp 34))]), 0, "", #[], none⟩,
  ⟨(some 36), (.call { callee := (.builtin .len), args := #[(.tmp 35)], argTypes := #[34] }), 0, "", #[], none⟩,
  ⟨(some 37), (.move (.const (.int .i64 0))), 0, "", #[], none⟩] false)
  (.block 2 (.loop body12_0)))
  (.seq (.seq (.region 11 #[⟨(some 48), (.fieldAddr 33 (.tmp 5) 7), 0, "", #[], none⟩,
  ⟨(some 49), (.load 4 (.tmp 48)), 0, "", #[], none⟩] false)
  (.cond (.tmp 49)
  (.region 12 #[⟨(some 50), (.move (.tmp 3)), 0, "", #[], none⟩,
  ⟨(some 51), (.binOp .add 9 (.tmp 50) (.const (.string ⟨#[1]⟩)) 9), 0, "", #[], none⟩,
  ⟨(some 3), (.assign (.tmp 51)), 0, "", #[], none⟩] false)
  (.region 13 #[⟨(some 52), (.move (.tmp 3)), 0, "", #[], none⟩,
  ⟨(some 53), (.binOp .add 9 (.tmp 52) (.const (.string ⟨#[0]⟩)) 9), 0, "", #[], none⟩,
  ⟨(some 3), (.assign (.tmp 53)), 0, "", #[], none⟩] false)))
  (.region 14 #[⟨(some 54), (.move (.tmp 3)), 0, "", #[], none⟩,
  ⟨(some 55), (.load 33 (.tmp 5)), 0, "", #[], none⟩,
  ⟨(some 56), (.call { callee := (.value (.func 42)), args := #[(.tmp 55)], argTypes := #[33] }), 0, "", #[], none⟩,
  ⟨(some 57), (.call { callee := (.value (.func 41)), args := #[(.tmp 56)], argTypes := #[76] }), 0, "", #[], none⟩,
  ⟨(some 58), (.call { callee := (.value (.func 40)), args := #[(.tmp 57), (.const (.int .i64 8))], argTypes := #[30, 3] }), 0, "", #[], none⟩,
  ⟨(some 59), (.binOp .add 9 (.tmp 54) (.tmp 58) 9), 0, "", #[], none⟩,
  ⟨(some 3), (.assign (.tmp 59)), 0, "", #[], none⟩] false))))))
  (.region 15 #[⟨(some 60), (.binOp .add 3 (.tmp 14) (.const (.int .i64 1)) 3), 0, "", #[], none⟩,
  ⟨(some 14), (.move (.tmp 60)), 0, "", #[], none⟩] false)))
def code12 : Code :=
  .seq (.region 0 #[⟨(some 2), (.assign (.const (.string ⟨#[]⟩))), 0, "", #[], none⟩] false)
  (.seq (.region 1 #[⟨(some 8), (.move (.tmp 0)), 0, "", #[], none⟩,
  ⟨(some 9), (.call { callee := (.builtin .len), args := #[(.tmp 8)], argTypes := #[29] }), 0, "", #[], none⟩,
  ⟨(some 10), (.convert 3 30 (.tmp 9)), 0, "", #[], none⟩,
  ⟨(some 11), (.call { callee := (.value (.func 39)), args := #[(.tmp 10)], argTypes := #[30] }), 0, "", #[], none⟩,
  ⟨(some 3), (.assign (.tmp 11)), 0, "", #[], none⟩] false)
  (.seq (.seq (.region 2 #[⟨(some 12), (.move (.tmp 0)), 0, "", #[], none⟩,
  ⟨(some 13), (.call { callee := (.builtin .len), args := #[(.tmp 12)], argTypes := #[29] }), 0, "", #[], none⟩,
  ⟨(some 14), (.move (.const (.int .i64 0))), 0, "", #[], none⟩] false)
  (.block 0 (.loop body12_1)))
  (.seq (.region 16 #[⟨(some 61), (.move (.tmp 3)), 0, "", #[], none⟩,
  ⟨(some 2), (.assign (.tmp 61)), 0, "", #[], none⟩] false)
  (.ret))))
noncomputable def x12 : FnI := ⟨Tryz.f12.body.getD .skip, 62, [(.tmp 2)]⟩
theorem fn12 : fnOf P 12 = some x12 := by kernel_rfl
theorem sx12 : strip x12.code = code12 := by kernel_rfl
theorem ok12 : codeOk (plsOf plans 12) x12.code = true := plsOf_ok P plans_ok 12 x12 fn12
theorem rs12 : x12.results = [(.tmp 2)] := rfl
theorem ex12 : E.ext 12 = none := by kernel_rfl
theorem nt12 : x12.ntmps = 62 := rfl

/-! fascicle/fasciclelaw30.same -/
def body13_0 : Code :=
  .seq (.region 4 #[⟨(some 14), (.binOp .lss 3 (.tmp 13) (.tmp 12) 3), 0, "", #[], none⟩] false)
  (.seq (.cond (.tmp 14)
  (.skip)
  (.exit 0))
  (.seq (.block 1 (.seq (.region 5 #[⟨(some 15), (.move (.tmp 13)), 0, "", #[], none⟩,
  ⟨(some 5), (.assign (.tmp 15)), 0, "", #[], none⟩] false)
  (.seq (.region 6 #[⟨(some 16), (.move (.tmp 0)), 0, "", #[], none⟩,
  ⟨(some 17), (.move (.tmp 5)), 0, "", #[], none⟩,
  ⟨(some 18), (.indexAddr 22 (.tmp 16) (.tmp 17)), 0, "", #[], none⟩,
  ⟨(some 19), (.load 32 (.tmp 18)), 0, "", #[], none⟩,
  ⟨(some 20), (.move (.tmp 1)), 0, "", #[], none⟩,
  ⟨(some 21), (.move (.tmp 5)), 0, "", #[], none⟩,
  ⟨(some 22), (.indexAddr 29 (.tmp 20) (.tmp 21)), 0, "", #[], none⟩,
  ⟨(some 23), (.load 33 (.tmp 22)), 0, "", #[], none⟩,
  ⟨(some 24), (.binOp .neq 33 (.tmp 19) (.tmp 23) 33), 0, "", #[], none⟩] true)
  (.cond (.tmp 24)
  (.seq (.region 7 #[⟨(some 4), (.assign (.const (.bool false))), 0, "", #[], none⟩] false)
  (.ret))
  (.skip)))))
  (.region 8 #[⟨(some 25), (.binOp .add 3 (.tmp 13) (.const (.int .i64 1)) 3), 0, "", #[], none⟩,
  ⟨(some 13), (.move (.tmp 25)), 0, "", #[], none⟩] false)))
def code13 : Code :=
  .seq (.region 0 #[⟨(some 4), (.assign (.const (.bool false))), 0, "", #[], none⟩] false)
  (.seq (.seq (.region 1 #[⟨(some 6), (.move (.tmp 0)), 0, "", #[], none⟩,
  ⟨(some 7), (.call { callee := (.builtin .len), args := #[(.tmp 6)], argTypes := #[22] }), 0, "", #[], none⟩,
  ⟨(some 8), (.move (.tmp 1)), 0, "", #[], none⟩,
  ⟨(some 9), (.call { callee := (.builtin .len), args := #[(.tmp 8)], argTypes := #[29] }), 0, "", #[], none⟩,
  ⟨(some 10), (.binOp .neq 3 (.tmp 7) (.tmp 9) 3), 0, "", #[], none⟩] false)
  (.cond (.tmp 10)
  (.seq (.region 2 #[⟨(some 4), (.assign (.const (.bool false))), 0, "", #[], none⟩] false)
  (.ret))
  (.skip)))
  (.seq (.seq (.region 3 #[⟨(some 11), (.move (.tmp 0)), 0, "", #[], none⟩,
  ⟨(some 12), (.call { callee := (.builtin .len), args := #[(.tmp 11)], argTypes := #[22] }), 0, "", #[], none⟩,
  ⟨(some 13), (.move (.const (.int .i64 0))), 0, "", #[], none⟩] false)
  (.block 0 (.loop body13_0)))
  (.seq (.region 9 #[⟨(some 4), (.assign (.const (.bool true))), 0, "", #[], none⟩] false)
  (.ret))))
noncomputable def x13 : FnI := ⟨Tryz.f13.body.getD .skip, 26, [(.tmp 4)]⟩
theorem fn13 : fnOf P 13 = some x13 := by kernel_rfl
theorem sx13 : strip x13.code = code13 := by kernel_rfl
theorem ok13 : codeOk (plsOf plans 13) x13.code = true := plsOf_ok P plans_ok 13 x13 fn13
theorem pl13_6 : planFor (plsOf plans 13) 6 = some [⟨[0, 1, 2, 3, 4, 5, 6, 7, 8], [], none⟩] := by kernel_rfl
theorem rs13 : x13.results = [(.tmp 4)] := rfl
theorem ex13 : E.ext 13 = none := by kernel_rfl
theorem nt13 : x13.ntmps = 26 := rfl

/-! fascicle/fasciclelaw30.ReportBytes.2 -/
def code14 : Code :=
  .region 0 #[⟨(some 3), (.move (.tmp 0)), 0, "", #[], none⟩,
  ⟨(some 4), (.call { callee := (.value (.func 10)), args := #[(.tmp 3)], argTypes := #[39] }), 0, "", #[], none⟩,
  ⟨none, (.store 22 (.tmp 1) (.tmp 4)), 0, "", #[], none⟩] false
noncomputable def x14 : FnI := ⟨Tryz.f14.body.getD .skip, 5, []⟩
theorem fn14 : fnOf P 14 = some x14 := by kernel_rfl
theorem sx14 : strip x14.code = code14 := by kernel_rfl
theorem ok14 : codeOk (plsOf plans 14) x14.code = true := plsOf_ok P plans_ok 14 x14 fn14
theorem rs14 : x14.results = [] := rfl
theorem ex14 : E.ext 14 = none := by kernel_rfl
theorem nt14 : x14.ntmps = 5 := rfl

/-! fascicle/fascicleref30.Get -/
def tail15_28 : Code :=
  .seq (.seq (.region 28 #[⟨(some 100), (.fieldAddr 45 (.tmp 1) 2), 0, "", #[], none⟩,
  ⟨(some 101), (.load 3 (.tmp 100)), 0, "", #[], none⟩,
  ⟨(some 102), (.binOp .neq 3 (.tmp 101) (.const (.int .i64 0)) 3), 0, "", #[], none⟩] false)
  (.cond (.tmp 102)
  (.seq (.region 29 #[⟨(some 103), (.load 45 (.tmp 1)), 0, "", #[], none⟩,
  ⟨none, (.store 45 (.tmp 2) (.tmp 103)), 0, "", #[], none⟩,
  ⟨(some 3), (.assign (.const (.slice none 0 0))), 0, "", #[], none⟩] false)
  (.ret))
  (.skip)))
  (.region 30 #[⟨(some 104), (.move (.tmp 5)), 0, "", #[], none⟩,
  ⟨(some 105), (.load 33 (.tmp 6)), 0, "", #[], none⟩,
  ⟨(some 106), (.buildSlice 29 1 #[(0, (.tmp 105))]), 0, "", #[], none⟩,
  ⟨(some 107), (.call { callee := (.builtin .append), args := #[(.tmp 104), (.tmp 106)], argTypes := #[29, 29] }), 0, "", #[], none⟩,
  ⟨(some 5), (.assign (.tmp 107)), 0, "", #[], none⟩] false)
def tail15_23 : Code :=
  .seq (.region 23 #[⟨(some 78), (.move (.tmp 10)), 0, "", #[], none⟩,
  ⟨(some 79), (.binOp .eql 30 (.tmp 78) (.const (.int .u64 1)) 30), 0, "", #[], none⟩,
  ⟨(some 80), (.fieldAddr 33 (.tmp 6) 7), 0, "", #[], none⟩,
  ⟨none, (.store 4 (.tmp 80) (.tmp 79)), 0, "", #[], none⟩] false)
  (.seq (.region 24 #[⟨(some 82), (.load 45 (.tmp 1)), 0, "", #[], none⟩,
  ⟨(some 83), (.call { callee := (.value (.func 46)), args := #[(.tmp 82)], argTypes := #[45] }), 0, "", #[], none⟩,
  ⟨(some 81), (.move (.tmp 83)), 0, "", #[], none⟩,
  ⟨(some 84), (.extract (.tmp 81) 0), 0, "", #[], none⟩,
  ⟨(some 85), (.extract (.tmp 81) 1), 0, "", #[], none⟩,
  ⟨(some 11), (.alloc 45), 0, "", #[], none⟩,
  ⟨none, (.store 45 (.tmp 11) (.tmp 84)), 0, "", #[], none⟩,
  ⟨(some 12), (.assign (.tmp 85)), 0, "", #[], none⟩] false)
  (.seq (.region 25 #[⟨(some 86), (.load 45 (.tmp 11)), 0, "", #[], none⟩,
  ⟨none, (.store 45 (.tmp 1) (.tmp 86)), 0, "", #[], none⟩] false)
  (.seq (.seq (.region 26 #[⟨(some 87), (.fieldAddr 45 (.tmp 1) 2), 0, "", #[], none⟩,
  ⟨(some 88), (.load 3 (.tmp 87)), 0, "", #[], none⟩,
  ⟨(some 89), (.binOp .eql 3 (.tmp 88) (.const (.int .i64 0)) 3), 0, "", #[], none⟩,
  ⟨(some 90), (.move (.tmp 89)), 0, "", #[], none⟩,
  ⟨(some 91), (.move (.tmp 12)), 0, "", #[], (some (3, true))⟩,
  ⟨(some 92), (.call { callee := (.value (.func 41)), args := #[(.tmp 91)], argTypes := #[76] }), 0, "", #[], (some (3, true))⟩,
  ⟨(some 93), (.load 33 (.tmp 6)), 0, "", #[], (some (3, true))⟩,
  ⟨(some 94), (.call { callee := (.value (.func 42)), args := #[(.tmp 93)], argTypes := #[33] }), 0, "", #[], (some (3, true))⟩,
  ⟨(some 95), (.call { callee := (.value (.func 41)), args := #[(.tmp 94)], argTypes := #[76] }), 0, "", #[], (some (3, true))⟩,
  ⟨(some 96), (.binOp .neq 30 (.tmp 92) (.tmp 95) 30), 0, "", #[], (some (3, true))⟩,
  ⟨(some 97), (.pick (.tmp 90) (.tmp 96) (.const (.bool false))), 0, "", #[], none⟩] true)
  (.cond (.tmp 97)
  (.region 27 #[⟨(some 98), (.load 45 (.tmp 1)), 0, "", #[], none⟩,
  ⟨(some 99), (.call { callee := (.value (.func 45)), args := #[(.tmp 98), (.const (.int .i64 4))], argTypes := #[45, 3] }), 0, "", #[], none⟩,
  ⟨none, (.store 45 (.tmp 1) (.tmp 99)), 0, "", #[], none⟩] false)
  (.skip)))
  tail15_28)))
def tail15_19 : Code :=
  .seq (.region 19 #[⟨(some 64), (.load 45 (.tmp 1)), 0, "", #[], none⟩,
  ⟨(some 65), (.call { callee := (.value (.func 44)), args := #[(.tmp 64), (.const (.int .i64 1))], argTypes := #[45, 3] }), 0, "", #[], none⟩,
  ⟨(some 63), (.move (.tmp 65)), 0, "", #[], none⟩,
  ⟨(some 66), (.extract (.tmp 63) 0), 0, "", #[], none⟩,
  ⟨(some 67), (.extract (.tmp 63) 1), 0, "", #[], none⟩,
  ⟨(some 9), (.alloc 45), 0, "", #[], none⟩,
  ⟨none, (.store 45 (.tmp 9) (.tmp 66)), 0, "", #[], none⟩,
  ⟨(some 10), (.assign (.tmp 67)), 0, "", #[], none⟩] false)
  (.seq (.region 20 #[⟨(some 68), (.load 45 (.tmp 9)), 0, "", #[], none⟩,
  ⟨none, (.store 45 (.tmp 1) (.tmp 68)), 0, "", #[], none⟩] false)
  (.seq (.seq (.region 21 #[⟨(some 69), (.fieldAddr 45 (.tmp 1) 2), 0, "", #[], none⟩,
  ⟨(some 70), (.load 3 (.tmp 69)), 0, "", #[], none⟩,
  ⟨(some 71), (.binOp .eql 3 (.tmp 70) (.const (.int .i64 0)) 3), 0, "", #[], none⟩,
  ⟨(some 72), (.move (.tmp 71)), 0, "", #[], none⟩,
  ⟨(some 73), (.move (.tmp 10)), 0, "", #[], (some (3, true))⟩,
  ⟨(some 74), (.binOp .gtr 30 (.tmp 73) (.const (.int .u64 1)) 30), 0, "", #[], (some (3, true))⟩,
  ⟨(some 75), (.pick (.tmp 72) (.tmp 74) (.const (.bool false))), 0, "", #[], none⟩] false)
  (.cond (.tmp 75)
  (.region 22 #[⟨(some 76), (.load 45 (.tmp 1)), 0, "", #[], none⟩,
  ⟨(some 77), (.call { callee := (.value (.func 45)), args := #[(.tmp 76), (.const (.int .i64 4))], argTypes := #[45, 3] }), 0, "", #[], none⟩,
  ⟨none, (.store 45 (.tmp 1) (.tmp 77)), 0, "", #[], none⟩] false)
  (.skip)))
  tail15_23))
def tail15_16 : Code :=
  .seq (.region 16 #[⟨(some 51), (.indexAddr 100 (.tmp 7) (.const (.int .i64 3))), 0, "", #[], none⟩,
  ⟨(some 52), (.load 30 (.tmp 51)), 0, "", #[], none⟩,
  ⟨(some 53), (.convert 30 3 (.tmp 52)), 0, "", #[], none⟩,
  ⟨(some 54), (.fieldAddr 33 (.tmp 6) 4), 0, "", #[], none⟩,
  ⟨none, (.store 3 (.tmp 54) (.tmp 53)), 0, "", #[], none⟩] false)
  (.seq (.region 17 #[⟨(some 55), (.indexAddr 100 (.tmp 7) (.const (.int .i64 4))), 0, "", #[], none⟩,
  ⟨(some 56), (.load 30 (.tmp 55)), 0, "", #[], none⟩,
  ⟨(some 57), (.convert 30 3 (.tmp 56)), 0, "", #[], none⟩,
  ⟨(some 58), (.fieldAddr 33 (.tmp 6) 5), 0, "", #[], none⟩,
  ⟨none, (.store 3 (.tmp 58) (.tmp 57)), 0, "", #[], none⟩] false)
  (.seq (.region 18 #[⟨(some 59), (.indexAddr 100 (.tmp 7) (.const (.int .i64 5))), 0, "", #[], none⟩,
  ⟨(some 60), (.load 30 (.tmp 59)), 0, "", #[], none⟩,
  ⟨(some 61), (.convert 30 3 (.tmp 60)), 0, "", #[], none⟩,
  ⟨(some 62), (.fieldAddr 33 (.tmp 6) 6), 0, "", #[], none⟩,
  ⟨none, (.store 3 (.tmp 62) (.tmp 61)), 0, "", #[], none⟩] false)
  tail15_19))
def tail15_13 : Code :=
  .seq (.region 13 #[⟨(some 39), (.indexAddr 100 (.tmp 7) (.const (.int .i64 0))), 0, "", #[], none⟩,
  ⟨(some 40), (.load 30 (.tmp 39)), 0, "", #[], none⟩,
  ⟨(some 41), (.convert 30 3 (.tmp 40)), 0, "", #[], none⟩,
  ⟨(some 42), (.fieldAddr 33 (.tmp 6) 1), 0, "", #[], none⟩,
  ⟨none, (.store 3 (.tmp 42) (.tmp 41)), 0, "", #[], none⟩] false)
  (.seq (.region 14 #[⟨(some 43), (.indexAddr 100 (.tmp 7) (.const (.int .i64 1))), 0, "", #[], none⟩,
  ⟨(some 44), (.load 30 (.tmp 43)), 0, "", #[], none⟩,
  ⟨(some 45), (.convert 30 3 (.tmp 44)), 0, "", #[], none⟩,
  ⟨(some 46), (.fieldAddr 33 (.tmp 6) 2), 0, "", #[], none⟩,
  ⟨none, (.store 3 (.tmp 46) (.tmp 45)), 0, "", #[], none⟩] false)
  (.seq (.region 15 #[⟨(some 47), (.indexAddr 100 (.tmp 7) (.const (.int .i64 2))), 0, "", #[], none⟩,
  ⟨(some 48), (.load 30 (.tmp 47)), 0, "", #[], none⟩,
  ⟨(some 49), (.convert 30 3 (.tmp 48)), 0, "", #[], none⟩,
  ⟨(some 50), (.fieldAddr 33 (.tmp 6) 3), 0, "", #[], none⟩,
  ⟨none, (.store 3 (.tmp 50) (.tmp 49)), 0, "", #[], none⟩] false)
  tail15_16))
def body15_0 : Code :=
  .seq (.region 9 #[⟨(some 29), (.binOp .lss 3 (.tmp 28) (.const (.int .i64 6)) 3), 0, "", #[], none⟩] false)
  (.seq (.cond (.tmp 29)
  (.skip)
  (.exit 2))
  (.seq (.block 3 (.seq (.region 10 #[⟨(some 30), (.move (.tmp 28)), 0, "", #[], none⟩,
  ⟨(some 8), (.assign (.tmp 30)), 0, "", #[], none⟩] false)
  (.region 11 #[⟨(some 32), (.move (.tmp 8)), 0, "", #[], none⟩,
  ⟨(some 33), (.load 45 (.tmp 1)), 0, "", #[], none⟩,
  ⟨(some 34), (.call { callee := (.value (.func 43)), args := #[(.tmp 33), (.const (.int .u64 1099511627776))], argTypes := #[45, 30] }), 0, "", #[], none⟩,
  ⟨(some 31), (.move (.tmp 34)), 0, "", #[], none⟩,
  ⟨(some 35), (.extract (.tmp 31) 0), 0, "", #[], none⟩,
  ⟨(some 36), (.extract (.tmp 31) 1), 0, "", #[], none⟩,
  ⟨none, (.store 45 (.tmp 1) (.tmp 35)), 0, "", #[], none⟩,
  ⟨(some 37), (.indexAddr 100 (.tmp 7) (.tmp 32)), 0, "", #[], none⟩,
  ⟨none, (.store 30 (.tmp 37) (.tmp 36)), 0, "", #[], none⟩] false)))
  (.region 12 #[⟨(some 38), (.binOp .add 3 (.tmp 28) (.const (.int .i64 1)) 3), 0, "", #[], none⟩,
  ⟨(some 28), (.move (.tmp 38)), 0, "", #[], none⟩] false)))
def body15_1 : Code :=
  .seq (.region 4 #[⟨(some 20), (.binOp .lss 30 (.tmp 19) (.tmp 18) 30), 0, "", #[], none⟩] false)
  (.seq (.cond (.tmp 20)
  (.skip)
  (.exit 0))
  (.seq (.block 1 (.seq (.region 5 #[⟨(some 21), (.build 33 #[]), 0, "", #[], none⟩,
  ⟨(some 6), (.alloc 33), 0, "", #[], none⟩,
  ⟨none, (.store 33 (.tmp 6) (.tmp 21)), 0, "", #[], none⟩] false)
  (.seq (.region 6 #[⟨(some 23), (.load 45 (.tmp 1)), 0, "", #[], none⟩,
  ⟨(some 24), (.call { callee := (.value (.func 43)), args := #[(.tmp 23), (.const (.int .u64 1099511627776))], argTypes := #[45, 30] }), 0, "", #[], none⟩,
  ⟨(some 22), (.move (.tmp 24)), 0, "", #[], none⟩,
  ⟨(some 25), (.extract (.tmp 22) 0), 0, "", #[], none⟩,
  ⟨(some 26), (.extract (.tmp 22) 1), 0, "", #[], none⟩,
  ⟨none, (.store 45 (.tmp 1) (.tmp 25)), 0, "", #[], none⟩,
  ⟨(some 27), (.fieldAddr 33 (.tmp 6) 0), 0, "", #[], none⟩,
  ⟨none, (.store 30 (.tmp 27) (.tmp 26)), 0, "", #[], none⟩] false)
  (.seq (.region 7 #[⟨(some 7), (.alloc 100), 0, "", #[], none⟩] false)
  (.seq (.seq (.region 8 #[⟨(some 28), (.move (.const (.int .i64 0))), 0, "", #[], none⟩] false)
  (.block 2 (.loop body15_0)))
  tail15_13)))))
  (.region 31 #[⟨(some 108), (.binOp .add 30 (.tmp 19) (.const (.int .u64 1)) 30), 0, "", #[], none⟩,
  ⟨(some 19), (.move (.tmp 108)), 0, "", #[], none⟩] false)))
def code15 : Code :=
  .seq (.region 0 #[⟨(some 1), (.box 45 (.tmp 0)), 0, "", #[], none⟩,
  ⟨(some 2), (.alloc 45), 0, "", #[], none⟩,
  ⟨(some 3), (.assign (.const (.slice none 0 0))), 0, "", #[], none⟩] false)
  (.seq (.region 1 #[⟨(some 14), (.load 45 (.tmp 1)), 0, "", #[], none⟩,
  ⟨(some 15), (.call { callee := (.value (.func 43)), args := #[(.tmp 14), (.const (.int .u64 65536))], argTypes := #[45, 30] }), 0, "", #[], none⟩,
  ⟨(some 13), (.move (.tmp 15)), 0, "", #[], none⟩,
  ⟨(some 16), (.extract (.tmp 13) 0), 0, "", #[], none⟩,
  ⟨(some 17), (.extract (.tmp 13) 1), 0, "", #[], none⟩,
  ⟨none, (.store 45 (.tmp 1) (.tmp 16)), 0, "", #[], none⟩,
  ⟨(some 4), (.assign (.tmp 17)), 0, "", #[], none⟩] false)
  (.seq (.region 2 #[⟨(some 5), (.assign (.const (.slice none 0 0))), 0, "", #[], none⟩] false)
  (.seq (.seq (.region 3 #[⟨(some 18), (.move (.tmp 4)), 0, "", #[], none⟩,
  ⟨(some 19), (.move (.const (.int .u64 0))), 0, "", #[], none⟩] false)
  (.block 0 (.loop body15_1)))
  (.seq (.region 32 #[⟨(some 109), (.load 45 (.tmp 1)), 0, "", #[], none⟩,
  ⟨(some 110), (.move (.tmp 5)), 0, "", #[], none⟩,
  ⟨none, (.store 45 (.tmp 2) (.tmp 109)), 0, "", #[], none⟩,
  ⟨(some 3), (.assign (.tmp 110)), 0, "", #[], none⟩] false)
  (.ret)))))
noncomputable def x15 : FnI := ⟨Tryz.f15.body.getD .skip, 111, [(.cell 2 45), (.tmp 3)]⟩
theorem fn15 : fnOf P 15 = some x15 := by kernel_rfl
theorem sx15 : strip x15.code = code15 := by kernel_rfl
theorem ok15 : codeOk (plsOf plans 15) x15.code = true := plsOf_ok P plans_ok 15 x15 fn15
theorem pl15_26 : planFor (plsOf plans 15) 26 = some [⟨[0, 1, 2, 3, 4, 6], [], some 5⟩, ⟨[], [0, 1, 2, 6], some 7⟩, ⟨[], [0, 1, 2], some 8⟩, ⟨[9, 10], [0, 1, 2], none⟩] := by kernel_rfl
theorem rs15 : x15.results = [(.cell 2 45), (.tmp 3)] := rfl
theorem ex15 : E.ext 15 = none := by kernel_rfl
theorem nt15 : x15.ntmps = 111 := rfl

/-! fascicle/report.Health -/
def code27 : Code :=
  .seq (.region 0 #[⟨(some 1), (.box 32 (.tmp 0)), 0, "", #[], none⟩,
  ⟨(some 2), (.assign (.const (.float .f64 0))), 0, "", #[], none⟩] false)
  (.seq (.seq (.region 1 #[⟨(some 3), (.fieldAddr 32 (.tmp 1) 7), 0, "", #[], none⟩,
  ⟨(some 4), (.load 4 (.tmp 3)), 0, "", #[], none⟩] false)
  (.cond (.tmp 4)
  (.seq (.region 2 #[⟨(some 2), (.assign (.const (.float .f64 4607182418800017408))), 0, "", #[], none⟩] false)
  (.ret))
  (.skip)))
  (.seq (.region 3 #[⟨(some 5), (.fieldAddr 32 (.tmp 1) 6), 0, "", #[], none⟩,
  ⟨(some 6), (.load 3 (.tmp 5)), 0, "", #[], none⟩,
  ⟨(some 7), (.fieldAddr 32 (.tmp 1) 1), 0, "", #[], none⟩,
  ⟨(some 8), (.load 3 (.tmp 7)), 0, "", #[], none⟩,
  ⟨(some 9), (.fieldAddr 32 (.tmp 1) 2), 0, "", #[], none⟩,
  ⟨(some 10), (.load 3 (.tmp 9)), 0, "", #[], none⟩,
  ⟨(some 11), (.call { callee := (.value (.func 59)), args := #[(.tmp 6), (.tmp 8), (.tmp 10)], argTypes := #[3, 3, 3] }), 0, "", #[], none⟩,
  ⟨(some 2), (.assign (.tmp 11)), 0, "", #[], none⟩] false)
  (.ret)))
noncomputable def x27 : FnI := ⟨Tryz.f27.body.getD .skip, 12, [(.tmp 2)]⟩
theorem fn27 : fnOf P 27 = some x27 := by kernel_rfl
theorem sx27 : strip x27.code = code27 := by kernel_rfl
theorem ok27 : codeOk (plsOf plans 27) x27.code = true := plsOf_ok P plans_ok 27 x27 fn27
theorem rs27 : x27.results = [(.tmp 2)] := rfl
theorem ex27 : E.ext 27 = none := by kernel_rfl
theorem nt27 : x27.ntmps = 12 := rfl

/-! fascicle/varint.Put -/
def body28_0 : Code :=
  .seq (.seq (.region 0 #[⟨(some 4), (.move (.tmp 1)), 0, "", #[], none⟩,
  ⟨(some 5), (.binOp .geq 30 (.tmp 4) (.const (.int .u64 128)) 30), 0, "", #[], none⟩] false)
  (.cond (.tmp 5)
  (.skip)
  (.exit 0)))
  (.block 1 (.seq (.region 1 #[⟨(some 6), (.move (.tmp 0)), 0, "", #[], none⟩,
  ⟨(some 7), (.move (.tmp 1)), 0, "", #[], none⟩,
  ⟨(some 8), (.convert 30 5 (.tmp 7)), 0, "", #[], none⟩,
  ⟨(some 9), (.binOp .or 5 (.tmp 8) (.const (.int .u8 128)) 5), 0, "", #[], none⟩,
  ⟨(some 10), (.call { callee := (.value (.func 29)), args := #[(.tmp 6), (.tmp 9)], argTypes := #[28, 5] }), 0, "", #[], none⟩] false)
  (.region 2 #[⟨(some 11), (.move (.tmp 1)), 0, "", #[], none⟩,
  ⟨(some 12), (.binOp .shr 30 (.tmp 11) (.const (.int .u64 7)) 124), 0, "", #[], none⟩,
  ⟨(some 1), (.assign (.tmp 12)), 0, "", #[], none⟩] false)))
def code28 : Code :=
  .seq (.block 0 (.loop body28_0))
  (.region 3 #[⟨(some 13), (.move (.tmp 0)), 0, "", #[], none⟩,
  ⟨(some 14), (.move (.tmp 1)), 0, "", #[], none⟩,
  ⟨(some 15), (.convert 30 5 (.tmp 14)), 0, "", #[], none⟩,
  ⟨(some 16), (.call { callee := (.value (.func 29)), args := #[(.tmp 13), (.tmp 15)], argTypes := #[28, 5] }), 0, "", #[], none⟩] false)
noncomputable def x28 : FnI := ⟨Tryz.f28.body.getD .skip, 17, []⟩
theorem fn28 : fnOf P 28 = some x28 := by kernel_rfl
theorem sx28 : strip x28.code = code28 := by kernel_rfl
theorem ok28 : codeOk (plsOf plans 28) x28.code = true := plsOf_ok P plans_ok 28 x28 fn28
theorem rs28 : x28.results = [] := rfl
theorem ex28 : E.ext 28 = none := by kernel_rfl
theorem nt28 : x28.ntmps = 17 := rfl

/-! (*fascicle/cursor.Buffer).Byte -/
def code29 : Code :=
  .seq (.region 0 #[⟨(some 4), (.assign (.const (.pointer none))), 0, "", #[], none⟩] false)
  (.seq (.region 1 #[⟨(some 5), (.move (.tmp 0)), 0, "", #[], none⟩,
  ⟨(some 6), (.move (.tmp 1)), 0, "", #[], none⟩,
  ⟨(some 7), (.convert 5 30 (.tmp 6)), 0, "", #[], none⟩,
  ⟨(some 8), (.call { callee := (.value (.func 60)), args := #[(.tmp 5), (.tmp 7), (.const (.int .i64 1))], argTypes := #[28, 30, 3] }), 0, "", #[], none⟩,
  ⟨(some 4), (.assign (.tmp 8)), 0, "", #[], none⟩] false)
  (.ret))
noncomputable def x29 : FnI := ⟨Tryz.f29.body.getD .skip, 9, [(.tmp 4)]⟩
theorem fn29 : fnOf P 29 = some x29 := by kernel_rfl
theorem sx29 : strip x29.code = code29 := by kernel_rfl
theorem ok29 : codeOk (plsOf plans 29) x29.code = true := plsOf_ok P plans_ok 29 x29 fn29
theorem rs29 : x29.results = [(.tmp 4)] := rfl
theorem ex29 : E.ext 29 = none := by kernel_rfl
theorem nt29 : x29.ntmps = 9 := rfl

/-! fascicle/edge.Put -/
def code30 : Code :=
  .region 0 #[⟨(some 4), (.move (.tmp 0)), 0, "", #[], none⟩,
  ⟨(some 5), (.move (.tmp 1)), 0, "", #[], none⟩,
  ⟨(some 6), (.call { callee := (.value (.func 62)), args := #[(.tmp 5)], argTypes := #[76] }), 0, "", #[], none⟩,
  ⟨(some 7), (.call { callee := (.value (.func 61)), args := #[(.tmp 4), (.tmp 6)], argTypes := #[28, 30] }), 0, "", #[], none⟩] false
noncomputable def x30 : FnI := ⟨Tryz.f30.body.getD .skip, 8, []⟩
theorem fn30 : fnOf P 30 = some x30 := by kernel_rfl
theorem sx30 : strip x30.code = code30 := by kernel_rfl
theorem ok30 : codeOk (plsOf plans 30) x30.code = true := plsOf_ok P plans_ok 30 x30 fn30
theorem rs30 : x30.results = [] := rfl
theorem ex30 : E.ext 30 = none := by kernel_rfl
theorem nt30 : x30.ntmps = 8 := rfl

/-! bytes.Clone -/
def code31 : Code :=
  .seq (.region 0 #[⟨(some 2), (.assign (.const (.slice none 0 0))), 0, "", #[], none⟩] false)
  (.seq (.seq (.region 1 #[⟨(some 3), (.move (.tmp 0)), 0, "", #[], none⟩,
  ⟨(some 4), (.binOp .eql 23 (.tmp 3) (.const (.slice none 0 0)) 23), 0, "", #[], none⟩] false)
  (.cond (.tmp 4)
  (.seq (.region 2 #[⟨(some 2), (.assign (.const (.slice none 0 0))), 0, "", #[], none⟩] false)
  (.ret))
  (.skip)))
  (.seq (.region 3 #[⟨(some 5), (.buildSlice 23 0 #[]), 0, "", #[], none⟩,
  ⟨(some 6), (.move (.tmp 0)), 0, "", #[], none⟩,
  ⟨(some 7), (.call { callee := (.builtin .append), args := #[(.tmp 5), (.tmp 6)], argTypes := #[23, 23] }), 0, "", #[], none⟩,
  ⟨(some 2), (.assign (.tmp 7)), 0, "", #[], none⟩] false)
  (.ret)))
noncomputable def x31 : FnI := ⟨Tryz.f31.body.getD .skip, 8, [(.tmp 2)]⟩
theorem fn31 : fnOf P 31 = some x31 := by kernel_rfl
theorem sx31 : strip x31.code = code31 := by kernel_rfl
theorem ok31 : codeOk (plsOf plans 31) x31.code = true := plsOf_ok P plans_ok 31 x31 fn31
theorem rs31 : x31.results = [(.tmp 2)] := rfl
theorem ex31 : E.ext 31 = none := by kernel_rfl
theorem nt31 : x31.ntmps = 8 := rfl

/-! fascicle/cursor.Run.1 -/
def code32 : Code :=
  .seq (.region 0 #[⟨(some 6), (.load 39 (.tmp 0)), 0, "", #[], none⟩,
  ⟨(some 7), (.nilCheck (.tmp 6)), 0, "", #[], none⟩,
  ⟨(some 8), (.fieldAddr 83 (.tmp 7) 2), 0, "", #[], none⟩,
  ⟨none, (.store 4 (.tmp 8) (.const (.bool false))), 0, "", #[], none⟩] false)
  (.seq (.region 1 #[⟨(some 9), (.load 39 (.tmp 0)), 0, "", #[], none⟩,
  ⟨(some 10), (.nilCheck (.tmp 9)), 0, "", #[], none⟩,
  ⟨(some 11), (.fieldAddr 83 (.tmp 10) 1), 0, "", #[], none⟩,
  ⟨(some 12), (.load 3 (.tmp 11)), 0, "", #[], none⟩,
  ⟨none, (.store 3 (.tmp 1) (.tmp 12)), 0, "", #[], none⟩] false)
  (.seq (.region 2 #[⟨(some 13), (.call { callee := (.builtin .recover), args := #[], argTypes := #[] }), 0, "", #[], none⟩] false)
  (.block 0 (.seq (.region 5 #[⟨(some 15), (.binOp .eql 20 (.tmp 13) (.const .nilIface) 20), 0, "", #[], none⟩] false)
  (.cond (.tmp 15)
  (.region 6 #[⟨(some 3), (.assign (.tmp 13)), 0, "", #[], none⟩] false)
  (.seq (.region 7 #[⟨(some 16), (.typeAssert (.tmp 13) 20 85 true), 0, "", #[], none⟩,
  ⟨(some 17), (.extract (.tmp 16) 1), 0, "", #[], none⟩,
  ⟨(some 18), (.extract (.tmp 16) 0), 0, "", #[], none⟩] false)
  (.cond (.tmp 17)
  (.seq (.region 8 #[⟨(some 4), (.alloc 85), 0, "", #[], none⟩,
  ⟨none, (.store 85 (.tmp 4) (.tmp 18)), 0, "", #[], none⟩] false)
  (.seq (.seq (.region 9 #[⟨(some 19), (.fieldAddr 85 (.tmp 4) 0), 0, "", #[], none⟩,
  ⟨(some 20), (.load 39 (.tmp 19)), 0, "", #[], none⟩,
  ⟨(some 21), (.load 39 (.tmp 0)), 0, "", #[], none⟩,
  ⟨(some 22), (.binOp .neq 39 (.tmp 20) (.tmp 21) 39), 0, "", #[], none⟩] false)
  (.cond (.tmp 22)
  (.region 10 #[⟨(some 23), (.load 85 (.tmp 4)), 0, "", #[], none⟩,
  ⟨(some 24), (.makeInterface 85 (.tmp 23)), 0, "", #[], none⟩,
  ⟨none, (.panic (.tmp 24)), 0, "", #[], none⟩] false)
  (.skip)))
  (.region 11 #[⟨(some 25), (.fieldAddr 85 (.tmp 4) 1), 0, "", #[], none⟩,
  ⟨(some 26), (.load 35 (.tmp 25)), 0, "", #[], none⟩,
  ⟨none, (.store 35 (.tmp 2) (.tmp 26)), 0, "", #[], none⟩] false)))
  (.seq (.region 3 #[⟨(some 5), (.assign (.tmp 13)), 0, "", #[], none⟩] false)
  (.region 4 #[⟨(some 14), (.move (.tmp 5)), 0, "", #[], none⟩,
  ⟨none, (.panic (.tmp 14)), 0, "", #[], none⟩] false)))))))))
noncomputable def x32 : FnI := ⟨Tryz.f32.body.getD .skip, 27, []⟩
theorem fn32 : fnOf P 32 = some x32 := by kernel_rfl
theorem sx32 : strip x32.code = code32 := by kernel_rfl
theorem ok32 : codeOk (plsOf plans 32) x32.code = true := plsOf_ok P plans_ok 32 x32 fn32
theorem rs32 : x32.results = [] := rfl
theorem ex32 : E.ext 32 = none := by kernel_rfl
theorem nt32 : x32.ntmps = 27 := rfl

/-! fascicle/report.number -/
def code33 : Code :=
  .seq (.region 0 #[⟨(some 4), (.assign (.const (.int .u64 0))), 0, "", #[], none⟩] false)
  (.seq (.region 1 #[⟨(some 6), (.move (.tmp 0)), 0, "", #[], none⟩,
  ⟨(some 7), (.call { callee := (.value (.func 63)), args := #[(.tmp 6)], argTypes := #[39] }), 0, "", #[], none⟩,
  ⟨(some 5), (.assign (.tmp 7)), 0, "", #[], none⟩] false)
  (.seq (.seq (.region 2 #[⟨(some 8), (.move (.tmp 5)), 0, "", #[], none⟩,
  ⟨(some 9), (.move (.tmp 1)), 0, "", #[], none⟩,
  ⟨(some 10), (.binOp .gtr 30 (.tmp 8) (.tmp 9) 30), 0, "", #[], none⟩] false)
  (.cond (.tmp 10)
  (.region 3 #[⟨(some 11), (.move (.tmp 0)), 0, "", #[], none⟩,
  ⟨(some 12), (.call { callee := (.value (.func 35)), args := #[(.tmp 11), (.const (.int .i64 3))], argTypes := #[39, 35] }), 0, "", #[], none⟩] false)
  (.skip)))
  (.seq (.region 4 #[⟨(some 13), (.move (.tmp 5)), 0, "", #[], none⟩,
  ⟨(some 4), (.assign (.tmp 13)), 0, "", #[], none⟩] false)
  (.ret))))
noncomputable def x33 : FnI := ⟨Tryz.f33.body.getD .skip, 14, [(.tmp 4)]⟩
theorem fn33 : fnOf P 33 = some x33 := by kernel_rfl
theorem sx33 : strip x33.code = code33 := by kernel_rfl
theorem ok33 : codeOk (plsOf plans 33) x33.code = true := plsOf_ok P plans_ok 33 x33 fn33
theorem rs33 : x33.results = [(.tmp 4)] := rfl
theorem ex33 : E.ext 33 = none := by kernel_rfl
theorem nt33 : x33.ntmps = 14 := rfl

/-! (*fascicle/cursor.Cursor).Byte -/
def code34 : Code :=
  .seq (.region 0 #[⟨(some 2), (.assign (.const (.int .u8 0))), 0, "", #[], none⟩] false)
  (.seq (.region 1 #[⟨(some 3), (.move (.tmp 0)), 0, "", #[], none⟩,
  ⟨(some 4), (.call { callee := (.value (.func 64)), args := #[(.tmp 3), (.const (.int .i64 1))], argTypes := #[39, 3] }), 0, "", #[], none⟩,
  ⟨(some 5), (.convert 30 5 (.tmp 4)), 0, "", #[], none⟩,
  ⟨(some 2), (.assign (.tmp 5)), 0, "", #[], none⟩] false)
  (.ret))
noncomputable def x34 : FnI := ⟨Tryz.f34.body.getD .skip, 6, [(.tmp 2)]⟩
theorem fn34 : fnOf P 34 = some x34 := by kernel_rfl
theorem sx34 : strip x34.code = code34 := by kernel_rfl
theorem ok34 : codeOk (plsOf plans 34) x34.code = true := plsOf_ok P plans_ok 34 x34 fn34
theorem rs34 : x34.results = [(.tmp 2)] := rfl
theorem ex34 : E.ext 34 = none := by kernel_rfl
theorem nt34 : x34.ntmps = 6 := rfl

/-! (*fascicle/cursor.Cursor).Fail -/
def code35 : Code :=
  .seq (.region 0 #[⟨(some 4), (.move (.tmp 0)), 0, "", #[], none⟩,
  ⟨(some 5), (.call { callee := (.value (.func 65)), args := #[(.tmp 4)], argTypes := #[39] }), 0, "", #[], none⟩,
  ⟨(some 6), (.unOp .not 4 (.tmp 5)), 0, "", #[], none⟩,
  ⟨(some 7), (.move (.tmp 6)), 0, "", #[], none⟩,
  ⟨(some 8), (.move (.tmp 1)), 0, "", #[], (some (3, true))⟩,
  ⟨(some 9), (.binOp .neq 35 (.tmp 8) (.const (.int .i64 0)) 35), 0, "", #[], (some (3, true))⟩,
  ⟨(some 10), (.pick (.tmp 7) (.tmp 9) (.const (.bool false))), 0, "", #[], none⟩] false)
  (.cond (.tmp 10)
  (.region 1 #[⟨(some 11), (.move (.tmp 0)), 0, "", #[], none⟩,
  ⟨(some 12), (.move (.tmp 1)), 0, "", #[], none⟩,
  ⟨(some 13), (.build 85 #[(0, (.tmp 11)), (1, (.tmp 12))]), 0, "", #[], none⟩,
  ⟨(some 14), (.makeInterface 85 (.tmp 13)), 0, "", #[], none⟩,
  ⟨none, (.panic (.tmp 14)), 0, "", #[], none⟩] false)
  (.skip))
noncomputable def x35 : FnI := ⟨Tryz.f35.body.getD .skip, 15, []⟩
theorem fn35 : fnOf P 35 = some x35 := by kernel_rfl
theorem sx35 : strip x35.code = code35 := by kernel_rfl
theorem ok35 : codeOk (plsOf plans 35) x35.code = true := plsOf_ok P plans_ok 35 x35 fn35
theorem rs35 : x35.results = [] := rfl
theorem ex35 : E.ext 35 = none := by kernel_rfl
theorem nt35 : x35.ntmps = 15 := rfl

/-! fascicle/edge.Same -/
def code36 : Code :=
  .seq (.region 0 #[⟨(some 4), (.assign (.const (.bool false))), 0, "", #[], none⟩] false)
  (.seq (.region 1 #[⟨(some 5), (.move (.tmp 0)), 0, "", #[], none⟩,
  ⟨(some 6), (.call { callee := (.value (.func 66)), args := #[(.tmp 5)], argTypes := #[76] }), 0, "", #[], none⟩,
  ⟨(some 7), (.move (.tmp 1)), 0, "", #[], none⟩,
  ⟨(some 8), (.call { callee := (.value (.func 66)), args := #[(.tmp 7)], argTypes := #[76] }), 0, "", #[], none⟩,
  ⟨(some 9), (.binOp .eql 30 (.tmp 6) (.tmp 8) 30), 0, "", #[], none⟩,
  ⟨(some 4), (.assign (.tmp 9)), 0, "", #[], none⟩] false)
  (.ret))
noncomputable def x36 : FnI := ⟨Tryz.f36.body.getD .skip, 10, [(.tmp 4)]⟩
theorem fn36 : fnOf P 36 = some x36 := by kernel_rfl
theorem sx36 : strip x36.code = code36 := by kernel_rfl
theorem ok36 : codeOk (plsOf plans 36) x36.code = true := plsOf_ok P plans_ok 36 x36 fn36
theorem rs36 : x36.results = [(.tmp 4)] := rfl
theorem ex36 : E.ext 36 = none := by kernel_rfl
theorem nt36 : x36.ntmps = 10 := rfl

/-! fascicle/edge.Get -/
def code37 : Code :=
  .seq (.region 0 #[⟨(some 2), (.assign (.const (.float .f64 0))), 0, "", #[], none⟩] false)
  (.seq (.region 1 #[⟨(some 5), (.move (.tmp 0)), 0, "", #[], none⟩,
  ⟨(some 6), (.call { callee := (.value (.func 67)), args := #[(.tmp 5)], argTypes := #[39] }), 0, "", #[], none⟩,
  ⟨(some 3), (.assign (.tmp 6)), 0, "", #[], none⟩] false)
  (.seq (.region 2 #[⟨(some 7), (.move (.tmp 3)), 0, "", #[], none⟩,
  ⟨(some 8), (.call { callee := (.value (.func 68)), args := #[(.tmp 7)], argTypes := #[30] }), 0, "", #[], none⟩,
  ⟨(some 4), (.assign (.tmp 8)), 0, "", #[], none⟩] false)
  (.seq (.seq (.region 3 #[⟨(some 9), (.move (.tmp 4)), 0, "", #[], none⟩,
  ⟨(some 10), (.call { callee := (.value (.func 62)), args := #[(.tmp 9)], argTypes := #[76] }), 0, "", #[], none⟩,
  ⟨(some 11), (.move (.tmp 3)), 0, "", #[], none⟩,
  ⟨(some 12), (.binOp .neq 30 (.tmp 10) (.tmp 11) 30), 0, "", #[], none⟩] false)
  (.cond (.tmp 12)
  (.region 4 #[⟨(some 13), (.move (.tmp 0)), 0, "", #[], none⟩,
  ⟨(some 14), (.call { callee := (.value (.func 35)), args := #[(.tmp 13), (.const (.int .i64 4))], argTypes := #[39, 35] }), 0, "", #[], none⟩] false)
  (.skip)))
  (.seq (.region 5 #[⟨(some 15), (.move (.tmp 4)), 0, "", #[], none⟩,
  ⟨(some 2), (.assign (.tmp 15)), 0, "", #[], none⟩] false)
  (.ret)))))
noncomputable def x37 : FnI := ⟨Tryz.f37.body.getD .skip, 16, [(.tmp 2)]⟩
theorem fn37 : fnOf P 37 = some x37 := by kernel_rfl
theorem sx37 : strip x37.code = code37 := by kernel_rfl
theorem ok37 : codeOk (plsOf plans 37) x37.code = true := plsOf_ok P plans_ok 37 x37 fn37
theorem rs37 : x37.results = [(.tmp 2)] := rfl
theorem ex37 : E.ext 37 = none := by kernel_rfl
theorem nt37 : x37.ntmps = 16 := rfl

/-! (*fascicle/cursor.Cursor).Left -/
def code38 : Code :=
  .seq (.region 0 #[⟨(some 2), (.assign (.const (.int .i64 0))), 0, "", #[], none⟩] false)
  (.seq (.seq (.region 1 #[⟨(some 3), (.move (.tmp 0)), 0, "", #[], none⟩,
  ⟨(some 4), (.call { callee := (.value (.func 65)), args := #[(.tmp 3)], argTypes := #[39] }), 0, "", #[], none⟩] false)
  (.cond (.tmp 4)
  (.seq (.region 2 #[⟨(some 2), (.assign (.const (.int .i64 0))), 0, "", #[], none⟩] false)
  (.ret))
  (.skip)))
  (.seq (.region 3 #[⟨(some 5), (.move (.tmp 0)), 0, "", #[], none⟩,
  ⟨(some 6), (.nilCheck (.tmp 5)), 0, "", #[], none⟩,
  ⟨(some 7), (.fieldAddr 83 (.tmp 6) 0), 0, "", #[], none⟩,
  ⟨(some 8), (.load 23 (.tmp 7)), 0, "", #[], none⟩,
  ⟨(some 9), (.call { callee := (.builtin .len), args := #[(.tmp 8)], argTypes := #[23] }), 0, "", #[], none⟩,
  ⟨(some 10), (.move (.tmp 0)), 0, "", #[], none⟩,
  ⟨(some 11), (.nilCheck (.tmp 10)), 0, "", #[], none⟩,
  ⟨(some 12), (.fieldAddr 83 (.tmp 11) 1), 0, "", #[], none⟩,
  ⟨(some 13), (.load 3 (.tmp 12)), 0, "", #[], none⟩,
  ⟨(some 14), (.binOp .sub 3 (.tmp 9) (.tmp 13) 3), 0, "", #[], none⟩,
  ⟨(some 2), (.assign (.tmp 14)), 0, "", #[], none⟩] true)
  (.ret)))
noncomputable def x38 : FnI := ⟨Tryz.f38.body.getD .skip, 15, [(.tmp 2)]⟩
theorem fn38 : fnOf P 38 = some x38 := by kernel_rfl
theorem sx38 : strip x38.code = code38 := by kernel_rfl
theorem ok38 : codeOk (plsOf plans 38) x38.code = true := plsOf_ok P plans_ok 38 x38 fn38
theorem pl38_3 : planFor (plsOf plans 38) 3 = some [⟨[0, 1, 2, 3, 4, 5, 6, 7, 8, 9, 10], [], none⟩] := by kernel_rfl
theorem rs38 : x38.results = [(.tmp 2)] := rfl
theorem ex38 : E.ext 38 = none := by kernel_rfl
theorem nt38 : x38.ntmps = 15 := rfl

/-! fascicle/fascicleref02.Num -/
def code39 : Code :=
  .seq (.region 0 #[⟨(some 2), (.assign (.const (.string ⟨#[]⟩))), 0, "", #[], none⟩] false)
  (.seq (.seq (.region 1 #[⟨(some 3), (.move (.tmp 0)), 0, "", #[], none⟩,
  ⟨(some 4), (.binOp .lss 30 (.tmp 3) (.const (.int .u64 128)) 30), 0, "", #[], none⟩] false)
  (.cond (.tmp 4)
  (.seq (.region 2 #[⟨(some 5), (.move (.tmp 0)), 0, "", #[], none⟩,
  ⟨(some 6), (.convert 30 5 (.tmp 5)), 0, "", #[], none⟩,
  ⟨(some 7), (.buildSlice 23 1 #[(0, (.tmp 6))]), 0, "", #[], none⟩,
  ⟨(some 8), (.convert 23 9 (.tmp 7)), 0, "", #[], none⟩,
  ⟨(some 2), (.assign (.tmp 8)), 0, "", #[], none⟩] false)
  (.ret))
  (.skip)))
  (.seq (.region 3 #[⟨(some 9), (.move (.tmp 0)), 0, "", #[], none⟩,
  ⟨(some 10), (.binOp .rem 30 (.tmp 9) (.const (.int .u64 128)) 30), 0, "", #[], none⟩,
  ⟨(some 11), (.binOp .add 30 (.const (.int .u64 128)) (.tmp 10) 30), 0, "", #[], none⟩,
  ⟨(some 12), (.convert 30 5 (.tmp 11)), 0, "", #[], none⟩,
  ⟨(some 13), (.buildSlice 23 1 #[(0, (.tmp 12))]), 0, "", #[], none⟩,
  ⟨(some 14), (.convert 23 9 (.tmp 13)), 0, "", #[], none⟩,
  ⟨(some 15), (.move (.tmp 0)), 0, "", #[], none⟩,
  ⟨(some 16), (.binOp .quo 30 (.tmp 15) (.const (.int .u64 128)) 30), 0, "", #[], none⟩,
  ⟨(some 17), (.call { callee := (.value (.func 39)), args := #[(.tmp 16)], argTypes := #[30] }), 0, "", #[], none⟩,
  ⟨(some 18), (.binOp .add 9 (.tmp 14) (.tmp 17) 9), 0, "", #[], none⟩,
  ⟨(some 2), (.assign (.tmp 18)), 0, "", #[], none⟩] true)
  (.ret)))
noncomputable def x39 : FnI := ⟨Tryz.f39.body.getD .skip, 19, [(.tmp 2)]⟩
theorem fn39 : fnOf P 39 = some x39 := by kernel_rfl
theorem sx39 : strip x39.code = code39 := by kernel_rfl
theorem ok39 : codeOk (plsOf plans 39) x39.code = true := plsOf_ok P plans_ok 39 x39 fn39
theorem pl39_3 : planFor (plsOf plans 39) 3 = some [⟨[0, 1, 2, 3, 6, 7, 8], [], some 4⟩, ⟨[5, 9, 10], [0, 1, 2, 6, 7, 8], none⟩] := by kernel_rfl
theorem rs39 : x39.results = [(.tmp 2)] := rfl
theorem ex39 : E.ext 39 = none := by kernel_rfl
theorem nt39 : x39.ntmps = 19 := rfl

/-! fascicle/fascicleref01.Num -/
def body40_0 : Code :=
  .seq (.region 3 #[⟨(some 8), (.binOp .lss 3 (.tmp 7) (.tmp 6) 3), 0, "", #[], none⟩] false)
  (.seq (.cond (.tmp 8)
  (.skip)
  (.exit 0))
  (.seq (.block 1 (.seq (.region 4 #[⟨(some 9), (.move (.tmp 5)), 0, "", #[], none⟩,
  ⟨(some 10), (.move (.tmp 0)), 0, "", #[], none⟩,
  ⟨(some 11), (.binOp .rem 30 (.tmp 10) (.const (.int .u64 256)) 30), 0, "", #[], none⟩,
  ⟨(some 12), (.convert 30 5 (.tmp 11)), 0, "", #[], none⟩,
  ⟨(some 13), (.buildSlice 23 1 #[(0, (.tmp 12))]), 0, "", #[], none⟩,
  ⟨(some 14), (.convert 23 9 (.tmp 13)), 0, "", #[], none⟩,
  ⟨(some 15), (.binOp .add 9 (.tmp 9) (.tmp 14) 9), 0, "", #[], none⟩,
  ⟨(some 5), (.assign (.tmp 15)), 0, "", #[], none⟩] false)
  (.region 5 #[⟨(some 16), (.move (.tmp 0)), 0, "", #[], none⟩,
  ⟨(some 17), (.binOp .quo 30 (.tmp 16) (.const (.int .u64 256)) 30), 0, "", #[], none⟩,
  ⟨(some 0), (.assign (.tmp 17)), 0, "", #[], none⟩] false)))
  (.region 6 #[⟨(some 18), (.binOp .add 3 (.tmp 7) (.const (.int .i64 1)) 3), 0, "", #[], none⟩,
  ⟨(some 7), (.move (.tmp 18)), 0, "", #[], none⟩] false)))
def code40 : Code :=
  .seq (.region 0 #[⟨(some 4), (.assign (.const (.string ⟨#[]⟩))), 0, "", #[], none⟩] false)
  (.seq (.region 1 #[⟨(some 5), (.assign (.const (.string ⟨#[]⟩))), 0, "", #[], none⟩] false)
  (.seq (.seq (.region 2 #[⟨(some 6), (.move (.tmp 1)), 0, "", #[], none⟩,
  ⟨(some 7), (.move (.const (.int .i64 0))), 0, "", #[], none⟩] false)
  (.block 0 (.loop body40_0)))
  (.seq (.region 7 #[⟨(some 19), (.move (.tmp 5)), 0, "", #[], none⟩,
  ⟨(some 4), (.assign (.tmp 19)), 0, "", #[], none⟩] false)
  (.ret))))
noncomputable def x40 : FnI := ⟨Tryz.f40.body.getD .skip, 20, [(.tmp 4)]⟩
theorem fn40 : fnOf P 40 = some x40 := by kernel_rfl
theorem sx40 : strip x40.code = code40 := by kernel_rfl
theorem ok40 : codeOk (plsOf plans 40) x40.code = true := plsOf_ok P plans_ok 40 x40 fn40
theorem rs40 : x40.results = [(.tmp 4)] := rfl
theorem ex40 : E.ext 40 = none := by kernel_rfl
theorem nt40 : x40.ntmps = 20 := rfl

/-! fascicle/fascicleref06.Bits -/
def code41 : Code :=
  .seq (.region 0 #[⟨(some 2), (.assign (.const (.int .u64 0))), 0, "", #[], none⟩] false)
  (.seq (.seq (.region 1 #[⟨(some 3), (.move (.tmp 0)), 0, "", #[], none⟩,
  ⟨(some 4), (.call { callee := (.value (.func 69)), args := #[(.tmp 3)], argTypes := #[76] }), 0, "", #[], none⟩] false)
  (.cond (.tmp 4)
  (.seq (.region 2 #[⟨(some 2), (.assign (.const (.int .u64 9221120237041090560))), 0, "", #[], none⟩] false)
  (.ret))
  (.skip)))
  (.seq (.region 3 #[⟨(some 5), (.move (.tmp 0)), 0, "", #[], none⟩,
  ⟨(some 6), (.call { callee := (.value (.func 70)), args := #[(.tmp 5)], argTypes := #[76] }), 0, "", #[], none⟩,
  ⟨(some 2), (.assign (.tmp 6)), 0, "", #[], none⟩] false)
  (.ret)))
noncomputable def x41 : FnI := ⟨Tryz.f41.body.getD .skip, 7, [(.tmp 2)]⟩
theorem fn41 : fnOf P 41 = some x41 := by kernel_rfl
theorem sx41 : strip x41.code = code41 := by kernel_rfl
theorem ok41 : codeOk (plsOf plans 41) x41.code = true := plsOf_ok P plans_ok 41 x41 fn41
theorem rs41 : x41.results = [(.tmp 2)] := rfl
theorem ex41 : E.ext 41 = none := by kernel_rfl
theorem nt41 : x41.ntmps = 7 := rfl

/-! fascicle/fascicleref30.Health -/
def code42 : Code :=
  .seq (.region 0 #[⟨(some 1), (.box 33 (.tmp 0)), 0, "", #[], none⟩,
  ⟨(some 2), (.assign (.const (.float .f64 0))), 0, "", #[], none⟩] false)
  (.seq (.seq (.region 1 #[⟨(some 4), (.fieldAddr 33 (.tmp 1) 7), 0, "", #[], none⟩,
  ⟨(some 5), (.load 4 (.tmp 4)), 0, "", #[], none⟩] false)
  (.cond (.tmp 5)
  (.seq (.region 2 #[⟨(some 2), (.assign (.const (.float .f64 4607182418800017408))), 0, "", #[], none⟩] false)
  (.ret))
  (.skip)))
  (.seq (.region 3 #[⟨(some 6), (.fieldAddr 33 (.tmp 1) 1), 0, "", #[], none⟩,
  ⟨(some 7), (.load 3 (.tmp 6)), 0, "", #[], none⟩,
  ⟨(some 8), (.call { callee := (.builtin .max), args := #[(.const (.int .i64 0)), (.tmp 7)], argTypes := #[3, 3] }), 0, "", #[], none⟩,
  ⟨(some 9), (.fieldAddr 33 (.tmp 1) 2), 0, "", #[], none⟩,
  ⟨(some 10), (.load 3 (.tmp 9)), 0, "", #[], none⟩,
  ⟨(some 11), (.call { callee := (.builtin .max), args := #[(.const (.int .i64 0)), (.tmp 10)], argTypes := #[3, 3] }), 0, "", #[], none⟩,
  ⟨(some 12), (.binOp .sub 3 (.tmp 8) (.tmp 11) 3), 0, "", #[], none⟩,
  ⟨(some 3), (.assign (.tmp 12)), 0, "", #[], none⟩] false)
  (.seq (.region 4 #[⟨(some 13), (.fieldAddr 33 (.tmp 1) 6), 0, "", #[], none⟩,
  ⟨(some 14), (.load 3 (.tmp 13)), 0, "", #[], none⟩,
  ⟨(some 15), (.call { callee := (.builtin .max), args := #[(.const (.int .i64 0)), (.tmp 14)], argTypes := #[3, 3] }), 0, "", #[], none⟩,
  ⟨(some 16), (.convert 3 30 (.tmp 15)), 0, "", #[], none⟩,
  ⟨(some 17), (.move (.tmp 3)), 0, "", #[], none⟩,
  ⟨(some 18), (.call { callee := (.builtin .max), args := #[(.const (.int .i64 0)), (.tmp 17)], argTypes := #[3, 3] }), 0, "", #[], none⟩,
  ⟨(some 19), (.convert 3 30 (.tmp 18)), 0, "", #[], none⟩,
  ⟨(some 20), (.call { callee := (.value (.func 72)), args := #[(.tmp 16), (.tmp 19)], argTypes := #[30, 30] }), 0, "", #[], none⟩,
  ⟨(some 21), (.call { callee := (.value (.func 71)), args := #[(.tmp 20), (.const (.float .f64 0)), (.const (.float .f64 4607182418800017408))], argTypes := #[76, 76, 76] }), 0, "", #[], none⟩,
  ⟨(some 2), (.assign (.tmp 21)), 0, "", #[], none⟩] false)
  (.ret))))
noncomputable def x42 : FnI := ⟨Tryz.f42.body.getD .skip, 22, [(.tmp 2)]⟩
theorem fn42 : fnOf P 42 = some x42 := by kernel_rfl
theorem sx42 : strip x42.code = code42 := by kernel_rfl
theorem ok42 : codeOk (plsOf plans 42) x42.code = true := plsOf_ok P plans_ok 42 x42 fn42
theorem rs42 : x42.results = [(.tmp 2)] := rfl
theorem ex42 : E.ext 42 = none := by kernel_rfl
theorem nt42 : x42.ntmps = 22 := rfl

/-! fascicle/fascicleref30.number -/
def code43 : Code :=
  .seq (.region 0 #[⟨(some 2), (.box 45 (.tmp 0)), 0, "", #[], none⟩,
  ⟨(some 4), (.alloc 45), 0, "", #[], none⟩,
  ⟨(some 5), (.assign (.const (.int .u64 0))), 0, "", #[], none⟩] false)
  (.seq (.region 1 #[⟨(some 8), (.load 45 (.tmp 2)), 0, "", #[], none⟩,
  ⟨(some 9), (.call { callee := (.value (.func 73)), args := #[(.tmp 8)], argTypes := #[45] }), 0, "", #[], none⟩,
  ⟨(some 7), (.move (.tmp 9)), 0, "", #[], none⟩,
  ⟨(some 10), (.extract (.tmp 7) 0), 0, "", #[], none⟩,
  ⟨(some 11), (.extract (.tmp 7) 1), 0, "", #[], none⟩,
  ⟨none, (.store 45 (.tmp 2) (.tmp 10)), 0, "", #[], none⟩,
  ⟨(some 6), (.assign (.tmp 11)), 0, "", #[], none⟩] false)
  (.seq (.seq (.region 2 #[⟨(some 12), (.fieldAddr 45 (.tmp 2) 2), 0, "", #[], none⟩,
  ⟨(some 13), (.load 3 (.tmp 12)), 0, "", #[], none⟩,
  ⟨(some 14), (.binOp .eql 3 (.tmp 13) (.const (.int .i64 0)) 3), 0, "", #[], none⟩,
  ⟨(some 15), (.move (.tmp 14)), 0, "", #[], none⟩,
  ⟨(some 16), (.move (.tmp 6)), 0, "", #[], (some (3, true))⟩,
  ⟨(some 17), (.move (.tmp 1)), 0, "", #[], (some (3, true))⟩,
  ⟨(some 18), (.binOp .gtr 30 (.tmp 16) (.tmp 17) 30), 0, "", #[], (some (3, true))⟩,
  ⟨(some 19), (.pick (.tmp 15) (.tmp 18) (.const (.bool false))), 0, "", #[], none⟩] false)
  (.cond (.tmp 19)
  (.seq (.region 3 #[⟨(some 20), (.load 45 (.tmp 2)), 0, "", #[], none⟩,
  ⟨(some 21), (.call { callee := (.value (.func 45)), args := #[(.tmp 20), (.const (.int .i64 3))], argTypes := #[45, 3] }), 0, "", #[], none⟩,
  ⟨none, (.store 45 (.tmp 4) (.tmp 21)), 0, "", #[], none⟩,
  ⟨(some 5), (.assign (.const (.int .u64 0))), 0, "", #[], none⟩] false)
  (.ret))
  (.skip)))
  (.seq (.region 4 #[⟨(some 22), (.load 45 (.tmp 2)), 0, "", #[], none⟩,
  ⟨(some 23), (.move (.tmp 6)), 0, "", #[], none⟩,
  ⟨none, (.store 45 (.tmp 4) (.tmp 22)), 0, "", #[], none⟩,
  ⟨(some 5), (.assign (.tmp 23)), 0, "", #[], none⟩] false)
  (.ret))))
noncomputable def x43 : FnI := ⟨Tryz.f43.body.getD .skip, 24, [(.cell 4 45), (.tmp 5)]⟩
theorem fn43 : fnOf P 43 = some x43 := by kernel_rfl
theorem sx43 : strip x43.code = code43 := by kernel_rfl
theorem ok43 : codeOk (plsOf plans 43) x43.code = true := plsOf_ok P plans_ok 43 x43 fn43
theorem rs43 : x43.results = [(.cell 4 45), (.tmp 5)] := rfl
theorem ex43 : E.ext 43 = none := by kernel_rfl
theorem nt43 : x43.ntmps = 24 := rfl

/-! fascicle/fascicleref01.Get -/
def code44 : Code :=
  .seq (.region 0 #[⟨(some 2), (.box 45 (.tmp 0)), 0, "", #[], none⟩,
  ⟨(some 4), (.alloc 45), 0, "", #[], none⟩,
  ⟨(some 5), (.assign (.const (.int .u64 0))), 0, "", #[], none⟩] false)
  (.seq (.region 1 #[⟨(some 9), (.load 45 (.tmp 2)), 0, "", #[], none⟩,
  ⟨(some 10), (.move (.tmp 1)), 0, "", #[], none⟩,
  ⟨(some 11), (.call { callee := (.value (.func 74)), args := #[(.tmp 9), (.tmp 10)], argTypes := #[45, 3] }), 0, "", #[], none⟩,
  ⟨(some 8), (.move (.tmp 11)), 0, "", #[], none⟩,
  ⟨(some 12), (.extract (.tmp 8) 0), 0, "", #[], none⟩,
  ⟨(some 13), (.extract (.tmp 8) 1), 0, "", #[], none⟩,
  ⟨(some 6), (.alloc 45), 0, "", #[], none⟩,
  ⟨none, (.store 45 (.tmp 6) (.tmp 12)), 0, "", #[], none⟩,
  ⟨(some 7), (.assign (.tmp 13)), 0, "", #[], none⟩] false)
  (.seq (.region 2 #[⟨(some 14), (.load 45 (.tmp 6)), 0, "", #[], none⟩,
  ⟨(some 15), (.move (.tmp 7)), 0, "", #[], none⟩,
  ⟨(some 16), (.call { callee := (.value (.func 75)), args := #[(.tmp 15)], argTypes := #[9] }), 0, "", #[], none⟩,
  ⟨none, (.store 45 (.tmp 4) (.tmp 14)), 0, "", #[], none⟩,
  ⟨(some 5), (.assign (.tmp 16)), 0, "", #[], none⟩] true)
  (.ret)))
noncomputable def x44 : FnI := ⟨Tryz.f44.body.getD .skip, 17, [(.cell 4 45), (.tmp 5)]⟩
theorem fn44 : fnOf P 44 = some x44 := by kernel_rfl
theorem sx44 : strip x44.code = code44 := by kernel_rfl
theorem ok44 : codeOk (plsOf plans 44) x44.code = true := plsOf_ok P plans_ok 44 x44 fn44
theorem pl44_2 : planFor (plsOf plans 44) 2 = some [⟨[0, 1], [], some 2⟩, ⟨[], [0], some 3⟩, ⟨[4], [], none⟩] := by kernel_rfl
theorem rs44 : x44.results = [(.cell 4 45), (.tmp 5)] := rfl
theorem ex44 : E.ext 44 = none := by kernel_rfl
theorem nt44 : x44.ntmps = 17 := rfl

/-! fascicle/fascicleref01.Fail -/
def code45 : Code :=
  .seq (.region 0 #[⟨(some 2), (.box 45 (.tmp 0)), 0, "", #[], none⟩,
  ⟨(some 4), (.alloc 45), 0, "", #[], none⟩] false)
  (.seq (.seq (.region 1 #[⟨(some 5), (.fieldAddr 45 (.tmp 2) 2), 0, "", #[], none⟩,
  ⟨(some 6), (.load 3 (.tmp 5)), 0, "", #[], none⟩,
  ⟨(some 7), (.binOp .eql 3 (.tmp 6) (.const (.int .i64 0)) 3), 0, "", #[], none⟩] false)
  (.cond (.tmp 7)
  (.region 2 #[⟨(some 8), (.move (.tmp 1)), 0, "", #[], none⟩,
  ⟨(some 9), (.fieldAddr 45 (.tmp 2) 2), 0, "", #[], none⟩,
  ⟨none, (.store 3 (.tmp 9) (.tmp 8)), 0, "", #[], none⟩] false)
  (.skip)))
  (.seq (.region 3 #[⟨(some 10), (.load 45 (.tmp 2)), 0, "", #[], none⟩,
  ⟨none, (.store 45 (.tmp 4) (.tmp 10)), 0, "", #[], none⟩] false)
  (.ret)))
noncomputable def x45 : FnI := ⟨Tryz.f45.body.getD .skip, 11, [(.cell 4 45)]⟩
theorem fn45 : fnOf P 45 = some x45 := by kernel_rfl
theorem sx45 : strip x45.code = code45 := by kernel_rfl
theorem ok45 : codeOk (plsOf plans 45) x45.code = true := plsOf_ok P plans_ok 45 x45 fn45
theorem rs45 : x45.results = [(.cell 4 45)] := rfl
theorem ex45 : E.ext 45 = none := by kernel_rfl
theorem nt45 : x45.ntmps = 11 := rfl

/-! fascicle/fascicleref06.Get -/
def code46 : Code :=
  .seq (.region 0 #[⟨(some 1), (.box 45 (.tmp 0)), 0, "", #[], none⟩,
  ⟨(some 2), (.alloc 45), 0, "", #[], none⟩,
  ⟨(some 3), (.assign (.const (.float .f64 0))), 0, "", #[], none⟩] false)
  (.seq (.region 1 #[⟨(some 7), (.load 45 (.tmp 1)), 0, "", #[], none⟩,
  ⟨(some 8), (.call { callee := (.value (.func 44)), args := #[(.tmp 7), (.const (.int .i64 8))], argTypes := #[45, 3] }), 0, "", #[], none⟩,
  ⟨(some 6), (.move (.tmp 8)), 0, "", #[], none⟩,
  ⟨(some 9), (.extract (.tmp 6) 0), 0, "", #[], none⟩,
  ⟨(some 10), (.extract (.tmp 6) 1), 0, "", #[], none⟩,
  ⟨none, (.store 45 (.tmp 1) (.tmp 9)), 0, "", #[], none⟩,
  ⟨(some 4), (.assign (.tmp 10)), 0, "", #[], none⟩] false)
  (.seq (.region 2 #[⟨(some 11), (.move (.tmp 4)), 0, "", #[], none⟩,
  ⟨(some 12), (.call { callee := (.value (.func 68)), args := #[(.tmp 11)], argTypes := #[30] }), 0, "", #[], none⟩,
  ⟨(some 5), (.assign (.tmp 12)), 0, "", #[], none⟩] false)
  (.seq (.seq (.region 3 #[⟨(some 13), (.fieldAddr 45 (.tmp 1) 2), 0, "", #[], none⟩,
  ⟨(some 14), (.load 3 (.tmp 13)), 0, "", #[], none⟩,
  ⟨(some 15), (.binOp .eql 3 (.tmp 14) (.const (.int .i64 0)) 3), 0, "", #[], none⟩,
  ⟨(some 16), (.move (.tmp 15)), 0, "", #[], none⟩,
  ⟨(some 17), (.move (.tmp 5)), 0, "", #[], (some (3, true))⟩,
  ⟨(some 18), (.call { callee := (.value (.func 41)), args := #[(.tmp 17)], argTypes := #[76] }), 0, "", #[], (some (3, true))⟩,
  ⟨(some 19), (.move (.tmp 4)), 0, "", #[], (some (3, true))⟩,
  ⟨(some 20), (.binOp .neq 30 (.tmp 18) (.tmp 19) 30), 0, "", #[], (some (3, true))⟩,
  ⟨(some 21), (.pick (.tmp 16) (.tmp 20) (.const (.bool false))), 0, "", #[], none⟩] false)
  (.cond (.tmp 21)
  (.seq (.region 4 #[⟨(some 22), (.load 45 (.tmp 1)), 0, "", #[], none⟩,
  ⟨(some 23), (.call { callee := (.value (.func 45)), args := #[(.tmp 22), (.const (.int .i64 4))], argTypes := #[45, 3] }), 0, "", #[], none⟩,
  ⟨none, (.store 45 (.tmp 2) (.tmp 23)), 0, "", #[], none⟩,
  ⟨(some 3), (.assign (.const (.float .f64 0))), 0, "", #[], none⟩] false)
  (.ret))
  (.skip)))
  (.seq (.seq (.region 5 #[⟨(some 24), (.fieldAddr 45 (.tmp 1) 2), 0, "", #[], none⟩,
  ⟨(some 25), (.load 3 (.tmp 24)), 0, "", #[], none⟩,
  ⟨(some 26), (.binOp .neq 3 (.tmp 25) (.const (.int .i64 0)) 3), 0, "", #[], none⟩] false)
  (.cond (.tmp 26)
  (.seq (.region 6 #[⟨(some 27), (.load 45 (.tmp 1)), 0, "", #[], none⟩,
  ⟨none, (.store 45 (.tmp 2) (.tmp 27)), 0, "", #[], none⟩,
  ⟨(some 3), (.assign (.const (.float .f64 0))), 0, "", #[], none⟩] false)
  (.ret))
  (.skip)))
  (.seq (.region 7 #[⟨(some 28), (.load 45 (.tmp 1)), 0, "", #[], none⟩,
  ⟨(some 29), (.move (.tmp 5)), 0, "", #[], none⟩,
  ⟨none, (.store 45 (.tmp 2) (.tmp 28)), 0, "", #[], none⟩,
  ⟨(some 3), (.assign (.tmp 29)), 0, "", #[], none⟩] false)
  (.ret))))))
noncomputable def x46 : FnI := ⟨Tryz.f46.body.getD .skip, 30, [(.cell 2 45), (.tmp 3)]⟩
theorem fn46 : fnOf P 46 = some x46 := by kernel_rfl
theorem sx46 : strip x46.code = code46 := by kernel_rfl
theorem ok46 : codeOk (plsOf plans 46) x46.code = true := plsOf_ok P plans_ok 46 x46 fn46
theorem rs46 : x46.results = [(.cell 2 45), (.tmp 3)] := rfl
theorem ex46 : E.ext 46 = none := by kernel_rfl
theorem nt46 : x46.ntmps = 30 := rfl

/-! fascicle/report.ratio -/
def code59 : Code :=
  .seq (.region 0 #[⟨(some 6), (.assign (.const (.float .f64 0))), 0, "", #[], none⟩] false)
  (.seq (.region 1 #[⟨(some 8), (.move (.tmp 0)), 0, "", #[], none⟩,
  ⟨(some 9), (.call { callee := (.builtin .max), args := #[(.const (.int .i64 0)), (.tmp 8)], argTypes := #[3, 3] }), 0, "", #[], none⟩,
  ⟨(some 10), (.move (.tmp 1)), 0, "", #[], none⟩,
  ⟨(some 11), (.call { callee := (.builtin .max), args := #[(.const (.int .i64 0)), (.tmp 10)], argTypes := #[3, 3] }), 0, "", #[], none⟩,
  ⟨(some 12), (.move (.tmp 2)), 0, "", #[], none⟩,
  ⟨(some 13), (.call { callee := (.builtin .max), args := #[(.const (.int .i64 0)), (.tmp 12)], argTypes := #[3, 3] }), 0, "", #[], none⟩,
  ⟨(some 14), (.binOp .sub 3 (.tmp 11) (.tmp 13) 3), 0, "", #[], none⟩,
  ⟨(some 15), (.call { callee := (.builtin .max), args := #[(.const (.int .i64 0)), (.tmp 14)], argTypes := #[3, 3] }), 0, "", #[], none⟩,
  ⟨(some 0), (.assign (.tmp 9)), 0, "", #[], none⟩,
  ⟨(some 7), (.assign (.tmp 15)), 0, "", #[], none⟩] false)
  (.seq (.region 2 #[⟨(some 16), (.move (.tmp 0)), 0, "", #[], none⟩,
  ⟨(some 17), (.convert 3 30 (.tmp 16)), 0, "", #[], none⟩,
  ⟨(some 18), (.move (.tmp 7)), 0, "", #[], none⟩,
  ⟨(some 19), (.convert 3 30 (.tmp 18)), 0, "", #[], none⟩,
  ⟨(some 20), (.call { callee := (.value (.func 93)), args := #[(.tmp 17), (.tmp 19)], argTypes := #[30, 30] }), 0, "", #[], none⟩,
  ⟨(some 21), (.call { callee := (.value (.func 92)), args := #[(.tmp 20), (.const (.float .f64 0)), (.const (.float .f64 4607182418800017408))], argTypes := #[76, 76, 76] }), 0, "", #[], none⟩,
  ⟨(some 6), (.assign (.tmp 21)), 0, "", #[], none⟩] false)
  (.ret)))
noncomputable def x59 : FnI := ⟨Tryz.f59.body.getD .skip, 22, [(.tmp 6)]⟩
theorem fn59 : fnOf P 59 = some x59 := by kernel_rfl
theorem sx59 : strip x59.code = code59 := by kernel_rfl
theorem ok59 : codeOk (plsOf plans 59) x59.code = true := plsOf_ok P plans_ok 59 x59 fn59
theorem rs59 : x59.results = [(.tmp 6)] := rfl
theorem ex59 : E.ext 59 = none := by kernel_rfl
theorem nt59 : x59.ntmps = 22 := rfl

/-! (*fascicle/cursor.Buffer).num -/
def body60_0 : Code :=
  .seq (.region 2 #[⟨(some 9), (.binOp .lss 3 (.tmp 8) (.tmp 7) 3), 0, "", #[], none⟩] false)
  (.seq (.cond (.tmp 9)
  (.skip)
  (.exit 0))
  (.seq (.block 1 (.seq (.region 3 #[⟨(some 10), (.move (.tmp 0)), 0, "", #[], none⟩,
  ⟨(some 11), (.move (.tmp 0)), 0, "", #[], none⟩,
  ⟨(some 12), (.nilCheck (.tmp 11)), 0, "", #[], none⟩,
  ⟨(some 13), (.fieldAddr 26 (.tmp 12) 0), 0, "", #[], none⟩,
  ⟨(some 14), (.load 23 (.tmp 13)), 0, "", #[], none⟩,
  ⟨(some 15), (.move (.tmp 1)), 0, "", #[], none⟩,
  ⟨(some 16), (.convert 30 5 (.tmp 15)), 0, "", #[], none⟩,
  ⟨(some 17), (.buildSlice 23 1 #[(0, (.tmp 16))]), 0, "", #[], none⟩,
  ⟨(some 18), (.call { callee := (.builtin .append), args := #[(.tmp 14), (.tmp 17)], argTypes := #[23, 23] }), 0, "", #[], none⟩,
  ⟨(some 19), (.nilCheck (.tmp 10)), 0, "", #[], none⟩,
  ⟨(some 20), (.fieldAddr 26 (.tmp 19) 0), 0, "", #[], none⟩,
  ⟨none, (.store 23 (.tmp 20) (.tmp 18)), 0, "", #[], none⟩] false)
  (.region 4 #[⟨(some 21), (.move (.tmp 1)), 0, "", #[], none⟩,
  ⟨(some 22), (.binOp .shr 30 (.tmp 21) (.const (.int .u64 8)) 124), 0, "", #[], none⟩,
  ⟨(some 1), (.assign (.tmp 22)), 0, "", #[], none⟩] false)))
  (.region 5 #[⟨(some 23), (.binOp .add 3 (.tmp 8) (.const (.int .i64 1)) 3), 0, "", #[], none⟩,
  ⟨(some 8), (.move (.tmp 23)), 0, "", #[], none⟩] false)))
def code60 : Code :=
  .seq (.region 0 #[⟨(some 6), (.assign (.const (.pointer none))), 0, "", #[], none⟩] false)
  (.seq (.seq (.region 1 #[⟨(some 7), (.move (.tmp 2)), 0, "", #[], none⟩,
  ⟨(some 8), (.move (.const (.int .i64 0))), 0, "", #[], none⟩] false)
  (.block 0 (.loop body60_0)))
  (.seq (.region 6 #[⟨(some 24), (.move (.tmp 0)), 0, "", #[], none⟩,
  ⟨(some 6), (.assign (.tmp 24)), 0, "", #[], none⟩] false)
  (.ret)))
noncomputable def x60 : FnI := ⟨Tryz.f60.body.getD .skip, 25, [(.tmp 6)]⟩
theorem fn60 : fnOf P 60 = some x60 := by kernel_rfl
theorem sx60 : strip x60.code = code60 := by kernel_rfl
theorem ok60 : codeOk (plsOf plans 60) x60.code = true := plsOf_ok P plans_ok 60 x60 fn60
theorem rs60 : x60.results = [(.tmp 6)] := rfl
theorem ex60 : E.ext 60 = none := by kernel_rfl
theorem nt60 : x60.ntmps = 25 := rfl

/-! (*fascicle/cursor.Buffer).Eight -/
def code61 : Code :=
  .seq (.region 0 #[⟨(some 4), (.assign (.const (.pointer none))), 0, "", #[], none⟩] false)
  (.seq (.region 1 #[⟨(some 5), (.move (.tmp 0)), 0, "", #[], none⟩,
  ⟨(some 6), (.move (.tmp 1)), 0, "", #[], none⟩,
  ⟨(some 7), (.call { callee := (.value (.func 60)), args := #[(.tmp 5), (.tmp 6), (.const (.int .i64 8))], argTypes := #[28, 30, 3] }), 0, "", #[], none⟩,
  ⟨(some 4), (.assign (.tmp 7)), 0, "", #[], none⟩] false)
  (.ret))
noncomputable def x61 : FnI := ⟨Tryz.f61.body.getD .skip, 8, [(.tmp 4)]⟩
theorem fn61 : fnOf P 61 = some x61 := by kernel_rfl
theorem sx61 : strip x61.code = code61 := by kernel_rfl
theorem ok61 : codeOk (plsOf plans 61) x61.code = true := plsOf_ok P plans_ok 61 x61 fn61
theorem rs61 : x61.results = [(.tmp 4)] := rfl
theorem ex61 : E.ext 61 = none := by kernel_rfl
theorem nt61 : x61.ntmps = 8 := rfl

/-! fascicle/edge.text -/
def code62 : Code :=
  .seq (.region 0 #[⟨(some 2), (.assign (.const (.int .u64 0))), 0, "", #[], none⟩] false)
  (.seq (.seq (.region 1 #[⟨(some 3), (.move (.tmp 0)), 0, "", #[], none⟩,
  ⟨(some 4), (.move (.tmp 0)), 0, "", #[], none⟩,
  ⟨(some 5), (.binOp .neq 76 (.tmp 3) (.tmp 4) 76), 0, "", #[], none⟩] false)
  (.cond (.tmp 5)
  (.seq (.region 2 #[⟨(some 2), (.assign (.const (.int .u64 9221120237041090560))), 0, "", #[], none⟩] false)
  (.ret))
  (.skip)))
  (.seq (.region 3 #[⟨(some 6), (.move (.tmp 0)), 0, "", #[], none⟩,
  ⟨(some 7), (.call { callee := (.value (.func 70)), args := #[(.tmp 6)], argTypes := #[76] }), 0, "", #[], none⟩,
  ⟨(some 2), (.assign (.tmp 7)), 0, "", #[], none⟩] false)
  (.ret)))
noncomputable def x62 : FnI := ⟨Tryz.f62.body.getD .skip, 8, [(.tmp 2)]⟩
theorem fn62 : fnOf P 62 = some x62 := by kernel_rfl
theorem sx62 : strip x62.code = code62 := by kernel_rfl
theorem ok62 : codeOk (plsOf plans 62) x62.code = true := plsOf_ok P plans_ok 62 x62 fn62
theorem rs62 : x62.results = [(.tmp 2)] := rfl
theorem ex62 : E.ext 62 = none := by kernel_rfl
theorem nt62 : x62.ntmps = 8 := rfl

/-! fascicle/varint.Get -/
def body63_0 : Code :=
  .seq (.region 3 #[⟨(some 7), (.binOp .lss 3 (.tmp 6) (.const (.int .i64 10)) 3), 0, "", #[], none⟩] false)
  (.seq (.cond (.tmp 7)
  (.skip)
  (.exit 0))
  (.seq (.block 1 (.seq (.region 4 #[⟨(some 8), (.move (.tmp 6)), 0, "", #[], none⟩,
  ⟨(some 4), (.assign (.tmp 8)), 0, "", #[], none⟩] false)
  (.seq (.region 5 #[⟨(some 9), (.move (.tmp 0)), 0, "", #[], none⟩,
  ⟨(some 10), (.call { callee := (.value (.func 34)), args := #[(.tmp 9)], argTypes := #[39] }), 0, "", #[], none⟩,
  ⟨(some 5), (.assign (.tmp 10)), 0, "", #[], none⟩] false)
  (.seq (.seq (.region 6 #[⟨(some 11), (.move (.tmp 4)), 0, "", #[], none⟩,
  ⟨(some 12), (.binOp .eql 3 (.tmp 11) (.const (.int .i64 9)) 3), 0, "", #[], none⟩,
  ⟨(some 13), (.move (.tmp 12)), 0, "", #[], none⟩,
  ⟨(some 14), (.move (.tmp 5)), 0, "", #[], (some (2, true))⟩,
  ⟨(some 15), (.binOp .gtr 5 (.tmp 14) (.const (.int .u8 1)) 5), 0, "", #[], (some (2, true))⟩,
  ⟨(some 16), (.pick (.tmp 13) (.tmp 15) (.const (.bool false))), 0, "", #[], none⟩] false)
  (.cond (.tmp 16)
  (.region 7 #[⟨(some 17), (.move (.tmp 0)), 0, "", #[], none⟩,
  ⟨(some 18), (.call { callee := (.value (.func 35)), args := #[(.tmp 17), (.const (.int .i64 3))], argTypes := #[39, 35] }), 0, "", #[], none⟩] false)
  (.skip)))
  (.seq (.region 8 #[⟨(some 19), (.move (.tmp 3)), 0, "", #[], none⟩,
  ⟨(some 20), (.move (.tmp 5)), 0, "", #[], none⟩,
  ⟨(some 21), (.binOp .andNot 5 (.tmp 20) (.const (.int .u8 128)) 5), 0, "", #[], none⟩,
  ⟨(some 22), (.convert 5 30 (.tmp 21)), 0, "", #[], none⟩,
  ⟨(some 23), (.move (.tmp 4)), 0, "", #[], none⟩,
  ⟨(some 24), (.binOp .mul 3 (.const (.int .i64 7)) (.tmp 23) 3), 0, "", #[], none⟩,
  ⟨(some 25), (.binOp .shl 30 (.tmp 22) (.tmp 24) 3), 0, "", #[], none⟩,
  ⟨(some 26), (.binOp .or 30 (.tmp 19) (.tmp 25) 30), 0, "", #[], none⟩,
  ⟨(some 3), (.assign (.tmp 26)), 0, "", #[], none⟩] false)
  (.seq (.seq (.region 9 #[⟨(some 27), (.move (.tmp 5)), 0, "", #[], none⟩,
  ⟨(some 28), (.binOp .geq 5 (.tmp 27) (.const (.int .u8 128)) 5), 0, "", #[], none⟩] false)
  (.cond (.tmp 28)
  (.exit 1)
  (.skip)))
  (.seq (.seq (.region 10 #[⟨(some 29), (.move (.tmp 5)), 0, "", #[], none⟩,
  ⟨(some 30), (.binOp .eql 5 (.tmp 29) (.const (.int .u8 0)) 5), 0, "", #[], none⟩,
  ⟨(some 31), (.move (.tmp 30)), 0, "", #[], none⟩,
  ⟨(some 32), (.move (.tmp 4)), 0, "", #[], (some (2, true))⟩,
  ⟨(some 33), (.binOp .gtr 3 (.tmp 32) (.const (.int .i64 0)) 3), 0, "", #[], (some (2, true))⟩,
  ⟨(some 34), (.pick (.tmp 31) (.tmp 33) (.const (.bool false))), 0, "", #[], none⟩] false)
  (.cond (.tmp 34)
  (.region 11 #[⟨(some 35), (.move (.tmp 0)), 0, "", #[], none⟩,
  ⟨(some 36), (.call { callee := (.value (.func 35)), args := #[(.tmp 35), (.const (.int .i64 4))], argTypes := #[39, 35] }), 0, "", #[], none⟩] false)
  (.skip)))
  (.seq (.region 12 #[⟨(some 37), (.move (.tmp 3)), 0, "", #[], none⟩,
  ⟨(some 2), (.assign (.tmp 37)), 0, "", #[], none⟩] false)
  (.ret)))))))))
  (.region 13 #[⟨(some 38), (.binOp .add 3 (.tmp 6) (.const (.int .i64 1)) 3), 0, "", #[], none⟩,
  ⟨(some 6), (.move (.tmp 38)), 0, "", #[], none⟩] false)))
def code63 : Code :=
  .seq (.region 0 #[⟨(some 2), (.assign (.const (.int .u64 0))), 0, "", #[], none⟩] false)
  (.seq (.region 1 #[⟨(some 3), (.assign (.const (.int .u64 0))), 0, "", #[], none⟩] false)
  (.seq (.seq (.region 2 #[⟨(some 6), (.move (.const (.int .i64 0))), 0, "", #[], none⟩] false)
  (.block 0 (.loop body63_0)))
  (.seq (.region 14 #[⟨(some 39), (.move (.tmp 3)), 0, "", #[], none⟩,
  ⟨(some 2), (.assign (.tmp 39)), 0, "", #[], none⟩] false)
  (.ret))))
noncomputable def x63 : FnI := ⟨Tryz.f63.body.getD .skip, 40, [(.tmp 2)]⟩
theorem fn63 : fnOf P 63 = some x63 := by kernel_rfl
theorem sx63 : strip x63.code = code63 := by kernel_rfl
theorem ok63 : codeOk (plsOf plans 63) x63.code = true := plsOf_ok P plans_ok 63 x63 fn63
theorem rs63 : x63.results = [(.tmp 2)] := rfl
theorem ex63 : E.ext 63 = none := by kernel_rfl
theorem nt63 : x63.ntmps = 40 := rfl

/-! (*fascicle/cursor.Cursor).num -/
def body64_0 : Code :=
  .seq (.region 3 #[⟨(some 13), (.binOp .lss 3 (.tmp 12) (.tmp 11) 3), 0, "", #[], none⟩] false)
  (.seq (.cond (.tmp 13)
  (.skip)
  (.exit 0))
  (.seq (.block 1 (.seq (.region 4 #[⟨(some 14), (.move (.tmp 12)), 0, "", #[], none⟩,
  ⟨(some 15), (.indexAddr 23 (.tmp 10) (.tmp 12)), 0, "", #[], none⟩,
  ⟨(some 16), (.load 5 (.tmp 15)), 0, "", #[], none⟩,
  ⟨(some 6), (.assign (.tmp 14)), 0, "", #[], none⟩,
  ⟨(some 7), (.assign (.tmp 16)), 0, "", #[], none⟩] false)
  (.region 5 #[⟨(some 17), (.move (.tmp 5)), 0, "", #[], none⟩,
  ⟨(some 18), (.move (.tmp 7)), 0, "", #[], none⟩,
  ⟨(some 19), (.convert 5 30 (.tmp 18)), 0, "", #[], none⟩,
  ⟨(some 20), (.move (.tmp 6)), 0, "", #[], none⟩,
  ⟨(some 21), (.binOp .mul 3 (.const (.int .i64 8)) (.tmp 20) 3), 0, "", #[], none⟩,
  ⟨(some 22), (.binOp .shl 30 (.tmp 19) (.tmp 21) 3), 0, "", #[], none⟩,
  ⟨(some 23), (.binOp .or 30 (.tmp 17) (.tmp 22) 30), 0, "", #[], none⟩,
  ⟨(some 5), (.assign (.tmp 23)), 0, "", #[], none⟩] false)))
  (.region 6 #[⟨(some 24), (.binOp .add 3 (.tmp 12) (.const (.int .i64 1)) 3), 0, "", #[], none⟩,
  ⟨(some 12), (.move (.tmp 24)), 0, "", #[], none⟩] false)))
def code64 : Code :=
  .seq (.region 0 #[⟨(some 4), (.assign (.const (.int .u64 0))), 0, "", #[], none⟩] false)
  (.seq (.region 1 #[⟨(some 5), (.assign (.const (.int .u64 0))), 0, "", #[], none⟩] false)
  (.seq (.seq (.region 2 #[⟨(some 8), (.move (.tmp 0)), 0, "", #[], none⟩,
  ⟨(some 9), (.move (.tmp 1)), 0, "", #[], none⟩,
  ⟨(some 10), (.call { callee := (.value (.func 94)), args := #[(.tmp 8), (.tmp 9)], argTypes := #[39, 3] }), 0, "", #[], none⟩,
  ⟨(some 11), (.call { callee := (.builtin .len), args := #[(.tmp 10)], argTypes := #[23] }), 0, "", #[], none⟩,
  ⟨(some 12), (.move (.const (.int .i64 0))), 0, "", #[], none⟩] false)
  (.block 0 (.loop body64_0)))
  (.seq (.region 7 #[⟨(some 25), (.move (.tmp 5)), 0, "", #[], none⟩,
  ⟨(some 4), (.assign (.tmp 25)), 0, "", #[], none⟩] false)
  (.ret))))
noncomputable def x64 : FnI := ⟨Tryz.f64.body.getD .skip, 26, [(.tmp 4)]⟩
theorem fn64 : fnOf P 64 = some x64 := by kernel_rfl
theorem sx64 : strip x64.code = code64 := by kernel_rfl
theorem ok64 : codeOk (plsOf plans 64) x64.code = true := plsOf_ok P plans_ok 64 x64 fn64
theorem rs64 : x64.results = [(.tmp 4)] := rfl
theorem ex64 : E.ext 64 = none := by kernel_rfl
theorem nt64 : x64.ntmps = 26 := rfl

/-! (*fascicle/cursor.Cursor).dead -/
def code65 : Code :=
  .seq (.region 0 #[⟨(some 2), (.assign (.const (.bool false))), 0, "", #[], none⟩] false)
  (.seq (.region 1 #[⟨(some 3), (.move (.tmp 0)), 0, "", #[], none⟩,
  ⟨(some 4), (.binOp .eql 39 (.tmp 3) (.const (.pointer none)) 39), 0, "", #[], none⟩,
  ⟨(some 5), (.move (.tmp 4)), 0, "", #[], none⟩,
  ⟨(some 6), (.move (.tmp 0)), 0, "", #[], (some (2, false))⟩,
  ⟨(some 7), (.nilCheck (.tmp 6)), 0, "", #[], (some (2, false))⟩,
  ⟨(some 8), (.fieldAddr 83 (.tmp 7) 2), 0, "", #[], (some (2, false))⟩,
  ⟨(some 9), (.load 4 (.tmp 8)), 0, "", #[], (some (2, false))⟩,
  ⟨(some 10), (.unOp .not 4 (.tmp 9)), 0, "", #[], (some (2, false))⟩,
  ⟨(some 11), (.pick (.tmp 5) (.const (.bool true)) (.tmp 10)), 0, "", #[], none⟩,
  ⟨(some 2), (.assign (.tmp 11)), 0, "", #[], none⟩] false)
  (.ret))
noncomputable def x65 : FnI := ⟨Tryz.f65.body.getD .skip, 12, [(.tmp 2)]⟩
theorem fn65 : fnOf P 65 = some x65 := by kernel_rfl
theorem sx65 : strip x65.code = code65 := by kernel_rfl
theorem ok65 : codeOk (plsOf plans 65) x65.code = true := plsOf_ok P plans_ok 65 x65 fn65
theorem rs65 : x65.results = [(.tmp 2)] := rfl
theorem ex65 : E.ext 65 = none := by kernel_rfl
theorem nt65 : x65.ntmps = 12 := rfl

/-! fascicle/edge.Key -/
def code66 : Code :=
  .seq (.region 0 #[⟨(some 2), (.assign (.const (.int .u64 0))), 0, "", #[], none⟩] false)
  (.seq (.region 1 #[⟨(some 4), (.move (.tmp 0)), 0, "", #[], none⟩,
  ⟨(some 5), (.call { callee := (.value (.func 62)), args := #[(.tmp 4)], argTypes := #[76] }), 0, "", #[], none⟩,
  ⟨(some 3), (.assign (.tmp 5)), 0, "", #[], none⟩] false)
  (.seq (.seq (.region 2 #[⟨(some 6), (.move (.tmp 3)), 0, "", #[], none⟩,
  ⟨(some 7), (.binOp .geq 30 (.tmp 6) (.const (.int .u64 9223372036854775808)) 30), 0, "", #[], none⟩] false)
  (.cond (.tmp 7)
  (.seq (.region 3 #[⟨(some 8), (.move (.tmp 3)), 0, "", #[], none⟩,
  ⟨(some 9), (.unOp .xor 30 (.tmp 8)), 0, "", #[], none⟩,
  ⟨(some 2), (.assign (.tmp 9)), 0, "", #[], none⟩] false)
  (.ret))
  (.skip)))
  (.seq (.region 4 #[⟨(some 10), (.move (.tmp 3)), 0, "", #[], none⟩,
  ⟨(some 11), (.binOp .or 30 (.tmp 10) (.const (.int .u64 9223372036854775808)) 30), 0, "", #[], none⟩,
  ⟨(some 2), (.assign (.tmp 11)), 0, "", #[], none⟩] false)
  (.ret))))
noncomputable def x66 : FnI := ⟨Tryz.f66.body.getD .skip, 12, [(.tmp 2)]⟩
theorem fn66 : fnOf P 66 = some x66 := by kernel_rfl
theorem sx66 : strip x66.code = code66 := by kernel_rfl
theorem ok66 : codeOk (plsOf plans 66) x66.code = true := plsOf_ok P plans_ok 66 x66 fn66
theorem rs66 : x66.results = [(.tmp 2)] := rfl
theorem ex66 : E.ext 66 = none := by kernel_rfl
theorem nt66 : x66.ntmps = 12 := rfl

/-! (*fascicle/cursor.Cursor).Eight -/
def code67 : Code :=
  .seq (.region 0 #[⟨(some 2), (.assign (.const (.int .u64 0))), 0, "", #[], none⟩] false)
  (.seq (.region 1 #[⟨(some 3), (.move (.tmp 0)), 0, "", #[], none⟩,
  ⟨(some 4), (.call { callee := (.value (.func 64)), args := #[(.tmp 3), (.const (.int .i64 8))], argTypes := #[39, 3] }), 0, "", #[], none⟩,
  ⟨(some 2), (.assign (.tmp 4)), 0, "", #[], none⟩] false)
  (.ret))
noncomputable def x67 : FnI := ⟨Tryz.f67.body.getD .skip, 5, [(.tmp 2)]⟩
theorem fn67 : fnOf P 67 = some x67 := by kernel_rfl
theorem sx67 : strip x67.code = code67 := by kernel_rfl
theorem ok67 : codeOk (plsOf plans 67) x67.code = true := plsOf_ok P plans_ok 67 x67 fn67
theorem rs67 : x67.results = [(.tmp 2)] := rfl
theorem ex67 : E.ext 67 = none := by kernel_rfl
theorem nt67 : x67.ntmps = 5 := rfl

/-! math.IsNaN -/
def code69 : Code :=
  .seq (.region 0 #[⟨(some 2), (.assign (.const (.bool false))), 0, "", #[], none⟩] false)
  (.seq (.region 1 #[⟨(some 3), (.move (.tmp 0)), 0, "", #[], none⟩,
  ⟨(some 4), (.move (.tmp 0)), 0, "", #[], none⟩,
  ⟨(some 5), (.binOp .neq 76 (.tmp 3) (.tmp 4) 76), 0, "", #[], none⟩,
  ⟨(some 2), (.assign (.tmp 5)), 0, "", #[], none⟩] false)
  (.ret))
noncomputable def x69 : FnI := ⟨Tryz.f69.body.getD .skip, 6, [(.tmp 2)]⟩
theorem fn69 : fnOf P 69 = some x69 := by kernel_rfl
theorem sx69 : strip x69.code = code69 := by kernel_rfl
theorem ok69 : codeOk (plsOf plans 69) x69.code = true := plsOf_ok P plans_ok 69 x69 fn69
theorem rs69 : x69.results = [(.tmp 2)] := rfl
theorem ex69 : E.ext 69 = none := by kernel_rfl
theorem nt69 : x69.ntmps = 6 := rfl

/-! fascicle/fascicleref06.Clamp -/
def code71 : Code :=
  .seq (.region 0 #[⟨(some 6), (.assign (.const (.float .f64 0))), 0, "", #[], none⟩] false)
  (.seq (.seq (.region 1 #[⟨(some 7), (.move (.tmp 2)), 0, "", #[], none⟩,
  ⟨(some 8), (.move (.tmp 1)), 0, "", #[], none⟩,
  ⟨(some 9), (.call { callee := (.value (.func 95)), args := #[(.tmp 7), (.tmp 8)], argTypes := #[76, 76] }), 0, "", #[], none⟩,
  ⟨(some 10), (.binOp .lss 3 (.tmp 9) (.const (.int .i64 0)) 3), 0, "", #[], none⟩,
  ⟨(some 11), (.move (.tmp 10)), 0, "", #[], none⟩,
  ⟨(some 12), (.move (.tmp 0)), 0, "", #[], (some (4, false))⟩,
  ⟨(some 13), (.move (.tmp 1)), 0, "", #[], (some (4, false))⟩,
  ⟨(some 14), (.call { callee := (.value (.func 95)), args := #[(.tmp 12), (.tmp 13)], argTypes := #[76, 76] }), 0, "", #[], (some (4, false))⟩,
  ⟨(some 15), (.binOp .lss 3 (.tmp 14) (.const (.int .i64 0)) 3), 0, "", #[], (some (4, false))⟩,
  ⟨(some 16), (.pick (.tmp 11) (.const (.bool true)) (.tmp 15)), 0, "", #[], none⟩] false)
  (.cond (.tmp 16)
  (.seq (.region 2 #[⟨(some 17), (.move (.tmp 1)), 0, "", #[], none⟩,
  ⟨(some 6), (.assign (.tmp 17)), 0, "", #[], none⟩] false)
  (.ret))
  (.skip)))
  (.seq (.seq (.region 3 #[⟨(some 18), (.move (.tmp 0)), 0, "", #[], none⟩,
  ⟨(some 19), (.move (.tmp 2)), 0, "", #[], none⟩,
  ⟨(some 20), (.call { callee := (.value (.func 95)), args := #[(.tmp 18), (.tmp 19)], argTypes := #[76, 76] }), 0, "", #[], none⟩,
  ⟨(some 21), (.binOp .gtr 3 (.tmp 20) (.const (.int .i64 0)) 3), 0, "", #[], none⟩] false)
  (.cond (.tmp 21)
  (.seq (.region 4 #[⟨(some 22), (.move (.tmp 2)), 0, "", #[], none⟩,
  ⟨(some 6), (.assign (.tmp 22)), 0, "", #[], none⟩] false)
  (.ret))
  (.skip)))
  (.seq (.region 5 #[⟨(some 23), (.move (.tmp 0)), 0, "", #[], none⟩,
  ⟨(some 6), (.assign (.tmp 23)), 0, "", #[], none⟩] false)
  (.ret))))
noncomputable def x71 : FnI := ⟨Tryz.f71.body.getD .skip, 24, [(.tmp 6)]⟩
theorem fn71 : fnOf P 71 = some x71 := by kernel_rfl
theorem sx71 : strip x71.code = code71 := by kernel_rfl
theorem ok71 : codeOk (plsOf plans 71) x71.code = true := plsOf_ok P plans_ok 71 x71 fn71
theorem rs71 : x71.results = [(.tmp 6)] := rfl
theorem ex71 : E.ext 71 = none := by kernel_rfl
theorem nt71 : x71.ntmps = 24 := rfl

/-! fascicle/fascicleref06.Ratio -/
def code72 : Code :=
  .seq (.region 0 #[⟨(some 4), (.assign (.const (.float .f64 0))), 0, "", #[], none⟩] false)
  (.seq (.seq (.region 1 #[⟨(some 5), (.move (.tmp 1)), 0, "", #[], none⟩,
  ⟨(some 6), (.binOp .eql 30 (.tmp 5) (.const (.int .u64 0)) 30), 0, "", #[], none⟩] false)
  (.cond (.tmp 6)
  (.seq (.seq (.region 2 #[⟨(some 7), (.move (.tmp 0)), 0, "", #[], none⟩,
  ⟨(some 8), (.binOp .eql 30 (.tmp 7) (.const (.int .u64 0)) 30), 0, "", #[], none⟩] false)
  (.cond (.tmp 8)
  (.seq (.region 3 #[⟨(some 4), (.assign (.const (.float .f64 0))), 0, "", #[], none⟩] false)
  (.ret))
  (.skip)))
  (.seq (.region 4 #[⟨(some 9), (.call { callee := (.value (.func 96)), args := #[(.const (.int .i64 1))], argTypes := #[3] }), 0, "", #[], none⟩,
  ⟨(some 4), (.assign (.tmp 9)), 0, "", #[], none⟩] false)
  (.ret)))
  (.skip)))
  (.seq (.region 5 #[⟨(some 10), (.move (.tmp 0)), 0, "", #[], none⟩,
  ⟨(some 11), (.convert 30 76 (.tmp 10)), 0, "", #[], none⟩,
  ⟨(some 12), (.move (.tmp 1)), 0, "", #[], none⟩,
  ⟨(some 13), (.convert 30 76 (.tmp 12)), 0, "", #[], none⟩,
  ⟨(some 14), (.binOp .quo 76 (.tmp 11) (.tmp 13) 76), 0, "", #[], none⟩,
  ⟨(some 4), (.assign (.tmp 14)), 0, "", #[], none⟩] false)
  (.ret)))
noncomputable def x72 : FnI := ⟨Tryz.f72.body.getD .skip, 15, [(.tmp 4)]⟩
theorem fn72 : fnOf P 72 = some x72 := by kernel_rfl
theorem sx72 : strip x72.code = code72 := by kernel_rfl
theorem ok72 : codeOk (plsOf plans 72) x72.code = true := plsOf_ok P plans_ok 72 x72 fn72
theorem rs72 : x72.results = [(.tmp 4)] := rfl
theorem ex72 : E.ext 72 = none := by kernel_rfl
theorem nt72 : x72.ntmps = 15 := rfl

/-! fascicle/fascicleref02.Get -/
def body73_0 : Code :=
  .seq (.region 4 #[⟨(some 10), (.binOp .lss 3 (.tmp 9) (.const (.int .i64 10)) 3), 0, "", #[], none⟩] false)
  (.seq (.cond (.tmp 10)
  (.skip)
  (.exit 0))
  (.seq (.block 1 (.seq (.region 5 #[⟨(some 11), (.move (.tmp 9)), 0, "", #[], none⟩,
  ⟨(some 6), (.assign (.tmp 11)), 0, "", #[], none⟩] false)
  (.seq (.region 6 #[⟨(some 13), (.load 45 (.tmp 1)), 0, "", #[], none⟩,
  ⟨(some 14), (.call { callee := (.value (.func 44)), args := #[(.tmp 13), (.const (.int .i64 1))], argTypes := #[45, 3] }), 0, "", #[], none⟩,
  ⟨(some 12), (.move (.tmp 14)), 0, "", #[], none⟩,
  ⟨(some 15), (.extract (.tmp 12) 0), 0, "", #[], none⟩,
  ⟨(some 16), (.extract (.tmp 12) 1), 0, "", #[], none⟩,
  ⟨(some 7), (.alloc 45), 0, "", #[], none⟩,
  ⟨none, (.store 45 (.tmp 7) (.tmp 15)), 0, "", #[], none⟩,
  ⟨(some 8), (.assign (.tmp 16)), 0, "", #[], none⟩] false)
  (.seq (.region 7 #[⟨(some 17), (.load 45 (.tmp 7)), 0, "", #[], none⟩,
  ⟨none, (.store 45 (.tmp 1) (.tmp 17)), 0, "", #[], none⟩] false)
  (.seq (.seq (.region 8 #[⟨(some 18), (.fieldAddr 45 (.tmp 1) 2), 0, "", #[], none⟩,
  ⟨(some 19), (.load 3 (.tmp 18)), 0, "", #[], none⟩,
  ⟨(some 20), (.binOp .neq 3 (.tmp 19) (.const (.int .i64 0)) 3), 0, "", #[], none⟩] false)
  (.cond (.tmp 20)
  (.seq (.region 9 #[⟨(some 21), (.load 45 (.tmp 1)), 0, "", #[], none⟩,
  ⟨none, (.store 45 (.tmp 2) (.tmp 21)), 0, "", #[], none⟩,
  ⟨(some 3), (.assign (.const (.int .u64 0))), 0, "", #[], none⟩] false)
  (.ret))
  (.skip)))
  (.seq (.seq (.region 10 #[⟨(some 22), (.move (.tmp 6)), 0, "", #[], none⟩,
  ⟨(some 23), (.binOp .eql 3 (.tmp 22) (.const (.int .i64 9)) 3), 0, "", #[], none⟩,
  ⟨(some 24), (.move (.tmp 23)), 0, "", #[], none⟩,
  ⟨(some 25), (.move (.tmp 8)), 0, "", #[], (some (2, true))⟩,
  ⟨(some 26), (.binOp .gtr 30 (.tmp 25) (.const (.int .u64 1)) 30), 0, "", #[], (some (2, true))⟩,
  ⟨(some 27), (.pick (.tmp 24) (.tmp 26) (.const (.bool false))), 0, "", #[], none⟩] false)
  (.cond (.tmp 27)
  (.seq (.region 11 #[⟨(some 28), (.load 45 (.tmp 1)), 0, "", #[], none⟩,
  ⟨(some 29), (.call { callee := (.value (.func 45)), args := #[(.tmp 28), (.const (.int .i64 3))], argTypes := #[45, 3] }), 0, "", #[], none⟩,
  ⟨none, (.store 45 (.tmp 2) (.tmp 29)), 0, "", #[], none⟩,
  ⟨(some 3), (.assign (.const (.int .u64 0))), 0, "", #[], none⟩] false)
  (.ret))
  (.skip)))
  (.seq (.region 12 #[⟨(some 30), (.move (.tmp 4)), 0, "", #[], none⟩,
  ⟨(some 31), (.move (.tmp 8)), 0, "", #[], none⟩,
  ⟨(some 32), (.binOp .rem 30 (.tmp 31) (.const (.int .u64 128)) 30), 0, "", #[], none⟩,
  ⟨(some 33), (.move (.tmp 5)), 0, "", #[], none⟩,
  ⟨(some 34), (.binOp .mul 30 (.tmp 32) (.tmp 33) 30), 0, "", #[], none⟩,
  ⟨(some 35), (.binOp .add 30 (.tmp 30) (.tmp 34) 30), 0, "", #[], none⟩,
  ⟨(some 4), (.assign (.tmp 35)), 0, "", #[], none⟩] false)
  (.seq (.region 13 #[⟨(some 36), (.move (.tmp 5)), 0, "", #[], none⟩,
  ⟨(some 37), (.binOp .mul 30 (.tmp 36) (.const (.int .u64 128)) 30), 0, "", #[], none⟩,
  ⟨(some 5), (.assign (.tmp 37)), 0, "", #[], none⟩] false)
  (.seq (.seq (.region 14 #[⟨(some 38), (.move (.tmp 8)), 0, "", #[], none⟩,
  ⟨(some 39), (.binOp .geq 30 (.tmp 38) (.const (.int .u64 128)) 30), 0, "", #[], none⟩] false)
  (.cond (.tmp 39)
  (.exit 1)
  (.skip)))
  (.seq (.seq (.region 15 #[⟨(some 40), (.move (.tmp 8)), 0, "", #[], none⟩,
  ⟨(some 41), (.binOp .eql 30 (.tmp 40) (.const (.int .u64 0)) 30), 0, "", #[], none⟩,
  ⟨(some 42), (.move (.tmp 41)), 0, "", #[], none⟩,
  ⟨(some 43), (.move (.tmp 6)), 0, "", #[], (some (2, true))⟩,
  ⟨(some 44), (.binOp .gtr 3 (.tmp 43) (.const (.int .i64 0)) 3), 0, "", #[], (some (2, true))⟩,
  ⟨(some 45), (.pick (.tmp 42) (.tmp 44) (.const (.bool false))), 0, "", #[], none⟩] false)
  (.cond (.tmp 45)
  (.seq (.region 16 #[⟨(some 46), (.load 45 (.tmp 1)), 0, "", #[], none⟩,
  ⟨(some 47), (.call { callee := (.value (.func 45)), args := #[(.tmp 46), (.const (.int .i64 4))], argTypes := #[45, 3] }), 0, "", #[], none⟩,
  ⟨none, (.store 45 (.tmp 2) (.tmp 47)), 0, "", #[], none⟩,
  ⟨(some 3), (.assign (.const (.int .u64 0))), 0, "", #[], none⟩] false)
  (.ret))
  (.skip)))
  (.seq (.region 17 #[⟨(some 48), (.load 45 (.tmp 1)), 0, "", #[], none⟩,
  ⟨(some 49), (.move (.tmp 4)), 0, "", #[], none⟩,
  ⟨none, (.store 45 (.tmp 2) (.tmp 48)), 0, "", #[], none⟩,
  ⟨(some 3), (.assign (.tmp 49)), 0, "", #[], none⟩] false)
  (.ret))))))))))))
  (.region 18 #[⟨(some 50), (.binOp .add 3 (.tmp 9) (.const (.int .i64 1)) 3), 0, "", #[], none⟩,
  ⟨(some 9), (.move (.tmp 50)), 0, "", #[], none⟩] false)))
def code73 : Code :=
  .seq (.region 0 #[⟨(some 1), (.box 45 (.tmp 0)), 0, "", #[], none⟩,
  ⟨(some 2), (.alloc 45), 0, "", #[], none⟩,
  ⟨(some 3), (.assign (.const (.int .u64 0))), 0, "", #[], none⟩] false)
  (.seq (.region 1 #[⟨(some 4), (.assign (.const (.int .u64 0))), 0, "", #[], none⟩] false)
  (.seq (.region 2 #[⟨(some 5), (.assign (.const (.int .u64 1))), 0, "", #[], none⟩] false)
  (.seq (.seq (.region 3 #[⟨(some 9), (.move (.const (.int .i64 0))), 0, "", #[], none⟩] false)
  (.block 0 (.loop body73_0)))
  (.seq (.region 19 #[⟨(some 51), (.load 45 (.tmp 1)), 0, "", #[], none⟩,
  ⟨(some 52), (.move (.tmp 4)), 0, "", #[], none⟩,
  ⟨none, (.store 45 (.tmp 2) (.tmp 51)), 0, "", #[], none⟩,
  ⟨(some 3), (.assign (.tmp 52)), 0, "", #[], none⟩] false)
  (.ret)))))
noncomputable def x73 : FnI := ⟨Tryz.f73.body.getD .skip, 53, [(.cell 2 45), (.tmp 3)]⟩
theorem fn73 : fnOf P 73 = some x73 := by kernel_rfl
theorem sx73 : strip x73.code = code73 := by kernel_rfl
theorem ok73 : codeOk (plsOf plans 73) x73.code = true := plsOf_ok P plans_ok 73 x73 fn73
theorem rs73 : x73.results = [(.cell 2 45), (.tmp 3)] := rfl
theorem ex73 : E.ext 73 = none := by kernel_rfl
theorem nt73 : x73.ntmps = 53 := rfl

/-! fascicle/fascicleref01.Take -/
def code74 : Code :=
  .seq (.region 0 #[⟨(some 2), (.box 45 (.tmp 0)), 0, "", #[], none⟩,
  ⟨(some 4), (.alloc 45), 0, "", #[], none⟩,
  ⟨(some 5), (.assign (.const (.string ⟨#[]⟩))), 0, "", #[], none⟩] false)
  (.seq (.seq (.region 1 #[⟨(some 6), (.fieldAddr 45 (.tmp 2) 2), 0, "", #[], none⟩,
  ⟨(some 7), (.load 3 (.tmp 6)), 0, "", #[], none⟩,
  ⟨(some 8), (.binOp .neq 3 (.tmp 7) (.const (.int .i64 0)) 3), 0, "", #[], none⟩,
  ⟨(some 9), (.move (.tmp 8)), 0, "", #[], none⟩,
  ⟨(some 10), (.move (.tmp 1)), 0, "", #[], (some (3, false))⟩,
  ⟨(some 11), (.binOp .leq 3 (.tmp 10) (.const (.int .i64 0)) 3), 0, "", #[], (some (3, false))⟩,
  ⟨(some 12), (.pick (.tmp 9) (.const (.bool true)) (.tmp 11)), 0, "", #[], none⟩] false)
  (.cond (.tmp 12)
  (.seq (.region 2 #[⟨(some 13), (.load 45 (.tmp 2)), 0, "", #[], none⟩,
  ⟨none, (.store 45 (.tmp 4) (.tmp 13)), 0, "", #[], none⟩,
  ⟨(some 5), (.assign (.const (.string ⟨#[]⟩))), 0, "", #[], none⟩] false)
  (.ret))
  (.skip)))
  (.seq (.seq (.region 3 #[⟨(some 14), (.move (.tmp 1)), 0, "", #[], none⟩,
  ⟨(some 15), (.fieldAddr 45 (.tmp 2) 0), 0, "", #[], none⟩,
  ⟨(some 16), (.load 9 (.tmp 15)), 0, "", #[], none⟩,
  ⟨(some 17), (.call { callee := (.builtin .len), args := #[(.tmp 16)], argTypes := #[9] }), 0, "", #[], none⟩,
  ⟨(some 18), (.binOp .gtr 3 (.tmp 14) (.tmp 17) 3), 0, "", #[], none⟩] false)
  (.cond (.tmp 18)
  (.seq (.region 4 #[⟨(some 19), (.fieldAddr 45 (.tmp 2) 2), 0, "", #[], none⟩,
  ⟨none, (.store 3 (.tmp 19) (.const (.int .i64 2))), 0, "", #[], none⟩] false)
  (.seq (.region 5 #[⟨(some 20), (.load 45 (.tmp 2)), 0, "", #[], none⟩,
  ⟨none, (.store 45 (.tmp 4) (.tmp 20)), 0, "", #[], none⟩,
  ⟨(some 5), (.assign (.const (.string ⟨#[]⟩))), 0, "", #[], none⟩] false)
  (.ret)))
  (.skip)))
  (.seq (.region 6 #[⟨(some 21), (.fieldAddr 45 (.tmp 2) 0), 0, "", #[], none⟩,
  ⟨(some 22), (.load 9 (.tmp 21)), 0, "", #[], none⟩,
  ⟨(some 23), (.move (.tmp 1)), 0, "", #[], none⟩,
  ⟨(some 24), (.slice 9 (.tmp 22) (some (.tmp 23)) none none), 0, "", #[], none⟩,
  ⟨(some 25), (.fieldAddr 45 (.tmp 2) 1), 0, "", #[], none⟩,
  ⟨(some 26), (.load 3 (.tmp 25)), 0, "", #[], none⟩,
  ⟨(some 27), (.move (.tmp 1)), 0, "", #[], none⟩,
  ⟨(some 28), (.binOp .add 3 (.tmp 26) (.tmp 27) 3), 0, "", #[], none⟩,
  ⟨(some 29), (.build 45 #[(0, (.tmp 24)), (1, (.tmp 28))]), 0, "", #[], none⟩,
  ⟨(some 30), (.fieldAddr 45 (.tmp 2) 0), 0, "", #[], none⟩,
  ⟨(some 31), (.load 9 (.tmp 30)), 0, "", #[], none⟩,
  ⟨(some 32), (.move (.tmp 1)), 0, "", #[], none⟩,
  ⟨(some 33), (.slice 9 (.tmp 31) none (some (.tmp 32)) none), 0, "", #[], none⟩,
  ⟨none, (.store 45 (.tmp 4) (.tmp 29)), 0, "", #[], none⟩,
  ⟨(some 5), (.assign (.tmp 33)), 0, "", #[], none⟩] true)
  (.ret))))
noncomputable def x74 : FnI := ⟨Tryz.f74.body.getD .skip, 34, [(.cell 4 45), (.tmp 5)]⟩
theorem fn74 : fnOf P 74 = some x74 := by kernel_rfl
theorem sx74 : strip x74.code = code74 := by kernel_rfl
theorem ok74 : codeOk (plsOf plans 74) x74.code = true := plsOf_ok P plans_ok 74 x74 fn74
theorem pl74_6 : planFor (plsOf plans 74) 6 = some [⟨[0, 1, 2, 3, 4, 5, 6, 7, 8, 9, 10, 11, 12], [], some 13⟩, ⟨[14], [9, 10, 11, 12], none⟩] := by kernel_rfl
theorem rs74 : x74.results = [(.cell 4 45), (.tmp 5)] := rfl
theorem ex74 : E.ext 74 = none := by kernel_rfl
theorem nt74 : x74.ntmps = 34 := rfl

/-! fascicle/fascicleref01.Value -/
def body75_0 : Code :=
  .seq (.seq (.region 3 #[⟨(some 8), (.move (.tmp 4)), 0, "", #[], none⟩,
  ⟨(some 9), (.binOp .geq 3 (.tmp 8) (.const (.int .i64 0)) 3), 0, "", #[], none⟩] false)
  (.cond (.tmp 9)
  (.skip)
  (.exit 0)))
  (.seq (.block 1 (.region 5 #[⟨(some 12), (.move (.tmp 3)), 0, "", #[], none⟩,
  ⟨(some 13), (.binOp .mul 30 (.tmp 12) (.const (.int .u64 256)) 30), 0, "", #[], none⟩,
  ⟨(some 14), (.move (.tmp 0)), 0, "", #[], none⟩,
  ⟨(some 15), (.move (.tmp 4)), 0, "", #[], none⟩,
  ⟨(some 16), (.index 9 (.tmp 14) (.tmp 15)), 0, "", #[], none⟩,
  ⟨(some 17), (.convert 5 30 (.tmp 16)), 0, "", #[], none⟩,
  ⟨(some 18), (.binOp .add 30 (.tmp 13) (.tmp 17) 30), 0, "", #[], none⟩,
  ⟨(some 3), (.assign (.tmp 18)), 0, "", #[], none⟩] false))
  (.region 4 #[⟨(some 10), (.move (.tmp 4)), 0, "", #[], none⟩,
  ⟨(some 11), (.binOp .sub 3 (.tmp 10) (.const (.int .i64 1)) 3), 0, "", #[], none⟩,
  ⟨(some 4), (.assign (.tmp 11)), 0, "", #[], none⟩] false))
def code75 : Code :=
  .seq (.region 0 #[⟨(some 2), (.assign (.const (.int .u64 0))), 0, "", #[], none⟩] false)
  (.seq (.region 1 #[⟨(some 3), (.assign (.const (.int .u64 0))), 0, "", #[], none⟩] false)
  (.seq (.seq (.region 2 #[⟨(some 5), (.move (.tmp 0)), 0, "", #[], none⟩,
  ⟨(some 6), (.call { callee := (.builtin .len), args := #[(.tmp 5)], argTypes := #[9] }), 0, "", #[], none⟩,
  ⟨(some 7), (.binOp .sub 3 (.tmp 6) (.const (.int .i64 1)) 3), 0, "", #[], none⟩,
  ⟨(some 4), (.assign (.tmp 7)), 0, "", #[], none⟩] false)
  (.block 0 (.loop body75_0)))
  (.seq (.region 6 #[⟨(some 19), (.move (.tmp 3)), 0, "", #[], none⟩,
  ⟨(some 2), (.assign (.tmp 19)), 0, "", #[], none⟩] false)
  (.ret))))
noncomputable def x75 : FnI := ⟨Tryz.f75.body.getD .skip, 20, [(.tmp 2)]⟩
theorem fn75 : fnOf P 75 = some x75 := by kernel_rfl
theorem sx75 : strip x75.code = code75 := by kernel_rfl
theorem ok75 : codeOk (plsOf plans 75) x75.code = true := plsOf_ok P plans_ok 75 x75 fn75
theorem rs75 : x75.results = [(.tmp 2)] := rfl
theorem ex75 : E.ext 75 = none := by kernel_rfl
theorem nt75 : x75.ntmps = 20 := rfl

/-! fascicle/edge.Clamp -/
def code92 : Code :=
  .seq (.region 0 #[⟨(some 6), (.assign (.const (.float .f64 0))), 0, "", #[], none⟩] false)
  (.seq (.block 0 (.seq (.region 1 #[⟨(some 8), (.move (.tmp 0)), 0, "", #[], none⟩,
  ⟨(some 9), (.move (.tmp 1)), 0, "", #[], none⟩,
  ⟨(some 10), (.call { callee := (.value (.func 131)), args := #[(.tmp 8), (.tmp 9)], argTypes := #[76, 76] }), 0, "", #[], none⟩,
  ⟨(some 11), (.binOp .lss 3 (.tmp 10) (.const (.int .i64 0)) 3), 0, "", #[], none⟩,
  ⟨(some 12), (.move (.tmp 11)), 0, "", #[], none⟩,
  ⟨(some 13), (.move (.tmp 2)), 0, "", #[], (some (4, false))⟩,
  ⟨(some 14), (.move (.tmp 1)), 0, "", #[], (some (4, false))⟩,
  ⟨(some 15), (.call { callee := (.value (.func 131)), args := #[(.tmp 13), (.tmp 14)], argTypes := #[76, 76] }), 0, "", #[], (some (4, false))⟩,
  ⟨(some 16), (.binOp .lss 3 (.tmp 15) (.const (.int .i64 0)) 3), 0, "", #[], (some (4, false))⟩,
  ⟨(some 17), (.pick (.tmp 12) (.const (.bool true)) (.tmp 16)), 0, "", #[], none⟩,
  ⟨(some 7), (.assign (.tmp 17)), 0, "", #[], none⟩] false)
  (.cond (.tmp 7)
  (.seq (.region 2 #[⟨(some 18), (.move (.tmp 1)), 0, "", #[], none⟩,
  ⟨(some 6), (.assign (.tmp 18)), 0, "", #[], none⟩] false)
  (.ret))
  (.seq (.region 3 #[⟨(some 20), (.move (.tmp 0)), 0, "", #[], none⟩,
  ⟨(some 21), (.move (.tmp 2)), 0, "", #[], none⟩,
  ⟨(some 22), (.call { callee := (.value (.func 131)), args := #[(.tmp 20), (.tmp 21)], argTypes := #[76, 76] }), 0, "", #[], none⟩,
  ⟨(some 23), (.binOp .gtr 3 (.tmp 22) (.const (.int .i64 0)) 3), 0, "", #[], none⟩,
  ⟨(some 19), (.assign (.tmp 23)), 0, "", #[], none⟩] false)
  (.cond (.tmp 19)
  (.seq (.region 4 #[⟨(some 24), (.move (.tmp 2)), 0, "", #[], none⟩,
  ⟨(some 6), (.assign (.tmp 24)), 0, "", #[], none⟩] false)
  (.ret))
  (.skip))))))
  (.seq (.region 5 #[⟨(some 25), (.move (.tmp 0)), 0, "", #[], none⟩,
  ⟨(some 6), (.assign (.tmp 25)), 0, "", #[], none⟩] false)
  (.ret)))
noncomputable def x92 : FnI := ⟨Tryz.f92.body.getD .skip, 26, [(.tmp 6)]⟩
theorem fn92 : fnOf P 92 = some x92 := by kernel_rfl
theorem sx92 : strip x92.code = code92 := by kernel_rfl
theorem ok92 : codeOk (plsOf plans 92) x92.code = true := plsOf_ok P plans_ok 92 x92 fn92
theorem rs92 : x92.results = [(.tmp 6)] := rfl
theorem ex92 : E.ext 92 = none := by kernel_rfl
theorem nt92 : x92.ntmps = 26 := rfl

/-! fascicle/edge.Ratio -/
def code93 : Code :=
  .seq (.region 0 #[⟨(some 4), (.assign (.const (.float .f64 0))), 0, "", #[], none⟩] false)
  (.seq (.seq (.region 1 #[⟨(some 5), (.move (.tmp 0)), 0, "", #[], none⟩,
  ⟨(some 6), (.binOp .eql 30 (.tmp 5) (.const (.int .u64 0)) 30), 0, "", #[], none⟩,
  ⟨(some 7), (.move (.tmp 6)), 0, "", #[], none⟩,
  ⟨(some 8), (.move (.tmp 1)), 0, "", #[], (some (2, true))⟩,
  ⟨(some 9), (.binOp .eql 30 (.tmp 8) (.const (.int .u64 0)) 30), 0, "", #[], (some (2, true))⟩,
  ⟨(some 10), (.pick (.tmp 7) (.tmp 9) (.const (.bool false))), 0, "", #[], none⟩] false)
  (.cond (.tmp 10)
  (.seq (.region 2 #[⟨(some 4), (.assign (.const (.float .f64 0))), 0, "", #[], none⟩] false)
  (.ret))
  (.skip)))
  (.seq (.region 3 #[⟨(some 11), (.move (.tmp 0)), 0, "", #[], none⟩,
  ⟨(some 12), (.convert 30 76 (.tmp 11)), 0, "", #[], none⟩,
  ⟨(some 13), (.move (.tmp 1)), 0, "", #[], none⟩,
  ⟨(some 14), (.convert 30 76 (.tmp 13)), 0, "", #[], none⟩,
  ⟨(some 15), (.binOp .quo 76 (.tmp 12) (.tmp 14) 76), 0, "", #[], none⟩,
  ⟨(some 4), (.assign (.tmp 15)), 0, "", #[], none⟩] false)
  (.ret)))
noncomputable def x93 : FnI := ⟨Tryz.f93.body.getD .skip, 16, [(.tmp 4)]⟩
theorem fn93 : fnOf P 93 = some x93 := by kernel_rfl
theorem sx93 : strip x93.code = code93 := by kernel_rfl
theorem ok93 : codeOk (plsOf plans 93) x93.code = true := plsOf_ok P plans_ok 93 x93 fn93
theorem rs93 : x93.results = [(.tmp 4)] := rfl
theorem ex93 : E.ext 93 = none := by kernel_rfl
theorem nt93 : x93.ntmps = 16 := rfl

/-! (*fascicle/cursor.Cursor).Take -/
def code94 : Code :=
  .seq (.region 0 #[⟨(some 4), (.assign (.const (.slice none 0 0))), 0, "", #[], none⟩] false)
  (.seq (.seq (.region 1 #[⟨(some 5), (.move (.tmp 0)), 0, "", #[], none⟩,
  ⟨(some 6), (.call { callee := (.value (.func 65)), args := #[(.tmp 5)], argTypes := #[39] }), 0, "", #[], none⟩,
  ⟨(some 7), (.move (.tmp 6)), 0, "", #[], none⟩,
  ⟨(some 8), (.move (.tmp 1)), 0, "", #[], (some (2, false))⟩,
  ⟨(some 9), (.binOp .leq 3 (.tmp 8) (.const (.int .i64 0)) 3), 0, "", #[], (some (2, false))⟩,
  ⟨(some 10), (.pick (.tmp 7) (.const (.bool true)) (.tmp 9)), 0, "", #[], none⟩] false)
  (.cond (.tmp 10)
  (.seq (.region 2 #[⟨(some 4), (.assign (.const (.slice none 0 0))), 0, "", #[], none⟩] false)
  (.ret))
  (.skip)))
  (.seq (.seq (.region 3 #[⟨(some 11), (.move (.tmp 1)), 0, "", #[], none⟩,
  ⟨(some 12), (.move (.tmp 0)), 0, "", #[], none⟩,
  ⟨(some 13), (.nilCheck (.tmp 12)), 0, "", #[], none⟩,
  ⟨(some 14), (.fieldAddr 83 (.tmp 13) 0), 0, "", #[], none⟩,
  ⟨(some 15), (.load 23 (.tmp 14)), 0, "", #[], none⟩,
  ⟨(some 16), (.call { callee := (.builtin .len), args := #[(.tmp 15)], argTypes := #[23] }), 0, "", #[], none⟩,
  ⟨(some 17), (.move (.tmp 0)), 0, "", #[], none⟩,
  ⟨(some 18), (.nilCheck (.tmp 17)), 0, "", #[], none⟩,
  ⟨(some 19), (.fieldAddr 83 (.tmp 18) 1), 0, "", #[], none⟩,
  ⟨(some 20), (.load 3 (.tmp 19)), 0, "", #[], none⟩,
  ⟨(some 21), (.binOp .sub 3 (.tmp 16) (.tmp 20) 3), 0, "", #[], none⟩,
  ⟨(some 22), (.binOp .gtr 3 (.tmp 11) (.tmp 21) 3), 0, "", #[], none⟩] true)
  (.cond (.tmp 22)
  (.region 4 #[⟨(some 23), (.move (.tmp 0)), 0, "", #[], none⟩,
  ⟨(some 24), (.call { callee := (.value (.func 35)), args := #[(.tmp 23), (.const (.int .i64 2))], argTypes := #[39, 35] }), 0, "", #[], none⟩] false)
  (.skip)))
  (.seq (.region 5 #[⟨(some 25), (.move (.tmp 0)), 0, "", #[], none⟩,
  ⟨(some 26), (.nilCheck (.tmp 25)), 0, "", #[], none⟩,
  ⟨(some 27), (.fieldAddr 83 (.tmp 26) 1), 0, "", #[], none⟩,
  ⟨(some 28), (.load 3 (.tmp 27)), 0, "", #[], none⟩,
  ⟨(some 29), (.move (.tmp 1)), 0, "", #[], none⟩,
  ⟨(some 30), (.binOp .add 3 (.tmp 28) (.tmp 29) 3), 0, "", #[], none⟩,
  ⟨(some 31), (.nilCheck (.tmp 25)), 0, "", #[], none⟩,
  ⟨(some 32), (.fieldAddr 83 (.tmp 31) 1), 0, "", #[], none⟩,
  ⟨none, (.store 3 (.tmp 32) (.tmp 30)), 0, "", #[], none⟩] false)
  (.seq (.region 6 #[⟨(some 33), (.move (.tmp 0)), 0, "", #[], none⟩,
  ⟨(some 34), (.nilCheck (.tmp 33)), 0, "", #[], none⟩,
  ⟨(some 35), (.fieldAddr 83 (.tmp 34) 0), 0, "", #[], none⟩,
  ⟨(some 36), (.load 23 (.tmp 35)), 0, "", #[], none⟩,
  ⟨(some 37), (.move (.tmp 0)), 0, "", #[], none⟩,
  ⟨(some 38), (.nilCheck (.tmp 37)), 0, "", #[], none⟩,
  ⟨(some 39), (.fieldAddr 83 (.tmp 38) 1), 0, "", #[], none⟩,
  ⟨(some 40), (.load 3 (.tmp 39)), 0, "", #[], none⟩,
  ⟨(some 41), (.move (.tmp 1)), 0, "", #[], none⟩,
  ⟨(some 42), (.binOp .sub 3 (.tmp 40) (.tmp 41) 3), 0, "", #[], none⟩,
  ⟨(some 43), (.move (.tmp 0)), 0, "", #[], none⟩,
  ⟨(some 44), (.nilCheck (.tmp 43)), 0, "", #[], none⟩,
  ⟨(some 45), (.fieldAddr 83 (.tmp 44) 1), 0, "", #[], none⟩,
  ⟨(some 46), (.load 3 (.tmp 45)), 0, "", #[], none⟩,
  ⟨(some 47), (.slice 23 (.tmp 36) (some (.tmp 42)) (some (.tmp 46)) none), 0, "", #[], none⟩,
  ⟨(some 48), (.call { callee := (.value (.func 31)), args := #[(.tmp 47)], argTypes := #[23] }), 0, "", #[], none⟩,
  ⟨(some 4), (.assign (.tmp 48)), 0, "", #[], none⟩] true)
  (.ret)))))
noncomputable def x94 : FnI := ⟨Tryz.f94.body.getD .skip, 49, [(.tmp 4)]⟩
theorem fn94 : fnOf P 94 = some x94 := by kernel_rfl
theorem sx94 : strip x94.code = code94 := by kernel_rfl
theorem ok94 : codeOk (plsOf plans 94) x94.code = true := plsOf_ok P plans_ok 94 x94 fn94
theorem pl94_3 : planFor (plsOf plans 94) 3 = some [⟨[0, 1, 2, 3, 4, 5, 6, 7, 8, 9, 10, 11], [], none⟩] := by kernel_rfl
theorem pl94_6 : planFor (plsOf plans 94) 6 = some [⟨[0, 1, 2, 3, 4, 5, 6, 7, 8, 9, 10, 11, 12, 13, 14], [], some 15⟩, ⟨[16], [0, 1, 2, 3, 4, 5, 6, 7, 8, 9, 10, 11, 12, 13], none⟩] := by kernel_rfl
theorem rs94 : x94.results = [(.tmp 4)] := rfl
theorem ex94 : E.ext 94 = none := by kernel_rfl
theorem nt94 : x94.ntmps = 49 := rfl

/-! fascicle/fascicleref06.Compare -/
def code95 : Code :=
  .seq (.region 0 #[⟨(some 4), (.assign (.const (.int .i64 0))), 0, "", #[], none⟩] false)
  (.seq (.seq (.region 1 #[⟨(some 5), (.move (.tmp 0)), 0, "", #[], none⟩,
  ⟨(some 6), (.call { callee := (.value (.func 132)), args := #[(.tmp 5)], argTypes := #[76] }), 0, "", #[], none⟩,
  ⟨(some 7), (.move (.tmp 1)), 0, "", #[], none⟩,
  ⟨(some 8), (.call { callee := (.value (.func 132)), args := #[(.tmp 7)], argTypes := #[76] }), 0, "", #[], none⟩,
  ⟨(some 9), (.binOp .neq 3 (.tmp 6) (.tmp 8) 3), 0, "", #[], none⟩] false)
  (.cond (.tmp 9)
  (.seq (.seq (.region 2 #[⟨(some 10), (.move (.tmp 0)), 0, "", #[], none⟩,
  ⟨(some 11), (.call { callee := (.value (.func 132)), args := #[(.tmp 10)], argTypes := #[76] }), 0, "", #[], none⟩,
  ⟨(some 12), (.move (.tmp 1)), 0, "", #[], none⟩,
  ⟨(some 13), (.call { callee := (.value (.func 132)), args := #[(.tmp 12)], argTypes := #[76] }), 0, "", #[], none⟩,
  ⟨(some 14), (.binOp .lss 3 (.tmp 11) (.tmp 13) 3), 0, "", #[], none⟩] false)
  (.cond (.tmp 14)
  (.seq (.region 3 #[⟨(some 4), (.assign (.const (.int .i64 (-1)))), 0, "", #[], none⟩] false)
  (.ret))
  (.skip)))
  (.seq (.region 4 #[⟨(some 4), (.assign (.const (.int .i64 1))), 0, "", #[], none⟩] false)
  (.ret)))
  (.skip)))
  (.seq (.seq (.region 5 #[⟨(some 15), (.move (.tmp 0)), 0, "", #[], none⟩,
  ⟨(some 16), (.call { callee := (.value (.func 132)), args := #[(.tmp 15)], argTypes := #[76] }), 0, "", #[], none⟩,
  ⟨(some 17), (.binOp .eql 3 (.tmp 16) (.const (.int .i64 1)) 3), 0, "", #[], none⟩,
  ⟨(some 18), (.move (.tmp 17)), 0, "", #[], none⟩,
  ⟨(some 19), (.move (.tmp 0)), 0, "", #[], (some (3, false))⟩,
  ⟨(some 20), (.call { callee := (.value (.func 132)), args := #[(.tmp 19)], argTypes := #[76] }), 0, "", #[], (some (3, false))⟩,
  ⟨(some 21), (.binOp .eql 3 (.tmp 20) (.const (.int .i64 4)) 3), 0, "", #[], (some (3, false))⟩,
  ⟨(some 22), (.pick (.tmp 18) (.const (.bool true)) (.tmp 21)), 0, "", #[], none⟩] false)
  (.cond (.tmp 22)
  (.seq (.seq (.region 6 #[⟨(some 23), (.move (.tmp 0)), 0, "", #[], none⟩,
  ⟨(some 24), (.move (.tmp 1)), 0, "", #[], none⟩,
  ⟨(some 25), (.binOp .lss 76 (.tmp 23) (.tmp 24) 76), 0, "", #[], none⟩] false)
  (.cond (.tmp 25)
  (.seq (.region 7 #[⟨(some 4), (.assign (.const (.int .i64 (-1)))), 0, "", #[], none⟩] false)
  (.ret))
  (.skip)))
  (.seq (.region 8 #[⟨(some 26), (.move (.tmp 0)), 0, "", #[], none⟩,
  ⟨(some 27), (.move (.tmp 1)), 0, "", #[], none⟩,
  ⟨(some 28), (.binOp .gtr 76 (.tmp 26) (.tmp 27) 76), 0, "", #[], none⟩] false)
  (.cond (.tmp 28)
  (.seq (.region 9 #[⟨(some 4), (.assign (.const (.int .i64 1))), 0, "", #[], none⟩] false)
  (.ret))
  (.skip))))
  (.skip)))
  (.seq (.region 10 #[⟨(some 4), (.assign (.const (.int .i64 0))), 0, "", #[], none⟩] false)
  (.ret))))
noncomputable def x95 : FnI := ⟨Tryz.f95.body.getD .skip, 29, [(.tmp 4)]⟩
theorem fn95 : fnOf P 95 = some x95 := by kernel_rfl
theorem sx95 : strip x95.code = code95 := by kernel_rfl
theorem ok95 : codeOk (plsOf plans 95) x95.code = true := plsOf_ok P plans_ok 95 x95 fn95
theorem rs95 : x95.results = [(.tmp 4)] := rfl
theorem ex95 : E.ext 95 = none := by kernel_rfl
theorem nt95 : x95.ntmps = 29 := rfl

/-! math.Inf -/
def code96 : Code :=
  .seq (.region 0 #[⟨(some 2), (.assign (.const (.float .f64 0))), 0, "", #[], none⟩] false)
  (.seq (.region 1 #[⟨(some 3), (.assign (.const (.int .u64 0))), 0, "", #[], none⟩] false)
  (.seq (.seq (.region 2 #[⟨(some 4), (.move (.tmp 0)), 0, "", #[], none⟩,
  ⟨(some 5), (.binOp .geq 3 (.tmp 4) (.const (.int .i64 0)) 3), 0, "", #[], none⟩] false)
  (.cond (.tmp 5)
  (.region 3 #[⟨(some 3), (.assign (.const (.int .u64 9218868437227405312))), 0, "", #[], none⟩] false)
  (.region 4 #[⟨(some 3), (.assign (.const (.int .u64 18442240474082181120))), 0, "", #[], none⟩] false)))
  (.seq (.region 5 #[⟨(some 6), (.move (.tmp 3)), 0, "", #[], none⟩,
  ⟨(some 7), (.call { callee := (.value (.func 68)), args := #[(.tmp 6)], argTypes := #[30] }), 0, "", #[], none⟩,
  ⟨(some 2), (.assign (.tmp 7)), 0, "", #[], none⟩] false)
  (.ret))))
noncomputable def x96 : FnI := ⟨Tryz.f96.body.getD .skip, 8, [(.tmp 2)]⟩
theorem fn96 : fnOf P 96 = some x96 := by kernel_rfl
theorem sx96 : strip x96.code = code96 := by kernel_rfl
theorem ok96 : codeOk (plsOf plans 96) x96.code = true := plsOf_ok P plans_ok 96 x96 fn96
theorem rs96 : x96.results = [(.tmp 2)] := rfl
theorem ex96 : E.ext 96 = none := by kernel_rfl
theorem nt96 : x96.ntmps = 8 := rfl

/-! fascicle/edge.Compare -/
def code131 : Code :=
  .seq (.region 0 #[⟨(some 4), (.assign (.const (.int .i64 0))), 0, "", #[], none⟩] false)
  (.seq (.region 1 #[⟨(some 5), (.move (.tmp 0)), 0, "", #[], none⟩,
  ⟨(some 6), (.call { callee := (.value (.func 66)), args := #[(.tmp 5)], argTypes := #[76] }), 0, "", #[], none⟩,
  ⟨(some 7), (.move (.tmp 1)), 0, "", #[], none⟩,
  ⟨(some 8), (.call { callee := (.value (.func 66)), args := #[(.tmp 7)], argTypes := #[76] }), 0, "", #[], none⟩,
  ⟨(some 9), (.call { callee := (.value (.func 173)), args := #[(.tmp 6), (.tmp 8)], argTypes := #[30, 30] }), 0, "", #[], none⟩,
  ⟨(some 4), (.assign (.tmp 9)), 0, "", #[], none⟩] false)
  (.ret))
noncomputable def x131 : FnI := ⟨Tryz.f131.body.getD .skip, 10, [(.tmp 4)]⟩
theorem fn131 : fnOf P 131 = some x131 := by kernel_rfl
theorem sx131 : strip x131.code = code131 := by kernel_rfl
theorem ok131 : codeOk (plsOf plans 131) x131.code = true := plsOf_ok P plans_ok 131 x131 fn131
theorem rs131 : x131.results = [(.tmp 4)] := rfl
theorem ex131 : E.ext 131 = none := by kernel_rfl
theorem nt131 : x131.ntmps = 10 := rfl

/-! fascicle/fascicleref06.kind -/
def code132 : Code :=
  .seq (.region 0 #[⟨(some 2), (.assign (.const (.int .i64 0))), 0, "", #[], none⟩] false)
  (.seq (.seq (.region 1 #[⟨(some 3), (.move (.tmp 0)), 0, "", #[], none⟩,
  ⟨(some 4), (.call { callee := (.value (.func 69)), args := #[(.tmp 3)], argTypes := #[76] }), 0, "", #[], none⟩] false)
  (.cond (.tmp 4)
  (.seq (.region 2 #[⟨(some 2), (.assign (.const (.int .i64 6))), 0, "", #[], none⟩] false)
  (.ret))
  (.skip)))
  (.seq (.seq (.region 3 #[⟨(some 5), (.move (.tmp 0)), 0, "", #[], none⟩,
  ⟨(some 6), (.call { callee := (.value (.func 174)), args := #[(.tmp 5), (.const (.int .i64 (-1)))], argTypes := #[76, 3] }), 0, "", #[], none⟩] false)
  (.cond (.tmp 6)
  (.seq (.region 4 #[⟨(some 2), (.assign (.const (.int .i64 0))), 0, "", #[], none⟩] false)
  (.ret))
  (.skip)))
  (.seq (.seq (.region 5 #[⟨(some 7), (.move (.tmp 0)), 0, "", #[], none⟩,
  ⟨(some 8), (.call { callee := (.value (.func 174)), args := #[(.tmp 7), (.const (.int .i64 1))], argTypes := #[76, 3] }), 0, "", #[], none⟩] false)
  (.cond (.tmp 8)
  (.seq (.region 6 #[⟨(some 2), (.assign (.const (.int .i64 5))), 0, "", #[], none⟩] false)
  (.ret))
  (.skip)))
  (.seq (.seq (.region 7 #[⟨(some 9), (.move (.tmp 0)), 0, "", #[], none⟩,
  ⟨(some 10), (.binOp .lss 76 (.tmp 9) (.const (.float .f64 0)) 76), 0, "", #[], none⟩] false)
  (.cond (.tmp 10)
  (.seq (.region 8 #[⟨(some 2), (.assign (.const (.int .i64 1))), 0, "", #[], none⟩] false)
  (.ret))
  (.skip)))
  (.seq (.seq (.region 9 #[⟨(some 11), (.move (.tmp 0)), 0, "", #[], none⟩,
  ⟨(some 12), (.binOp .gtr 76 (.tmp 11) (.const (.float .f64 0)) 76), 0, "", #[], none⟩] false)
  (.cond (.tmp 12)
  (.seq (.region 10 #[⟨(some 2), (.assign (.const (.int .i64 4))), 0, "", #[], none⟩] false)
  (.ret))
  (.skip)))
  (.seq (.seq (.region 11 #[⟨(some 13), (.move (.tmp 0)), 0, "", #[], none⟩,
  ⟨(some 14), (.call { callee := (.value (.func 175)), args := #[(.tmp 13)], argTypes := #[76] }), 0, "", #[], none⟩] false)
  (.cond (.tmp 14)
  (.seq (.region 12 #[⟨(some 2), (.assign (.const (.int .i64 2))), 0, "", #[], none⟩] false)
  (.ret))
  (.skip)))
  (.seq (.region 13 #[⟨(some 2), (.assign (.const (.int .i64 3))), 0, "", #[], none⟩] false)
  (.ret))))))))
noncomputable def x132 : FnI := ⟨Tryz.f132.body.getD .skip, 15, [(.tmp 2)]⟩
theorem fn132 : fnOf P 132 = some x132 := by kernel_rfl
theorem sx132 : strip x132.code = code132 := by kernel_rfl
theorem ok132 : codeOk (plsOf plans 132) x132.code = true := plsOf_ok P plans_ok 132 x132 fn132
theorem rs132 : x132.results = [(.tmp 2)] := rfl
theorem ex132 : E.ext 132 = none := by kernel_rfl
theorem nt132 : x132.ntmps = 15 := rfl

/-! cmp.Compare[uint64] -/
def code173 : Code :=
  .seq (.region 0 #[⟨(some 4), (.assign (.const (.int .i64 0))), 0, "", #[], none⟩] false)
  (.seq (.region 1 #[⟨(some 7), (.move (.tmp 0)), 0, "", #[], none⟩,
  ⟨(some 8), (.call { callee := (.value (.func 213)), args := #[(.tmp 7)], argTypes := #[30] }), 0, "", #[], none⟩,
  ⟨(some 5), (.assign (.tmp 8)), 0, "", #[], none⟩] false)
  (.seq (.region 2 #[⟨(some 9), (.move (.tmp 1)), 0, "", #[], none⟩,
  ⟨(some 10), (.call { callee := (.value (.func 213)), args := #[(.tmp 9)], argTypes := #[30] }), 0, "", #[], none⟩,
  ⟨(some 6), (.assign (.tmp 10)), 0, "", #[], none⟩] false)
  (.seq (.seq (.region 3 #[⟨(some 11), (.move (.tmp 5)), 0, "", #[], none⟩] false)
  (.cond (.tmp 11)
  (.seq (.seq (.region 4 #[⟨(some 12), (.move (.tmp 6)), 0, "", #[], none⟩] false)
  (.cond (.tmp 12)
  (.seq (.region 5 #[⟨(some 4), (.assign (.const (.int .i64 0))), 0, "", #[], none⟩] false)
  (.ret))
  (.skip)))
  (.seq (.region 6 #[⟨(some 4), (.assign (.const (.int .i64 (-1)))), 0, "", #[], none⟩] false)
  (.ret)))
  (.skip)))
  (.seq (.seq (.region 7 #[⟨(some 13), (.move (.tmp 6)), 0, "", #[], none⟩] false)
  (.cond (.tmp 13)
  (.seq (.region 8 #[⟨(some 4), (.assign (.const (.int .i64 1))), 0, "", #[], none⟩] false)
  (.ret))
  (.skip)))
  (.seq (.seq (.region 9 #[⟨(some 14), (.move (.tmp 0)), 0, "", #[], none⟩,
  ⟨(some 15), (.move (.tmp 1)), 0, "", #[], none⟩,
  ⟨(some 16), (.binOp .lss 30 (.tmp 14) (.tmp 15) 30), 0, "", #[], none⟩] false)
  (.cond (.tmp 16)
  (.seq (.region 10 #[⟨(some 4), (.assign (.const (.int .i64 (-1)))), 0, "", #[], none⟩] false)
  (.ret))
  (.skip)))
  (.seq (.seq (.region 11 #[⟨(some 17), (.move (.tmp 0)), 0, "", #[], none⟩,
  ⟨(some 18), (.move (.tmp 1)), 0, "", #[], none⟩,
  ⟨(some 19), (.binOp .gtr 30 (.tmp 17) (.tmp 18) 30), 0, "", #[], none⟩] false)
  (.cond (.tmp 19)
  (.seq (.region 12 #[⟨(some 4), (.assign (.const (.int .i64 1))), 0, "", #[], none⟩] false)
  (.ret))
  (.skip)))
  (.seq (.region 13 #[⟨(some 4), (.assign (.const (.int .i64 0))), 0, "", #[], none⟩] false)
  (.ret))))))))
noncomputable def x173 : FnI := ⟨Tryz.f173.body.getD .skip, 20, [(.tmp 4)]⟩
theorem fn173 : fnOf P 173 = some x173 := by kernel_rfl
theorem sx173 : strip x173.code = code173 := by kernel_rfl
theorem ok173 : codeOk (plsOf plans 173) x173.code = true := plsOf_ok P plans_ok 173 x173 fn173
theorem rs173 : x173.results = [(.tmp 4)] := rfl
theorem ex173 : E.ext 173 = none := by kernel_rfl
theorem nt173 : x173.ntmps = 20 := rfl

/-! math.IsInf -/
def code174 : Code :=
  .seq (.region 0 #[⟨(some 4), (.assign (.const (.bool false))), 0, "", #[], none⟩] false)
  (.seq (.seq (.region 1 #[⟨(some 5), (.move (.tmp 1)), 0, "", #[], none⟩,
  ⟨(some 6), (.binOp .eql 3 (.tmp 5) (.const (.int .i64 0)) 3), 0, "", #[], none⟩] false)
  (.cond (.tmp 6)
  (.region 2 #[⟨(some 7), (.move (.tmp 0)), 0, "", #[], none⟩,
  ⟨(some 8), (.call { callee := (.value (.func 214)), args := #[(.tmp 7)], argTypes := #[76] }), 0, "", #[], none⟩,
  ⟨(some 0), (.assign (.tmp 8)), 0, "", #[], none⟩] false)
  (.seq (.region 3 #[⟨(some 9), (.move (.tmp 1)), 0, "", #[], none⟩,
  ⟨(some 10), (.binOp .lss 3 (.tmp 9) (.const (.int .i64 0)) 3), 0, "", #[], none⟩] false)
  (.cond (.tmp 10)
  (.region 4 #[⟨(some 11), (.move (.tmp 0)), 0, "", #[], none⟩,
  ⟨(some 12), (.unOp .neg 76 (.tmp 11)), 0, "", #[], none⟩,
  ⟨(some 0), (.assign (.tmp 12)), 0, "", #[], none⟩] false)
  (.skip)))))
  (.seq (.region 5 #[⟨(some 13), (.move (.tmp 0)), 0, "", #[], none⟩,
  ⟨(some 14), (.binOp .gtr 76 (.tmp 13) (.const (.float .f64 9218868437227405311)) 76), 0, "", #[], none⟩,
  ⟨(some 4), (.assign (.tmp 14)), 0, "", #[], none⟩] false)
  (.ret)))
noncomputable def x174 : FnI := ⟨Tryz.f174.body.getD .skip, 15, [(.tmp 4)]⟩
theorem fn174 : fnOf P 174 = some x174 := by kernel_rfl
theorem sx174 : strip x174.code = code174 := by kernel_rfl
theorem ok174 : codeOk (plsOf plans 174) x174.code = true := plsOf_ok P plans_ok 174 x174 fn174
theorem rs174 : x174.results = [(.tmp 4)] := rfl
theorem ex174 : E.ext 174 = none := by kernel_rfl
theorem nt174 : x174.ntmps = 15 := rfl

/-! math.Signbit -/
def code175 : Code :=
  .seq (.region 0 #[⟨(some 2), (.assign (.const (.bool false))), 0, "", #[], none⟩] false)
  (.seq (.region 1 #[⟨(some 3), (.move (.tmp 0)), 0, "", #[], none⟩,
  ⟨(some 4), (.call { callee := (.value (.func 70)), args := #[(.tmp 3)], argTypes := #[76] }), 0, "", #[], none⟩,
  ⟨(some 5), (.convert 30 2 (.tmp 4)), 0, "", #[], none⟩,
  ⟨(some 6), (.binOp .lss 2 (.tmp 5) (.const (.int .i64 0)) 2), 0, "", #[], none⟩,
  ⟨(some 2), (.assign (.tmp 6)), 0, "", #[], none⟩] false)
  (.ret))
noncomputable def x175 : FnI := ⟨Tryz.f175.body.getD .skip, 7, [(.tmp 2)]⟩
theorem fn175 : fnOf P 175 = some x175 := by kernel_rfl
theorem sx175 : strip x175.code = code175 := by kernel_rfl
theorem ok175 : codeOk (plsOf plans 175) x175.code = true := plsOf_ok P plans_ok 175 x175 fn175
theorem rs175 : x175.results = [(.tmp 2)] := rfl
theorem ex175 : E.ext 175 = none := by kernel_rfl
theorem nt175 : x175.ntmps = 7 := rfl

/-! cmp.isNaN[uint64] -/
def code213 : Code :=
  .seq (.region 0 #[⟨(some 2), (.assign (.const (.bool false))), 0, "", #[], none⟩] false)
  (.seq (.region 1 #[⟨(some 3), (.move (.tmp 0)), 0, "", #[], none⟩,
  ⟨(some 4), (.move (.tmp 0)), 0, "", #[], none⟩,
  ⟨(some 5), (.binOp .neq 30 (.tmp 3) (.tmp 4) 30), 0, "", #[], none⟩,
  ⟨(some 2), (.assign (.tmp 5)), 0, "", #[], none⟩] false)
  (.ret))
noncomputable def x213 : FnI := ⟨Tryz.f213.body.getD .skip, 6, [(.tmp 2)]⟩
theorem fn213 : fnOf P 213 = some x213 := by kernel_rfl
theorem sx213 : strip x213.code = code213 := by kernel_rfl
theorem ok213 : codeOk (plsOf plans 213) x213.code = true := plsOf_ok P plans_ok 213 x213 fn213
theorem rs213 : x213.results = [(.tmp 2)] := rfl
theorem ex213 : E.ext 213 = none := by kernel_rfl
theorem nt213 : x213.ntmps = 6 := rfl

/-! math.Abs -/
def code214 : Code :=
  .seq (.region 0 #[⟨(some 2), (.assign (.const (.float .f64 0))), 0, "", #[], none⟩] false)
  (.seq (.region 1 #[⟨(some 3), (.move (.tmp 0)), 0, "", #[], none⟩,
  ⟨(some 4), (.call { callee := (.value (.func 70)), args := #[(.tmp 3)], argTypes := #[76] }), 0, "", #[], none⟩,
  ⟨(some 5), (.binOp .andNot 30 (.tmp 4) (.const (.int .u64 9223372036854775808)) 30), 0, "", #[], none⟩,
  ⟨(some 6), (.call { callee := (.value (.func 68)), args := #[(.tmp 5)], argTypes := #[30] }), 0, "", #[], none⟩,
  ⟨(some 2), (.assign (.tmp 6)), 0, "", #[], none⟩] false)
  (.ret))
noncomputable def x214 : FnI := ⟨Tryz.f214.body.getD .skip, 7, [(.tmp 2)]⟩
theorem fn214 : fnOf P 214 = some x214 := by kernel_rfl
theorem sx214 : strip x214.code = code214 := by kernel_rfl
theorem ok214 : codeOk (plsOf plans 214) x214.code = true := plsOf_ok P plans_ok 214 x214 fn214
theorem rs214 : x214.results = [(.tmp 2)] := rfl
theorem ex214 : E.ext 214 = none := by kernel_rfl
theorem nt214 : x214.ntmps = 7 := rfl

end Go.Am.Q
