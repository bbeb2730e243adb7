/- A part of the verified evaluator and of what the functions compute (joined by program). -/
import Derived.Test.YthlpmghodgiknaaPn4
import Derived.Test.YthlpmghodgiknaaProg
import Derived.KernelRfl
import Derived.Test.YthlpmghodgiknaaPn3
set_option linter.unusedVariables false
set_option linter.unusedSimpArgs false
/- The code of the functions, as the evaluator takes it (printed by program). -/
namespace Go.Proofs.Ythlpmghodgiknaa.C
open Go Go.Ev
/-! pairing/pairinglaw3.SparseValid -/
def c3_kr : Option Keep := some { slots := [4], drops := [] }
def c3_r0a : List AI := [⟨(some 4), none, .mv (.c (.bool false))⟩]
def c3_r0aQ : List AI := c3_r0a
theorem c3_r0a_e (G : Pure) (ic : Inl) (s : SL) : runL G ic c3_r0aQ s = runL G ic c3_r0a s := rfl
def c3_r1a : List AI := [⟨(some 5), none, .mv (.t 0)⟩,
  ⟨(some 6), none, .bslice 23 1 1 [.imm true 5 []] [(0, (.t 5))]⟩,
  ⟨(some 7), none, .call 48112 10 [(.t 6)] false⟩,
  ⟨(some 8), none, .un .not (.t 7)⟩]
def c3_r1aQ : List AI := c3_r1a
theorem c3_r1a_e (G : Pure) (ic : Inl) (s : SL) : runL G ic c3_r1aQ s = runL G ic c3_r1a s := rfl
def c3_r2a : List AI := [⟨(some 9), none, .call 48144 11 [] false⟩,
  ⟨(some 4), none, .mv (.t 9)⟩]
def c3_r2aQ : List AI := c3_r2a
theorem c3_r2a_e (G : Pure) (ic : Inl) (s : SL) : runL G ic c3_r2aQ s = runL G ic c3_r2a s := rfl
def c3_r3a : List AI := [⟨(some 10), none, .mv (.t 0)⟩,
  ⟨(some 11), none, .mv (.t 1)⟩,
  ⟨(some 12), none, .call 48192 12 [(.t 10), (.t 11)] false⟩,
  ⟨(some 13), none, .mv (.t 0)⟩,
  ⟨(some 14), none, .mv (.t 1)⟩,
  ⟨(some 15), none, .call 48240 13 [(.t 13), (.t 14)] false⟩,
  ⟨(some 16), none, .bin .eql (.t 12) (.t 15)⟩,
  ⟨(some 17), none, .mv (.t 16)⟩,
  ⟨(some 18), (some (17, true)), .call 48288 11 [] false⟩,
  ⟨(some 19), none, .pick (.t 17) (.t 18) (.c (.bool false))⟩,
  ⟨(some 4), none, .mv (.t 19)⟩]
def c3_r3aQ : List AI := c3_r3a
theorem c3_r3a_e (G : Pure) (ic : Inl) (s : SL) : runL G ic c3_r3aQ s = runL G ic c3_r3a s := rfl
def c3 : ACode := .seq (.reg [] c3_r0aQ []) (.seq (.seq (.reg [] c3_r1aQ []) (.cond (.t 8) (.seq (.reg [] c3_r2aQ []) (.ret c3_kr)) (.skip))) (.seq (.reg [] c3_r3aQ []) (.ret c3_kr)))
def c3F : AFun := { params := 2, code := c3, results := [.tmp 4] }
attribute [simp] c3_kr c3_r0a_e c3_r0a c3_r1a_e c3_r1a c3_r2a_e c3_r2a c3_r3a_e c3_r3a c3 c3F
/-! pairing/pairinglaw3.SparseLinear -/
def c4_kr : Option Keep := some { slots := [10], drops := [64128, 64208, 64240, 64272, 64304, 64336] }
def c4_r0a : List AI := [⟨(some 8), none, .box 64128 33 4 (.t 3)⟩,
  ⟨(some 10), none, .mv (.c (.bool false))⟩]
def c4_r0aQ : List AI := c4_r0a
theorem c4_r0a_e (G : Pure) (ic : Inl) (s : SL) : runL G ic c4_r0aQ s = runL G ic c4_r0a s := rfl
def c4_r1a : List AI := [⟨(some 22), none, .mv (.t 0)⟩,
  ⟨(some 23), none, .mv (.t 1)⟩,
  ⟨(some 24), none, .mv (.t 2)⟩,
  ⟨(some 25), none, .bslice 23 1 3 [.imm true 5 []] [(0, (.t 22)), (1, (.t 23)), (2, (.t 24))]⟩,
  ⟨(some 26), none, .call 64416 10 [(.t 25)] false⟩,
  ⟨(some 27), none, .un .not (.t 26)⟩,
  ⟨(some 28), none, .mv (.t 27)⟩,
  ⟨(some 29), (some (28, false)), .load (some 4) (.t 8)⟩,
  ⟨(some 30), (some (28, false)), .bslice 33 4 1 [.bool false, .imm true 1 [], .bool false, .imm true 1 []] [(0, (.t 29))]⟩,
  ⟨(some 31), (some (28, false)), .call 64496 14 [(.t 30)] false⟩,
  ⟨(some 32), (some (28, false)), .un .not (.t 31)⟩,
  ⟨(some 33), none, .pick (.t 28) (.c (.bool true)) (.t 32)⟩,
  ⟨(some 34), none, .mv (.t 33)⟩,
  ⟨(some 35), (some (34, false)), .mv (.t 4)⟩,
  ⟨(some 36), (some (34, false)), .call 64576 15 [(.t 35)] false⟩,
  ⟨(some 37), (some (34, false)), .un .not (.t 36)⟩,
  ⟨(some 38), none, .pick (.t 34) (.c (.bool true)) (.t 37)⟩,
  ⟨(some 39), none, .mv (.t 38)⟩,
  ⟨(some 40), (some (39, false)), .mv (.t 0)⟩,
  ⟨(some 41), (some (39, false)), .mv (.t 4)⟩,
  ⟨(some 42), (some (39, false)), .call 64672 13 [(.t 40), (.t 41)] false⟩,
  ⟨(some 43), (some (39, false)), .bin .neq (.t 42) (.c (.int .i64 0))⟩,
  ⟨(some 44), none, .pick (.t 39) (.c (.bool true)) (.t 43)⟩,
  ⟨(some 45), none, .mv (.t 44)⟩,
  ⟨(some 46), (some (45, false)), .mv (.t 1)⟩,
  ⟨(some 47), (some (45, false)), .mv (.t 4)⟩,
  ⟨(some 48), (some (45, false)), .call 64768 13 [(.t 46), (.t 47)] false⟩,
  ⟨(some 49), (some (45, false)), .bin .neq (.t 48) (.c (.int .i64 0))⟩,
  ⟨(some 50), none, .pick (.t 45) (.c (.bool true)) (.t 49)⟩,
  ⟨(some 51), none, .mv (.t 50)⟩,
  ⟨(some 52), (some (51, false)), .mv (.t 2)⟩,
  ⟨(some 53), (some (51, false)), .mv (.t 4)⟩,
  ⟨(some 54), (some (51, false)), .call 64864 13 [(.t 52), (.t 53)] false⟩,
  ⟨(some 55), (some (51, false)), .bin .neq (.t 54) (.c (.int .i64 0))⟩,
  ⟨(some 56), none, .pick (.t 51) (.c (.bool true)) (.t 55)⟩]
def c4_r1aQ : List AI := c4_r1a
theorem c4_r1a_e (G : Pure) (ic : Inl) (s : SL) : runL G ic c4_r1aQ s = runL G ic c4_r1a s := rfl
def c4_r2a : List AI := [⟨(some 57), none, .call 64912 11 [] false⟩,
  ⟨(some 10), none, .mv (.t 57)⟩]
def c4_r2aQ : List AI := c4_r2a
theorem c4_r2a_e (G : Pure) (ic : Inl) (s : SL) : runL G ic c4_r2aQ s = runL G ic c4_r2a s := rfl
def c4_r3a : List AI := [⟨(some 59), none, .mv (.t 0)⟩,
  ⟨(some 60), none, .mv (.t 1)⟩,
  ⟨(some 61), none, .load (some 4) (.t 8)⟩,
  ⟨(some 62), none, .mv (.t 4)⟩,
  ⟨(some 63), none, .call 65008 16 [(.t 59), (.t 60), (.t 61), (.t 62)] false⟩,
  ⟨(some 58), none, .mv (.t 63)⟩,
  ⟨(some 64), none, .extract (.t 58) 0⟩,
  ⟨(some 65), none, .extract (.t 58) 1⟩,
  ⟨(some 11), none, .mv (.t 64)⟩,
  ⟨(some 12), none, .mv (.t 65)⟩]
def c4_r3aQ : List AI := c4_r3a
theorem c4_r3a_e (G : Pure) (ic : Inl) (s : SL) : runL G ic c4_r3aQ s = runL G ic c4_r3a s := rfl
def c4_r4a : List AI := [⟨(some 67), none, .mv (.t 11)⟩,
  ⟨(some 68), none, .mv (.t 2)⟩,
  ⟨(some 69), none, .mv (.t 4)⟩,
  ⟨(some 70), none, .call 65120 17 [(.t 67), (.t 68), (.t 69)] false⟩,
  ⟨(some 66), none, .mv (.t 70)⟩,
  ⟨(some 71), none, .extract (.t 66) 0⟩,
  ⟨(some 72), none, .extract (.t 66) 1⟩,
  ⟨(some 13), none, .alloc 64208 33 [.bool false, .imm true 1 [], .bool false, .imm true 1 []]⟩,
  ⟨none, none, .store 4 (.t 13) (.t 71)⟩,
  ⟨(some 14), none, .mv (.t 72)⟩]
def c4_r4aQ : List AI := c4_r4a
theorem c4_r4a_e (G : Pure) (ic : Inl) (s : SL) : runL G ic c4_r4aQ s = runL G ic c4_r4a s := rfl
def c4_r5a : List AI := [⟨(some 74), none, .mv (.t 0)⟩,
  ⟨(some 75), none, .mv (.t 2)⟩,
  ⟨(some 76), none, .mv (.t 4)⟩,
  ⟨(some 77), none, .call 65232 17 [(.t 74), (.t 75), (.t 76)] false⟩,
  ⟨(some 73), none, .mv (.t 77)⟩,
  ⟨(some 78), none, .extract (.t 73) 0⟩,
  ⟨(some 79), none, .extract (.t 73) 1⟩,
  ⟨(some 15), none, .alloc 64240 33 [.bool false, .imm true 1 [], .bool false, .imm true 1 []]⟩,
  ⟨none, none, .store 4 (.t 15) (.t 78)⟩,
  ⟨(some 16), none, .mv (.t 79)⟩]
def c4_r5aQ : List AI := c4_r5a
theorem c4_r5a_e (G : Pure) (ic : Inl) (s : SL) : runL G ic c4_r5aQ s = runL G ic c4_r5a s := rfl
def c4_r6a : List AI := [⟨(some 81), none, .mv (.t 1)⟩,
  ⟨(some 82), none, .mv (.t 2)⟩,
  ⟨(some 83), none, .mv (.t 4)⟩,
  ⟨(some 84), none, .call 65344 17 [(.t 81), (.t 82), (.t 83)] false⟩,
  ⟨(some 80), none, .mv (.t 84)⟩,
  ⟨(some 85), none, .extract (.t 80) 0⟩,
  ⟨(some 86), none, .extract (.t 80) 1⟩,
  ⟨(some 17), none, .alloc 64272 33 [.bool false, .imm true 1 [], .bool false, .imm true 1 []]⟩,
  ⟨none, none, .store 4 (.t 17) (.t 85)⟩,
  ⟨(some 18), none, .mv (.t 86)⟩]
def c4_r6aQ : List AI := c4_r6a
theorem c4_r6a_e (G : Pure) (ic : Inl) (s : SL) : runL G ic c4_r6aQ s = runL G ic c4_r6a s := rfl
def c4_r7a : List AI := [⟨(some 88), none, .mv (.t 2)⟩,
  ⟨(some 89), none, .mv (.t 11)⟩,
  ⟨(some 90), none, .mv (.t 4)⟩,
  ⟨(some 91), none, .call 65456 17 [(.t 88), (.t 89), (.t 90)] false⟩,
  ⟨(some 87), none, .mv (.t 91)⟩,
  ⟨(some 92), none, .extract (.t 87) 0⟩,
  ⟨(some 93), none, .extract (.t 87) 1⟩,
  ⟨(some 19), none, .alloc 64304 33 [.bool false, .imm true 1 [], .bool false, .imm true 1 []]⟩,
  ⟨none, none, .store 4 (.t 19) (.t 92)⟩,
  ⟨(some 20), none, .mv (.t 93)⟩]
def c4_r7aQ : List AI := c4_r7a
theorem c4_r7a_e (G : Pure) (ic : Inl) (s : SL) : runL G ic c4_r7aQ s = runL G ic c4_r7a s := rfl
def c4_r8a : List AI := [⟨(some 94), none, .load (some 4) (.t 15)⟩,
  ⟨(some 95), none, .load (some 4) (.t 8)⟩,
  ⟨(some 96), none, .load (some 4) (.t 17)⟩,
  ⟨(some 97), none, .call 65552 19 [(.t 95), (.t 96)] false⟩,
  ⟨(some 98), none, .call 65568 18 [(.t 94), (.t 97)] false⟩,
  ⟨(some 21), none, .alloc 64336 33 [.bool false, .imm true 1 [], .bool false, .imm true 1 []]⟩,
  ⟨none, none, .store 4 (.t 21) (.t 98)⟩]
def c4_r8aQ : List AI := c4_r8a
theorem c4_r8a_e (G : Pure) (ic : Inl) (s : SL) : runL G ic c4_r8aQ s = runL G ic c4_r8a s := rfl
theorem c4_r8a_l (G : Pure) (ic : Inl) (l : Logs) (s : SL) : logL G ic c4_r8aQ l s = logL G ic c4_r8a l s := rfl
def c4_r9a : List AI := [⟨(some 99), none, .mv (.t 14)⟩,
  ⟨(some 100), none, .bin .eql (.t 99) (.c (.int .i64 0))⟩,
  ⟨(some 101), none, .mv (.t 100)⟩,
  ⟨(some 102), (some (101, true)), .mv (.t 16)⟩,
  ⟨(some 103), (some (101, true)), .bin .eql (.t 102) (.c (.int .i64 0))⟩,
  ⟨(some 104), none, .pick (.t 101) (.t 103) (.c (.bool false))⟩,
  ⟨(some 105), none, .mv (.t 104)⟩,
  ⟨(some 106), (some (105, true)), .mv (.t 18)⟩,
  ⟨(some 107), (some (105, true)), .bin .eql (.t 106) (.c (.int .i64 0))⟩,
  ⟨(some 108), none, .pick (.t 105) (.t 107) (.c (.bool false))⟩,
  ⟨(some 109), none, .mv (.t 108)⟩,
  ⟨(some 110), (some (109, true)), .mv (.t 20)⟩,
  ⟨(some 111), (some (109, true)), .bin .eql (.t 110) (.c (.int .i64 0))⟩,
  ⟨(some 112), none, .pick (.t 109) (.t 111) (.c (.bool false))⟩,
  ⟨(some 113), none, .mv (.t 112)⟩,
  ⟨(some 114), (some (113, true)), .load (some 4) (.t 13)⟩,
  ⟨(some 115), (some (113, true)), .load (some 4) (.t 21)⟩,
  ⟨(some 116), (some (113, true)), .call 65856 20 [(.t 114), (.t 115)] false⟩,
  ⟨(some 117), none, .pick (.t 113) (.t 116) (.c (.bool false))⟩,
  ⟨(some 118), none, .mv (.t 117)⟩,
  ⟨(some 119), (some (118, true)), .load (some 4) (.t 13)⟩,
  ⟨(some 120), (some (118, true)), .load (some 4) (.t 19)⟩,
  ⟨(some 121), (some (118, true)), .call 65936 20 [(.t 119), (.t 120)] false⟩,
  ⟨(some 122), none, .pick (.t 118) (.t 121) (.c (.bool false))⟩,
  ⟨(some 123), none, .mv (.t 122)⟩,
  ⟨(some 124), (some (123, true)), .call 65984 11 [] false⟩,
  ⟨(some 125), none, .pick (.t 123) (.t 124) (.c (.bool false))⟩,
  ⟨(some 10), none, .mv (.t 125)⟩]
def c4_r9aQ : List AI := c4_r9a
theorem c4_r9a_e (G : Pure) (ic : Inl) (s : SL) : runL G ic c4_r9aQ s = runL G ic c4_r9a s := rfl
def c4 : ACode := .seq (.reg [] c4_r0aQ []) (.seq (.seq (.reg [] c4_r1aQ []) (.cond (.t 56) (.seq (.reg [] c4_r2aQ []) (.ret c4_kr)) (.skip))) (.seq (.reg [] c4_r3aQ []) (.seq (.reg [] c4_r4aQ []) (.seq (.reg [] c4_r5aQ []) (.seq (.reg [] c4_r6aQ []) (.seq (.reg [] c4_r7aQ []) (.seq (.reg [(0, 5), (1, 5), (2, 5), (3, 5), (4, 5)] c4_r8aQ []) (.seq (.reg [] c4_r9aQ []) (.ret c4_kr)))))))))
def c4F : AFun := { params := 5, code := c4, results := [.tmp 10] }
attribute [simp] c4_kr c4_r0a_e c4_r0a c4_r1a_e c4_r1a c4_r2a_e c4_r2a c4_r3a_e c4_r3a c4_r4a_e c4_r4a c4_r5a_e c4_r5a c4_r6a_e c4_r6a c4_r7a_e c4_r7a c4_r8a_e c4_r8a c4_r8a_l c4_r9a_e c4_r9a c4 c4F
/-! pairing/pairinglaw3.SparseProducts -/
def c5_kr : Option Keep := some { slots := [8], drops := [80096, 80144, 80176] }
def c5_r0a : List AI := [⟨(some 6), none, .box 80096 33 4 (.t 2)⟩,
  ⟨(some 8), none, .mv (.c (.bool false))⟩]
def c5_r0aQ : List AI := c5_r0a
theorem c5_r0a_e (G : Pure) (ic : Inl) (s : SL) : runL G ic c5_r0aQ s = runL G ic c5_r0a s := rfl
def c5_r1a : List AI := [⟨(some 21), none, .mv (.t 0)⟩,
  ⟨(some 22), none, .mv (.t 1)⟩,
  ⟨(some 23), none, .bslice 23 1 2 [.imm true 5 []] [(0, (.t 21)), (1, (.t 22))]⟩,
  ⟨(some 24), none, .call 80384 10 [(.t 23)] false⟩,
  ⟨(some 25), none, .un .not (.t 24)⟩,
  ⟨(some 26), none, .mv (.t 25)⟩,
  ⟨(some 27), (some (26, false)), .load (some 4) (.t 6)⟩,
  ⟨(some 28), (some (26, false)), .bslice 33 4 1 [.bool false, .imm true 1 [], .bool false, .imm true 1 []] [(0, (.t 27))]⟩,
  ⟨(some 29), (some (26, false)), .call 80464 14 [(.t 28)] false⟩,
  ⟨(some 30), (some (26, false)), .un .not (.t 29)⟩,
  ⟨(some 31), none, .pick (.t 26) (.c (.bool true)) (.t 30)⟩,
  ⟨(some 32), none, .mv (.t 31)⟩,
  ⟨(some 33), (some (32, false)), .mv (.t 3)⟩,
  ⟨(some 34), (some (32, false)), .call 80544 15 [(.t 33)] false⟩,
  ⟨(some 35), (some (32, false)), .un .not (.t 34)⟩,
  ⟨(some 36), none, .pick (.t 32) (.c (.bool true)) (.t 35)⟩]
def c5_r1aQ : List AI := c5_r1a
theorem c5_r1a_e (G : Pure) (ic : Inl) (s : SL) : runL G ic c5_r1aQ s = runL G ic c5_r1a s := rfl
def c5_r2a : List AI := [⟨(some 37), none, .call 80592 11 [] false⟩,
  ⟨(some 8), none, .mv (.t 37)⟩]
def c5_r2aQ : List AI := c5_r2a
theorem c5_r2a_e (G : Pure) (ic : Inl) (s : SL) : runL G ic c5_r2aQ s = runL G ic c5_r2a s := rfl
def c5_r3a : List AI := [⟨(some 39), none, .mv (.t 0)⟩,
  ⟨(some 40), none, .mv (.t 1)⟩,
  ⟨(some 41), none, .mv (.t 3)⟩,
  ⟨(some 42), none, .call 80672 17 [(.t 39), (.t 40), (.t 41)] false⟩,
  ⟨(some 38), none, .mv (.t 42)⟩,
  ⟨(some 43), none, .extract (.t 38) 0⟩,
  ⟨(some 44), none, .extract (.t 38) 1⟩,
  ⟨(some 9), none, .alloc 80144 33 [.bool false, .imm true 1 [], .bool false, .imm true 1 []]⟩,
  ⟨none, none, .store 4 (.t 9) (.t 43)⟩,
  ⟨(some 10), none, .mv (.t 44)⟩]
def c5_r3aQ : List AI := c5_r3a
theorem c5_r3a_e (G : Pure) (ic : Inl) (s : SL) : runL G ic c5_r3aQ s = runL G ic c5_r3a s := rfl
def c5_r4a : List AI := [⟨(some 46), none, .mv (.t 0)⟩,
  ⟨(some 47), none, .mv (.t 1)⟩,
  ⟨(some 48), none, .mv (.t 3)⟩,
  ⟨(some 49), none, .call 80784 21 [(.t 46), (.t 47), (.t 48)] false⟩,
  ⟨(some 45), none, .mv (.t 49)⟩,
  ⟨(some 50), none, .extract (.t 45) 0⟩,
  ⟨(some 51), none, .extract (.t 45) 1⟩,
  ⟨(some 11), none, .alloc 80176 33 [.bool false, .imm true 1 [], .bool false, .imm true 1 []]⟩,
  ⟨none, none, .store 4 (.t 11) (.t 50)⟩,
  ⟨(some 12), none, .mv (.t 51)⟩]
def c5_r4aQ : List AI := c5_r4a
theorem c5_r4a_e (G : Pure) (ic : Inl) (s : SL) : runL G ic c5_r4aQ s = runL G ic c5_r4a s := rfl
def c5_r5a : List AI := [⟨(some 53), none, .mv (.t 0)⟩,
  ⟨(some 54), none, .mv (.t 1)⟩,
  ⟨(some 55), none, .load (some 4) (.t 6)⟩,
  ⟨(some 56), none, .mv (.t 3)⟩,
  ⟨(some 57), none, .call 80912 16 [(.t 53), (.t 54), (.t 55), (.t 56)] false⟩,
  ⟨(some 52), none, .mv (.t 57)⟩,
  ⟨(some 58), none, .extract (.t 52) 0⟩,
  ⟨(some 59), none, .extract (.t 52) 1⟩,
  ⟨(some 13), none, .mv (.t 58)⟩,
  ⟨(some 14), none, .mv (.t 59)⟩]
def c5_r5aQ : List AI := c5_r5a
theorem c5_r5a_e (G : Pure) (ic : Inl) (s : SL) : runL G ic c5_r5aQ s = runL G ic c5_r5a s := rfl
def c5_r6a : List AI := [⟨(some 61), none, .mv (.t 0)⟩,
  ⟨(some 62), none, .mv (.t 1)⟩,
  ⟨(some 63), none, .load (some 4) (.t 6)⟩,
  ⟨(some 64), none, .mv (.t 3)⟩,
  ⟨(some 65), none, .call 81040 22 [(.t 61), (.t 62), (.t 63), (.t 64)] false⟩,
  ⟨(some 60), none, .mv (.t 65)⟩,
  ⟨(some 66), none, .extract (.t 60) 0⟩,
  ⟨(some 67), none, .extract (.t 60) 1⟩,
  ⟨(some 15), none, .mv (.t 66)⟩,
  ⟨(some 16), none, .mv (.t 67)⟩]
def c5_r6aQ : List AI := c5_r6a
theorem c5_r6a_e (G : Pure) (ic : Inl) (s : SL) : runL G ic c5_r6aQ s = runL G ic c5_r6a s := rfl
def c5_r7a : List AI := [⟨(some 69), none, .mv (.t 0)⟩,
  ⟨(some 70), none, .load (some 4) (.t 6)⟩,
  ⟨(some 71), none, .mv (.t 3)⟩,
  ⟨(some 72), none, .call 81152 23 [(.t 69), (.t 70), (.t 71)] false⟩,
  ⟨(some 68), none, .mv (.t 72)⟩,
  ⟨(some 73), none, .extract (.t 68) 0⟩,
  ⟨(some 74), none, .extract (.t 68) 1⟩,
  ⟨(some 17), none, .mv (.t 73)⟩,
  ⟨(some 18), none, .mv (.t 74)⟩]
def c5_r7aQ : List AI := c5_r7a
theorem c5_r7a_e (G : Pure) (ic : Inl) (s : SL) : runL G ic c5_r7aQ s = runL G ic c5_r7a s := rfl
def c5_r8a : List AI := [⟨(some 76), none, .mv (.t 0)⟩,
  ⟨(some 77), none, .load (some 4) (.t 6)⟩,
  ⟨(some 78), none, .mv (.t 3)⟩,
  ⟨(some 79), none, .call 81264 24 [(.t 76), (.t 77), (.t 78)] false⟩,
  ⟨(some 75), none, .mv (.t 79)⟩,
  ⟨(some 80), none, .extract (.t 75) 0⟩,
  ⟨(some 81), none, .extract (.t 75) 1⟩,
  ⟨(some 19), none, .mv (.t 80)⟩,
  ⟨(some 20), none, .mv (.t 81)⟩]
def c5_r8aQ : List AI := c5_r8a
theorem c5_r8a_e (G : Pure) (ic : Inl) (s : SL) : runL G ic c5_r8aQ s = runL G ic c5_r8a s := rfl
def c5_r9a : List AI := [⟨(some 82), none, .mv (.t 10)⟩,
  ⟨(some 83), none, .mv (.t 12)⟩,
  ⟨(some 84), none, .bin .eql (.t 82) (.t 83)⟩,
  ⟨(some 85), none, .mv (.t 84)⟩,
  ⟨(some 86), (some (85, true)), .load (some 4) (.t 9)⟩,
  ⟨(some 87), (some (85, true)), .load (some 4) (.t 11)⟩,
  ⟨(some 88), (some (85, true)), .call 81408 20 [(.t 86), (.t 87)] false⟩,
  ⟨(some 89), none, .pick (.t 85) (.t 88) (.c (.bool false))⟩,
  ⟨(some 90), none, .mv (.t 89)⟩,
  ⟨(some 91), (some (90, true)), .mv (.t 14)⟩,
  ⟨(some 92), (some (90, true)), .mv (.t 16)⟩,
  ⟨(some 93), (some (90, true)), .bin .eql (.t 91) (.t 92)⟩,
  ⟨(some 94), none, .pick (.t 90) (.t 93) (.c (.bool false))⟩,
  ⟨(some 95), none, .mv (.t 94)⟩,
  ⟨(some 96), (some (95, true)), .mv (.t 13)⟩,
  ⟨(some 97), (some (95, true)), .mv (.t 15)⟩,
  ⟨(some 98), (some (95, true)), .call 81568 25 [(.t 96), (.t 97)] false⟩,
  ⟨(some 99), none, .pick (.t 95) (.t 98) (.c (.bool false))⟩,
  ⟨(some 100), none, .mv (.t 99)⟩,
  ⟨(some 101), (some (100, true)), .mv (.t 18)⟩,
  ⟨(some 102), (some (100, true)), .mv (.t 20)⟩,
  ⟨(some 103), (some (100, true)), .bin .eql (.t 101) (.t 102)⟩,
  ⟨(some 104), none, .pick (.t 100) (.t 103) (.c (.bool false))⟩,
  ⟨(some 105), none, .mv (.t 104)⟩,
  ⟨(some 106), (some (105, true)), .mv (.t 17)⟩,
  ⟨(some 107), (some (105, true)), .mv (.t 19)⟩,
  ⟨(some 108), (some (105, true)), .call 81728 25 [(.t 106), (.t 107)] false⟩,
  ⟨(some 109), none, .pick (.t 105) (.t 108) (.c (.bool false))⟩,
  ⟨(some 110), none, .mv (.t 109)⟩,
  ⟨(some 111), (some (110, true)), .call 81776 11 [] false⟩,
  ⟨(some 112), none, .pick (.t 110) (.t 111) (.c (.bool false))⟩,
  ⟨(some 8), none, .mv (.t 112)⟩]
def c5_r9aQ : List AI := c5_r9a
theorem c5_r9a_e (G : Pure) (ic : Inl) (s : SL) : runL G ic c5_r9aQ s = runL G ic c5_r9a s := rfl
def c5 : ACode := .seq (.reg [] c5_r0aQ []) (.seq (.seq (.reg [] c5_r1aQ []) (.cond (.t 36) (.seq (.reg [] c5_r2aQ []) (.ret c5_kr)) (.skip))) (.seq (.reg [] c5_r3aQ []) (.seq (.reg [] c5_r4aQ []) (.seq (.reg [] c5_r5aQ []) (.seq (.reg [] c5_r6aQ []) (.seq (.reg [] c5_r7aQ []) (.seq (.reg [] c5_r8aQ []) (.seq (.reg [] c5_r9aQ []) (.ret c5_kr)))))))))
def c5F : AFun := { params := 4, code := c5, results := [.tmp 8] }
attribute [simp] c5_kr c5_r0a_e c5_r0a c5_r1a_e c5_r1a c5_r2a_e c5_r2a c5_r3a_e c5_r3a c5_r4a_e c5_r4a c5_r5a_e c5_r5a c5_r6a_e c5_r6a c5_r7a_e c5_r7a c5_r8a_e c5_r8a c5_r9a_e c5_r9a c5 c5F
/-! pairing/pairinglaw3.SparseBack -/
def c6_kr : Option Keep := some { slots := [4], drops := [] }
def c6_r0a : List AI := [⟨(some 4), none, .mv (.c (.bool false))⟩]
def c6_r0aQ : List AI := c6_r0a
theorem c6_r0a_e (G : Pure) (ic : Inl) (s : SL) : runL G ic c6_r0aQ s = runL G ic c6_r0a s := rfl
def c6_r1a : List AI := [⟨(some 10), none, .mv (.t 0)⟩,
  ⟨(some 11), none, .bslice 23 1 1 [.imm true 5 []] [(0, (.t 10))]⟩,
  ⟨(some 12), none, .call 96192 10 [(.t 11)] false⟩,
  ⟨(some 13), none, .un .not (.t 12)⟩,
  ⟨(some 14), none, .mv (.t 13)⟩,
  ⟨(some 15), (some (14, false)), .mv (.t 1)⟩,
  ⟨(some 16), (some (14, false)), .call 96256 15 [(.t 15)] false⟩,
  ⟨(some 17), (some (14, false)), .un .not (.t 16)⟩,
  ⟨(some 18), none, .pick (.t 14) (.c (.bool true)) (.t 17)⟩,
  ⟨(some 19), none, .mv (.t 18)⟩,
  ⟨(some 20), (some (19, false)), .mv (.t 0)⟩,
  ⟨(some 21), (some (19, false)), .mv (.t 1)⟩,
  ⟨(some 22), (some (19, false)), .call 96352 13 [(.t 20), (.t 21)] false⟩,
  ⟨(some 23), (some (19, false)), .bin .neq (.t 22) (.c (.int .i64 0))⟩,
  ⟨(some 24), none, .pick (.t 19) (.c (.bool true)) (.t 23)⟩]
def c6_r1aQ : List AI := c6_r1a
theorem c6_r1a_e (G : Pure) (ic : Inl) (s : SL) : runL G ic c6_r1aQ s = runL G ic c6_r1a s := rfl
def c6_r2a : List AI := [⟨(some 25), none, .call 96400 11 [] false⟩,
  ⟨(some 4), none, .mv (.t 25)⟩]
def c6_r2aQ : List AI := c6_r2a
theorem c6_r2a_e (G : Pure) (ic : Inl) (s : SL) : runL G ic c6_r2aQ s = runL G ic c6_r2a s := rfl
def c6_r3a : List AI := [⟨(some 27), none, .mv (.t 0)⟩,
  ⟨(some 28), none, .mv (.t 1)⟩,
  ⟨(some 29), none, .call 96464 26 [(.t 27), (.t 28)] false⟩,
  ⟨(some 26), none, .mv (.t 29)⟩,
  ⟨(some 30), none, .extract (.t 26) 0⟩,
  ⟨(some 31), none, .extract (.t 26) 1⟩,
  ⟨(some 5), none, .mv (.t 30)⟩,
  ⟨(some 6), none, .mv (.t 31)⟩]
def c6_r3aQ : List AI := c6_r3a
theorem c6_r3a_e (G : Pure) (ic : Inl) (s : SL) : runL G ic c6_r3aQ s = runL G ic c6_r3a s := rfl
def c6_r4a : List AI := [⟨(some 33), none, .mv (.t 5)⟩,
  ⟨(some 34), none, .call 96544 27 [(.t 33)] false⟩,
  ⟨(some 32), none, .mv (.t 34)⟩,
  ⟨(some 35), none, .extract (.t 32) 0⟩,
  ⟨(some 36), none, .extract (.t 32) 1⟩,
  ⟨(some 7), none, .mv (.t 35)⟩,
  ⟨(some 8), none, .mv (.t 36)⟩]
def c6_r4aQ : List AI := c6_r4a
theorem c6_r4a_e (G : Pure) (ic : Inl) (s : SL) : runL G ic c6_r4aQ s = runL G ic c6_r4a s := rfl
def c6_r5a : List AI := [⟨(some 37), none, .mv (.t 6)⟩,
  ⟨(some 38), none, .bin .neq (.t 37) (.c (.int .i64 0))⟩,
  ⟨(some 39), none, .mv (.t 38)⟩,
  ⟨(some 40), (some (39, false)), .mv (.t 8)⟩,
  ⟨(some 41), (some (39, false)), .bin .neq (.t 40) (.c (.int .i64 0))⟩,
  ⟨(some 42), none, .pick (.t 39) (.c (.bool true)) (.t 41)⟩,
  ⟨(some 43), none, .mv (.t 42)⟩,
  ⟨(some 44), (some (43, false)), .mv (.t 5)⟩,
  ⟨(some 45), (some (43, false)), .len (.t 44)⟩,
  ⟨(some 46), (some (43, false)), .mv (.t 1)⟩,
  ⟨(some 47), (some (43, false)), .bin .neq (.t 45) (.t 46)⟩,
  ⟨(some 48), none, .pick (.t 43) (.c (.bool true)) (.t 47)⟩,
  ⟨(some 49), none, .mv (.t 48)⟩,
  ⟨(some 50), (some (49, false)), .mv (.t 7)⟩,
  ⟨(some 51), (some (49, false)), .len (.t 50)⟩,
  ⟨(some 52), (some (49, false)), .mv (.t 0)⟩,
  ⟨(some 53), (some (49, false)), .len (.t 52)⟩,
  ⟨(some 54), (some (49, false)), .bin .neq (.t 51) (.t 53)⟩,
  ⟨(some 55), none, .pick (.t 49) (.c (.bool true)) (.t 54)⟩]
def c6_r5aQ : List AI := c6_r5a
theorem c6_r5a_e (G : Pure) (ic : Inl) (s : SL) : runL G ic c6_r5aQ s = runL G ic c6_r5a s := rfl
def c6_r6a : List AI := [⟨(some 4), none, .mv (.c (.bool false))⟩]
def c6_r6aQ : List AI := c6_r6a
theorem c6_r6a_e (G : Pure) (ic : Inl) (s : SL) : runL G ic c6_r6aQ s = runL G ic c6_r6a s := rfl
def c6_r7a : List AI := [⟨(some 9), none, .mv (.c (.int .i64 0))⟩]
def c6_r7aQ : List AI := c6_r7a
theorem c6_r7a_e (G : Pure) (ic : Inl) (s : SL) : runL G ic c6_r7aQ s = runL G ic c6_r7a s := rfl
def c6_r8a : List AI := [⟨(some 56), none, .mv (.t 9)⟩,
  ⟨(some 57), none, .mv (.t 0)⟩,
  ⟨(some 58), none, .len (.t 57)⟩,
  ⟨(some 59), none, .bin .lss (.t 56) (.t 58)⟩]
def c6_r8aQ : List AI := c6_r8a
theorem c6_r8a_e (G : Pure) (ic : Inl) (s : SL) : runL G ic c6_r8aQ s = runL G ic c6_r8a s := rfl
def c6_r10a : List AI := [⟨(some 62), none, .mv (.t 7)⟩,
  ⟨(some 63), none, .mv (.t 9)⟩,
  ⟨(some 64), none, .iaddr 5 (.t 62) (.t 63)⟩,
  ⟨(some 65), none, .faddr 0 (.t 64)⟩,
  ⟨(some 66), none, .load none (.t 65)⟩,
  ⟨(some 67), none, .mv (.t 0)⟩,
  ⟨(some 68), none, .mv (.t 9)⟩,
  ⟨(some 69), none, .iaddr 5 (.t 67) (.t 68)⟩,
  ⟨(some 70), none, .faddr 0 (.t 69)⟩,
  ⟨(some 71), none, .load none (.t 70)⟩,
  ⟨(some 72), none, .bin .neq (.t 66) (.t 71)⟩,
  ⟨(some 73), none, .mv (.t 72)⟩,
  ⟨(some 74), (some (73, false)), .mv (.t 7)⟩,
  ⟨(some 75), (some (73, false)), .mv (.t 9)⟩,
  ⟨(some 76), (some (73, false)), .iaddr 5 (.t 74) (.t 75)⟩,
  ⟨(some 77), (some (73, false)), .faddr 1 (.t 76)⟩,
  ⟨(some 78), (some (73, false)), .load (some 4) (.t 77)⟩,
  ⟨(some 79), (some (73, false)), .mv (.t 0)⟩,
  ⟨(some 80), (some (73, false)), .mv (.t 9)⟩,
  ⟨(some 81), (some (73, false)), .iaddr 5 (.t 79) (.t 80)⟩,
  ⟨(some 82), (some (73, false)), .faddr 1 (.t 81)⟩,
  ⟨(some 83), (some (73, false)), .load (some 4) (.t 82)⟩,
  ⟨(some 84), (some (73, false)), .call 97344 28 [(.t 83)] false⟩,
  ⟨(some 85), (some (73, false)), .call 97360 20 [(.t 78), (.t 84)] false⟩,
  ⟨(some 86), (some (73, false)), .un .not (.t 85)⟩,
  ⟨(some 87), none, .pick (.t 73) (.c (.bool true)) (.t 86)⟩]
def c6_r10aQ : List AI := c6_r10a
theorem c6_r10a_e (G : Pure) (ic : Inl) (s : SL) : runL G ic c6_r10aQ s = runL G ic c6_r10a s := rfl
def c6_r11a : List AI := [⟨(some 4), none, .mv (.c (.bool false))⟩]
def c6_r11aQ : List AI := c6_r11a
theorem c6_r11a_e (G : Pure) (ic : Inl) (s : SL) : runL G ic c6_r11aQ s = runL G ic c6_r11a s := rfl
def c6_r9a : List AI := [⟨(some 60), none, .mv (.t 9)⟩,
  ⟨(some 61), none, .bin .add (.t 60) (.c (.int .i64 1))⟩,
  ⟨(some 9), none, .mv (.t 61)⟩]
def c6_r9aQ : List AI := c6_r9a
theorem c6_r9a_e (G : Pure) (ic : Inl) (s : SL) : runL G ic c6_r9aQ s = runL G ic c6_r9a s := rfl
def c6_b0 : ACode := .seq (.seq (.reg [] c6_r8aQ []) (.cond (.t 59) (.skip) (.exit 0))) (.seq (.block none 1 (.seq (.reg [] c6_r10aQ []) (.cond (.t 87) (.seq (.reg [] c6_r11aQ []) (.ret c6_kr)) (.skip)))) (.reg [] c6_r9aQ []))
def c6_b0Q : ACode := c6_b0
theorem c6_b0_e (G : Pure) (ic : Inl) (n : Nat) (s : SL) : evalC G ic n c6_b0Q s = evalC G ic n c6_b0 s := rfl
def c6_k0 : Keep := { slots := [0, 7, 9], drops := [], adopt := [] }
def c6_e0 : Keep := { slots := [], drops := [] }
def c6_r12a : List AI := [⟨(some 88), none, .call 97408 11 [] false⟩,
  ⟨(some 4), none, .mv (.t 88)⟩]
def c6_r12aQ : List AI := c6_r12a
theorem c6_r12a_e (G : Pure) (ic : Inl) (s : SL) : runL G ic c6_r12aQ s = runL G ic c6_r12a s := rfl
def c6 : ACode := .seq (.reg [] c6_r0aQ []) (.seq (.seq (.reg [] c6_r1aQ []) (.cond (.t 24) (.seq (.reg [] c6_r2aQ []) (.ret c6_kr)) (.skip))) (.seq (.reg [] c6_r3aQ []) (.seq (.reg [] c6_r4aQ []) (.seq (.seq (.reg [] c6_r5aQ []) (.cond (.t 55) (.seq (.reg [] c6_r6aQ []) (.ret c6_kr)) (.skip))) (.seq (.seq (.reg [] c6_r7aQ []) (.block (some c6_e0) 0 (.loop c6_k0 c6_b0Q))) (.seq (.reg [] c6_r12aQ []) (.ret c6_kr)))))))
def c6F : AFun := { params := 2, code := c6, results := [.tmp 4] }
attribute [simp] c6_kr c6_r0a_e c6_r0a c6_r1a_e c6_r1a c6_r2a_e c6_r2a c6_r3a_e c6_r3a c6_r4a_e c6_r4a c6_r5a_e c6_r5a c6_r6a_e c6_r6a c6_r7a_e c6_r7a c6_r8a_e c6_r8a c6_r10a_e c6_r10a c6_r11a_e c6_r11a c6_r9a_e c6_r9a c6_b0_e c6_b0 c6_k0 c6_e0 c6_r12a_e c6_r12a c6 c6F
/-! pairing/pairinglaw3.SparseDense -/
def c7_kr : Option Keep := some { slots := [8], drops := [] }
def c7_r0a : List AI := [⟨(some 8), none, .mv (.c (.bool false))⟩]
def c7_r0aQ : List AI := c7_r0a
theorem c7_r0a_e (G : Pure) (ic : Inl) (s : SL) : runL G ic c7_r0aQ s = runL G ic c7_r0a s := rfl
def c7_r1a : List AI := [⟨(some 17), none, .mv (.t 1)⟩,
  ⟨(some 18), none, .bslice 23 1 1 [.imm true 5 []] [(0, (.t 17))]⟩,
  ⟨(some 19), none, .call 112304 10 [(.t 18)] false⟩,
  ⟨(some 20), none, .un .not (.t 19)⟩,
  ⟨(some 21), none, .mv (.t 20)⟩,
  ⟨(some 22), (some (21, false)), .mv (.t 0)⟩,
  ⟨(some 23), (some (21, false)), .call 112368 14 [(.t 22)] false⟩,
  ⟨(some 24), (some (21, false)), .un .not (.t 23)⟩,
  ⟨(some 25), none, .pick (.t 21) (.c (.bool true)) (.t 24)⟩,
  ⟨(some 26), none, .mv (.t 25)⟩,
  ⟨(some 27), (some (26, false)), .mv (.t 2)⟩,
  ⟨(some 28), (some (26, false)), .call 112448 15 [(.t 27)] false⟩,
  ⟨(some 29), (some (26, false)), .un .not (.t 28)⟩,
  ⟨(some 30), none, .pick (.t 26) (.c (.bool true)) (.t 29)⟩]
def c7_r1aQ : List AI := c7_r1a
theorem c7_r1a_e (G : Pure) (ic : Inl) (s : SL) : runL G ic c7_r1aQ s = runL G ic c7_r1a s := rfl
def c7_r2a : List AI := [⟨(some 31), none, .call 112496 11 [] false⟩,
  ⟨(some 8), none, .mv (.t 31)⟩]
def c7_r2aQ : List AI := c7_r2a
theorem c7_r2a_e (G : Pure) (ic : Inl) (s : SL) : runL G ic c7_r2aQ s = runL G ic c7_r2a s := rfl
def c7_r3a : List AI := [⟨(some 33), none, .mv (.t 0)⟩,
  ⟨(some 34), none, .call 112544 27 [(.t 33)] false⟩,
  ⟨(some 32), none, .mv (.t 34)⟩,
  ⟨(some 35), none, .extract (.t 32) 0⟩,
  ⟨(some 36), none, .extract (.t 32) 1⟩,
  ⟨(some 9), none, .mv (.t 35)⟩,
  ⟨(some 10), none, .mv (.t 36)⟩]
def c7_r3aQ : List AI := c7_r3a
theorem c7_r3a_e (G : Pure) (ic : Inl) (s : SL) : runL G ic c7_r3aQ s = runL G ic c7_r3a s := rfl
def c7_r4a : List AI := [⟨(some 38), none, .mv (.t 0)⟩,
  ⟨(some 39), none, .call 112624 29 [(.t 38)] false⟩,
  ⟨(some 37), none, .mv (.t 39)⟩,
  ⟨(some 40), none, .extract (.t 37) 0⟩,
  ⟨(some 41), none, .extract (.t 37) 1⟩,
  ⟨(some 11), none, .mv (.t 40)⟩,
  ⟨(some 12), none, .mv (.t 41)⟩]
def c7_r4aQ : List AI := c7_r4a
theorem c7_r4a_e (G : Pure) (ic : Inl) (s : SL) : runL G ic c7_r4aQ s = runL G ic c7_r4a s := rfl
def c7_r5a : List AI := [⟨(some 43), none, .mv (.t 1)⟩,
  ⟨(some 44), none, .mv (.t 2)⟩,
  ⟨(some 45), none, .call 112720 26 [(.t 43), (.t 44)] false⟩,
  ⟨(some 42), none, .mv (.t 45)⟩,
  ⟨(some 46), none, .extract (.t 42) 0⟩,
  ⟨(some 47), none, .extract (.t 42) 1⟩,
  ⟨(some 13), none, .mv (.t 46)⟩,
  ⟨(some 14), none, .mv (.t 47)⟩]
def c7_r5aQ : List AI := c7_r5a
theorem c7_r5a_e (G : Pure) (ic : Inl) (s : SL) : runL G ic c7_r5aQ s = runL G ic c7_r5a s := rfl
def c7_r6a : List AI := [⟨(some 49), none, .mv (.t 1)⟩,
  ⟨(some 50), none, .mv (.t 2)⟩,
  ⟨(some 51), none, .call 112816 30 [(.t 49), (.t 50)] true⟩,
  ⟨(some 48), none, .mv (.t 51)⟩,
  ⟨(some 52), none, .extract (.t 48) 0⟩,
  ⟨(some 53), none, .extract (.t 48) 1⟩,
  ⟨(some 15), none, .mv (.t 52)⟩,
  ⟨(some 16), none, .mv (.t 53)⟩]
def c7_r6aQ : List AI := c7_r6a
theorem c7_r6a_e (G : Pure) (ic : Inl) (s : SL) : runL G ic c7_r6aQ s = runL G ic c7_r6a s := rfl
def c7_r7a : List AI := [⟨(some 54), none, .mv (.t 10)⟩,
  ⟨(some 55), none, .mv (.t 12)⟩,
  ⟨(some 56), none, .bin .eql (.t 54) (.t 55)⟩,
  ⟨(some 57), none, .mv (.t 56)⟩,
  ⟨(some 58), (some (57, true)), .mv (.t 9)⟩,
  ⟨(some 59), (some (57, true)), .mv (.t 11)⟩,
  ⟨(some 60), (some (57, true)), .call 112960 25 [(.t 58), (.t 59)] false⟩,
  ⟨(some 61), none, .pick (.t 57) (.t 60) (.c (.bool false))⟩,
  ⟨(some 62), none, .mv (.t 61)⟩,
  ⟨(some 63), (some (62, true)), .mv (.t 14)⟩,
  ⟨(some 64), (some (62, true)), .mv (.t 16)⟩,
  ⟨(some 65), (some (62, true)), .bin .eql (.t 63) (.t 64)⟩,
  ⟨(some 66), none, .pick (.t 62) (.t 65) (.c (.bool false))⟩,
  ⟨(some 67), none, .mv (.t 66)⟩,
  ⟨(some 68), (some (67, true)), .mv (.t 13)⟩,
  ⟨(some 69), (some (67, true)), .mv (.t 15)⟩,
  ⟨(some 70), (some (67, true)), .call 113120 31 [(.t 68), (.t 69)] false⟩,
  ⟨(some 71), none, .pick (.t 67) (.t 70) (.c (.bool false))⟩,
  ⟨(some 72), none, .mv (.t 71)⟩,
  ⟨(some 73), (some (72, true)), .mv (.t 1)⟩,
  ⟨(some 74), (some (72, true)), .mv (.t 3)⟩,
  ⟨(some 75), (some (72, true)), .call 113200 32 [(.t 73), (.t 74)] false⟩,
  ⟨(some 76), (some (72, true)), .mv (.t 1)⟩,
  ⟨(some 77), (some (72, true)), .mv (.t 3)⟩,
  ⟨(some 78), (some (72, true)), .call 113248 33 [(.t 76), (.t 77)] false⟩,
  ⟨(some 79), (some (72, true)), .call 113264 20 [(.t 75), (.t 78)] false⟩,
  ⟨(some 80), none, .pick (.t 72) (.t 79) (.c (.bool false))⟩,
  ⟨(some 81), none, .mv (.t 80)⟩,
  ⟨(some 82), (some (81, true)), .call 113312 11 [] false⟩,
  ⟨(some 83), none, .pick (.t 81) (.t 82) (.c (.bool false))⟩,
  ⟨(some 8), none, .mv (.t 83)⟩]
def c7_r7aQ : List AI := c7_r7a
theorem c7_r7a_e (G : Pure) (ic : Inl) (s : SL) : runL G ic c7_r7aQ s = runL G ic c7_r7a s := rfl
def c7 : ACode := .seq (.reg [] c7_r0aQ []) (.seq (.seq (.reg [] c7_r1aQ []) (.cond (.t 30) (.seq (.reg [] c7_r2aQ []) (.ret c7_kr)) (.skip))) (.seq (.reg [] c7_r3aQ []) (.seq (.reg [] c7_r4aQ []) (.seq (.reg [] c7_r5aQ []) (.seq (.reg [] c7_r6aQ []) (.seq (.reg [] c7_r7aQ []) (.ret c7_kr)))))))
def c7F : AFun := { params := 4, code := c7, results := [.tmp 8] }
attribute [simp] c7_kr c7_r0a_e c7_r0a c7_r1a_e c7_r1a c7_r2a_e c7_r2a c7_r3a_e c7_r3a c7_r4a_e c7_r4a c7_r5a_e c7_r5a c7_r6a_e c7_r6a c7_r7a_e c7_r7a c7 c7F
/-! pairing/pairinglaw3.SparseMatrix -/
def c8_kr : Option Keep := some { slots := [6], drops := [] }
def c8_r0a : List AI := [⟨(some 6), none, .mv (.c (.bool false))⟩]
def c8_r0aQ : List AI := c8_r0a
theorem c8_r0a_e (G : Pure) (ic : Inl) (s : SL) : runL G ic c8_r0aQ s = runL G ic c8_r0a s := rfl
def c8_r1a : List AI := [⟨(some 15), none, .mv (.t 0)⟩,
  ⟨(some 16), none, .call 128256 10 [(.t 15)] false⟩,
  ⟨(some 17), none, .un .not (.t 16)⟩,
  ⟨(some 18), none, .mv (.t 17)⟩,
  ⟨(some 19), (some (18, false)), .mv (.t 1)⟩,
  ⟨(some 20), (some (18, false)), .bslice 23 1 1 [.imm true 5 []] [(0, (.t 19))]⟩,
  ⟨(some 21), (some (18, false)), .call 128336 10 [(.t 20)] false⟩,
  ⟨(some 22), (some (18, false)), .un .not (.t 21)⟩,
  ⟨(some 23), none, .pick (.t 18) (.c (.bool true)) (.t 22)⟩,
  ⟨(some 24), none, .mv (.t 23)⟩,
  ⟨(some 25), (some (24, false)), .mv (.t 2)⟩,
  ⟨(some 26), (some (24, false)), .call 128416 15 [(.t 25)] false⟩,
  ⟨(some 27), (some (24, false)), .un .not (.t 26)⟩,
  ⟨(some 28), none, .pick (.t 24) (.c (.bool true)) (.t 27)⟩]
def c8_r1aQ : List AI := c8_r1a
theorem c8_r1a_e (G : Pure) (ic : Inl) (s : SL) : runL G ic c8_r1aQ s = runL G ic c8_r1a s := rfl
def c8_r2a : List AI := [⟨(some 29), none, .call 128464 11 [] false⟩,
  ⟨(some 6), none, .mv (.t 29)⟩]
def c8_r2aQ : List AI := c8_r2a
theorem c8_r2a_e (G : Pure) (ic : Inl) (s : SL) : runL G ic c8_r2aQ s = runL G ic c8_r2a s := rfl
def c8_r3a : List AI := [⟨(some 31), none, .mv (.t 0)⟩,
  ⟨(some 32), none, .mv (.t 1)⟩,
  ⟨(some 33), none, .mv (.t 2)⟩,
  ⟨(some 34), none, .call 128544 34 [(.t 31), (.t 32), (.t 33)] false⟩,
  ⟨(some 30), none, .mv (.t 34)⟩,
  ⟨(some 35), none, .extract (.t 30) 0⟩,
  ⟨(some 36), none, .extract (.t 30) 1⟩,
  ⟨(some 7), none, .mv (.t 35)⟩,
  ⟨(some 8), none, .mv (.t 36)⟩]
def c8_r3aQ : List AI := c8_r3a
theorem c8_r3a_e (G : Pure) (ic : Inl) (s : SL) : runL G ic c8_r3aQ s = runL G ic c8_r3a s := rfl
def c8_r4a : List AI := [⟨(some 38), none, .mv (.t 0)⟩,
  ⟨(some 39), none, .mv (.t 1)⟩,
  ⟨(some 40), none, .mv (.t 2)⟩,
  ⟨(some 41), none, .call 128656 35 [(.t 38), (.t 39), (.t 40)] false⟩,
  ⟨(some 37), none, .mv (.t 41)⟩,
  ⟨(some 42), none, .extract (.t 37) 0⟩,
  ⟨(some 43), none, .extract (.t 37) 1⟩,
  ⟨(some 9), none, .mv (.t 42)⟩,
  ⟨(some 10), none, .mv (.t 43)⟩]
def c8_r4aQ : List AI := c8_r4a
theorem c8_r4a_e (G : Pure) (ic : Inl) (s : SL) : runL G ic c8_r4aQ s = runL G ic c8_r4a s := rfl
def c8_r5a : List AI := [⟨(some 45), none, .mv (.t 0)⟩,
  ⟨(some 46), none, .mv (.t 2)⟩,
  ⟨(some 47), none, .call 128752 36 [(.t 45), (.t 46)] false⟩,
  ⟨(some 44), none, .mv (.t 47)⟩,
  ⟨(some 48), none, .extract (.t 44) 0⟩,
  ⟨(some 49), none, .extract (.t 44) 1⟩,
  ⟨(some 11), none, .mv (.t 48)⟩,
  ⟨(some 12), none, .mv (.t 49)⟩]
def c8_r5aQ : List AI := c8_r5a
theorem c8_r5a_e (G : Pure) (ic : Inl) (s : SL) : runL G ic c8_r5aQ s = runL G ic c8_r5a s := rfl
def c8_r6a : List AI := [⟨(some 51), none, .mv (.t 0)⟩,
  ⟨(some 52), none, .mv (.t 2)⟩,
  ⟨(some 53), none, .call 128848 37 [(.t 51), (.t 52)] false⟩,
  ⟨(some 50), none, .mv (.t 53)⟩,
  ⟨(some 54), none, .extract (.t 50) 0⟩,
  ⟨(some 55), none, .extract (.t 50) 1⟩,
  ⟨(some 13), none, .mv (.t 54)⟩,
  ⟨(some 14), none, .mv (.t 55)⟩]
def c8_r6aQ : List AI := c8_r6a
theorem c8_r6a_e (G : Pure) (ic : Inl) (s : SL) : runL G ic c8_r6aQ s = runL G ic c8_r6a s := rfl
def c8_r7a : List AI := [⟨(some 56), none, .mv (.t 8)⟩,
  ⟨(some 57), none, .mv (.t 10)⟩,
  ⟨(some 58), none, .bin .eql (.t 56) (.t 57)⟩,
  ⟨(some 59), none, .mv (.t 58)⟩,
  ⟨(some 60), (some (59, true)), .mv (.t 7)⟩,
  ⟨(some 61), (some (59, true)), .mv (.t 9)⟩,
  ⟨(some 62), (some (59, true)), .call 128992 25 [(.t 60), (.t 61)] false⟩,
  ⟨(some 63), none, .pick (.t 59) (.t 62) (.c (.bool false))⟩,
  ⟨(some 64), none, .mv (.t 63)⟩,
  ⟨(some 65), (some (64, true)), .mv (.t 12)⟩,
  ⟨(some 66), (some (64, true)), .mv (.t 14)⟩,
  ⟨(some 67), (some (64, true)), .bin .eql (.t 65) (.t 66)⟩,
  ⟨(some 68), none, .pick (.t 64) (.t 67) (.c (.bool false))⟩,
  ⟨(some 69), none, .mv (.t 68)⟩,
  ⟨(some 70), (some (69, true)), .mv (.t 11)⟩,
  ⟨(some 71), (some (69, true)), .mv (.t 13)⟩,
  ⟨(some 72), (some (69, true)), .call 129152 38 [(.t 70), (.t 71)] false⟩,
  ⟨(some 73), none, .pick (.t 69) (.t 72) (.c (.bool false))⟩,
  ⟨(some 74), none, .mv (.t 73)⟩,
  ⟨(some 75), (some (74, true)), .call 129200 11 [] false⟩,
  ⟨(some 76), none, .pick (.t 74) (.t 75) (.c (.bool false))⟩,
  ⟨(some 6), none, .mv (.t 76)⟩]
def c8_r7aQ : List AI := c8_r7a
theorem c8_r7a_e (G : Pure) (ic : Inl) (s : SL) : runL G ic c8_r7aQ s = runL G ic c8_r7a s := rfl
def c8 : ACode := .seq (.reg [] c8_r0aQ []) (.seq (.seq (.reg [] c8_r1aQ []) (.cond (.t 28) (.seq (.reg [] c8_r2aQ []) (.ret c8_kr)) (.skip))) (.seq (.reg [] c8_r3aQ []) (.seq (.reg [] c8_r4aQ []) (.seq (.reg [] c8_r5aQ []) (.seq (.reg [] c8_r6aQ []) (.seq (.reg [] c8_r7aQ []) (.ret c8_kr)))))))
def c8F : AFun := { params := 3, code := c8, results := [.tmp 6] }
attribute [simp] c8_kr c8_r0a_e c8_r0a c8_r1a_e c8_r1a c8_r2a_e c8_r2a c8_r3a_e c8_r3a c8_r4a_e c8_r4a c8_r5a_e c8_r5a c8_r6a_e c8_r6a c8_r7a_e c8_r7a c8 c8F
/-! pairing/pairinglaw3.SparseAdjoint -/
def c9_kr : Option Keep := some { slots := [8], drops := [144336, 144368] }
def c9_r0a : List AI := [⟨(some 8), none, .mv (.c (.bool false))⟩]
def c9_r0aQ : List AI := c9_r0a
theorem c9_r0a_e (G : Pure) (ic : Inl) (s : SL) : runL G ic c9_r0aQ s = runL G ic c9_r0a s := rfl
def c9_r1a : List AI := [⟨(some 25), none, .mv (.t 0)⟩,
  ⟨(some 26), none, .call 144416 10 [(.t 25)] false⟩,
  ⟨(some 27), none, .un .not (.t 26)⟩,
  ⟨(some 28), none, .mv (.t 27)⟩,
  ⟨(some 29), (some (28, false)), .mv (.t 1)⟩,
  ⟨(some 30), (some (28, false)), .mv (.t 2)⟩,
  ⟨(some 31), (some (28, false)), .bslice 23 1 2 [.imm true 5 []] [(0, (.t 29)), (1, (.t 30))]⟩,
  ⟨(some 32), (some (28, false)), .call 144512 10 [(.t 31)] false⟩,
  ⟨(some 33), (some (28, false)), .un .not (.t 32)⟩,
  ⟨(some 34), none, .pick (.t 28) (.c (.bool true)) (.t 33)⟩,
  ⟨(some 35), none, .mv (.t 34)⟩,
  ⟨(some 36), (some (35, false)), .mv (.t 3)⟩,
  ⟨(some 37), (some (35, false)), .call 144592 15 [(.t 36)] false⟩,
  ⟨(some 38), (some (35, false)), .un .not (.t 37)⟩,
  ⟨(some 39), none, .pick (.t 35) (.c (.bool true)) (.t 38)⟩,
  ⟨(some 40), none, .mv (.t 39)⟩,
  ⟨(some 41), (some (40, false)), .mv (.t 1)⟩,
  ⟨(some 42), (some (40, false)), .mv (.t 0)⟩,
  ⟨(some 43), (some (40, false)), .len (.t 42)⟩,
  ⟨(some 44), (some (40, false)), .call 144704 13 [(.t 41), (.t 43)] false⟩,
  ⟨(some 45), (some (40, false)), .bin .neq (.t 44) (.c (.int .i64 0))⟩,
  ⟨(some 46), none, .pick (.t 40) (.c (.bool true)) (.t 45)⟩,
  ⟨(some 47), none, .mv (.t 46)⟩,
  ⟨(some 48), (some (47, false)), .mv (.t 2)⟩,
  ⟨(some 49), (some (47, false)), .mv (.t 3)⟩,
  ⟨(some 50), (some (47, false)), .call 144800 13 [(.t 48), (.t 49)] false⟩,
  ⟨(some 51), (some (47, false)), .bin .neq (.t 50) (.c (.int .i64 0))⟩,
  ⟨(some 52), none, .pick (.t 47) (.c (.bool true)) (.t 51)⟩]
def c9_r1aQ : List AI := c9_r1a
theorem c9_r1a_e (G : Pure) (ic : Inl) (s : SL) : runL G ic c9_r1aQ s = runL G ic c9_r1a s := rfl
def c9_r2a : List AI := [⟨(some 53), none, .call 144848 11 [] false⟩,
  ⟨(some 8), none, .mv (.t 53)⟩]
def c9_r2aQ : List AI := c9_r2a
theorem c9_r2a_e (G : Pure) (ic : Inl) (s : SL) : runL G ic c9_r2aQ s = runL G ic c9_r2a s := rfl
def c9_r3a : List AI := [⟨(some 55), none, .mv (.t 0)⟩,
  ⟨(some 56), none, .mv (.t 3)⟩,
  ⟨(some 57), none, .call 144912 36 [(.t 55), (.t 56)] false⟩,
  ⟨(some 54), none, .mv (.t 57)⟩,
  ⟨(some 58), none, .extract (.t 54) 0⟩,
  ⟨(some 59), none, .extract (.t 54) 1⟩,
  ⟨(some 9), none, .mv (.t 58)⟩,
  ⟨(some 10), none, .mv (.t 59)⟩]
def c9_r3aQ : List AI := c9_r3a
theorem c9_r3a_e (G : Pure) (ic : Inl) (s : SL) : runL G ic c9_r3aQ s = runL G ic c9_r3a s := rfl
def c9_r4a : List AI := [⟨(some 61), none, .mv (.t 0)⟩,
  ⟨(some 62), none, .mv (.t 3)⟩,
  ⟨(some 63), none, .call 145008 37 [(.t 61), (.t 62)] false⟩,
  ⟨(some 60), none, .mv (.t 63)⟩,
  ⟨(some 64), none, .extract (.t 60) 0⟩,
  ⟨(some 65), none, .extract (.t 60) 1⟩,
  ⟨(some 11), none, .mv (.t 64)⟩,
  ⟨(some 12), none, .mv (.t 65)⟩]
def c9_r4aQ : List AI := c9_r4a
theorem c9_r4a_e (G : Pure) (ic : Inl) (s : SL) : runL G ic c9_r4aQ s = runL G ic c9_r4a s := rfl
def c9_r5a : List AI := [⟨(some 66), none, .mv (.t 12)⟩,
  ⟨(some 67), none, .bin .neq (.t 66) (.c (.int .i64 0))⟩]
def c9_r5aQ : List AI := c9_r5a
theorem c9_r5a_e (G : Pure) (ic : Inl) (s : SL) : runL G ic c9_r5aQ s = runL G ic c9_r5a s := rfl
def c9_r6a : List AI := [⟨(some 68), none, .mv (.t 10)⟩,
  ⟨(some 69), none, .mv (.t 12)⟩,
  ⟨(some 70), none, .bin .eql (.t 68) (.t 69)⟩,
  ⟨(some 71), none, .mv (.t 70)⟩,
  ⟨(some 72), (some (71, true)), .call 145152 11 [] false⟩,
  ⟨(some 73), none, .pick (.t 71) (.t 72) (.c (.bool false))⟩,
  ⟨(some 8), none, .mv (.t 73)⟩]
def c9_r6aQ : List AI := c9_r6a
theorem c9_r6a_e (G : Pure) (ic : Inl) (s : SL) : runL G ic c9_r6aQ s = runL G ic c9_r6a s := rfl
def c9_r7a : List AI := [⟨(some 75), none, .mv (.t 9)⟩,
  ⟨(some 76), none, .mv (.t 0)⟩,
  ⟨(some 77), none, .len (.t 76)⟩,
  ⟨(some 78), none, .call 145248 36 [(.t 75), (.t 77)] false⟩,
  ⟨(some 74), none, .mv (.t 78)⟩,
  ⟨(some 79), none, .extract (.t 74) 0⟩,
  ⟨(some 80), none, .extract (.t 74) 1⟩,
  ⟨(some 13), none, .mv (.t 79)⟩,
  ⟨(some 14), none, .mv (.t 80)⟩]
def c9_r7aQ : List AI := c9_r7a
theorem c9_r7a_e (G : Pure) (ic : Inl) (s : SL) : runL G ic c9_r7aQ s = runL G ic c9_r7a s := rfl
def c9_r8a : List AI := [⟨(some 82), none, .mv (.t 0)⟩,
  ⟨(some 83), none, .mv (.t 1)⟩,
  ⟨(some 84), none, .mv (.t 3)⟩,
  ⟨(some 85), none, .call 145360 34 [(.t 82), (.t 83), (.t 84)] false⟩,
  ⟨(some 81), none, .mv (.t 85)⟩,
  ⟨(some 86), none, .extract (.t 81) 0⟩,
  ⟨(some 87), none, .extract (.t 81) 1⟩,
  ⟨(some 15), none, .mv (.t 86)⟩,
  ⟨(some 16), none, .mv (.t 87)⟩]
def c9_r8aQ : List AI := c9_r8a
theorem c9_r8a_e (G : Pure) (ic : Inl) (s : SL) : runL G ic c9_r8aQ s = runL G ic c9_r8a s := rfl
def c9_r9a : List AI := [⟨(some 89), none, .mv (.t 9)⟩,
  ⟨(some 90), none, .mv (.t 2)⟩,
  ⟨(some 91), none, .mv (.t 0)⟩,
  ⟨(some 92), none, .len (.t 91)⟩,
  ⟨(some 93), none, .call 145488 34 [(.t 89), (.t 90), (.t 92)] false⟩,
  ⟨(some 88), none, .mv (.t 93)⟩,
  ⟨(some 94), none, .extract (.t 88) 0⟩,
  ⟨(some 95), none, .extract (.t 88) 1⟩,
  ⟨(some 17), none, .mv (.t 94)⟩,
  ⟨(some 18), none, .mv (.t 95)⟩]
def c9_r9aQ : List AI := c9_r9a
theorem c9_r9a_e (G : Pure) (ic : Inl) (s : SL) : runL G ic c9_r9aQ s = runL G ic c9_r9a s := rfl
def c9_r10a : List AI := [⟨(some 96), none, .mv (.t 10)⟩,
  ⟨(some 97), none, .bin .neq (.t 96) (.c (.int .i64 0))⟩,
  ⟨(some 98), none, .mv (.t 97)⟩,
  ⟨(some 99), (some (98, false)), .mv (.t 14)⟩,
  ⟨(some 100), (some (98, false)), .bin .neq (.t 99) (.c (.int .i64 0))⟩,
  ⟨(some 101), none, .pick (.t 98) (.c (.bool true)) (.t 100)⟩,
  ⟨(some 102), none, .mv (.t 101)⟩,
  ⟨(some 103), (some (102, false)), .mv (.t 16)⟩,
  ⟨(some 104), (some (102, false)), .bin .neq (.t 103) (.c (.int .i64 0))⟩,
  ⟨(some 105), none, .pick (.t 102) (.c (.bool true)) (.t 104)⟩,
  ⟨(some 106), none, .mv (.t 105)⟩,
  ⟨(some 107), (some (106, false)), .mv (.t 18)⟩,
  ⟨(some 108), (some (106, false)), .bin .neq (.t 107) (.c (.int .i64 0))⟩,
  ⟨(some 109), none, .pick (.t 106) (.c (.bool true)) (.t 108)⟩,
  ⟨(some 110), none, .mv (.t 109)⟩,
  ⟨(some 111), (some (110, false)), .mv (.t 13)⟩,
  ⟨(some 112), (some (110, false)), .len (.t 111)⟩,
  ⟨(some 113), (some (110, false)), .mv (.t 0)⟩,
  ⟨(some 114), (some (110, false)), .len (.t 113)⟩,
  ⟨(some 115), (some (110, false)), .bin .neq (.t 112) (.t 114)⟩,
  ⟨(some 116), none, .pick (.t 110) (.c (.bool true)) (.t 115)⟩]
def c9_r10aQ : List AI := c9_r10a
theorem c9_r10a_e (G : Pure) (ic : Inl) (s : SL) : runL G ic c9_r10aQ s = runL G ic c9_r10a s := rfl
def c9_r11a : List AI := [⟨(some 8), none, .mv (.c (.bool false))⟩]
def c9_r11aQ : List AI := c9_r11a
theorem c9_r11a_e (G : Pure) (ic : Inl) (s : SL) : runL G ic c9_r11aQ s = runL G ic c9_r11a s := rfl
def c9_r12a : List AI := [⟨(some 19), none, .mv (.c (.int .i64 0))⟩]
def c9_r12aQ : List AI := c9_r12a
theorem c9_r12a_e (G : Pure) (ic : Inl) (s : SL) : runL G ic c9_r12aQ s = runL G ic c9_r12a s := rfl
def c9_r13a : List AI := [⟨(some 117), none, .mv (.t 19)⟩,
  ⟨(some 118), none, .mv (.t 0)⟩,
  ⟨(some 119), none, .len (.t 118)⟩,
  ⟨(some 120), none, .bin .lss (.t 117) (.t 119)⟩]
def c9_r13aQ : List AI := c9_r13a
theorem c9_r13a_e (G : Pure) (ic : Inl) (s : SL) : runL G ic c9_r13aQ s = runL G ic c9_r13a s := rfl
def c9_r15a : List AI := [⟨(some 123), none, .mv (.t 13)⟩,
  ⟨(some 124), none, .mv (.t 19)⟩,
  ⟨(some 125), none, .iaddr 1 (.t 123) (.t 124)⟩,
  ⟨(some 126), none, .load none (.t 125)⟩,
  ⟨(some 127), none, .len (.t 126)⟩,
  ⟨(some 128), none, .mv (.t 0)⟩,
  ⟨(some 129), none, .mv (.t 19)⟩,
  ⟨(some 130), none, .iaddr 1 (.t 128) (.t 129)⟩,
  ⟨(some 131), none, .load none (.t 130)⟩,
  ⟨(some 132), none, .len (.t 131)⟩,
  ⟨(some 133), none, .bin .neq (.t 127) (.t 132)⟩]
def c9_r15aQ : List AI := c9_r15a
theorem c9_r15a_e (G : Pure) (ic : Inl) (s : SL) : runL G ic c9_r15aQ s = runL G ic c9_r15a s := rfl
def c9_r16a : List AI := [⟨(some 8), none, .mv (.c (.bool false))⟩]
def c9_r16aQ : List AI := c9_r16a
theorem c9_r16a_e (G : Pure) (ic : Inl) (s : SL) : runL G ic c9_r16aQ s = runL G ic c9_r16a s := rfl
def c9_r17a : List AI := [⟨(some 20), none, .mv (.c (.int .i64 0))⟩]
def c9_r17aQ : List AI := c9_r17a
theorem c9_r17a_e (G : Pure) (ic : Inl) (s : SL) : runL G ic c9_r17aQ s = runL G ic c9_r17a s := rfl
def c9_r18a : List AI := [⟨(some 134), none, .mv (.t 20)⟩,
  ⟨(some 135), none, .mv (.t 13)⟩,
  ⟨(some 136), none, .mv (.t 19)⟩,
  ⟨(some 137), none, .iaddr 1 (.t 135) (.t 136)⟩,
  ⟨(some 138), none, .load none (.t 137)⟩,
  ⟨(some 139), none, .len (.t 138)⟩,
  ⟨(some 140), none, .bin .lss (.t 134) (.t 139)⟩]
def c9_r18aQ : List AI := c9_r18a
theorem c9_r18a_e (G : Pure) (ic : Inl) (s : SL) : runL G ic c9_r18aQ s = runL G ic c9_r18a s := rfl
def c9_r20a : List AI := [⟨(some 143), none, .mv (.t 13)⟩,
  ⟨(some 144), none, .mv (.t 19)⟩,
  ⟨(some 145), none, .iaddr 1 (.t 143) (.t 144)⟩,
  ⟨(some 146), none, .load none (.t 145)⟩,
  ⟨(some 147), none, .mv (.t 20)⟩,
  ⟨(some 148), none, .iaddr 5 (.t 146) (.t 147)⟩,
  ⟨(some 149), none, .faddr 0 (.t 148)⟩,
  ⟨(some 150), none, .load none (.t 149)⟩,
  ⟨(some 151), none, .mv (.t 0)⟩,
  ⟨(some 152), none, .mv (.t 19)⟩,
  ⟨(some 153), none, .iaddr 1 (.t 151) (.t 152)⟩,
  ⟨(some 154), none, .load none (.t 153)⟩,
  ⟨(some 155), none, .mv (.t 20)⟩,
  ⟨(some 156), none, .iaddr 5 (.t 154) (.t 155)⟩,
  ⟨(some 157), none, .faddr 0 (.t 156)⟩,
  ⟨(some 158), none, .load none (.t 157)⟩,
  ⟨(some 159), none, .bin .neq (.t 150) (.t 158)⟩,
  ⟨(some 160), none, .mv (.t 159)⟩,
  ⟨(some 161), (some (160, false)), .mv (.t 13)⟩,
  ⟨(some 162), (some (160, false)), .mv (.t 19)⟩,
  ⟨(some 163), (some (160, false)), .iaddr 1 (.t 161) (.t 162)⟩,
  ⟨(some 164), (some (160, false)), .load none (.t 163)⟩,
  ⟨(some 165), (some (160, false)), .mv (.t 20)⟩,
  ⟨(some 166), (some (160, false)), .iaddr 5 (.t 164) (.t 165)⟩,
  ⟨(some 167), (some (160, false)), .faddr 1 (.t 166)⟩,
  ⟨(some 168), (some (160, false)), .load (some 4) (.t 167)⟩,
  ⟨(some 169), (some (160, false)), .mv (.t 0)⟩,
  ⟨(some 170), (some (160, false)), .mv (.t 19)⟩,
  ⟨(some 171), (some (160, false)), .iaddr 1 (.t 169) (.t 170)⟩,
  ⟨(some 172), (some (160, false)), .load none (.t 171)⟩,
  ⟨(some 173), (some (160, false)), .mv (.t 20)⟩,
  ⟨(some 174), (some (160, false)), .iaddr 5 (.t 172) (.t 173)⟩,
  ⟨(some 175), (some (160, false)), .faddr 1 (.t 174)⟩,
  ⟨(some 176), (some (160, false)), .load (some 4) (.t 175)⟩,
  ⟨(some 177), (some (160, false)), .call 146832 28 [(.t 176)] false⟩,
  ⟨(some 178), (some (160, false)), .call 146848 20 [(.t 168), (.t 177)] false⟩,
  ⟨(some 179), (some (160, false)), .un .not (.t 178)⟩,
  ⟨(some 180), none, .pick (.t 160) (.c (.bool true)) (.t 179)⟩]
def c9_r20aQ : List AI := c9_r20a
theorem c9_r20a_e (G : Pure) (ic : Inl) (s : SL) : runL G ic c9_r20aQ s = runL G ic c9_r20a s := rfl
def c9_r21a : List AI := [⟨(some 8), none, .mv (.c (.bool false))⟩]
def c9_r21aQ : List AI := c9_r21a
theorem c9_r21a_e (G : Pure) (ic : Inl) (s : SL) : runL G ic c9_r21aQ s = runL G ic c9_r21a s := rfl
def c9_r19a : List AI := [⟨(some 141), none, .mv (.t 20)⟩,
  ⟨(some 142), none, .bin .add (.t 141) (.c (.int .i64 1))⟩,
  ⟨(some 20), none, .mv (.t 142)⟩]
def c9_r19aQ : List AI := c9_r19a
theorem c9_r19a_e (G : Pure) (ic : Inl) (s : SL) : runL G ic c9_r19aQ s = runL G ic c9_r19a s := rfl
def c9_b0 : ACode := .seq (.seq (.reg [] c9_r18aQ []) (.cond (.t 140) (.skip) (.exit 2))) (.seq (.block none 3 (.seq (.reg [] c9_r20aQ []) (.cond (.t 180) (.seq (.reg [] c9_r21aQ []) (.ret c9_kr)) (.skip)))) (.reg [] c9_r19aQ []))
def c9_b0Q : ACode := c9_b0
theorem c9_b0_e (G : Pure) (ic : Inl) (n : Nat) (s : SL) : evalC G ic n c9_b0Q s = evalC G ic n c9_b0 s := rfl
def c9_k0 : Keep := { slots := [0, 1, 2, 3, 13, 15, 17, 19, 20], drops := [], adopt := [] }
def c9_e0 : Keep := { slots := [0, 1, 2, 3, 13, 15, 17, 19], drops := [] }
def c9_r14a : List AI := [⟨(some 121), none, .mv (.t 19)⟩,
  ⟨(some 122), none, .bin .add (.t 121) (.c (.int .i64 1))⟩,
  ⟨(some 19), none, .mv (.t 122)⟩]
def c9_r14aQ : List AI := c9_r14a
theorem c9_r14a_e (G : Pure) (ic : Inl) (s : SL) : runL G ic c9_r14aQ s = runL G ic c9_r14a s := rfl
def c9_b1 : ACode := .seq (.seq (.reg [] c9_r13aQ []) (.cond (.t 120) (.skip) (.exit 0))) (.seq (.block none 1 (.seq (.seq (.reg [] c9_r15aQ []) (.cond (.t 133) (.seq (.reg [] c9_r16aQ []) (.ret c9_kr)) (.skip))) (.seq (.reg [] c9_r17aQ []) (.block (some c9_e0) 2 (.loop c9_k0 c9_b0Q))))) (.reg [] c9_r14aQ []))
def c9_b1Q : ACode := c9_b1
theorem c9_b1_e (G : Pure) (ic : Inl) (n : Nat) (s : SL) : evalC G ic n c9_b1Q s = evalC G ic n c9_b1 s := rfl
def c9_k1 : Keep := { slots := [0, 1, 2, 3, 13, 15, 17, 19], drops := [], adopt := [] }
def c9_e1 : Keep := { slots := [0, 1, 2, 3, 15, 17], drops := [] }
def c9_r22a : List AI := [⟨(some 182), none, .mv (.t 2)⟩,
  ⟨(some 183), none, .mv (.t 15)⟩,
  ⟨(some 184), none, .mv (.t 3)⟩,
  ⟨(some 185), none, .call 146960 17 [(.t 182), (.t 183), (.t 184)] false⟩,
  ⟨(some 181), none, .mv (.t 185)⟩,
  ⟨(some 186), none, .extract (.t 181) 0⟩,
  ⟨(some 187), none, .extract (.t 181) 1⟩,
  ⟨(some 21), none, .alloc 144336 33 [.bool false, .imm true 1 [], .bool false, .imm true 1 []]⟩,
  ⟨none, none, .store 4 (.t 21) (.t 186)⟩,
  ⟨(some 22), none, .mv (.t 187)⟩]
def c9_r22aQ : List AI := c9_r22a
theorem c9_r22a_e (G : Pure) (ic : Inl) (s : SL) : runL G ic c9_r22aQ s = runL G ic c9_r22a s := rfl
def c9_r23a : List AI := [⟨(some 189), none, .mv (.t 17)⟩,
  ⟨(some 190), none, .mv (.t 1)⟩,
  ⟨(some 191), none, .mv (.t 0)⟩,
  ⟨(some 192), none, .len (.t 191)⟩,
  ⟨(some 193), none, .call 147088 17 [(.t 189), (.t 190), (.t 192)] false⟩,
  ⟨(some 188), none, .mv (.t 193)⟩,
  ⟨(some 194), none, .extract (.t 188) 0⟩,
  ⟨(some 195), none, .extract (.t 188) 1⟩,
  ⟨(some 23), none, .alloc 144368 33 [.bool false, .imm true 1 [], .bool false, .imm true 1 []]⟩,
  ⟨none, none, .store 4 (.t 23) (.t 194)⟩,
  ⟨(some 24), none, .mv (.t 195)⟩]
def c9_r23aQ : List AI := c9_r23a
theorem c9_r23a_e (G : Pure) (ic : Inl) (s : SL) : runL G ic c9_r23aQ s = runL G ic c9_r23a s := rfl
def c9_r24a : List AI := [⟨(some 196), none, .mv (.t 22)⟩,
  ⟨(some 197), none, .bin .eql (.t 196) (.c (.int .i64 0))⟩,
  ⟨(some 198), none, .mv (.t 197)⟩,
  ⟨(some 199), (some (198, true)), .mv (.t 24)⟩,
  ⟨(some 200), (some (198, true)), .bin .eql (.t 199) (.c (.int .i64 0))⟩,
  ⟨(some 201), none, .pick (.t 198) (.t 200) (.c (.bool false))⟩,
  ⟨(some 202), none, .mv (.t 201)⟩,
  ⟨(some 203), (some (202, true)), .load (some 4) (.t 21)⟩,
  ⟨(some 204), (some (202, true)), .load (some 4) (.t 23)⟩,
  ⟨(some 205), (some (202, true)), .call 147280 20 [(.t 203), (.t 204)] false⟩,
  ⟨(some 206), none, .pick (.t 202) (.t 205) (.c (.bool false))⟩,
  ⟨(some 207), none, .mv (.t 206)⟩,
  ⟨(some 208), (some (207, true)), .call 147328 11 [] false⟩,
  ⟨(some 209), none, .pick (.t 207) (.t 208) (.c (.bool false))⟩,
  ⟨(some 8), none, .mv (.t 209)⟩]
def c9_r24aQ : List AI := c9_r24a
theorem c9_r24a_e (G : Pure) (ic : Inl) (s : SL) : runL G ic c9_r24aQ s = runL G ic c9_r24a s := rfl
def c9 : ACode := .seq (.reg [] c9_r0aQ []) (.seq (.seq (.reg [] c9_r1aQ []) (.cond (.t 52) (.seq (.reg [] c9_r2aQ []) (.ret c9_kr)) (.skip))) (.seq (.reg [] c9_r3aQ []) (.seq (.seq (.reg [] c9_r4aQ []) (.seq (.reg [] c9_r5aQ []) (.cond (.t 67) (.seq (.reg [] c9_r6aQ []) (.ret c9_kr)) (.skip)))) (.seq (.reg [] c9_r7aQ []) (.seq (.reg [] c9_r8aQ []) (.seq (.reg [] c9_r9aQ []) (.seq (.seq (.reg [] c9_r10aQ []) (.cond (.t 116) (.seq (.reg [] c9_r11aQ []) (.ret c9_kr)) (.skip))) (.seq (.seq (.reg [] c9_r12aQ []) (.block (some c9_e1) 0 (.loop c9_k1 c9_b1Q))) (.seq (.reg [] c9_r22aQ []) (.seq (.reg [] c9_r23aQ []) (.seq (.reg [] c9_r24aQ []) (.ret c9_kr))))))))))))
def c9F : AFun := { params := 4, code := c9, results := [.tmp 8] }
attribute [simp] c9_kr c9_r0a_e c9_r0a c9_r1a_e c9_r1a c9_r2a_e c9_r2a c9_r3a_e c9_r3a c9_r4a_e c9_r4a c9_r5a_e c9_r5a c9_r6a_e c9_r6a c9_r7a_e c9_r7a c9_r8a_e c9_r8a c9_r9a_e c9_r9a c9_r10a_e c9_r10a c9_r11a_e c9_r11a c9_r12a_e c9_r12a c9_r13a_e c9_r13a c9_r15a_e c9_r15a c9_r16a_e c9_r16a c9_r17a_e c9_r17a c9_r18a_e c9_r18a c9_r20a_e c9_r20a c9_r21a_e c9_r21a c9_r19a_e c9_r19a c9_b0_e c9_b0 c9_k0 c9_e0 c9_r14a_e c9_r14a c9_b1_e c9_b1 c9_k1 c9_e1 c9_r22a_e c9_r22a c9_r23a_e c9_r23a c9_r24a_e c9_r24a c9 c9F
theorem c9_ok : IsFun Try.prog ks 9 c9F := by unfold IsFun; kernel_rfl
/-! pairing/pairinglaw3.Light -/
def c10_kr : Option Keep := some { slots := [2], drops := [] }
def c10_r0a : List AI := [⟨(some 2), none, .mv (.c (.bool false))⟩]
def c10_r0aQ : List AI := c10_r0a
theorem c10_r0a_e (G : Pure) (ic : Inl) (s : SL) : runL G ic c10_r0aQ s = runL G ic c10_r0a s := rfl
def c10_r1a : List AI := [⟨(some 3), none, .mv (.c (.int .i64 0))⟩]
def c10_r1aQ : List AI := c10_r1a
theorem c10_r1a_e (G : Pure) (ic : Inl) (s : SL) : runL G ic c10_r1aQ s = runL G ic c10_r1a s := rfl
def c10_r2a : List AI := [⟨(some 4), none, .mv (.c (.int .i64 0))⟩]
def c10_r2aQ : List AI := c10_r2a
theorem c10_r2a_e (G : Pure) (ic : Inl) (s : SL) : runL G ic c10_r2aQ s = runL G ic c10_r2a s := rfl
def c10_r3a : List AI := [⟨(some 6), none, .mv (.t 4)⟩,
  ⟨(some 7), none, .mv (.t 0)⟩,
  ⟨(some 8), none, .len (.t 7)⟩,
  ⟨(some 9), none, .bin .lss (.t 6) (.t 8)⟩]
def c10_r3aQ : List AI := c10_r3a
theorem c10_r3a_e (G : Pure) (ic : Inl) (s : SL) : runL G ic c10_r3aQ s = runL G ic c10_r3a s := rfl
def c10_r5a : List AI := [⟨(some 12), none, .mv (.t 3)⟩,
  ⟨(some 13), none, .mv (.t 0)⟩,
  ⟨(some 14), none, .mv (.t 4)⟩,
  ⟨(some 15), none, .iaddr 1 (.t 13) (.t 14)⟩,
  ⟨(some 16), none, .load none (.t 15)⟩,
  ⟨(some 17), none, .len (.t 16)⟩,
  ⟨(some 18), none, .bin .add (.t 12) (.t 17)⟩,
  ⟨(some 3), none, .mv (.t 18)⟩]
def c10_r5aQ : List AI := c10_r5a
theorem c10_r5a_e (G : Pure) (ic : Inl) (s : SL) : runL G ic c10_r5aQ s = runL G ic c10_r5a s := rfl
def c10_r6a : List AI := [⟨(some 5), none, .mv (.c (.int .i64 0))⟩]
def c10_r6aQ : List AI := c10_r6a
theorem c10_r6a_e (G : Pure) (ic : Inl) (s : SL) : runL G ic c10_r6aQ s = runL G ic c10_r6a s := rfl
def c10_r7a : List AI := [⟨(some 19), none, .mv (.t 5)⟩,
  ⟨(some 20), none, .mv (.t 0)⟩,
  ⟨(some 21), none, .mv (.t 4)⟩,
  ⟨(some 22), none, .iaddr 1 (.t 20) (.t 21)⟩,
  ⟨(some 23), none, .load none (.t 22)⟩,
  ⟨(some 24), none, .len (.t 23)⟩,
  ⟨(some 25), none, .bin .lss (.t 19) (.t 24)⟩]
def c10_r7aQ : List AI := c10_r7a
theorem c10_r7a_e (G : Pure) (ic : Inl) (s : SL) : runL G ic c10_r7aQ s = runL G ic c10_r7a s := rfl
def c10_r9a : List AI := [⟨(some 28), none, .mv (.t 0)⟩,
  ⟨(some 29), none, .mv (.t 4)⟩,
  ⟨(some 30), none, .iaddr 1 (.t 28) (.t 29)⟩,
  ⟨(some 31), none, .load none (.t 30)⟩,
  ⟨(some 32), none, .mv (.t 5)⟩,
  ⟨(some 33), none, .iaddr 5 (.t 31) (.t 32)⟩,
  ⟨(some 34), none, .faddr 1 (.t 33)⟩,
  ⟨(some 35), none, .load (some 4) (.t 34)⟩,
  ⟨(some 36), none, .bslice 33 4 1 [.bool false, .imm true 1 [], .bool false, .imm true 1 []] [(0, (.t 35))]⟩,
  ⟨(some 37), none, .call 160592 14 [(.t 36)] false⟩,
  ⟨(some 38), none, .un .not (.t 37)⟩]
def c10_r9aQ : List AI := c10_r9a
theorem c10_r9a_e (G : Pure) (ic : Inl) (s : SL) : runL G ic c10_r9aQ s = runL G ic c10_r9a s := rfl
def c10_r10a : List AI := [⟨(some 2), none, .mv (.c (.bool false))⟩]
def c10_r10aQ : List AI := c10_r10a
theorem c10_r10a_e (G : Pure) (ic : Inl) (s : SL) : runL G ic c10_r10aQ s = runL G ic c10_r10a s := rfl
def c10_r8a : List AI := [⟨(some 26), none, .mv (.t 5)⟩,
  ⟨(some 27), none, .bin .add (.t 26) (.c (.int .i64 1))⟩,
  ⟨(some 5), none, .mv (.t 27)⟩]
def c10_r8aQ : List AI := c10_r8a
theorem c10_r8a_e (G : Pure) (ic : Inl) (s : SL) : runL G ic c10_r8aQ s = runL G ic c10_r8a s := rfl
def c10_b0 : ACode := .seq (.seq (.reg [] c10_r7aQ []) (.cond (.t 25) (.skip) (.exit 2))) (.seq (.block none 3 (.seq (.reg [] c10_r9aQ []) (.cond (.t 38) (.seq (.reg [] c10_r10aQ []) (.ret c10_kr)) (.skip)))) (.reg [] c10_r8aQ []))
def c10_b0Q : ACode := c10_b0
theorem c10_b0_e (G : Pure) (ic : Inl) (n : Nat) (s : SL) : evalC G ic n c10_b0Q s = evalC G ic n c10_b0 s := rfl
def c10_k0 : Keep := { slots := [0, 3, 4, 5], drops := [], adopt := [] }
def c10_e0 : Keep := { slots := [0, 3, 4], drops := [] }
def c10_r4a : List AI := [⟨(some 10), none, .mv (.t 4)⟩,
  ⟨(some 11), none, .bin .add (.t 10) (.c (.int .i64 1))⟩,
  ⟨(some 4), none, .mv (.t 11)⟩]
def c10_r4aQ : List AI := c10_r4a
theorem c10_r4a_e (G : Pure) (ic : Inl) (s : SL) : runL G ic c10_r4aQ s = runL G ic c10_r4a s := rfl
def c10_b1 : ACode := .seq (.seq (.reg [] c10_r3aQ []) (.cond (.t 9) (.skip) (.exit 0))) (.seq (.block none 1 (.seq (.reg [] c10_r5aQ []) (.seq (.reg [] c10_r6aQ []) (.block (some c10_e0) 2 (.loop c10_k0 c10_b0Q))))) (.reg [] c10_r4aQ []))
def c10_b1Q : ACode := c10_b1
theorem c10_b1_e (G : Pure) (ic : Inl) (n : Nat) (s : SL) : evalC G ic n c10_b1Q s = evalC G ic n c10_b1 s := rfl
def c10_k1 : Keep := { slots := [0, 3, 4], drops := [], adopt := [] }
def c10_e1 : Keep := { slots := [0, 3], drops := [] }
def c10_r11a : List AI := [⟨(some 39), none, .mv (.t 3)⟩,
  ⟨(some 40), none, .bin .leq (.t 39) (.c (.int .i64 60))⟩,
  ⟨(some 41), none, .mv (.t 40)⟩,
  ⟨(some 42), (some (41, true)), .mv (.t 0)⟩,
  ⟨(some 43), (some (41, true)), .len (.t 42)⟩,
  ⟨(some 44), (some (41, true)), .bin .leq (.t 43) (.c (.int .i64 20))⟩,
  ⟨(some 45), none, .pick (.t 41) (.t 44) (.c (.bool false))⟩,
  ⟨(some 2), none, .mv (.t 45)⟩]
def c10_r11aQ : List AI := c10_r11a
theorem c10_r11a_e (G : Pure) (ic : Inl) (s : SL) : runL G ic c10_r11aQ s = runL G ic c10_r11a s := rfl
def c10 : ACode := .seq (.reg [] c10_r0aQ []) (.seq (.reg [] c10_r1aQ []) (.seq (.seq (.reg [] c10_r2aQ []) (.block (some c10_e1) 0 (.loop c10_k1 c10_b1Q))) (.seq (.reg [] c10_r11aQ []) (.ret c10_kr))))
def c10F : AFun := { params := 1, code := c10, results := [.tmp 2] }
attribute [simp] c10_kr c10_r0a_e c10_r0a c10_r1a_e c10_r1a c10_r2a_e c10_r2a c10_r3a_e c10_r3a c10_r5a_e c10_r5a c10_r6a_e c10_r6a c10_r7a_e c10_r7a c10_r9a_e c10_r9a c10_r10a_e c10_r10a c10_r8a_e c10_r8a c10_b0_e c10_b0 c10_k0 c10_e0 c10_r4a_e c10_r4a c10_b1_e c10_b1 c10_k1 c10_e1 c10_r11a_e c10_r11a c10 c10F
theorem c10_ok : IsFun Try.prog ks 10 c10F := by unfold IsFun; kernel_rfl
/-! pairing/pairinglaw3.awake -/
def c11_kr : Option Keep := some { slots := [0], drops := [176048] }
def c11_r0a : List AI := [⟨(some 0), none, .mv (.c (.bool false))⟩]
def c11_r0aQ : List AI := c11_r0a
theorem c11_r0a_e (G : Pure) (ic : Inl) (s : SL) : runL G ic c11_r0aQ s = runL G ic c11_r0a s := rfl
def c11_r1a : List AI := [⟨(some 5), none, .call 176080 39 [(.c (.int .i64 2))] false⟩,
  ⟨(some 6), none, .build [.int .i64 0, .bool false, .imm true 1 [], .bool false, .imm true 1 []] [(0, 1, (.c (.int .i64 1))), (1, 4, (.t 5))]⟩,
  ⟨(some 7), none, .bslice 51 5 1 [.int .i64 0, .bool false, .imm true 1 [], .bool false, .imm true 1 []] [(0, (.t 6))]⟩,
  ⟨(some 1), none, .mv (.t 7)⟩]
def c11_r1aQ : List AI := c11_r1a
theorem c11_r1a_e (G : Pure) (ic : Inl) (s : SL) : runL G ic c11_r1aQ s = runL G ic c11_r1a s := rfl
def c11_r2a : List AI := [⟨(some 8), none, .call 176128 39 [(.c (.int .i64 5))] false⟩,
  ⟨(some 9), none, .build [.int .i64 0, .bool false, .imm true 1 [], .bool false, .imm true 1 []] [(0, 1, (.c (.int .i64 0))), (1, 4, (.t 8))]⟩,
  ⟨(some 10), none, .call 176160 39 [(.c (.int .i64 3))] false⟩,
  ⟨(some 11), none, .build [.int .i64 0, .bool false, .imm true 1 [], .bool false, .imm true 1 []] [(0, 1, (.c (.int .i64 1))), (1, 4, (.t 10))]⟩,
  ⟨(some 12), none, .bslice 51 5 2 [.int .i64 0, .bool false, .imm true 1 [], .bool false, .imm true 1 []] [(0, (.t 9)), (1, (.t 11))]⟩,
  ⟨(some 2), none, .mv (.t 12)⟩]
def c11_r2aQ : List AI := c11_r2a
theorem c11_r2a_e (G : Pure) (ic : Inl) (s : SL) : runL G ic c11_r2aQ s = runL G ic c11_r2a s := rfl
def c11_r3a : List AI := [⟨(some 14), none, .mv (.t 1)⟩,
  ⟨(some 15), none, .mv (.t 2)⟩,
  ⟨(some 16), none, .call 176256 17 [(.t 14), (.t 15), (.c (.int .i64 2))] false⟩,
  ⟨(some 13), none, .mv (.t 16)⟩,
  ⟨(some 17), none, .extract (.t 13) 0⟩,
  ⟨(some 18), none, .extract (.t 13) 1⟩,
  ⟨(some 3), none, .alloc 176048 33 [.bool false, .imm true 1 [], .bool false, .imm true 1 []]⟩,
  ⟨none, none, .store 4 (.t 3) (.t 17)⟩,
  ⟨(some 4), none, .mv (.t 18)⟩]
def c11_r3aQ : List AI := c11_r3a
theorem c11_r3a_e (G : Pure) (ic : Inl) (s : SL) : runL G ic c11_r3aQ s = runL G ic c11_r3a s := rfl
def c11_r4a : List AI := [⟨(some 19), none, .mv (.t 4)⟩,
  ⟨(some 20), none, .bin .eql (.t 19) (.c (.int .i64 0))⟩,
  ⟨(some 21), none, .mv (.t 20)⟩,
  ⟨(some 22), (some (21, true)), .load (some 4) (.t 3)⟩,
  ⟨(some 23), (some (21, true)), .call 176368 39 [(.c (.int .i64 6))] false⟩,
  ⟨(some 24), (some (21, true)), .call 176384 20 [(.t 22), (.t 23)] false⟩,
  ⟨(some 25), none, .pick (.t 21) (.t 24) (.c (.bool false))⟩,
  ⟨(some 0), none, .mv (.t 25)⟩]
def c11_r4aQ : List AI := c11_r4a
theorem c11_r4a_e (G : Pure) (ic : Inl) (s : SL) : runL G ic c11_r4aQ s = runL G ic c11_r4a s := rfl
def c11 : ACode := .seq (.reg [] c11_r0aQ []) (.seq (.reg [] c11_r1aQ []) (.seq (.reg [] c11_r2aQ []) (.seq (.reg [] c11_r3aQ []) (.seq (.reg [] c11_r4aQ []) (.ret c11_kr)))))
def c11F : AFun := { params := 0, code := c11, results := [.tmp 0] }
attribute [simp] c11_kr c11_r0a_e c11_r0a c11_r1a_e c11_r1a c11_r2a_e c11_r2a c11_r3a_e c11_r3a c11_r4a_e c11_r4a c11 c11F
theorem c11_ok : IsFun Try.prog ks 11 c11F := by unfold IsFun; kernel_rfl
/-! pairing/sparse.Validate -/
def c12_kr : Option Keep := some { slots := [4], drops := [192096] }
def c12_r0a : List AI := [⟨(some 4), none, .mv (.c (.int .i64 0))⟩]
def c12_r0aQ : List AI := c12_r0a
theorem c12_r0a_e (G : Pure) (ic : Inl) (s : SL) : runL G ic c12_r0aQ s = runL G ic c12_r0a s := rfl
def c12_r1a : List AI := [⟨(some 7), none, .mv (.t 1)⟩,
  ⟨(some 8), none, .bin .lss (.t 7) (.c (.int .i64 0))⟩,
  ⟨(some 9), none, .mv (.t 8)⟩,
  ⟨(some 10), (some (9, false)), .mv (.t 1)⟩,
  ⟨(some 11), (some (9, false)), .bin .gtr (.t 10) (.c (.int .i64 4096))⟩,
  ⟨(some 12), none, .pick (.t 9) (.c (.bool true)) (.t 11)⟩]
def c12_r1aQ : List AI := c12_r1a
theorem c12_r1a_e (G : Pure) (ic : Inl) (s : SL) : runL G ic c12_r1aQ s = runL G ic c12_r1a s := rfl
def c12_r2a : List AI := [⟨(some 4), none, .mv (.c (.int .i64 5))⟩]
def c12_r2aQ : List AI := c12_r2a
theorem c12_r2a_e (G : Pure) (ic : Inl) (s : SL) : runL G ic c12_r2aQ s = runL G ic c12_r2a s := rfl
def c12_r3a : List AI := [⟨(some 13), none, .mv (.t 0)⟩,
  ⟨(some 14), none, .len (.t 13)⟩,
  ⟨(some 15), none, .mv (.c (.int .i64 0))⟩]
def c12_r3aQ : List AI := c12_r3a
theorem c12_r3a_e (G : Pure) (ic : Inl) (s : SL) : runL G ic c12_r3aQ s = runL G ic c12_r3a s := rfl
def c12_r4a : List AI := [⟨(some 16), none, .bin .lss (.t 15) (.t 14)⟩]
def c12_r4aQ : List AI := c12_r4a
theorem c12_r4a_e (G : Pure) (ic : Inl) (s : SL) : runL G ic c12_r4aQ s = runL G ic c12_r4a s := rfl
def c12_r5a : List AI := [⟨(some 17), none, .mv (.t 15)⟩,
  ⟨(some 18), none, .iaddr 5 (.t 13) (.t 15)⟩,
  ⟨(some 19), none, .load (some 5) (.t 18)⟩,
  ⟨(some 6), none, .alloc 192096 51 [.int .i64 0, .bool false, .imm true 1 [], .bool false, .imm true 1 []]⟩,
  ⟨(some 5), none, .mv (.t 17)⟩,
  ⟨none, none, .store 5 (.t 6) (.t 19)⟩]
def c12_r5aQ : List AI := c12_r5a
theorem c12_r5a_e (G : Pure) (ic : Inl) (s : SL) : runL G ic c12_r5aQ s = runL G ic c12_r5a s := rfl
def c12_r6a : List AI := [⟨(some 21), none, .faddr 0 (.t 6)⟩,
  ⟨(some 22), none, .load none (.t 21)⟩,
  ⟨(some 23), none, .bin .lss (.t 22) (.c (.int .i64 0))⟩,
  ⟨(some 24), none, .mv (.t 23)⟩,
  ⟨(some 25), (some (24, false)), .faddr 0 (.t 6)⟩,
  ⟨(some 26), (some (24, false)), .load none (.t 25)⟩,
  ⟨(some 27), (some (24, false)), .mv (.t 1)⟩,
  ⟨(some 28), (some (24, false)), .bin .geq (.t 26) (.t 27)⟩,
  ⟨(some 29), none, .pick (.t 24) (.c (.bool true)) (.t 28)⟩,
  ⟨(some 20), none, .mv (.t 29)⟩]
def c12_r6aQ : List AI := c12_r6a
theorem c12_r6a_e (G : Pure) (ic : Inl) (s : SL) : runL G ic c12_r6aQ s = runL G ic c12_r6a s := rfl
def c12_r7a : List AI := [⟨(some 4), none, .mv (.c (.int .i64 5))⟩]
def c12_r7aQ : List AI := c12_r7a
theorem c12_r7a_e (G : Pure) (ic : Inl) (s : SL) : runL G ic c12_r7aQ s = runL G ic c12_r7a s := rfl
def c12_r8a : List AI := [⟨(some 31), none, .mv (.t 5)⟩,
  ⟨(some 32), none, .bin .gtr (.t 31) (.c (.int .i64 0))⟩,
  ⟨(some 33), none, .mv (.t 32)⟩,
  ⟨(some 34), (some (33, true)), .faddr 0 (.t 6)⟩,
  ⟨(some 35), (some (33, true)), .load none (.t 34)⟩,
  ⟨(some 36), (some (33, true)), .mv (.t 0)⟩,
  ⟨(some 37), (some (33, true)), .mv (.t 5)⟩,
  ⟨(some 38), (some (33, true)), .bin .sub (.t 37) (.c (.int .i64 1))⟩,
  ⟨(some 39), (some (33, true)), .iaddr 5 (.t 36) (.t 38)⟩,
  ⟨(some 40), (some (33, true)), .faddr 0 (.t 39)⟩,
  ⟨(some 41), (some (33, true)), .load none (.t 40)⟩,
  ⟨(some 42), (some (33, true)), .bin .leq (.t 35) (.t 41)⟩,
  ⟨(some 43), none, .pick (.t 33) (.t 42) (.c (.bool false))⟩,
  ⟨(some 30), none, .mv (.t 43)⟩]
def c12_r8aQ : List AI := c12_r8a
theorem c12_r8a_e (G : Pure) (ic : Inl) (s : SL) : runL G ic c12_r8aQ s = runL G ic c12_r8a s := rfl
def c12_r9a : List AI := [⟨(some 4), none, .mv (.c (.int .i64 8))⟩]
def c12_r9aQ : List AI := c12_r9a
theorem c12_r9a_e (G : Pure) (ic : Inl) (s : SL) : runL G ic c12_r9aQ s = runL G ic c12_r9a s := rfl
def c12_r10a : List AI := [⟨(some 45), none, .faddr 1 (.t 6)⟩,
  ⟨(some 46), none, .load (some 4) (.t 45)⟩,
  ⟨(some 47), none, .call 192752 40 [(.t 46)] false⟩,
  ⟨(some 48), none, .bin .eql (.t 47) (.c (.int .i64 0))⟩,
  ⟨(some 44), none, .mv (.t 48)⟩]
def c12_r10aQ : List AI := c12_r10a
theorem c12_r10a_e (G : Pure) (ic : Inl) (s : SL) : runL G ic c12_r10aQ s = runL G ic c12_r10a s := rfl
def c12_r11a : List AI := [⟨(some 4), none, .mv (.c (.int .i64 11))⟩]
def c12_r11aQ : List AI := c12_r11a
theorem c12_r11a_e (G : Pure) (ic : Inl) (s : SL) : runL G ic c12_r11aQ s = runL G ic c12_r11a s := rfl
def c12_r12a : List AI := [⟨(some 49), none, .bin .add (.t 15) (.c (.int .i64 1))⟩,
  ⟨(some 15), none, .mv (.t 49)⟩]
def c12_r12aQ : List AI := c12_r12a
theorem c12_r12a_e (G : Pure) (ic : Inl) (s : SL) : runL G ic c12_r12aQ s = runL G ic c12_r12a s := rfl
def c12_b0 : ACode := .seq (.reg [] c12_r4aQ []) (.seq (.cond (.t 16) (.skip) (.exit 0)) (.seq (.block none 1 (.seq (.reg [] c12_r5aQ []) (.block none 2 (.seq (.reg [] c12_r6aQ []) (.cond (.t 20) (.seq (.reg [] c12_r7aQ []) (.ret c12_kr)) (.seq (.reg [] c12_r8aQ []) (.cond (.t 30) (.seq (.reg [] c12_r9aQ []) (.ret c12_kr)) (.seq (.reg [] c12_r10aQ []) (.cond (.t 44) (.seq (.reg [] c12_r11aQ []) (.ret c12_kr)) (.skip)))))))))) (.reg [] c12_r12aQ [])))
def c12_b0Q : ACode := c12_b0
theorem c12_b0_e (G : Pure) (ic : Inl) (n : Nat) (s : SL) : evalC G ic n c12_b0Q s = evalC G ic n c12_b0 s := rfl
def c12_k0 : Keep := { slots := [0, 1, 13, 14, 15], drops := [192096], adopt := [] }
def c12_e0 : Keep := { slots := [], drops := [192096] }
def c12_r13a : List AI := [⟨(some 4), none, .mv (.c (.int .i64 0))⟩]
def c12_r13aQ : List AI := c12_r13a
theorem c12_r13a_e (G : Pure) (ic : Inl) (s : SL) : runL G ic c12_r13aQ s = runL G ic c12_r13a s := rfl
def c12 : ACode := .seq (.reg [] c12_r0aQ []) (.seq (.seq (.reg [] c12_r1aQ []) (.cond (.t 12) (.seq (.reg [] c12_r2aQ []) (.ret c12_kr)) (.skip))) (.seq (.seq (.reg [] c12_r3aQ []) (.block (some c12_e0) 0 (.loop c12_k0 c12_b0Q))) (.seq (.reg [] c12_r13aQ []) (.ret c12_kr))))
def c12F : AFun := { params := 2, code := c12, results := [.tmp 4] }
attribute [simp] c12_kr c12_r0a_e c12_r0a c12_r1a_e c12_r1a c12_r2a_e c12_r2a c12_r3a_e c12_r3a c12_r4a_e c12_r4a c12_r5a_e c12_r5a c12_r6a_e c12_r6a c12_r7a_e c12_r7a c12_r8a_e c12_r8a c12_r9a_e c12_r9a c12_r10a_e c12_r10a c12_r11a_e c12_r11a c12_r12a_e c12_r12a c12_b0_e c12_b0 c12_k0 c12_e0 c12_r13a_e c12_r13a c12 c12F
theorem c12_ok : IsFun Try.prog ks 12 c12F := by unfold IsFun; kernel_rfl
/-! pairing/pairingref1.Validate -/
def c13_kr : Option Keep := some { slots := [4], drops := [] }
def c13_r0a : List AI := [⟨(some 4), none, .mv (.c (.int .i64 0))⟩]
def c13_r0aQ : List AI := c13_r0a
theorem c13_r0a_e (G : Pure) (ic : Inl) (s : SL) : runL G ic c13_r0aQ s = runL G ic c13_r0a s := rfl
def c13_r1a : List AI := [⟨(some 6), none, .mv (.t 1)⟩,
  ⟨(some 7), none, .bin .lss (.t 6) (.c (.int .i64 0))⟩,
  ⟨(some 8), none, .mv (.t 7)⟩,
  ⟨(some 9), (some (8, false)), .mv (.t 1)⟩,
  ⟨(some 10), (some (8, false)), .bin .gtr (.t 9) (.c (.int .i64 4096))⟩,
  ⟨(some 11), none, .pick (.t 8) (.c (.bool true)) (.t 10)⟩]
def c13_r1aQ : List AI := c13_r1a
theorem c13_r1a_e (G : Pure) (ic : Inl) (s : SL) : runL G ic c13_r1aQ s = runL G ic c13_r1a s := rfl
def c13_r2a : List AI := [⟨(some 4), none, .mv (.c (.int .i64 5))⟩]
def c13_r2aQ : List AI := c13_r2a
theorem c13_r2a_e (G : Pure) (ic : Inl) (s : SL) : runL G ic c13_r2aQ s = runL G ic c13_r2a s := rfl
def c13_r3a : List AI := [⟨(some 5), none, .mv (.c (.int .i64 0))⟩]
def c13_r3aQ : List AI := c13_r3a
theorem c13_r3a_e (G : Pure) (ic : Inl) (s : SL) : runL G ic c13_r3aQ s = runL G ic c13_r3a s := rfl
def c13_r4a : List AI := [⟨(some 12), none, .mv (.t 5)⟩,
  ⟨(some 13), none, .mv (.t 0)⟩,
  ⟨(some 14), none, .len (.t 13)⟩,
  ⟨(some 15), none, .bin .lss (.t 12) (.t 14)⟩]
def c13_r4aQ : List AI := c13_r4a
theorem c13_r4a_e (G : Pure) (ic : Inl) (s : SL) : runL G ic c13_r4aQ s = runL G ic c13_r4a s := rfl
def c13_r6a : List AI := [⟨(some 18), none, .mv (.t 0)⟩,
  ⟨(some 19), none, .mv (.t 5)⟩,
  ⟨(some 20), none, .iaddr 5 (.t 18) (.t 19)⟩,
  ⟨(some 21), none, .faddr 0 (.t 20)⟩,
  ⟨(some 22), none, .load none (.t 21)⟩,
  ⟨(some 23), none, .bin .lss (.t 22) (.c (.int .i64 0))⟩,
  ⟨(some 24), none, .mv (.t 23)⟩,
  ⟨(some 25), (some (24, false)), .mv (.t 0)⟩,
  ⟨(some 26), (some (24, false)), .mv (.t 5)⟩,
  ⟨(some 27), (some (24, false)), .iaddr 5 (.t 25) (.t 26)⟩,
  ⟨(some 28), (some (24, false)), .faddr 0 (.t 27)⟩,
  ⟨(some 29), (some (24, false)), .load none (.t 28)⟩,
  ⟨(some 30), (some (24, false)), .mv (.t 1)⟩,
  ⟨(some 31), (some (24, false)), .bin .geq (.t 29) (.t 30)⟩,
  ⟨(some 32), none, .pick (.t 24) (.c (.bool true)) (.t 31)⟩]
def c13_r6aQ : List AI := c13_r6a
theorem c13_r6a_e (G : Pure) (ic : Inl) (s : SL) : runL G ic c13_r6aQ s = runL G ic c13_r6a s := rfl
def c13_r7a : List AI := [⟨(some 4), none, .mv (.c (.int .i64 5))⟩]
def c13_r7aQ : List AI := c13_r7a
theorem c13_r7a_e (G : Pure) (ic : Inl) (s : SL) : runL G ic c13_r7aQ s = runL G ic c13_r7a s := rfl
def c13_r8a : List AI := [⟨(some 33), none, .mv (.t 5)⟩,
  ⟨(some 34), none, .bin .gtr (.t 33) (.c (.int .i64 0))⟩,
  ⟨(some 35), none, .mv (.t 34)⟩,
  ⟨(some 36), (some (35, true)), .mv (.t 0)⟩,
  ⟨(some 37), (some (35, true)), .mv (.t 5)⟩,
  ⟨(some 38), (some (35, true)), .iaddr 5 (.t 36) (.t 37)⟩,
  ⟨(some 39), (some (35, true)), .faddr 0 (.t 38)⟩,
  ⟨(some 40), (some (35, true)), .load none (.t 39)⟩,
  ⟨(some 41), (some (35, true)), .mv (.t 0)⟩,
  ⟨(some 42), (some (35, true)), .mv (.t 5)⟩,
  ⟨(some 43), (some (35, true)), .bin .sub (.t 42) (.c (.int .i64 1))⟩,
  ⟨(some 44), (some (35, true)), .iaddr 5 (.t 41) (.t 43)⟩,
  ⟨(some 45), (some (35, true)), .faddr 0 (.t 44)⟩,
  ⟨(some 46), (some (35, true)), .load none (.t 45)⟩,
  ⟨(some 47), (some (35, true)), .bin .leq (.t 40) (.t 46)⟩,
  ⟨(some 48), none, .pick (.t 35) (.t 47) (.c (.bool false))⟩]
def c13_r8aQ : List AI := c13_r8a
theorem c13_r8a_e (G : Pure) (ic : Inl) (s : SL) : runL G ic c13_r8aQ s = runL G ic c13_r8a s := rfl
def c13_r9a : List AI := [⟨(some 4), none, .mv (.c (.int .i64 8))⟩]
def c13_r9aQ : List AI := c13_r9a
theorem c13_r9a_e (G : Pure) (ic : Inl) (s : SL) : runL G ic c13_r9aQ s = runL G ic c13_r9a s := rfl
def c13_r10a : List AI := [⟨(some 49), none, .mv (.t 0)⟩,
  ⟨(some 50), none, .mv (.t 5)⟩,
  ⟨(some 51), none, .iaddr 5 (.t 49) (.t 50)⟩,
  ⟨(some 52), none, .faddr 1 (.t 51)⟩,
  ⟨(some 53), none, .load (some 4) (.t 52)⟩,
  ⟨(some 54), none, .call 208864 41 [(.t 53)] false⟩,
  ⟨(some 55), none, .bin .eql (.t 54) (.c (.int .i64 0))⟩]
def c13_r10aQ : List AI := c13_r10a
theorem c13_r10a_e (G : Pure) (ic : Inl) (s : SL) : runL G ic c13_r10aQ s = runL G ic c13_r10a s := rfl
def c13_r11a : List AI := [⟨(some 4), none, .mv (.c (.int .i64 11))⟩]
def c13_r11aQ : List AI := c13_r11a
theorem c13_r11a_e (G : Pure) (ic : Inl) (s : SL) : runL G ic c13_r11aQ s = runL G ic c13_r11a s := rfl
def c13_r5a : List AI := [⟨(some 16), none, .mv (.t 5)⟩,
  ⟨(some 17), none, .bin .add (.t 16) (.c (.int .i64 1))⟩,
  ⟨(some 5), none, .mv (.t 17)⟩]
def c13_r5aQ : List AI := c13_r5a
theorem c13_r5a_e (G : Pure) (ic : Inl) (s : SL) : runL G ic c13_r5aQ s = runL G ic c13_r5a s := rfl
def c13_b0 : ACode := .seq (.seq (.reg [] c13_r4aQ []) (.cond (.t 15) (.skip) (.exit 0))) (.seq (.block none 1 (.seq (.seq (.reg [] c13_r6aQ []) (.cond (.t 32) (.seq (.reg [] c13_r7aQ []) (.ret c13_kr)) (.skip))) (.seq (.seq (.reg [] c13_r8aQ []) (.cond (.t 48) (.seq (.reg [] c13_r9aQ []) (.ret c13_kr)) (.skip))) (.seq (.reg [] c13_r10aQ []) (.cond (.t 55) (.seq (.reg [] c13_r11aQ []) (.ret c13_kr)) (.skip)))))) (.reg [] c13_r5aQ []))
def c13_b0Q : ACode := c13_b0
theorem c13_b0_e (G : Pure) (ic : Inl) (n : Nat) (s : SL) : evalC G ic n c13_b0Q s = evalC G ic n c13_b0 s := rfl
def c13_k0 : Keep := { slots := [0, 1, 5], drops := [], adopt := [] }
def c13_e0 : Keep := { slots := [], drops := [] }
def c13_r12a : List AI := [⟨(some 4), none, .mv (.c (.int .i64 0))⟩]
def c13_r12aQ : List AI := c13_r12a
theorem c13_r12a_e (G : Pure) (ic : Inl) (s : SL) : runL G ic c13_r12aQ s = runL G ic c13_r12a s := rfl
def c13 : ACode := .seq (.reg [] c13_r0aQ []) (.seq (.seq (.reg [] c13_r1aQ []) (.cond (.t 11) (.seq (.reg [] c13_r2aQ []) (.ret c13_kr)) (.skip))) (.seq (.seq (.reg [] c13_r3aQ []) (.block (some c13_e0) 0 (.loop c13_k0 c13_b0Q))) (.seq (.reg [] c13_r12aQ []) (.ret c13_kr))))
def c13F : AFun := { params := 2, code := c13, results := [.tmp 4] }
attribute [simp] c13_kr c13_r0a_e c13_r0a c13_r1a_e c13_r1a c13_r2a_e c13_r2a c13_r3a_e c13_r3a c13_r4a_e c13_r4a c13_r6a_e c13_r6a c13_r7a_e c13_r7a c13_r8a_e c13_r8a c13_r9a_e c13_r9a c13_r10a_e c13_r10a c13_r11a_e c13_r11a c13_r5a_e c13_r5a c13_b0_e c13_b0 c13_k0 c13_e0 c13_r12a_e c13_r12a c13 c13F
theorem c13_ok : IsFun Try.prog ks 13 c13F := by unfold IsFun; kernel_rfl
/-! pairing/pairinglaw2.Light -/
def c14_kr : Option Keep := some { slots := [2], drops := [] }
def c14_r0a : List AI := [⟨(some 2), none, .mv (.c (.bool false))⟩]
def c14_r0aQ : List AI := c14_r0a
theorem c14_r0a_e (G : Pure) (ic : Inl) (s : SL) : runL G ic c14_r0aQ s = runL G ic c14_r0a s := rfl
def c14_r1a : List AI := [⟨(some 3), none, .mv (.c (.int .i64 0))⟩]
def c14_r1aQ : List AI := c14_r1a
theorem c14_r1a_e (G : Pure) (ic : Inl) (s : SL) : runL G ic c14_r1aQ s = runL G ic c14_r1a s := rfl
def c14_r2a : List AI := [⟨(some 4), none, .mv (.t 3)⟩,
  ⟨(some 5), none, .mv (.t 0)⟩,
  ⟨(some 6), none, .len (.t 5)⟩,
  ⟨(some 7), none, .bin .lss (.t 4) (.t 6)⟩]
def c14_r2aQ : List AI := c14_r2a
theorem c14_r2a_e (G : Pure) (ic : Inl) (s : SL) : runL G ic c14_r2aQ s = runL G ic c14_r2a s := rfl
def c14_r4a : List AI := [⟨(some 10), none, .mv (.t 0)⟩,
  ⟨(some 11), none, .mv (.t 3)⟩,
  ⟨(some 12), none, .iaddr 4 (.t 10) (.t 11)⟩,
  ⟨(some 13), none, .faddr 0 (.t 12)⟩,
  ⟨(some 14), none, .load (some 2) (.t 13)⟩,
  ⟨(some 15), none, .mv (.t 0)⟩,
  ⟨(some 16), none, .mv (.t 3)⟩,
  ⟨(some 17), none, .iaddr 4 (.t 15) (.t 16)⟩,
  ⟨(some 18), none, .faddr 2 (.t 17)⟩,
  ⟨(some 19), none, .load (some 2) (.t 18)⟩,
  ⟨(some 20), none, .bslice 31 2 2 [.bool false, .imm true 1 []] [(0, (.t 14)), (1, (.t 19))]⟩,
  ⟨(some 21), none, .call 224336 42 [(.t 20)] false⟩,
  ⟨(some 22), none, .un .not (.t 21)⟩,
  ⟨(some 23), none, .mv (.t 22)⟩,
  ⟨(some 24), (some (23, false)), .mv (.t 0)⟩,
  ⟨(some 25), (some (23, false)), .mv (.t 3)⟩,
  ⟨(some 26), (some (23, false)), .iaddr 4 (.t 24) (.t 25)⟩,
  ⟨(some 27), (some (23, false)), .faddr 0 (.t 26)⟩,
  ⟨(some 28), (some (23, false)), .faddr 1 (.t 27)⟩,
  ⟨(some 29), (some (23, false)), .load none (.t 28)⟩,
  ⟨(some 30), (some (23, false)), .len (.t 29)⟩,
  ⟨(some 31), (some (23, false)), .bin .gtr (.t 30) (.c (.int .i64 12))⟩,
  ⟨(some 32), none, .pick (.t 23) (.c (.bool true)) (.t 31)⟩,
  ⟨(some 33), none, .mv (.t 32)⟩,
  ⟨(some 34), (some (33, false)), .mv (.t 0)⟩,
  ⟨(some 35), (some (33, false)), .mv (.t 3)⟩,
  ⟨(some 36), (some (33, false)), .iaddr 4 (.t 34) (.t 35)⟩,
  ⟨(some 37), (some (33, false)), .faddr 2 (.t 36)⟩,
  ⟨(some 38), (some (33, false)), .faddr 1 (.t 37)⟩,
  ⟨(some 39), (some (33, false)), .load none (.t 38)⟩,
  ⟨(some 40), (some (33, false)), .len (.t 39)⟩,
  ⟨(some 41), (some (33, false)), .bin .gtr (.t 40) (.c (.int .i64 12))⟩,
  ⟨(some 42), none, .pick (.t 33) (.c (.bool true)) (.t 41)⟩]
def c14_r4aQ : List AI := c14_r4a
theorem c14_r4a_e (G : Pure) (ic : Inl) (s : SL) : runL G ic c14_r4aQ s = runL G ic c14_r4a s := rfl
def c14_r5a : List AI := [⟨(some 2), none, .mv (.c (.bool false))⟩]
def c14_r5aQ : List AI := c14_r5a
theorem c14_r5a_e (G : Pure) (ic : Inl) (s : SL) : runL G ic c14_r5aQ s = runL G ic c14_r5a s := rfl
def c14_r3a : List AI := [⟨(some 8), none, .mv (.t 3)⟩,
  ⟨(some 9), none, .bin .add (.t 8) (.c (.int .i64 1))⟩,
  ⟨(some 3), none, .mv (.t 9)⟩]
def c14_r3aQ : List AI := c14_r3a
theorem c14_r3a_e (G : Pure) (ic : Inl) (s : SL) : runL G ic c14_r3aQ s = runL G ic c14_r3a s := rfl
def c14_b0 : ACode := .seq (.seq (.reg [] c14_r2aQ []) (.cond (.t 7) (.skip) (.exit 0))) (.seq (.block none 1 (.seq (.reg [] c14_r4aQ []) (.cond (.t 42) (.seq (.reg [] c14_r5aQ []) (.ret c14_kr)) (.skip)))) (.reg [] c14_r3aQ []))
def c14_b0Q : ACode := c14_b0
theorem c14_b0_e (G : Pure) (ic : Inl) (n : Nat) (s : SL) : evalC G ic n c14_b0Q s = evalC G ic n c14_b0 s := rfl
def c14_k0 : Keep := { slots := [0, 3], drops := [], adopt := [] }
def c14_e0 : Keep := { slots := [0], drops := [] }
def c14_r6a : List AI := [⟨(some 43), none, .mv (.t 0)⟩,
  ⟨(some 44), none, .len (.t 43)⟩,
  ⟨(some 45), none, .bin .lss (.t 44) (.c (.int .i64 20))⟩,
  ⟨(some 2), none, .mv (.t 45)⟩]
def c14_r6aQ : List AI := c14_r6a
theorem c14_r6a_e (G : Pure) (ic : Inl) (s : SL) : runL G ic c14_r6aQ s = runL G ic c14_r6a s := rfl
def c14 : ACode := .seq (.reg [] c14_r0aQ []) (.seq (.seq (.reg [] c14_r1aQ []) (.block (some c14_e0) 0 (.loop c14_k0 c14_b0Q))) (.seq (.reg [] c14_r6aQ []) (.ret c14_kr)))
def c14F : AFun := { params := 1, code := c14, results := [.tmp 2] }
attribute [simp] c14_kr c14_r0a_e c14_r0a c14_r1a_e c14_r1a c14_r2a_e c14_r2a c14_r4a_e c14_r4a c14_r5a_e c14_r5a c14_r3a_e c14_r3a c14_b0_e c14_b0 c14_k0 c14_e0 c14_r6a_e c14_r6a c14 c14F
theorem c14_ok : IsFun Try.prog ks 14 c14F := by unfold IsFun; kernel_rfl
/-! pairing/pairinglaw3.small -/
def c15_kr : Option Keep := some { slots := [2], drops := [] }
def c15_r0a : List AI := [⟨(some 2), none, .mv (.c (.bool false))⟩]
def c15_r0aQ : List AI := c15_r0a
theorem c15_r0a_e (G : Pure) (ic : Inl) (s : SL) : runL G ic c15_r0aQ s = runL G ic c15_r0a s := rfl
def c15_r1a : List AI := [⟨(some 3), none, .mv (.t 0)⟩,
  ⟨(some 4), none, .bin .leq (.t 3) (.c (.int .i64 60))⟩,
  ⟨(some 5), none, .mv (.t 4)⟩,
  ⟨(some 6), (some (5, false)), .mv (.t 0)⟩,
  ⟨(some 7), (some (5, false)), .bin .gtr (.t 6) (.c (.int .i64 4096))⟩,
  ⟨(some 8), none, .pick (.t 5) (.c (.bool true)) (.t 7)⟩,
  ⟨(some 2), none, .mv (.t 8)⟩]
def c15_r1aQ : List AI := c15_r1a
theorem c15_r1a_e (G : Pure) (ic : Inl) (s : SL) : runL G ic c15_r1aQ s = runL G ic c15_r1a s := rfl
def c15 : ACode := .seq (.reg [] c15_r0aQ []) (.seq (.reg [] c15_r1aQ []) (.ret c15_kr))
def c15F : AFun := { params := 1, code := c15, results := [.tmp 2] }
attribute [simp] c15_kr c15_r0a_e c15_r0a c15_r1a_e c15_r1a c15 c15F
theorem c15_ok : IsFun Try.prog ks 15 c15F := by unfold IsFun; kernel_rfl
/-! pairing/sparse.AddScaled -/
def c16_kr : Option Keep := some { slots := [8, 9], drops := [256096, 256176] }
def c16_r0a : List AI := [⟨(some 6), none, .box 256096 33 4 (.t 2)⟩,
  ⟨(some 8), none, .mv (.c (.imm true 5 []))⟩,
  ⟨(some 9), none, .mv (.c (.int .i64 0))⟩]
def c16_r0aQ : List AI := c16_r0a
theorem c16_r0a_e (G : Pure) (ic : Inl) (s : SL) : runL G ic c16_r0aQ s = runL G ic c16_r0a s := rfl
def c16_r1a : List AI := [⟨(some 13), none, .mv (.t 0)⟩,
  ⟨(some 14), none, .mv (.t 1)⟩,
  ⟨(some 15), none, .mv (.t 3)⟩,
  ⟨(some 16), none, .call 256256 43 [(.t 13), (.t 14), (.t 15)] false⟩,
  ⟨(some 10), none, .mv (.t 16)⟩]
def c16_r1aQ : List AI := c16_r1a
theorem c16_r1a_e (G : Pure) (ic : Inl) (s : SL) : runL G ic c16_r1aQ s = runL G ic c16_r1a s := rfl
def c16_r2a : List AI := [⟨(some 17), none, .mv (.t 10)⟩,
  ⟨(some 18), none, .bin .neq (.t 17) (.c (.int .i64 0))⟩]
def c16_r2aQ : List AI := c16_r2a
theorem c16_r2a_e (G : Pure) (ic : Inl) (s : SL) : runL G ic c16_r2aQ s = runL G ic c16_r2a s := rfl
def c16_r3a : List AI := [⟨(some 19), none, .mv (.t 10)⟩,
  ⟨(some 8), none, .mv (.c (.imm true 5 []))⟩,
  ⟨(some 9), none, .mv (.t 19)⟩]
def c16_r3aQ : List AI := c16_r3a
theorem c16_r3a_e (G : Pure) (ic : Inl) (s : SL) : runL G ic c16_r3aQ s = runL G ic c16_r3a s := rfl
def c16_r4a : List AI := [⟨(some 11), none, .alloc 256176 23 [.imm true 5 []]⟩]
def c16_r4aQ : List AI := c16_r4a
theorem c16_r4a_e (G : Pure) (ic : Inl) (s : SL) : runL G ic c16_r4aQ s = runL G ic c16_r4a s := rfl
def c16_r5a : List AI := [⟨(some 20), none, .mkfn 44 [(.t 11)]⟩,
  ⟨(some 12), none, .mv (.t 20)⟩]
def c16_r5aQ : List AI := c16_r5a
theorem c16_r5a_e (G : Pure) (ic : Inl) (s : SL) : runL G ic c16_r5aQ s = runL G ic c16_r5a s := rfl
def c16_r6a : List AI := [⟨(some 21), none, .mv (.t 0)⟩,
  ⟨(some 22), none, .len (.t 21)⟩,
  ⟨(some 23), none, .bin .gtr (.t 22) (.c (.int .i64 0))⟩,
  ⟨(some 24), none, .mv (.t 23)⟩,
  ⟨(some 25), (some (24, false)), .mv (.t 1)⟩,
  ⟨(some 26), (some (24, false)), .len (.t 25)⟩,
  ⟨(some 27), (some (24, false)), .bin .gtr (.t 26) (.c (.int .i64 0))⟩,
  ⟨(some 28), none, .pick (.t 24) (.c (.bool true)) (.t 27)⟩]
def c16_r6aQ : List AI := c16_r6a
theorem c16_r6a_e (G : Pure) (ic : Inl) (s : SL) : runL G ic c16_r6aQ s = runL G ic c16_r6a s := rfl
def c16_r9a : List AI := [⟨(some 51), none, .mv (.t 1)⟩,
  ⟨(some 52), none, .len (.t 51)⟩,
  ⟨(some 53), none, .bin .eql (.t 52) (.c (.int .i64 0))⟩,
  ⟨(some 54), none, .mv (.t 53)⟩,
  ⟨(some 55), (some (54, false)), .mv (.t 0)⟩,
  ⟨(some 56), (some (54, false)), .len (.t 55)⟩,
  ⟨(some 57), (some (54, false)), .bin .gtr (.t 56) (.c (.int .i64 0))⟩,
  ⟨(some 58), (some (54, false)), .mv (.t 57)⟩,
  ⟨(some 59), (some (58, true)), .mv (.t 0)⟩,
  ⟨(some 60), (some (58, true)), .iaddr 5 (.t 59) (.c (.int .i64 0))⟩,
  ⟨(some 61), (some (58, true)), .faddr 0 (.t 60)⟩,
  ⟨(some 62), (some (58, true)), .load none (.t 61)⟩,
  ⟨(some 63), (some (58, true)), .mv (.t 1)⟩,
  ⟨(some 64), (some (58, true)), .iaddr 5 (.t 63) (.c (.int .i64 0))⟩,
  ⟨(some 65), (some (58, true)), .faddr 0 (.t 64)⟩,
  ⟨(some 66), (some (58, true)), .load none (.t 65)⟩,
  ⟨(some 67), (some (58, true)), .bin .lss (.t 62) (.t 66)⟩,
  ⟨(some 68), (some (54, false)), .pick (.t 58) (.t 67) (.c (.bool false))⟩,
  ⟨(some 69), none, .pick (.t 54) (.c (.bool true)) (.t 68)⟩,
  ⟨(some 50), none, .mv (.t 69)⟩]
def c16_r9aQ : List AI := c16_r9a
theorem c16_r9a_e (G : Pure) (ic : Inl) (s : SL) : runL G ic c16_r9aQ s = runL G ic c16_r9a s := rfl
def c16_r10a : List AI := [⟨(some 70), none, .mv (.t 12)⟩,
  ⟨(some 71), none, .mv (.t 0)⟩,
  ⟨(some 72), none, .iaddr 5 (.t 71) (.c (.int .i64 0))⟩,
  ⟨(some 73), none, .faddr 0 (.t 72)⟩,
  ⟨(some 74), none, .load none (.t 73)⟩,
  ⟨(some 75), none, .mv (.t 0)⟩,
  ⟨(some 76), none, .iaddr 5 (.t 75) (.c (.int .i64 0))⟩,
  ⟨(some 77), none, .faddr 1 (.t 76)⟩,
  ⟨(some 78), none, .load (some 4) (.t 77)⟩]
def c16_r10aQ : List AI := c16_r10a
theorem c16_r10a_e (G : Pure) (ic : Inl) (s : SL) : runL G ic c16_r10aQ s = runL G ic c16_r10a s := rfl
def c16_r10b : List AI := [⟨(some 79), none, .ccall (.t 70) [(.t 74), (.t 78)]⟩]
def c16_r10bQ : List AI := c16_r10b
theorem c16_r10b_e (G : Pure) (ic : Inl) (s : SL) : runL G ic c16_r10bQ s = runL G ic c16_r10b s := rfl
def c16_r11a : List AI := [⟨(some 80), none, .mv (.t 0)⟩,
  ⟨(some 81), none, .slice 5 (.t 80) (some (.c (.int .i64 1))) none none⟩,
  ⟨(some 0), none, .mv (.t 81)⟩]
def c16_r11aQ : List AI := c16_r11a
theorem c16_r11a_e (G : Pure) (ic : Inl) (s : SL) : runL G ic c16_r11aQ s = runL G ic c16_r11a s := rfl
def c16_r12a : List AI := [⟨(some 83), none, .mv (.t 0)⟩,
  ⟨(some 84), none, .len (.t 83)⟩,
  ⟨(some 85), none, .bin .eql (.t 84) (.c (.int .i64 0))⟩,
  ⟨(some 86), none, .mv (.t 85)⟩,
  ⟨(some 87), (some (86, false)), .mv (.t 1)⟩,
  ⟨(some 88), (some (86, false)), .iaddr 5 (.t 87) (.c (.int .i64 0))⟩,
  ⟨(some 89), (some (86, false)), .faddr 0 (.t 88)⟩,
  ⟨(some 90), (some (86, false)), .load none (.t 89)⟩,
  ⟨(some 91), (some (86, false)), .mv (.t 0)⟩,
  ⟨(some 92), (some (86, false)), .iaddr 5 (.t 91) (.c (.int .i64 0))⟩,
  ⟨(some 93), (some (86, false)), .faddr 0 (.t 92)⟩,
  ⟨(some 94), (some (86, false)), .load none (.t 93)⟩,
  ⟨(some 95), (some (86, false)), .bin .lss (.t 90) (.t 94)⟩,
  ⟨(some 96), none, .pick (.t 86) (.c (.bool true)) (.t 95)⟩,
  ⟨(some 82), none, .mv (.t 96)⟩]
def c16_r12aQ : List AI := c16_r12a
theorem c16_r12a_e (G : Pure) (ic : Inl) (s : SL) : runL G ic c16_r12aQ s = runL G ic c16_r12a s := rfl
def c16_r13a : List AI := [⟨(some 97), none, .mv (.t 12)⟩,
  ⟨(some 98), none, .mv (.t 1)⟩,
  ⟨(some 99), none, .iaddr 5 (.t 98) (.c (.int .i64 0))⟩,
  ⟨(some 100), none, .faddr 0 (.t 99)⟩,
  ⟨(some 101), none, .load none (.t 100)⟩,
  ⟨(some 102), none, .load (some 4) (.t 6)⟩,
  ⟨(some 103), none, .mv (.t 1)⟩,
  ⟨(some 104), none, .iaddr 5 (.t 103) (.c (.int .i64 0))⟩,
  ⟨(some 105), none, .faddr 1 (.t 104)⟩,
  ⟨(some 106), none, .load (some 4) (.t 105)⟩,
  ⟨(some 107), none, .call 257712 46 [(.t 102), (.t 106)] false⟩]
def c16_r13aQ : List AI := c16_r13a
theorem c16_r13a_e (G : Pure) (ic : Inl) (s : SL) : runL G ic c16_r13aQ s = runL G ic c16_r13a s := rfl
def c16_r13b : List AI := [⟨(some 108), none, .ccall (.t 97) [(.t 101), (.t 107)]⟩]
def c16_r13bQ : List AI := c16_r13b
theorem c16_r13b_e (G : Pure) (ic : Inl) (s : SL) : runL G ic c16_r13bQ s = runL G ic c16_r13b s := rfl
def c16_r14a : List AI := [⟨(some 109), none, .mv (.t 1)⟩,
  ⟨(some 110), none, .slice 5 (.t 109) (some (.c (.int .i64 1))) none none⟩,
  ⟨(some 1), none, .mv (.t 110)⟩]
def c16_r14aQ : List AI := c16_r14a
theorem c16_r14a_e (G : Pure) (ic : Inl) (s : SL) : runL G ic c16_r14aQ s = runL G ic c16_r14a s := rfl
def c16_r7a : List AI := [⟨(some 29), none, .mv (.t 12)⟩,
  ⟨(some 30), none, .mv (.t 0)⟩,
  ⟨(some 31), none, .iaddr 5 (.t 30) (.c (.int .i64 0))⟩,
  ⟨(some 32), none, .faddr 0 (.t 31)⟩,
  ⟨(some 33), none, .load none (.t 32)⟩,
  ⟨(some 34), none, .mv (.t 0)⟩,
  ⟨(some 35), none, .iaddr 5 (.t 34) (.c (.int .i64 0))⟩,
  ⟨(some 36), none, .faddr 1 (.t 35)⟩,
  ⟨(some 37), none, .load (some 4) (.t 36)⟩,
  ⟨(some 38), none, .load (some 4) (.t 6)⟩,
  ⟨(some 39), none, .mv (.t 1)⟩,
  ⟨(some 40), none, .iaddr 5 (.t 39) (.c (.int .i64 0))⟩,
  ⟨(some 41), none, .faddr 1 (.t 40)⟩,
  ⟨(some 42), none, .load (some 4) (.t 41)⟩,
  ⟨(some 43), none, .call 256688 46 [(.t 38), (.t 42)] false⟩,
  ⟨(some 44), none, .call 256704 47 [(.t 37), (.t 43)] false⟩]
def c16_r7aQ : List AI := c16_r7a
theorem c16_r7a_e (G : Pure) (ic : Inl) (s : SL) : runL G ic c16_r7aQ s = runL G ic c16_r7a s := rfl
def c16_r7b : List AI := [⟨(some 45), none, .ccall (.t 29) [(.t 33), (.t 44)]⟩]
def c16_r7bQ : List AI := c16_r7b
theorem c16_r7b_e (G : Pure) (ic : Inl) (s : SL) : runL G ic c16_r7bQ s = runL G ic c16_r7b s := rfl
def c16_r8a : List AI := [⟨(some 46), none, .mv (.t 0)⟩,
  ⟨(some 47), none, .slice 5 (.t 46) (some (.c (.int .i64 1))) none none⟩,
  ⟨(some 48), none, .mv (.t 1)⟩,
  ⟨(some 49), none, .slice 5 (.t 48) (some (.c (.int .i64 1))) none none⟩,
  ⟨(some 0), none, .mv (.t 47)⟩,
  ⟨(some 1), none, .mv (.t 49)⟩]
def c16_r8aQ : List AI := c16_r8a
theorem c16_r8a_e (G : Pure) (ic : Inl) (s : SL) : runL G ic c16_r8aQ s = runL G ic c16_r8a s := rfl
def c16_b0 : ACode := .seq (.seq (.reg [] c16_r6aQ []) (.cond (.t 28) (.skip) (.exit 0))) (.block none 1 (.block none 2 (.seq (.reg [] c16_r9aQ []) (.cond (.t 50) (.seq (.reg [] c16_r10aQ c16_r10bQ) (.reg [] c16_r11aQ [])) (.seq (.reg [] c16_r12aQ []) (.cond (.t 82) (.seq (.reg [] c16_r13aQ c16_r13bQ) (.reg [] c16_r14aQ [])) (.seq (.reg [] c16_r7aQ c16_r7bQ) (.reg [] c16_r8aQ []))))))))
def c16_b0Q : ACode := c16_b0
theorem c16_b0_e (G : Pure) (ic : Inl) (n : Nat) (s : SL) : evalC G ic n c16_b0Q s = evalC G ic n c16_b0 s := rfl
def c16_k0 : Keep := { slots := [0, 1, 6, 11, 12], drops := [], adopt := [] }
def c16_e0 : Keep := { slots := [11], drops := [] }
def c16_r15a : List AI := [⟨(some 111), none, .load none (.t 11)⟩,
  ⟨(some 8), none, .mv (.t 111)⟩,
  ⟨(some 9), none, .mv (.c (.int .i64 0))⟩]
def c16_r15aQ : List AI := c16_r15a
theorem c16_r15a_e (G : Pure) (ic : Inl) (s : SL) : runL G ic c16_r15aQ s = runL G ic c16_r15a s := rfl
def c16 : ACode := .seq (.reg [] c16_r0aQ []) (.seq (.seq (.reg [] c16_r1aQ []) (.seq (.reg [] c16_r2aQ []) (.cond (.t 18) (.seq (.reg [] c16_r3aQ []) (.ret c16_kr)) (.skip)))) (.seq (.reg [] c16_r4aQ []) (.seq (.reg [] c16_r5aQ []) (.seq (.block (some c16_e0) 0 (.loop c16_k0 c16_b0Q)) (.seq (.reg [] c16_r15aQ []) (.ret c16_kr))))))
def c16F : AFun := { params := 4, code := c16, results := [.tmp 8, .tmp 9] }
attribute [simp] c16_kr c16_r0a_e c16_r0a c16_r1a_e c16_r1a c16_r2a_e c16_r2a c16_r3a_e c16_r3a c16_r4a_e c16_r4a c16_r5a_e c16_r5a c16_r6a_e c16_r6a c16_r9a_e c16_r9a c16_r10a_e c16_r10a c16_r10b_e c16_r10b c16_r11a_e c16_r11a c16_r12a_e c16_r12a c16_r13a_e c16_r13a c16_r13b_e c16_r13b c16_r14a_e c16_r14a c16_r7a_e c16_r7a c16_r7b_e c16_r7b c16_r8a_e c16_r8a c16_b0_e c16_b0 c16_k0 c16_e0 c16_r15a_e c16_r15a c16 c16F
/-! pairing/sparse.Dot -/
def c17_kr : Option Keep := some { slots := [6, 7], drops := [272144, 272192] }
def c17_r0a : List AI := [⟨(some 6), none, .alloc 272096 33 [.bool false, .imm true 1 [], .bool false, .imm true 1 []]⟩,
  ⟨(some 7), none, .mv (.c (.int .i64 0))⟩]
def c17_r0aQ : List AI := c17_r0a
theorem c17_r0a_e (G : Pure) (ic : Inl) (s : SL) : runL G ic c17_r0aQ s = runL G ic c17_r0a s := rfl
def c17_r1a : List AI := [⟨(some 13), none, .mv (.t 0)⟩,
  ⟨(some 14), none, .mv (.t 1)⟩,
  ⟨(some 15), none, .mv (.t 2)⟩,
  ⟨(some 16), none, .call 272256 43 [(.t 13), (.t 14), (.t 15)] false⟩,
  ⟨(some 8), none, .mv (.t 16)⟩]
def c17_r1aQ : List AI := c17_r1a
theorem c17_r1a_e (G : Pure) (ic : Inl) (s : SL) : runL G ic c17_r1aQ s = runL G ic c17_r1a s := rfl
def c17_r2a : List AI := [⟨(some 17), none, .mv (.t 8)⟩,
  ⟨(some 18), none, .bin .neq (.t 17) (.c (.int .i64 0))⟩]
def c17_r2aQ : List AI := c17_r2a
theorem c17_r2a_e (G : Pure) (ic : Inl) (s : SL) : runL G ic c17_r2aQ s = runL G ic c17_r2a s := rfl
def c17_r3a : List AI := [⟨(some 19), none, .build [.bool false, .imm true 1 [], .bool false, .imm true 1 []] []⟩,
  ⟨(some 20), none, .mv (.t 8)⟩,
  ⟨none, none, .store 4 (.t 6) (.t 19)⟩,
  ⟨(some 7), none, .mv (.t 20)⟩]
def c17_r3aQ : List AI := c17_r3a
theorem c17_r3a_e (G : Pure) (ic : Inl) (s : SL) : runL G ic c17_r3aQ s = runL G ic c17_r3a s := rfl
def c17_r4a : List AI := [⟨(some 21), none, .call 272336 48 [] false⟩,
  ⟨(some 9), none, .alloc 272144 33 [.bool false, .imm true 1 [], .bool false, .imm true 1 []]⟩,
  ⟨none, none, .store 4 (.t 9) (.t 21)⟩]
def c17_r4aQ : List AI := c17_r4a
theorem c17_r4a_e (G : Pure) (ic : Inl) (s : SL) : runL G ic c17_r4aQ s = runL G ic c17_r4a s := rfl
def c17_r5a : List AI := [⟨(some 10), none, .mv (.c (.int .i64 0))⟩]
def c17_r5aQ : List AI := c17_r5a
theorem c17_r5a_e (G : Pure) (ic : Inl) (s : SL) : runL G ic c17_r5aQ s = runL G ic c17_r5a s := rfl
def c17_r6a : List AI := [⟨(some 22), none, .mv (.t 0)⟩,
  ⟨(some 23), none, .len (.t 22)⟩,
  ⟨(some 24), none, .mv (.c (.int .i64 0))⟩]
def c17_r6aQ : List AI := c17_r6a
theorem c17_r6a_e (G : Pure) (ic : Inl) (s : SL) : runL G ic c17_r6aQ s = runL G ic c17_r6a s := rfl
def c17_r7a : List AI := [⟨(some 25), none, .bin .lss (.t 24) (.t 23)⟩]
def c17_r7aQ : List AI := c17_r7a
theorem c17_r7a_e (G : Pure) (ic : Inl) (s : SL) : runL G ic c17_r7aQ s = runL G ic c17_r7a s := rfl
def c17_r8a : List AI := [⟨(some 26), none, .iaddr 5 (.t 22) (.t 24)⟩,
  ⟨(some 27), none, .load (some 5) (.t 26)⟩,
  ⟨(some 12), none, .alloc 272192 51 [.int .i64 0, .bool false, .imm true 1 [], .bool false, .imm true 1 []]⟩,
  ⟨none, none, .store 5 (.t 12) (.t 27)⟩]
def c17_r8aQ : List AI := c17_r8a
theorem c17_r8a_e (G : Pure) (ic : Inl) (s : SL) : runL G ic c17_r8aQ s = runL G ic c17_r8a s := rfl
def c17_r9a : List AI := [⟨(some 28), none, .mv (.t 10)⟩,
  ⟨(some 29), none, .mv (.t 1)⟩,
  ⟨(some 30), none, .len (.t 29)⟩,
  ⟨(some 31), none, .bin .lss (.t 28) (.t 30)⟩,
  ⟨(some 32), none, .mv (.t 31)⟩,
  ⟨(some 33), (some (32, true)), .mv (.t 1)⟩,
  ⟨(some 34), (some (32, true)), .mv (.t 10)⟩,
  ⟨(some 35), (some (32, true)), .iaddr 5 (.t 33) (.t 34)⟩,
  ⟨(some 36), (some (32, true)), .faddr 0 (.t 35)⟩,
  ⟨(some 37), (some (32, true)), .load none (.t 36)⟩,
  ⟨(some 38), (some (32, true)), .faddr 0 (.t 12)⟩,
  ⟨(some 39), (some (32, true)), .load none (.t 38)⟩,
  ⟨(some 40), (some (32, true)), .bin .lss (.t 37) (.t 39)⟩,
  ⟨(some 41), none, .pick (.t 32) (.t 40) (.c (.bool false))⟩]
def c17_r9aQ : List AI := c17_r9a
theorem c17_r9a_e (G : Pure) (ic : Inl) (s : SL) : runL G ic c17_r9aQ s = runL G ic c17_r9a s := rfl
def c17_r10a : List AI := [⟨(some 42), none, .mv (.t 10)⟩,
  ⟨(some 43), none, .bin .add (.t 42) (.c (.int .i64 1))⟩,
  ⟨(some 10), none, .mv (.t 43)⟩]
def c17_r10aQ : List AI := c17_r10a
theorem c17_r10a_e (G : Pure) (ic : Inl) (s : SL) : runL G ic c17_r10aQ s = runL G ic c17_r10a s := rfl
def c17_b0 : ACode := .seq (.seq (.reg [] c17_r9aQ []) (.cond (.t 41) (.skip) (.exit 2))) (.block none 3 (.reg [] c17_r10aQ []))
def c17_b0Q : ACode := c17_b0
theorem c17_b0_e (G : Pure) (ic : Inl) (n : Nat) (s : SL) : evalC G ic n c17_b0Q s = evalC G ic n c17_b0 s := rfl
def c17_k0 : Keep := { slots := [1, 6, 9, 10, 12, 22, 23, 24], drops := [], adopt := [] }
def c17_e0 : Keep := { slots := [1, 6, 9, 10, 12, 22, 23, 24], drops := [] }
def c17_r11a : List AI := [⟨(some 44), none, .mv (.t 10)⟩,
  ⟨(some 45), none, .mv (.t 1)⟩,
  ⟨(some 46), none, .len (.t 45)⟩,
  ⟨(some 47), none, .bin .lss (.t 44) (.t 46)⟩,
  ⟨(some 48), none, .mv (.t 47)⟩,
  ⟨(some 49), (some (48, true)), .mv (.t 1)⟩,
  ⟨(some 50), (some (48, true)), .mv (.t 10)⟩,
  ⟨(some 51), (some (48, true)), .iaddr 5 (.t 49) (.t 50)⟩,
  ⟨(some 52), (some (48, true)), .faddr 0 (.t 51)⟩,
  ⟨(some 53), (some (48, true)), .load none (.t 52)⟩,
  ⟨(some 54), (some (48, true)), .faddr 0 (.t 12)⟩,
  ⟨(some 55), (some (48, true)), .load none (.t 54)⟩,
  ⟨(some 56), (some (48, true)), .bin .eql (.t 53) (.t 55)⟩,
  ⟨(some 57), none, .pick (.t 48) (.t 56) (.c (.bool false))⟩]
def c17_r11aQ : List AI := c17_r11a
theorem c17_r11a_e (G : Pure) (ic : Inl) (s : SL) : runL G ic c17_r11aQ s = runL G ic c17_r11a s := rfl
def c17_r12a : List AI := [⟨(some 58), none, .load (some 4) (.t 9)⟩,
  ⟨(some 59), none, .faddr 1 (.t 12)⟩,
  ⟨(some 60), none, .load (some 4) (.t 59)⟩,
  ⟨(some 61), none, .mv (.t 1)⟩,
  ⟨(some 62), none, .mv (.t 10)⟩,
  ⟨(some 63), none, .iaddr 5 (.t 61) (.t 62)⟩,
  ⟨(some 64), none, .faddr 1 (.t 63)⟩,
  ⟨(some 65), none, .load (some 4) (.t 64)⟩,
  ⟨(some 66), none, .call 273056 46 [(.t 60), (.t 65)] false⟩,
  ⟨(some 67), none, .call 273072 47 [(.t 58), (.t 66)] false⟩,
  ⟨none, none, .store 4 (.t 9) (.t 67)⟩]
def c17_r12aQ : List AI := c17_r12a
theorem c17_r12a_e (G : Pure) (ic : Inl) (s : SL) : runL G ic c17_r12aQ s = runL G ic c17_r12a s := rfl
def c17_r13a : List AI := [⟨(some 68), none, .bin .add (.t 24) (.c (.int .i64 1))⟩,
  ⟨(some 24), none, .mv (.t 68)⟩]
def c17_r13aQ : List AI := c17_r13a
theorem c17_r13a_e (G : Pure) (ic : Inl) (s : SL) : runL G ic c17_r13aQ s = runL G ic c17_r13a s := rfl
def c17_b1 : ACode := .seq (.reg [] c17_r7aQ []) (.seq (.cond (.t 25) (.skip) (.exit 0)) (.seq (.block none 1 (.seq (.reg [] c17_r8aQ []) (.seq (.block (some c17_e0) 2 (.loop c17_k0 c17_b0Q)) (.seq (.reg [] c17_r11aQ []) (.cond (.t 57) (.reg [] c17_r12aQ []) (.skip)))))) (.reg [] c17_r13aQ [])))
def c17_b1Q : ACode := c17_b1
theorem c17_b1_e (G : Pure) (ic : Inl) (n : Nat) (s : SL) : evalC G ic n c17_b1Q s = evalC G ic n c17_b1 s := rfl
def c17_k1 : Keep := { slots := [1, 6, 9, 10, 22, 23, 24], drops := [272192], adopt := [] }
def c17_e1 : Keep := { slots := [6, 9], drops := [272192] }
def c17_r14a : List AI := [⟨(some 69), none, .load (some 4) (.t 9)⟩,
  ⟨none, none, .store 4 (.t 6) (.t 69)⟩,
  ⟨(some 7), none, .mv (.c (.int .i64 0))⟩]
def c17_r14aQ : List AI := c17_r14a
theorem c17_r14a_e (G : Pure) (ic : Inl) (s : SL) : runL G ic c17_r14aQ s = runL G ic c17_r14a s := rfl
def c17 : ACode := .seq (.reg [] c17_r0aQ []) (.seq (.seq (.reg [] c17_r1aQ []) (.seq (.reg [] c17_r2aQ []) (.cond (.t 18) (.seq (.reg [] c17_r3aQ []) (.ret c17_kr)) (.skip)))) (.seq (.reg [] c17_r4aQ []) (.seq (.reg [] c17_r5aQ []) (.seq (.seq (.reg [] c17_r6aQ []) (.block (some c17_e1) 0 (.loop c17_k1 c17_b1Q))) (.seq (.reg [] c17_r14aQ []) (.ret c17_kr))))))
def c17F : AFun := { params := 3, code := c17, results := [.cell 6 (some 4), .tmp 7] }
attribute [simp] c17_kr c17_r0a_e c17_r0a c17_r1a_e c17_r1a c17_r2a_e c17_r2a c17_r3a_e c17_r3a c17_r4a_e c17_r4a c17_r5a_e c17_r5a c17_r6a_e c17_r6a c17_r7a_e c17_r7a c17_r8a_e c17_r8a c17_r9a_e c17_r9a c17_r10a_e c17_r10a c17_b0_e c17_b0 c17_k0 c17_e0 c17_r11a_e c17_r11a c17_r12a_e c17_r12a c17_r13a_e c17_r13a c17_b1_e c17_b1 c17_k1 c17_e1 c17_r14a_e c17_r14a c17 c17F
theorem c17_ok : IsFun Try.prog ks 17 c17F := by unfold IsFun; kernel_rfl
/-! pairing/pairingref1.AddFrac -/
def c18_kr : Option Keep := some { slots := [4], drops := [288032, 288048] }
def c18_r0a : List AI := [⟨(some 2), none, .box 288032 33 4 (.t 0)⟩,
  ⟨(some 3), none, .box 288048 33 4 (.t 1)⟩,
  ⟨(some 4), none, .alloc 288064 33 [.bool false, .imm true 1 [], .bool false, .imm true 1 []]⟩]
def c18_r0aQ : List AI := c18_r0a
theorem c18_r0a_e (G : Pure) (ic : Inl) (s : SL) : runL G ic c18_r0aQ s = runL G ic c18_r0a s := rfl
def c18_r1a : List AI := [⟨(some 5), none, .load (some 4) (.t 2)⟩,
  ⟨(some 6), none, .call 288096 28 [(.t 5)] false⟩,
  ⟨(some 7), none, .load (some 4) (.t 3)⟩,
  ⟨(some 8), none, .call 288128 28 [(.t 7)] false⟩,
  ⟨none, none, .store 4 (.t 2) (.t 6)⟩,
  ⟨none, none, .store 4 (.t 3) (.t 8)⟩]
def c18_r1aQ : List AI := c18_r1a
theorem c18_r1a_e (G : Pure) (ic : Inl) (s : SL) : runL G ic c18_r1aQ s = runL G ic c18_r1a s := rfl
def c18_r2a : List AI := [⟨(some 9), none, .faddr 0 (.t 2)⟩,
  ⟨(some 10), none, .load (some 2) (.t 9)⟩,
  ⟨(some 11), none, .faddr 2 (.t 3)⟩,
  ⟨(some 12), none, .load (some 2) (.t 11)⟩,
  ⟨(some 13), none, .call 288208 50 [(.t 10), (.t 12)] false⟩,
  ⟨(some 14), none, .faddr 0 (.t 3)⟩,
  ⟨(some 15), none, .load (some 2) (.t 14)⟩,
  ⟨(some 16), none, .faddr 2 (.t 2)⟩,
  ⟨(some 17), none, .load (some 2) (.t 16)⟩,
  ⟨(some 18), none, .call 288288 50 [(.t 15), (.t 17)] false⟩,
  ⟨(some 19), none, .call 288304 49 [(.t 13), (.t 18)] false⟩,
  ⟨(some 20), none, .faddr 2 (.t 2)⟩,
  ⟨(some 21), none, .load (some 2) (.t 20)⟩,
  ⟨(some 22), none, .faddr 2 (.t 3)⟩,
  ⟨(some 23), none, .load (some 2) (.t 22)⟩,
  ⟨(some 24), none, .call 288384 50 [(.t 21), (.t 23)] false⟩,
  ⟨(some 25), none, .build [.bool false, .imm true 1 [], .bool false, .imm true 1 []] [(0, 2, (.t 19)), (2, 2, (.t 24))]⟩,
  ⟨(some 26), none, .call 288416 28 [(.t 25)] false⟩,
  ⟨none, none, .store 4 (.t 4) (.t 26)⟩]
def c18_r2aQ : List AI := c18_r2a
theorem c18_r2a_e (G : Pure) (ic : Inl) (s : SL) : runL G ic c18_r2aQ s = runL G ic c18_r2a s := rfl
def c18 : ACode := .seq (.reg [] c18_r0aQ []) (.seq (.reg [] c18_r1aQ []) (.seq (.reg [] c18_r2aQ []) (.ret c18_kr)))
def c18F : AFun := { params := 2, code := c18, results := [.cell 4 (some 4)] }
attribute [simp] c18_kr c18_r0a_e c18_r0a c18_r1a_e c18_r1a c18_r2a_e c18_r2a c18 c18F
/-! pairing/pairingref1.MulFrac -/
def c19_kr : Option Keep := some { slots := [4], drops := [304032, 304048] }
def c19_r0a : List AI := [⟨(some 2), none, .box 304032 33 4 (.t 0)⟩,
  ⟨(some 3), none, .box 304048 33 4 (.t 1)⟩,
  ⟨(some 4), none, .alloc 304064 33 [.bool false, .imm true 1 [], .bool false, .imm true 1 []]⟩]
def c19_r0aQ : List AI := c19_r0a
theorem c19_r0a_e (G : Pure) (ic : Inl) (s : SL) : runL G ic c19_r0aQ s = runL G ic c19_r0a s := rfl
def c19_r1a : List AI := [⟨(some 5), none, .faddr 0 (.t 2)⟩,
  ⟨(some 6), none, .load (some 2) (.t 5)⟩,
  ⟨(some 7), none, .faddr 0 (.t 3)⟩,
  ⟨(some 8), none, .load (some 2) (.t 7)⟩,
  ⟨(some 9), none, .call 304144 50 [(.t 6), (.t 8)] false⟩,
  ⟨(some 10), none, .faddr 2 (.t 2)⟩,
  ⟨(some 11), none, .load (some 2) (.t 10)⟩,
  ⟨(some 12), none, .faddr 2 (.t 3)⟩,
  ⟨(some 13), none, .load (some 2) (.t 12)⟩,
  ⟨(some 14), none, .call 304224 50 [(.t 11), (.t 13)] false⟩,
  ⟨(some 15), none, .build [.bool false, .imm true 1 [], .bool false, .imm true 1 []] [(0, 2, (.t 9)), (2, 2, (.t 14))]⟩,
  ⟨(some 16), none, .call 304256 28 [(.t 15)] false⟩,
  ⟨none, none, .store 4 (.t 4) (.t 16)⟩]
def c19_r1aQ : List AI := c19_r1a
theorem c19_r1a_e (G : Pure) (ic : Inl) (s : SL) : runL G ic c19_r1aQ s = runL G ic c19_r1a s := rfl
def c19 : ACode := .seq (.reg [] c19_r0aQ []) (.seq (.reg [] c19_r1aQ []) (.ret c19_kr))
def c19F : AFun := { params := 2, code := c19, results := [.cell 4 (some 4)] }
attribute [simp] c19_kr c19_r0a_e c19_r0a c19_r1a_e c19_r1a c19 c19F
/-! pairing/pairingref1.SameFrac -/
def c20_kr : Option Keep := some { slots := [4], drops := [320032, 320048] }
def c20_r0a : List AI := [⟨(some 2), none, .box 320032 33 4 (.t 0)⟩,
  ⟨(some 3), none, .box 320048 33 4 (.t 1)⟩,
  ⟨(some 4), none, .mv (.c (.bool false))⟩]
def c20_r0aQ : List AI := c20_r0a
theorem c20_r0a_e (G : Pure) (ic : Inl) (s : SL) : runL G ic c20_r0aQ s = runL G ic c20_r0a s := rfl
def c20_r1a : List AI := [⟨(some 5), none, .faddr 0 (.t 2)⟩,
  ⟨(some 6), none, .load (some 2) (.t 5)⟩,
  ⟨(some 7), none, .faddr 0 (.t 3)⟩,
  ⟨(some 8), none, .load (some 2) (.t 7)⟩,
  ⟨(some 9), none, .call 320144 51 [(.t 6), (.t 8)] false⟩,
  ⟨(some 10), none, .mv (.t 9)⟩,
  ⟨(some 11), (some (10, true)), .faddr 2 (.t 2)⟩,
  ⟨(some 12), (some (10, true)), .load (some 2) (.t 11)⟩,
  ⟨(some 13), (some (10, true)), .faddr 2 (.t 3)⟩,
  ⟨(some 14), (some (10, true)), .load (some 2) (.t 13)⟩,
  ⟨(some 15), (some (10, true)), .call 320240 51 [(.t 12), (.t 14)] false⟩,
  ⟨(some 16), none, .pick (.t 10) (.t 15) (.c (.bool false))⟩,
  ⟨(some 4), none, .mv (.t 16)⟩]
def c20_r1aQ : List AI := c20_r1a
theorem c20_r1a_e (G : Pure) (ic : Inl) (s : SL) : runL G ic c20_r1aQ s = runL G ic c20_r1a s := rfl
def c20 : ACode := .seq (.reg [] c20_r0aQ []) (.seq (.reg [] c20_r1aQ []) (.ret c20_kr))
def c20F : AFun := { params := 2, code := c20, results := [.tmp 4] }
attribute [simp] c20_kr c20_r0a_e c20_r0a c20_r1a_e c20_r1a c20 c20F
theorem c20_ok : IsFun Try.prog ks 20 c20F := by unfold IsFun; kernel_rfl
/-! pairing/pairingref1.Dot -/
def c21_kr : Option Keep := some { slots := [6, 7], drops := [336160] }
def c21_r0a : List AI := [⟨(some 6), none, .alloc 336096 33 [.bool false, .imm true 1 [], .bool false, .imm true 1 []]⟩,
  ⟨(some 7), none, .mv (.c (.int .i64 0))⟩]
def c21_r0aQ : List AI := c21_r0a
theorem c21_r0a_e (G : Pure) (ic : Inl) (s : SL) : runL G ic c21_r0aQ s = runL G ic c21_r0a s := rfl
def c21_r1a : List AI := [⟨(some 12), none, .mv (.t 0)⟩,
  ⟨(some 13), none, .mv (.t 2)⟩,
  ⟨(some 14), none, .call 336224 13 [(.t 12), (.t 13)] false⟩,
  ⟨(some 8), none, .mv (.t 14)⟩]
def c21_r1aQ : List AI := c21_r1a
theorem c21_r1a_e (G : Pure) (ic : Inl) (s : SL) : runL G ic c21_r1aQ s = runL G ic c21_r1a s := rfl
def c21_r2a : List AI := [⟨(some 15), none, .mv (.t 8)⟩,
  ⟨(some 16), none, .bin .neq (.t 15) (.c (.int .i64 0))⟩]
def c21_r2aQ : List AI := c21_r2a
theorem c21_r2a_e (G : Pure) (ic : Inl) (s : SL) : runL G ic c21_r2aQ s = runL G ic c21_r2a s := rfl
def c21_r3a : List AI := [⟨(some 17), none, .build [.bool false, .imm true 1 [], .bool false, .imm true 1 []] []⟩,
  ⟨(some 18), none, .mv (.t 8)⟩,
  ⟨none, none, .store 4 (.t 6) (.t 17)⟩,
  ⟨(some 7), none, .mv (.t 18)⟩]
def c21_r3aQ : List AI := c21_r3a
theorem c21_r3a_e (G : Pure) (ic : Inl) (s : SL) : runL G ic c21_r3aQ s = runL G ic c21_r3a s := rfl
def c21_r4a : List AI := [⟨(some 19), none, .mv (.t 1)⟩,
  ⟨(some 20), none, .mv (.t 2)⟩,
  ⟨(some 21), none, .call 336336 13 [(.t 19), (.t 20)] false⟩,
  ⟨(some 9), none, .mv (.t 21)⟩]
def c21_r4aQ : List AI := c21_r4a
theorem c21_r4a_e (G : Pure) (ic : Inl) (s : SL) : runL G ic c21_r4aQ s = runL G ic c21_r4a s := rfl
def c21_r5a : List AI := [⟨(some 22), none, .mv (.t 9)⟩,
  ⟨(some 23), none, .bin .neq (.t 22) (.c (.int .i64 0))⟩]
def c21_r5aQ : List AI := c21_r5a
theorem c21_r5a_e (G : Pure) (ic : Inl) (s : SL) : runL G ic c21_r5aQ s = runL G ic c21_r5a s := rfl
def c21_r6a : List AI := [⟨(some 24), none, .build [.bool false, .imm true 1 [], .bool false, .imm true 1 []] []⟩,
  ⟨(some 25), none, .mv (.t 9)⟩,
  ⟨none, none, .store 4 (.t 6) (.t 24)⟩,
  ⟨(some 7), none, .mv (.t 25)⟩]
def c21_r6aQ : List AI := c21_r6a
theorem c21_r6a_e (G : Pure) (ic : Inl) (s : SL) : runL G ic c21_r6aQ s = runL G ic c21_r6a s := rfl
def c21_r7a : List AI := [⟨(some 26), none, .call 336416 39 [(.c (.int .i64 0))] false⟩,
  ⟨(some 10), none, .alloc 336160 33 [.bool false, .imm true 1 [], .bool false, .imm true 1 []]⟩,
  ⟨none, none, .store 4 (.t 10) (.t 26)⟩]
def c21_r7aQ : List AI := c21_r7a
theorem c21_r7a_e (G : Pure) (ic : Inl) (s : SL) : runL G ic c21_r7aQ s = runL G ic c21_r7a s := rfl
def c21_r8a : List AI := [⟨(some 11), none, .mv (.c (.int .i64 0))⟩]
def c21_r8aQ : List AI := c21_r8a
theorem c21_r8a_e (G : Pure) (ic : Inl) (s : SL) : runL G ic c21_r8aQ s = runL G ic c21_r8a s := rfl
def c21_r9a : List AI := [⟨(some 27), none, .mv (.t 11)⟩,
  ⟨(some 28), none, .mv (.t 0)⟩,
  ⟨(some 29), none, .len (.t 28)⟩,
  ⟨(some 30), none, .bin .lss (.t 27) (.t 29)⟩]
def c21_r9aQ : List AI := c21_r9a
theorem c21_r9a_e (G : Pure) (ic : Inl) (s : SL) : runL G ic c21_r9aQ s = runL G ic c21_r9a s := rfl
def c21_r11a : List AI := [⟨(some 33), none, .load (some 4) (.t 10)⟩,
  ⟨(some 34), none, .mv (.t 0)⟩,
  ⟨(some 35), none, .mv (.t 11)⟩,
  ⟨(some 36), none, .iaddr 5 (.t 34) (.t 35)⟩,
  ⟨(some 37), none, .faddr 1 (.t 36)⟩,
  ⟨(some 38), none, .load (some 4) (.t 37)⟩,
  ⟨(some 39), none, .mv (.t 1)⟩,
  ⟨(some 40), none, .mv (.t 0)⟩,
  ⟨(some 41), none, .mv (.t 11)⟩,
  ⟨(some 42), none, .iaddr 5 (.t 40) (.t 41)⟩,
  ⟨(some 43), none, .faddr 0 (.t 42)⟩,
  ⟨(some 44), none, .load none (.t 43)⟩,
  ⟨(some 45), none, .call 336720 33 [(.t 39), (.t 44)] false⟩,
  ⟨(some 46), none, .call 336736 19 [(.t 38), (.t 45)] false⟩,
  ⟨(some 47), none, .call 336752 18 [(.t 33), (.t 46)] false⟩,
  ⟨none, none, .store 4 (.t 10) (.t 47)⟩]
def c21_r11aQ : List AI := c21_r11a
theorem c21_r11a_e (G : Pure) (ic : Inl) (s : SL) : runL G ic c21_r11aQ s = runL G ic c21_r11a s := rfl
def c21_r10a : List AI := [⟨(some 31), none, .mv (.t 11)⟩,
  ⟨(some 32), none, .bin .add (.t 31) (.c (.int .i64 1))⟩,
  ⟨(some 11), none, .mv (.t 32)⟩]
def c21_r10aQ : List AI := c21_r10a
theorem c21_r10a_e (G : Pure) (ic : Inl) (s : SL) : runL G ic c21_r10aQ s = runL G ic c21_r10a s := rfl
def c21_b0 : ACode := .seq (.seq (.reg [] c21_r9aQ []) (.cond (.t 30) (.skip) (.exit 0))) (.seq (.block none 1 (.reg [] c21_r11aQ [])) (.reg [] c21_r10aQ []))
def c21_b0Q : ACode := c21_b0
theorem c21_b0_e (G : Pure) (ic : Inl) (n : Nat) (s : SL) : evalC G ic n c21_b0Q s = evalC G ic n c21_b0 s := rfl
def c21_k0 : Keep := { slots := [0, 1, 6, 10, 11], drops := [], adopt := [] }
def c21_e0 : Keep := { slots := [6, 10], drops := [] }
def c21_r12a : List AI := [⟨(some 48), none, .load (some 4) (.t 10)⟩,
  ⟨none, none, .store 4 (.t 6) (.t 48)⟩,
  ⟨(some 7), none, .mv (.c (.int .i64 0))⟩]
def c21_r12aQ : List AI := c21_r12a
theorem c21_r12a_e (G : Pure) (ic : Inl) (s : SL) : runL G ic c21_r12aQ s = runL G ic c21_r12a s := rfl
def c21 : ACode := .seq (.reg [] c21_r0aQ []) (.seq (.seq (.reg [] c21_r1aQ []) (.seq (.reg [] c21_r2aQ []) (.cond (.t 16) (.seq (.reg [] c21_r3aQ []) (.ret c21_kr)) (.skip)))) (.seq (.seq (.reg [] c21_r4aQ []) (.seq (.reg [] c21_r5aQ []) (.cond (.t 23) (.seq (.reg [] c21_r6aQ []) (.ret c21_kr)) (.skip)))) (.seq (.reg [] c21_r7aQ []) (.seq (.seq (.reg [] c21_r8aQ []) (.block (some c21_e0) 0 (.loop c21_k0 c21_b0Q))) (.seq (.reg [] c21_r12aQ []) (.ret c21_kr))))))
def c21F : AFun := { params := 3, code := c21, results := [.cell 6 (some 4), .tmp 7] }
attribute [simp] c21_kr c21_r0a_e c21_r0a c21_r1a_e c21_r1a c21_r2a_e c21_r2a c21_r3a_e c21_r3a c21_r4a_e c21_r4a c21_r5a_e c21_r5a c21_r6a_e c21_r6a c21_r7a_e c21_r7a c21_r8a_e c21_r8a c21_r9a_e c21_r9a c21_r11a_e c21_r11a c21_r10a_e c21_r10a c21_b0_e c21_b0 c21_k0 c21_e0 c21_r12a_e c21_r12a c21 c21F
/-! pairing/pairingref1.AddScaled -/
def c22_kr : Option Keep := some { slots := [8, 9], drops := [352096] }
def c22_r0a : List AI := [⟨(some 6), none, .box 352096 33 4 (.t 2)⟩,
  ⟨(some 8), none, .mv (.c (.imm true 5 []))⟩,
  ⟨(some 9), none, .mv (.c (.int .i64 0))⟩]
def c22_r0aQ : List AI := c22_r0a
theorem c22_r0a_e (G : Pure) (ic : Inl) (s : SL) : runL G ic c22_r0aQ s = runL G ic c22_r0a s := rfl
def c22_r1a : List AI := [⟨(some 17), none, .mv (.t 0)⟩,
  ⟨(some 18), none, .mv (.t 3)⟩,
  ⟨(some 19), none, .call 352304 30 [(.t 17), (.t 18)] true⟩,
  ⟨(some 16), none, .mv (.t 19)⟩,
  ⟨(some 20), none, .extract (.t 16) 0⟩,
  ⟨(some 21), none, .extract (.t 16) 1⟩,
  ⟨(some 10), none, .mv (.t 20)⟩,
  ⟨(some 11), none, .mv (.t 21)⟩]
def c22_r1aQ : List AI := c22_r1a
theorem c22_r1a_e (G : Pure) (ic : Inl) (s : SL) : runL G ic c22_r1aQ s = runL G ic c22_r1a s := rfl
def c22_r2a : List AI := [⟨(some 22), none, .mv (.t 11)⟩,
  ⟨(some 23), none, .bin .neq (.t 22) (.c (.int .i64 0))⟩]
def c22_r2aQ : List AI := c22_r2a
theorem c22_r2a_e (G : Pure) (ic : Inl) (s : SL) : runL G ic c22_r2aQ s = runL G ic c22_r2a s := rfl
def c22_r3a : List AI := [⟨(some 24), none, .mv (.t 11)⟩,
  ⟨(some 8), none, .mv (.c (.imm true 5 []))⟩,
  ⟨(some 9), none, .mv (.t 24)⟩]
def c22_r3aQ : List AI := c22_r3a
theorem c22_r3a_e (G : Pure) (ic : Inl) (s : SL) : runL G ic c22_r3aQ s = runL G ic c22_r3a s := rfl
def c22_r4a : List AI := [⟨(some 25), none, .mv (.t 1)⟩,
  ⟨(some 26), none, .mv (.t 3)⟩,
  ⟨(some 27), none, .call 352432 13 [(.t 25), (.t 26)] false⟩,
  ⟨(some 12), none, .mv (.t 27)⟩]
def c22_r4aQ : List AI := c22_r4a
theorem c22_r4a_e (G : Pure) (ic : Inl) (s : SL) : runL G ic c22_r4aQ s = runL G ic c22_r4a s := rfl
def c22_r5a : List AI := [⟨(some 28), none, .mv (.t 12)⟩,
  ⟨(some 29), none, .bin .neq (.t 28) (.c (.int .i64 0))⟩]
def c22_r5aQ : List AI := c22_r5a
theorem c22_r5a_e (G : Pure) (ic : Inl) (s : SL) : runL G ic c22_r5aQ s = runL G ic c22_r5a s := rfl
def c22_r6a : List AI := [⟨(some 30), none, .mv (.t 12)⟩,
  ⟨(some 8), none, .mv (.c (.imm true 5 []))⟩,
  ⟨(some 9), none, .mv (.t 30)⟩]
def c22_r6aQ : List AI := c22_r6a
theorem c22_r6a_e (G : Pure) (ic : Inl) (s : SL) : runL G ic c22_r6aQ s = runL G ic c22_r6a s := rfl
def c22_r7a : List AI := [⟨(some 13), none, .mv (.c (.int .i64 0))⟩]
def c22_r7aQ : List AI := c22_r7a
theorem c22_r7a_e (G : Pure) (ic : Inl) (s : SL) : runL G ic c22_r7aQ s = runL G ic c22_r7a s := rfl
def c22_r8a : List AI := [⟨(some 31), none, .mv (.t 13)⟩,
  ⟨(some 32), none, .mv (.t 1)⟩,
  ⟨(some 33), none, .len (.t 32)⟩,
  ⟨(some 34), none, .bin .lss (.t 31) (.t 33)⟩]
def c22_r8aQ : List AI := c22_r8a
theorem c22_r8a_e (G : Pure) (ic : Inl) (s : SL) : runL G ic c22_r8aQ s = runL G ic c22_r8a s := rfl
def c22_r10a : List AI := [⟨(some 37), none, .mv (.t 10)⟩,
  ⟨(some 38), none, .mv (.t 1)⟩,
  ⟨(some 39), none, .mv (.t 13)⟩,
  ⟨(some 40), none, .iaddr 5 (.t 38) (.t 39)⟩,
  ⟨(some 41), none, .faddr 0 (.t 40)⟩,
  ⟨(some 42), none, .load none (.t 41)⟩,
  ⟨(some 43), none, .mv (.t 10)⟩,
  ⟨(some 44), none, .mv (.t 1)⟩,
  ⟨(some 45), none, .mv (.t 13)⟩,
  ⟨(some 46), none, .iaddr 5 (.t 44) (.t 45)⟩,
  ⟨(some 47), none, .faddr 0 (.t 46)⟩,
  ⟨(some 48), none, .load none (.t 47)⟩,
  ⟨(some 49), none, .iaddr 4 (.t 43) (.t 48)⟩,
  ⟨(some 50), none, .load (some 4) (.t 49)⟩,
  ⟨(some 51), none, .load (some 4) (.t 6)⟩,
  ⟨(some 52), none, .mv (.t 1)⟩,
  ⟨(some 53), none, .mv (.t 13)⟩,
  ⟨(some 54), none, .iaddr 5 (.t 52) (.t 53)⟩,
  ⟨(some 55), none, .faddr 1 (.t 54)⟩,
  ⟨(some 56), none, .load (some 4) (.t 55)⟩,
  ⟨(some 57), none, .call 352912 19 [(.t 51), (.t 56)] false⟩,
  ⟨(some 58), none, .call 352928 18 [(.t 50), (.t 57)] false⟩,
  ⟨(some 59), none, .iaddr 4 (.t 37) (.t 42)⟩,
  ⟨none, none, .store 4 (.t 59) (.t 58)⟩]
def c22_r10aQ : List AI := c22_r10a
theorem c22_r10a_e (G : Pure) (ic : Inl) (s : SL) : runL G ic c22_r10aQ s = runL G ic c22_r10a s := rfl
def c22_r9a : List AI := [⟨(some 35), none, .mv (.t 13)⟩,
  ⟨(some 36), none, .bin .add (.t 35) (.c (.int .i64 1))⟩,
  ⟨(some 13), none, .mv (.t 36)⟩]
def c22_r9aQ : List AI := c22_r9a
theorem c22_r9a_e (G : Pure) (ic : Inl) (s : SL) : runL G ic c22_r9aQ s = runL G ic c22_r9a s := rfl
def c22_b0 : ACode := .seq (.seq (.reg [] c22_r8aQ []) (.cond (.t 34) (.skip) (.exit 0))) (.seq (.block none 1 (.reg [] c22_r10aQ [])) (.reg [] c22_r9aQ []))
def c22_b0Q : ACode := c22_b0
theorem c22_b0_e (G : Pure) (ic : Inl) (n : Nat) (s : SL) : evalC G ic n c22_b0Q s = evalC G ic n c22_b0 s := rfl
def c22_k0 : Keep := { slots := [1, 6, 10, 13], drops := [], adopt := [] }
def c22_e0 : Keep := { slots := [10], drops := [] }
def c22_r11a : List AI := [⟨(some 61), none, .mv (.t 10)⟩,
  ⟨(some 62), none, .call 352992 29 [(.t 61)] false⟩,
  ⟨(some 60), none, .mv (.t 62)⟩,
  ⟨(some 63), none, .extract (.t 60) 0⟩,
  ⟨(some 64), none, .extract (.t 60) 1⟩,
  ⟨(some 14), none, .mv (.t 63)⟩,
  ⟨(some 15), none, .mv (.t 64)⟩]
def c22_r11aQ : List AI := c22_r11a
theorem c22_r11a_e (G : Pure) (ic : Inl) (s : SL) : runL G ic c22_r11aQ s = runL G ic c22_r11a s := rfl
def c22_r12a : List AI := [⟨(some 65), none, .mv (.t 14)⟩,
  ⟨(some 8), none, .mv (.t 65)⟩,
  ⟨(some 9), none, .mv (.c (.int .i64 0))⟩]
def c22_r12aQ : List AI := c22_r12a
theorem c22_r12a_e (G : Pure) (ic : Inl) (s : SL) : runL G ic c22_r12aQ s = runL G ic c22_r12a s := rfl
def c22 : ACode := .seq (.reg [] c22_r0aQ []) (.seq (.reg [] c22_r1aQ []) (.seq (.seq (.reg [] c22_r2aQ []) (.cond (.t 23) (.seq (.reg [] c22_r3aQ []) (.ret c22_kr)) (.skip))) (.seq (.seq (.reg [] c22_r4aQ []) (.seq (.reg [] c22_r5aQ []) (.cond (.t 29) (.seq (.reg [] c22_r6aQ []) (.ret c22_kr)) (.skip)))) (.seq (.seq (.reg [] c22_r7aQ []) (.block (some c22_e0) 0 (.loop c22_k0 c22_b0Q))) (.seq (.reg [] c22_r11aQ []) (.seq (.reg [] c22_r12aQ []) (.ret c22_kr)))))))
def c22F : AFun := { params := 4, code := c22, results := [.tmp 8, .tmp 9] }
attribute [simp] c22_kr c22_r0a_e c22_r0a c22_r1a_e c22_r1a c22_r2a_e c22_r2a c22_r3a_e c22_r3a c22_r4a_e c22_r4a c22_r5a_e c22_r5a c22_r6a_e c22_r6a c22_r7a_e c22_r7a c22_r8a_e c22_r8a c22_r10a_e c22_r10a c22_r9a_e c22_r9a c22_b0_e c22_b0 c22_k0 c22_e0 c22_r11a_e c22_r11a c22_r12a_e c22_r12a c22 c22F
/-! pairing/sparse.Scale -/
def c23_kr : Option Keep := some { slots := [6, 7], drops := [368064] }
def c23_r0a : List AI := [⟨(some 4), none, .box 368064 33 4 (.t 1)⟩,
  ⟨(some 6), none, .mv (.c (.imm true 5 []))⟩,
  ⟨(some 7), none, .mv (.c (.int .i64 0))⟩]
def c23_r0aQ : List AI := c23_r0a
theorem c23_r0a_e (G : Pure) (ic : Inl) (s : SL) : runL G ic c23_r0aQ s = runL G ic c23_r0a s := rfl
def c23_r1a : List AI := [⟨(some 8), none, .mv (.t 0)⟩,
  ⟨(some 9), none, .load (some 4) (.t 4)⟩,
  ⟨(some 10), none, .mv (.t 2)⟩,
  ⟨(some 11), none, .call 368176 16 [(.c (.imm true 5 [])), (.t 8), (.t 9), (.t 10)] false⟩,
  ⟨(some 12), none, .extract (.t 11) 0⟩,
  ⟨(some 13), none, .extract (.t 11) 1⟩,
  ⟨(some 6), none, .mv (.t 12)⟩,
  ⟨(some 7), none, .mv (.t 13)⟩]
def c23_r1aQ : List AI := c23_r1a
theorem c23_r1a_e (G : Pure) (ic : Inl) (s : SL) : runL G ic c23_r1aQ s = runL G ic c23_r1a s := rfl
def c23 : ACode := .seq (.reg [] c23_r0aQ []) (.seq (.reg [] c23_r1aQ []) (.ret c23_kr))
def c23F : AFun := { params := 3, code := c23, results := [.tmp 6, .tmp 7] }
attribute [simp] c23_kr c23_r0a_e c23_r0a c23_r1a_e c23_r1a c23 c23F
/-! pairing/pairingref1.Scale -/
def c24_kr : Option Keep := some { slots := [6, 7], drops := [384064] }
def c24_r0a : List AI := [⟨(some 4), none, .box 384064 33 4 (.t 1)⟩,
  ⟨(some 6), none, .mv (.c (.imm true 5 []))⟩,
  ⟨(some 7), none, .mv (.c (.int .i64 0))⟩]
def c24_r0aQ : List AI := c24_r0a
theorem c24_r0a_e (G : Pure) (ic : Inl) (s : SL) : runL G ic c24_r0aQ s = runL G ic c24_r0a s := rfl
def c24_r1a : List AI := [⟨(some 8), none, .mv (.t 0)⟩,
  ⟨(some 9), none, .load (some 4) (.t 4)⟩,
  ⟨(some 10), none, .mv (.t 2)⟩,
  ⟨(some 11), none, .call 384176 22 [(.c (.imm true 5 [])), (.t 8), (.t 9), (.t 10)] false⟩,
  ⟨(some 12), none, .extract (.t 11) 0⟩,
  ⟨(some 13), none, .extract (.t 11) 1⟩,
  ⟨(some 6), none, .mv (.t 12)⟩,
  ⟨(some 7), none, .mv (.t 13)⟩]
def c24_r1aQ : List AI := c24_r1a
theorem c24_r1a_e (G : Pure) (ic : Inl) (s : SL) : runL G ic c24_r1aQ s = runL G ic c24_r1a s := rfl
def c24 : ACode := .seq (.reg [] c24_r0aQ []) (.seq (.reg [] c24_r1aQ []) (.ret c24_kr))
def c24F : AFun := { params := 3, code := c24, results := [.tmp 6, .tmp 7] }
attribute [simp] c24_kr c24_r0a_e c24_r0a c24_r1a_e c24_r1a c24 c24F
/-! pairing/pairinglaw3.same -/
def c25_kr : Option Keep := some { slots := [4], drops := [] }
def c25_r0a : List AI := [⟨(some 4), none, .mv (.c (.bool false))⟩]
def c25_r0aQ : List AI := c25_r0a
theorem c25_r0a_e (G : Pure) (ic : Inl) (s : SL) : runL G ic c25_r0aQ s = runL G ic c25_r0a s := rfl
def c25_r1a : List AI := [⟨(some 5), none, .mv (.t 0)⟩,
  ⟨(some 6), none, .mv (.t 1)⟩,
  ⟨(some 7), none, .call 400112 52 [(.t 5), (.t 6)] false⟩,
  ⟨(some 4), none, .mv (.t 7)⟩]
def c25_r1aQ : List AI := c25_r1a
theorem c25_r1a_e (G : Pure) (ic : Inl) (s : SL) : runL G ic c25_r1aQ s = runL G ic c25_r1a s := rfl
def c25 : ACode := .seq (.reg [] c25_r0aQ []) (.seq (.reg [] c25_r1aQ []) (.ret c25_kr))
def c25F : AFun := { params := 2, code := c25, results := [.tmp 4] }
attribute [simp] c25_kr c25_r0a_e c25_r0a c25_r1a_e c25_r1a c25 c25F
/-! pairing/sparse.ToDense -/
def c26_kr : Option Keep := some { slots := [4, 5], drops := [416144] }
def c26_r0a : List AI := [⟨(some 4), none, .mv (.c (.imm true 4 []))⟩,
  ⟨(some 5), none, .mv (.c (.int .i64 0))⟩]
def c26_r0aQ : List AI := c26_r0a
theorem c26_r0a_e (G : Pure) (ic : Inl) (s : SL) : runL G ic c26_r0aQ s = runL G ic c26_r0a s := rfl
def c26_r1a : List AI := [⟨(some 10), none, .mv (.t 0)⟩,
  ⟨(some 11), none, .mv (.t 1)⟩,
  ⟨(some 12), none, .call 416192 12 [(.t 10), (.t 11)] false⟩,
  ⟨(some 6), none, .mv (.t 12)⟩]
def c26_r1aQ : List AI := c26_r1a
theorem c26_r1a_e (G : Pure) (ic : Inl) (s : SL) : runL G ic c26_r1aQ s = runL G ic c26_r1a s := rfl
def c26_r2a : List AI := [⟨(some 13), none, .mv (.t 6)⟩,
  ⟨(some 14), none, .bin .neq (.t 13) (.c (.int .i64 0))⟩]
def c26_r2aQ : List AI := c26_r2a
theorem c26_r2a_e (G : Pure) (ic : Inl) (s : SL) : runL G ic c26_r2aQ s = runL G ic c26_r2a s := rfl
def c26_r3a : List AI := [⟨(some 15), none, .mv (.t 6)⟩,
  ⟨(some 4), none, .mv (.c (.imm true 4 []))⟩,
  ⟨(some 5), none, .mv (.t 15)⟩]
def c26_r3aQ : List AI := c26_r3a
theorem c26_r3a_e (G : Pure) (ic : Inl) (s : SL) : runL G ic c26_r3aQ s = runL G ic c26_r3a s := rfl
def c26_r4a : List AI := [⟨(some 16), none, .mv (.t 1)⟩,
  ⟨(some 17), none, .call 416272 53 [(.t 16)] true⟩,
  ⟨(some 7), none, .mv (.t 17)⟩]
def c26_r4aQ : List AI := c26_r4a
theorem c26_r4a_e (G : Pure) (ic : Inl) (s : SL) : runL G ic c26_r4aQ s = runL G ic c26_r4a s := rfl
def c26_r5a : List AI := [⟨(some 18), none, .mv (.t 0)⟩,
  ⟨(some 19), none, .len (.t 18)⟩,
  ⟨(some 20), none, .mv (.c (.int .i64 0))⟩]
def c26_r5aQ : List AI := c26_r5a
theorem c26_r5a_e (G : Pure) (ic : Inl) (s : SL) : runL G ic c26_r5aQ s = runL G ic c26_r5a s := rfl
def c26_r6a : List AI := [⟨(some 21), none, .bin .lss (.t 20) (.t 19)⟩]
def c26_r6aQ : List AI := c26_r6a
theorem c26_r6a_e (G : Pure) (ic : Inl) (s : SL) : runL G ic c26_r6aQ s = runL G ic c26_r6a s := rfl
def c26_r7a : List AI := [⟨(some 22), none, .iaddr 5 (.t 18) (.t 20)⟩,
  ⟨(some 23), none, .load (some 5) (.t 22)⟩,
  ⟨(some 9), none, .alloc 416144 51 [.int .i64 0, .bool false, .imm true 1 [], .bool false, .imm true 1 []]⟩,
  ⟨none, none, .store 5 (.t 9) (.t 23)⟩]
def c26_r7aQ : List AI := c26_r7a
theorem c26_r7a_e (G : Pure) (ic : Inl) (s : SL) : runL G ic c26_r7aQ s = runL G ic c26_r7a s := rfl
def c26_r8a : List AI := [⟨(some 24), none, .mv (.t 7)⟩,
  ⟨(some 25), none, .faddr 0 (.t 9)⟩,
  ⟨(some 26), none, .load none (.t 25)⟩,
  ⟨(some 27), none, .faddr 1 (.t 9)⟩,
  ⟨(some 28), none, .load (some 4) (.t 27)⟩,
  ⟨(some 29), none, .call 416464 45 [(.t 28)] false⟩,
  ⟨(some 30), none, .iaddr 4 (.t 24) (.t 26)⟩,
  ⟨none, none, .store 4 (.t 30) (.t 29)⟩]
def c26_r8aQ : List AI := c26_r8a
theorem c26_r8a_e (G : Pure) (ic : Inl) (s : SL) : runL G ic c26_r8aQ s = runL G ic c26_r8a s := rfl
def c26_r9a : List AI := [⟨(some 31), none, .bin .add (.t 20) (.c (.int .i64 1))⟩,
  ⟨(some 20), none, .mv (.t 31)⟩]
def c26_r9aQ : List AI := c26_r9a
theorem c26_r9a_e (G : Pure) (ic : Inl) (s : SL) : runL G ic c26_r9aQ s = runL G ic c26_r9a s := rfl
def c26_b0 : ACode := .seq (.reg [] c26_r6aQ []) (.seq (.cond (.t 21) (.skip) (.exit 0)) (.seq (.block none 1 (.seq (.reg [] c26_r7aQ []) (.reg [] c26_r8aQ []))) (.reg [] c26_r9aQ [])))
def c26_b0Q : ACode := c26_b0
theorem c26_b0_e (G : Pure) (ic : Inl) (n : Nat) (s : SL) : evalC G ic n c26_b0Q s = evalC G ic n c26_b0 s := rfl
def c26_k0 : Keep := { slots := [7, 18, 19, 20], drops := [416144], adopt := [] }
def c26_e0 : Keep := { slots := [7], drops := [416144] }
def c26_r10a : List AI := [⟨(some 32), none, .mv (.t 7)⟩,
  ⟨(some 4), none, .mv (.t 32)⟩,
  ⟨(some 5), none, .mv (.c (.int .i64 0))⟩]
def c26_r10aQ : List AI := c26_r10a
theorem c26_r10a_e (G : Pure) (ic : Inl) (s : SL) : runL G ic c26_r10aQ s = runL G ic c26_r10a s := rfl
def c26 : ACode := .seq (.reg [] c26_r0aQ []) (.seq (.seq (.reg [] c26_r1aQ []) (.seq (.reg [] c26_r2aQ []) (.cond (.t 14) (.seq (.reg [] c26_r3aQ []) (.ret c26_kr)) (.skip)))) (.seq (.reg [] c26_r4aQ []) (.seq (.seq (.reg [] c26_r5aQ []) (.block (some c26_e0) 0 (.loop c26_k0 c26_b0Q))) (.seq (.reg [] c26_r10aQ []) (.ret c26_kr)))))
def c26F : AFun := { params := 2, code := c26, results := [.tmp 4, .tmp 5] }
attribute [simp] c26_kr c26_r0a_e c26_r0a c26_r1a_e c26_r1a c26_r2a_e c26_r2a c26_r3a_e c26_r3a c26_r4a_e c26_r4a c26_r5a_e c26_r5a c26_r6a_e c26_r6a c26_r7a_e c26_r7a c26_r8a_e c26_r8a c26_r9a_e c26_r9a c26_b0_e c26_b0 c26_k0 c26_e0 c26_r10a_e c26_r10a c26 c26F
/-! pairing/sparse.FromDense -/
def c27_kr : Option Keep := some { slots := [2, 3], drops := [] }
def c27_r0a : List AI := [⟨(some 2), none, .mv (.c (.imm true 5 []))⟩,
  ⟨(some 3), none, .mv (.c (.int .i64 0))⟩]
def c27_r0aQ : List AI := c27_r0a
theorem c27_r0a_e (G : Pure) (ic : Inl) (s : SL) : runL G ic c27_r0aQ s = runL G ic c27_r0a s := rfl
def c27_r1a : List AI := [⟨(some 4), none, .mv (.t 0)⟩,
  ⟨(some 5), none, .len (.t 4)⟩,
  ⟨(some 6), none, .bin .gtr (.t 5) (.c (.int .i64 4096))⟩]
def c27_r1aQ : List AI := c27_r1a
theorem c27_r1a_e (G : Pure) (ic : Inl) (s : SL) : runL G ic c27_r1aQ s = runL G ic c27_r1a s := rfl
def c27_r2a : List AI := [⟨(some 2), none, .mv (.c (.imm true 5 []))⟩,
  ⟨(some 3), none, .mv (.c (.int .i64 5))⟩]
def c27_r2aQ : List AI := c27_r2a
theorem c27_r2a_e (G : Pure) (ic : Inl) (s : SL) : runL G ic c27_r2aQ s = runL G ic c27_r2a s := rfl
def c27_r3a : List AI := [⟨(some 7), none, .mv (.t 0)⟩,
  ⟨(some 8), none, .call 432128 54 [(.t 7)] false⟩,
  ⟨(some 2), none, .mv (.t 8)⟩,
  ⟨(some 3), none, .mv (.c (.int .i64 0))⟩]
def c27_r3aQ : List AI := c27_r3a
theorem c27_r3a_e (G : Pure) (ic : Inl) (s : SL) : runL G ic c27_r3aQ s = runL G ic c27_r3a s := rfl
def c27 : ACode := .seq (.reg [] c27_r0aQ []) (.seq (.seq (.reg [] c27_r1aQ []) (.cond (.t 6) (.seq (.reg [] c27_r2aQ []) (.ret c27_kr)) (.skip))) (.seq (.reg [] c27_r3aQ []) (.ret c27_kr)))
def c27F : AFun := { params := 1, code := c27, results := [.tmp 2, .tmp 3] }
attribute [simp] c27_kr c27_r0a_e c27_r0a c27_r1a_e c27_r1a c27_r2a_e c27_r2a c27_r3a_e c27_r3a c27 c27F
/-! pairing/pairingref1.Reduce -/
def c28_kr : Option Keep := some { slots := [2], drops := [448016, 448048, 448064, 448080] }
def c28_r0a : List AI := [⟨(some 1), none, .box 448016 33 4 (.t 0)⟩,
  ⟨(some 2), none, .alloc 448032 33 [.bool false, .imm true 1 [], .bool false, .imm true 1 []]⟩]
def c28_r0aQ : List AI := c28_r0a
theorem c28_r0a_e (G : Pure) (ic : Inl) (s : SL) : runL G ic c28_r0aQ s = runL G ic c28_r0a s := rfl
def c28_r1a : List AI := [⟨(some 6), none, .faddr 0 (.t 1)⟩,
  ⟨(some 7), none, .load (some 2) (.t 6)⟩,
  ⟨(some 8), none, .call 448128 55 [(.t 7)] false⟩,
  ⟨(some 9), none, .faddr 2 (.t 1)⟩,
  ⟨(some 10), none, .load (some 2) (.t 9)⟩,
  ⟨(some 11), none, .call 448176 55 [(.t 10)] false⟩,
  ⟨(some 3), none, .alloc 448048 31 [.bool false, .imm true 1 []]⟩,
  ⟨(some 4), none, .alloc 448064 31 [.bool false, .imm true 1 []]⟩,
  ⟨none, none, .store 2 (.t 3) (.t 8)⟩,
  ⟨none, none, .store 2 (.t 4) (.t 11)⟩]
def c28_r1aQ : List AI := c28_r1a
theorem c28_r1a_e (G : Pure) (ic : Inl) (s : SL) : runL G ic c28_r1aQ s = runL G ic c28_r1a s := rfl
theorem c28_r1a_l (G : Pure) (ic : Inl) (l : Logs) (s : SL) : logL G ic c28_r1aQ l s = logL G ic c28_r1a l s := rfl
def c28_r2a : List AI := [⟨(some 12), none, .faddr 1 (.t 3)⟩,
  ⟨(some 13), none, .load none (.t 12)⟩,
  ⟨(some 14), none, .len (.t 13)⟩,
  ⟨(some 15), none, .bin .eql (.t 14) (.c (.int .i64 0))⟩,
  ⟨(some 16), none, .mv (.t 15)⟩,
  ⟨(some 17), (some (16, false)), .faddr 1 (.t 4)⟩,
  ⟨(some 18), (some (16, false)), .load none (.t 17)⟩,
  ⟨(some 19), (some (16, false)), .len (.t 18)⟩,
  ⟨(some 20), (some (16, false)), .bin .eql (.t 19) (.c (.int .i64 0))⟩,
  ⟨(some 21), none, .pick (.t 16) (.c (.bool true)) (.t 20)⟩]
def c28_r2aQ : List AI := c28_r2a
theorem c28_r2a_e (G : Pure) (ic : Inl) (s : SL) : runL G ic c28_r2aQ s = runL G ic c28_r2a s := rfl
def c28_r3a : List AI := [⟨(some 22), none, .call 448352 56 [] false⟩,
  ⟨(some 23), none, .build [.bool false, .imm true 1 [], .bool false, .imm true 1 []] [(2, 2, (.t 22))]⟩,
  ⟨none, none, .store 4 (.t 2) (.t 23)⟩]
def c28_r3aQ : List AI := c28_r3a
theorem c28_r3a_e (G : Pure) (ic : Inl) (s : SL) : runL G ic c28_r3aQ s = runL G ic c28_r3a s := rfl
def c28_r4a : List AI := [⟨(some 24), none, .faddr 0 (.t 4)⟩,
  ⟨(some 25), none, .load none (.t 24)⟩]
def c28_r4aQ : List AI := c28_r4a
theorem c28_r4a_e (G : Pure) (ic : Inl) (s : SL) : runL G ic c28_r4aQ s = runL G ic c28_r4a s := rfl
def c28_r5a : List AI := [⟨(some 26), none, .load (some 2) (.t 3)⟩,
  ⟨(some 27), none, .call 448432 57 [(.t 26)] false⟩,
  ⟨(some 28), none, .load (some 2) (.t 4)⟩,
  ⟨(some 29), none, .call 448464 57 [(.t 28)] false⟩,
  ⟨none, none, .store 2 (.t 3) (.t 27)⟩,
  ⟨none, none, .store 2 (.t 4) (.t 29)⟩]
def c28_r5aQ : List AI := c28_r5a
theorem c28_r5a_e (G : Pure) (ic : Inl) (s : SL) : runL G ic c28_r5aQ s = runL G ic c28_r5a s := rfl
def c28_r6a : List AI := [⟨(some 30), none, .load (some 2) (.t 3)⟩,
  ⟨(some 31), none, .load (some 2) (.t 4)⟩,
  ⟨(some 32), none, .call 448512 58 [(.t 30), (.t 31)] false⟩,
  ⟨(some 5), none, .alloc 448080 31 [.bool false, .imm true 1 []]⟩,
  ⟨none, none, .store 2 (.t 5) (.t 32)⟩]
def c28_r6aQ : List AI := c28_r6a
theorem c28_r6a_e (G : Pure) (ic : Inl) (s : SL) : runL G ic c28_r6aQ s = runL G ic c28_r6a s := rfl
def c28_r7a : List AI := [⟨(some 34), none, .load (some 2) (.t 3)⟩,
  ⟨(some 35), none, .load (some 2) (.t 5)⟩,
  ⟨(some 36), none, .call 448576 59 [(.t 34), (.t 35)] false⟩,
  ⟨(some 33), none, .mv (.t 36)⟩,
  ⟨(some 37), none, .extract (.t 33) 0⟩,
  ⟨(some 38), none, .extract (.t 33) 1⟩,
  ⟨(some 39), none, .extract (.t 33) 2⟩,
  ⟨none, none, .store 2 (.t 3) (.t 37)⟩]
def c28_r7aQ : List AI := c28_r7a
theorem c28_r7a_e (G : Pure) (ic : Inl) (s : SL) : runL G ic c28_r7aQ s = runL G ic c28_r7a s := rfl
def c28_r8a : List AI := [⟨(some 41), none, .load (some 2) (.t 4)⟩,
  ⟨(some 42), none, .load (some 2) (.t 5)⟩,
  ⟨(some 43), none, .call 448688 59 [(.t 41), (.t 42)] false⟩,
  ⟨(some 40), none, .mv (.t 43)⟩,
  ⟨(some 44), none, .extract (.t 40) 0⟩,
  ⟨(some 45), none, .extract (.t 40) 1⟩,
  ⟨(some 46), none, .extract (.t 40) 2⟩,
  ⟨none, none, .store 2 (.t 4) (.t 44)⟩]
def c28_r8aQ : List AI := c28_r8a
theorem c28_r8a_e (G : Pure) (ic : Inl) (s : SL) : runL G ic c28_r8aQ s = runL G ic c28_r8a s := rfl
def c28_r9a : List AI := [⟨(some 47), none, .load (some 2) (.t 3)⟩,
  ⟨(some 48), none, .load (some 2) (.t 4)⟩,
  ⟨(some 49), none, .build [.bool false, .imm true 1 [], .bool false, .imm true 1 []] [(0, 2, (.t 47)), (2, 2, (.t 48))]⟩,
  ⟨none, none, .store 4 (.t 2) (.t 49)⟩]
def c28_r9aQ : List AI := c28_r9a
theorem c28_r9a_e (G : Pure) (ic : Inl) (s : SL) : runL G ic c28_r9aQ s = runL G ic c28_r9a s := rfl
def c28 : ACode := .seq (.reg [] c28_r0aQ []) (.seq (.reg [(1, 6), (2, 6), (4, 6), (5, 6), (1, 7), (2, 7), (4, 7), (5, 7), (6, 7)] c28_r1aQ []) (.seq (.seq (.reg [] c28_r2aQ []) (.cond (.t 21) (.seq (.reg [] c28_r3aQ []) (.ret c28_kr)) (.skip))) (.seq (.seq (.reg [] c28_r4aQ []) (.cond (.t 25) (.reg [] c28_r5aQ []) (.skip))) (.seq (.reg [] c28_r6aQ []) (.seq (.reg [] c28_r7aQ []) (.seq (.reg [] c28_r8aQ []) (.seq (.reg [] c28_r9aQ []) (.ret c28_kr))))))))
def c28F : AFun := { params := 1, code := c28, results := [.cell 2 (some 4)] }
attribute [simp] c28_kr c28_r0a_e c28_r0a c28_r1a_e c28_r1a c28_r1a_l c28_r2a_e c28_r2a c28_r3a_e c28_r3a c28_r4a_e c28_r4a c28_r5a_e c28_r5a c28_r6a_e c28_r6a c28_r7a_e c28_r7a c28_r8a_e c28_r8a c28_r9a_e c28_r9a c28 c28F
theorem c28_ok : IsFun Try.prog ks 28 c28F := by unfold IsFun; kernel_rfl
/-! pairing/pairingref1.FromDense -/
def c29_kr : Option Keep := some { slots := [2, 3], drops := [] }
def c29_r0a : List AI := [⟨(some 2), none, .mv (.c (.imm true 5 []))⟩,
  ⟨(some 3), none, .mv (.c (.int .i64 0))⟩]
def c29_r0aQ : List AI := c29_r0a
theorem c29_r0a_e (G : Pure) (ic : Inl) (s : SL) : runL G ic c29_r0aQ s = runL G ic c29_r0a s := rfl
def c29_r1a : List AI := [⟨(some 6), none, .mv (.t 0)⟩,
  ⟨(some 7), none, .len (.t 6)⟩,
  ⟨(some 8), none, .bin .gtr (.t 7) (.c (.int .i64 4096))⟩]
def c29_r1aQ : List AI := c29_r1a
theorem c29_r1a_e (G : Pure) (ic : Inl) (s : SL) : runL G ic c29_r1aQ s = runL G ic c29_r1a s := rfl
def c29_r2a : List AI := [⟨(some 2), none, .mv (.c (.imm true 5 []))⟩,
  ⟨(some 3), none, .mv (.c (.int .i64 5))⟩]
def c29_r2aQ : List AI := c29_r2a
theorem c29_r2a_e (G : Pure) (ic : Inl) (s : SL) : runL G ic c29_r2aQ s = runL G ic c29_r2a s := rfl
def c29_r3a : List AI := [⟨(some 4), none, .mv (.c (.imm true 5 []))⟩]
def c29_r3aQ : List AI := c29_r3a
theorem c29_r3a_e (G : Pure) (ic : Inl) (s : SL) : runL G ic c29_r3aQ s = runL G ic c29_r3a s := rfl
def c29_r4a : List AI := [⟨(some 5), none, .mv (.c (.int .i64 0))⟩]
def c29_r4aQ : List AI := c29_r4a
theorem c29_r4a_e (G : Pure) (ic : Inl) (s : SL) : runL G ic c29_r4aQ s = runL G ic c29_r4a s := rfl
def c29_r5a : List AI := [⟨(some 9), none, .mv (.t 5)⟩,
  ⟨(some 10), none, .mv (.t 0)⟩,
  ⟨(some 11), none, .len (.t 10)⟩,
  ⟨(some 12), none, .bin .lss (.t 9) (.t 11)⟩]
def c29_r5aQ : List AI := c29_r5a
theorem c29_r5a_e (G : Pure) (ic : Inl) (s : SL) : runL G ic c29_r5aQ s = runL G ic c29_r5a s := rfl
def c29_r7a : List AI := [⟨(some 15), none, .mv (.t 0)⟩,
  ⟨(some 16), none, .mv (.t 5)⟩,
  ⟨(some 17), none, .iaddr 4 (.t 15) (.t 16)⟩,
  ⟨(some 18), none, .load (some 4) (.t 17)⟩,
  ⟨(some 19), none, .call 464304 41 [(.t 18)] false⟩,
  ⟨(some 20), none, .bin .neq (.t 19) (.c (.int .i64 0))⟩]
def c29_r7aQ : List AI := c29_r7a
theorem c29_r7a_e (G : Pure) (ic : Inl) (s : SL) : runL G ic c29_r7aQ s = runL G ic c29_r7a s := rfl
def c29_r8a : List AI := [⟨(some 21), none, .mv (.t 4)⟩,
  ⟨(some 22), none, .mv (.t 5)⟩,
  ⟨(some 23), none, .mv (.t 0)⟩,
  ⟨(some 24), none, .mv (.t 5)⟩,
  ⟨(some 25), none, .iaddr 4 (.t 23) (.t 24)⟩,
  ⟨(some 26), none, .load (some 4) (.t 25)⟩,
  ⟨(some 27), none, .call 464432 28 [(.t 26)] false⟩,
  ⟨(some 28), none, .build [.int .i64 0, .bool false, .imm true 1 [], .bool false, .imm true 1 []] [(0, 1, (.t 22)), (1, 4, (.t 27))]⟩,
  ⟨(some 29), none, .bslice 51 5 1 [.int .i64 0, .bool false, .imm true 1 [], .bool false, .imm true 1 []] [(0, (.t 28))]⟩,
  ⟨(some 30), none, .app 464480 51 5 72 (.t 21) (.t 29)⟩,
  ⟨(some 4), none, .mv (.t 30)⟩]
def c29_r8aQ : List AI := c29_r8a
theorem c29_r8a_e (G : Pure) (ic : Inl) (s : SL) : runL G ic c29_r8aQ s = runL G ic c29_r8a s := rfl
def c29_r6a : List AI := [⟨(some 13), none, .mv (.t 5)⟩,
  ⟨(some 14), none, .bin .add (.t 13) (.c (.int .i64 1))⟩,
  ⟨(some 5), none, .mv (.t 14)⟩]
def c29_r6aQ : List AI := c29_r6a
theorem c29_r6a_e (G : Pure) (ic : Inl) (s : SL) : runL G ic c29_r6aQ s = runL G ic c29_r6a s := rfl
def c29_b0 : ACode := .seq (.seq (.reg [] c29_r5aQ []) (.cond (.t 12) (.skip) (.exit 0))) (.seq (.block none 1 (.seq (.reg [] c29_r7aQ []) (.cond (.t 20) (.reg [] c29_r8aQ []) (.skip)))) (.reg [] c29_r6aQ []))
def c29_b0Q : ACode := c29_b0
theorem c29_b0_e (G : Pure) (ic : Inl) (n : Nat) (s : SL) : evalC G ic n c29_b0Q s = evalC G ic n c29_b0 s := rfl
def c29_k0 : Keep := { slots := [0, 4, 5], drops := [], adopt := [] }
def c29_e0 : Keep := { slots := [4], drops := [] }
def c29_r9a : List AI := [⟨(some 31), none, .mv (.t 4)⟩,
  ⟨(some 2), none, .mv (.t 31)⟩,
  ⟨(some 3), none, .mv (.c (.int .i64 0))⟩]
def c29_r9aQ : List AI := c29_r9a
theorem c29_r9a_e (G : Pure) (ic : Inl) (s : SL) : runL G ic c29_r9aQ s = runL G ic c29_r9a s := rfl
def c29 : ACode := .seq (.reg [] c29_r0aQ []) (.seq (.seq (.reg [] c29_r1aQ []) (.cond (.t 8) (.seq (.reg [] c29_r2aQ []) (.ret c29_kr)) (.skip))) (.seq (.reg [] c29_r3aQ []) (.seq (.seq (.reg [] c29_r4aQ []) (.block (some c29_e0) 0 (.loop c29_k0 c29_b0Q))) (.seq (.reg [] c29_r9aQ []) (.ret c29_kr)))))
def c29F : AFun := { params := 1, code := c29, results := [.tmp 2, .tmp 3] }
attribute [simp] c29_kr c29_r0a_e c29_r0a c29_r1a_e c29_r1a c29_r2a_e c29_r2a c29_r3a_e c29_r3a c29_r4a_e c29_r4a c29_r5a_e c29_r5a c29_r7a_e c29_r7a c29_r8a_e c29_r8a c29_r6a_e c29_r6a c29_b0_e c29_b0 c29_k0 c29_e0 c29_r9a_e c29_r9a c29 c29F
/-! pairing/pairingref1.ToDense -/
def c30_kr : Option Keep := some { slots := [4, 5], drops := [] }
def c30_r0a : List AI := [⟨(some 4), none, .mv (.c (.imm true 4 []))⟩,
  ⟨(some 5), none, .mv (.c (.int .i64 0))⟩]
def c30_r0aQ : List AI := c30_r0a
theorem c30_r0a_e (G : Pure) (ic : Inl) (s : SL) : runL G ic c30_r0aQ s = runL G ic c30_r0a s := rfl
def c30_r1a : List AI := [⟨(some 9), none, .mv (.t 0)⟩,
  ⟨(some 10), none, .mv (.t 1)⟩,
  ⟨(some 11), none, .call 480176 13 [(.t 9), (.t 10)] false⟩,
  ⟨(some 6), none, .mv (.t 11)⟩]
def c30_r1aQ : List AI := c30_r1a
theorem c30_r1a_e (G : Pure) (ic : Inl) (s : SL) : runL G ic c30_r1aQ s = runL G ic c30_r1a s := rfl
def c30_r2a : List AI := [⟨(some 12), none, .mv (.t 6)⟩,
  ⟨(some 13), none, .bin .neq (.t 12) (.c (.int .i64 0))⟩]
def c30_r2aQ : List AI := c30_r2a
theorem c30_r2a_e (G : Pure) (ic : Inl) (s : SL) : runL G ic c30_r2aQ s = runL G ic c30_r2a s := rfl
def c30_r3a : List AI := [⟨(some 14), none, .mv (.t 6)⟩,
  ⟨(some 4), none, .mv (.c (.imm true 4 []))⟩,
  ⟨(some 5), none, .mv (.t 14)⟩]
def c30_r3aQ : List AI := c30_r3a
theorem c30_r3a_e (G : Pure) (ic : Inl) (s : SL) : runL G ic c30_r3aQ s = runL G ic c30_r3a s := rfl
def c30_r4a : List AI := [⟨(some 15), none, .mv (.t 1)⟩,
  ⟨(some 16), none, .make 480256 33 4 64 [.bool false, .imm true 1 [], .bool false, .imm true 1 []] (.t 15) (.t 15)⟩,
  ⟨(some 7), none, .mv (.t 16)⟩]
def c30_r4aQ : List AI := c30_r4a
theorem c30_r4a_e (G : Pure) (ic : Inl) (s : SL) : runL G ic c30_r4aQ s = runL G ic c30_r4a s := rfl
def c30_r5a : List AI := [⟨(some 8), none, .mv (.c (.int .i64 0))⟩]
def c30_r5aQ : List AI := c30_r5a
theorem c30_r5a_e (G : Pure) (ic : Inl) (s : SL) : runL G ic c30_r5aQ s = runL G ic c30_r5a s := rfl
def c30_r6a : List AI := [⟨(some 17), none, .mv (.t 8)⟩,
  ⟨(some 18), none, .mv (.t 1)⟩,
  ⟨(some 19), none, .bin .lss (.t 17) (.t 18)⟩]
def c30_r6aQ : List AI := c30_r6a
theorem c30_r6a_e (G : Pure) (ic : Inl) (s : SL) : runL G ic c30_r6aQ s = runL G ic c30_r6a s := rfl
def c30_r8a : List AI := [⟨(some 22), none, .mv (.t 7)⟩,
  ⟨(some 23), none, .mv (.t 8)⟩,
  ⟨(some 24), none, .mv (.t 0)⟩,
  ⟨(some 25), none, .mv (.t 8)⟩,
  ⟨(some 26), none, .call 480416 33 [(.t 24), (.t 25)] false⟩,
  ⟨(some 27), none, .iaddr 4 (.t 22) (.t 23)⟩,
  ⟨none, none, .store 4 (.t 27) (.t 26)⟩]
def c30_r8aQ : List AI := c30_r8a
theorem c30_r8a_e (G : Pure) (ic : Inl) (s : SL) : runL G ic c30_r8aQ s = runL G ic c30_r8a s := rfl
def c30_r7a : List AI := [⟨(some 20), none, .mv (.t 8)⟩,
  ⟨(some 21), none, .bin .add (.t 20) (.c (.int .i64 1))⟩,
  ⟨(some 8), none, .mv (.t 21)⟩]
def c30_r7aQ : List AI := c30_r7a
theorem c30_r7a_e (G : Pure) (ic : Inl) (s : SL) : runL G ic c30_r7aQ s = runL G ic c30_r7a s := rfl
def c30_b0 : ACode := .seq (.seq (.reg [] c30_r6aQ []) (.cond (.t 19) (.skip) (.exit 0))) (.seq (.block none 1 (.reg [] c30_r8aQ [])) (.reg [] c30_r7aQ []))
def c30_b0Q : ACode := c30_b0
theorem c30_b0_e (G : Pure) (ic : Inl) (n : Nat) (s : SL) : evalC G ic n c30_b0Q s = evalC G ic n c30_b0 s := rfl
def c30_k0 : Keep := { slots := [0, 1, 7, 8], drops := [], adopt := [] }
def c30_e0 : Keep := { slots := [7], drops := [] }
def c30_r9a : List AI := [⟨(some 28), none, .mv (.t 7)⟩,
  ⟨(some 4), none, .mv (.t 28)⟩,
  ⟨(some 5), none, .mv (.c (.int .i64 0))⟩]
def c30_r9aQ : List AI := c30_r9a
theorem c30_r9a_e (G : Pure) (ic : Inl) (s : SL) : runL G ic c30_r9aQ s = runL G ic c30_r9a s := rfl
def c30 : ACode := .seq (.reg [] c30_r0aQ []) (.seq (.seq (.reg [] c30_r1aQ []) (.seq (.reg [] c30_r2aQ []) (.cond (.t 13) (.seq (.reg [] c30_r3aQ []) (.ret c30_kr)) (.skip)))) (.seq (.reg [] c30_r4aQ []) (.seq (.seq (.reg [] c30_r5aQ []) (.block (some c30_e0) 0 (.loop c30_k0 c30_b0Q))) (.seq (.reg [] c30_r9aQ []) (.ret c30_kr)))))
def c30F : AFun := { params := 2, code := c30, results := [.tmp 4, .tmp 5] }
attribute [simp] c30_kr c30_r0a_e c30_r0a c30_r1a_e c30_r1a c30_r2a_e c30_r2a c30_r3a_e c30_r3a c30_r4a_e c30_r4a c30_r5a_e c30_r5a c30_r6a_e c30_r6a c30_r8a_e c30_r8a c30_r7a_e c30_r7a c30_b0_e c30_b0 c30_k0 c30_e0 c30_r9a_e c30_r9a c30 c30F
/-! pairing/pairingref1.SameFracs -/
def c31_kr : Option Keep := some { slots := [4], drops := [] }
def c31_r0a : List AI := [⟨(some 4), none, .mv (.c (.bool false))⟩]
def c31_r0aQ : List AI := c31_r0a
theorem c31_r0a_e (G : Pure) (ic : Inl) (s : SL) : runL G ic c31_r0aQ s = runL G ic c31_r0a s := rfl
def c31_r1a : List AI := [⟨(some 6), none, .mv (.t 0)⟩,
  ⟨(some 7), none, .len (.t 6)⟩,
  ⟨(some 8), none, .mv (.t 1)⟩,
  ⟨(some 9), none, .len (.t 8)⟩,
  ⟨(some 10), none, .bin .neq (.t 7) (.t 9)⟩]
def c31_r1aQ : List AI := c31_r1a
theorem c31_r1a_e (G : Pure) (ic : Inl) (s : SL) : runL G ic c31_r1aQ s = runL G ic c31_r1a s := rfl
def c31_r2a : List AI := [⟨(some 4), none, .mv (.c (.bool false))⟩]
def c31_r2aQ : List AI := c31_r2a
theorem c31_r2a_e (G : Pure) (ic : Inl) (s : SL) : runL G ic c31_r2aQ s = runL G ic c31_r2a s := rfl
def c31_r3a : List AI := [⟨(some 5), none, .mv (.c (.int .i64 0))⟩]
def c31_r3aQ : List AI := c31_r3a
theorem c31_r3a_e (G : Pure) (ic : Inl) (s : SL) : runL G ic c31_r3aQ s = runL G ic c31_r3a s := rfl
def c31_r4a : List AI := [⟨(some 11), none, .mv (.t 5)⟩,
  ⟨(some 12), none, .mv (.t 0)⟩,
  ⟨(some 13), none, .len (.t 12)⟩,
  ⟨(some 14), none, .bin .lss (.t 11) (.t 13)⟩]
def c31_r4aQ : List AI := c31_r4a
theorem c31_r4a_e (G : Pure) (ic : Inl) (s : SL) : runL G ic c31_r4aQ s = runL G ic c31_r4a s := rfl
def c31_r6a : List AI := [⟨(some 17), none, .mv (.t 0)⟩,
  ⟨(some 18), none, .mv (.t 5)⟩,
  ⟨(some 19), none, .iaddr 4 (.t 17) (.t 18)⟩,
  ⟨(some 20), none, .load (some 4) (.t 19)⟩,
  ⟨(some 21), none, .mv (.t 1)⟩,
  ⟨(some 22), none, .mv (.t 5)⟩,
  ⟨(some 23), none, .iaddr 4 (.t 21) (.t 22)⟩,
  ⟨(some 24), none, .load (some 4) (.t 23)⟩,
  ⟨(some 25), none, .call 496400 20 [(.t 20), (.t 24)] false⟩,
  ⟨(some 26), none, .un .not (.t 25)⟩]
def c31_r6aQ : List AI := c31_r6a
theorem c31_r6a_e (G : Pure) (ic : Inl) (s : SL) : runL G ic c31_r6aQ s = runL G ic c31_r6a s := rfl
def c31_r7a : List AI := [⟨(some 4), none, .mv (.c (.bool false))⟩]
def c31_r7aQ : List AI := c31_r7a
theorem c31_r7a_e (G : Pure) (ic : Inl) (s : SL) : runL G ic c31_r7aQ s = runL G ic c31_r7a s := rfl
def c31_r5a : List AI := [⟨(some 15), none, .mv (.t 5)⟩,
  ⟨(some 16), none, .bin .add (.t 15) (.c (.int .i64 1))⟩,
  ⟨(some 5), none, .mv (.t 16)⟩]
def c31_r5aQ : List AI := c31_r5a
theorem c31_r5a_e (G : Pure) (ic : Inl) (s : SL) : runL G ic c31_r5aQ s = runL G ic c31_r5a s := rfl
def c31_b0 : ACode := .seq (.seq (.reg [] c31_r4aQ []) (.cond (.t 14) (.skip) (.exit 0))) (.seq (.block none 1 (.seq (.reg [] c31_r6aQ []) (.cond (.t 26) (.seq (.reg [] c31_r7aQ []) (.ret c31_kr)) (.skip)))) (.reg [] c31_r5aQ []))
def c31_b0Q : ACode := c31_b0
theorem c31_b0_e (G : Pure) (ic : Inl) (n : Nat) (s : SL) : evalC G ic n c31_b0Q s = evalC G ic n c31_b0 s := rfl
def c31_k0 : Keep := { slots := [0, 1, 5], drops := [], adopt := [] }
def c31_e0 : Keep := { slots := [], drops := [] }
def c31_r8a : List AI := [⟨(some 4), none, .mv (.c (.bool true))⟩]
def c31_r8aQ : List AI := c31_r8a
theorem c31_r8a_e (G : Pure) (ic : Inl) (s : SL) : runL G ic c31_r8aQ s = runL G ic c31_r8a s := rfl
def c31 : ACode := .seq (.reg [] c31_r0aQ []) (.seq (.seq (.reg [] c31_r1aQ []) (.cond (.t 10) (.seq (.reg [] c31_r2aQ []) (.ret c31_kr)) (.skip))) (.seq (.seq (.reg [] c31_r3aQ []) (.block (some c31_e0) 0 (.loop c31_k0 c31_b0Q))) (.seq (.reg [] c31_r8aQ []) (.ret c31_kr))))
def c31F : AFun := { params := 2, code := c31, results := [.tmp 4] }
attribute [simp] c31_kr c31_r0a_e c31_r0a c31_r1a_e c31_r1a c31_r2a_e c31_r2a c31_r3a_e c31_r3a c31_r4a_e c31_r4a c31_r6a_e c31_r6a c31_r7a_e c31_r7a c31_r5a_e c31_r5a c31_b0_e c31_b0 c31_k0 c31_e0 c31_r8a_e c31_r8a c31 c31F
/-! pairing/sparse.At -/
def c32_kr : Option Keep := some { slots := [4], drops := [512096] }
def c32_r0a : List AI := [⟨(some 4), none, .alloc 512064 33 [.bool false, .imm true 1 [], .bool false, .imm true 1 []]⟩]
def c32_r0aQ : List AI := c32_r0a
theorem c32_r0a_e (G : Pure) (ic : Inl) (s : SL) : runL G ic c32_r0aQ s = runL G ic c32_r0a s := rfl
def c32_r1a : List AI := [⟨(some 7), none, .mv (.t 0)⟩,
  ⟨(some 8), none, .len (.t 7)⟩,
  ⟨(some 9), none, .mv (.c (.int .i64 0))⟩]
def c32_r1aQ : List AI := c32_r1a
theorem c32_r1a_e (G : Pure) (ic : Inl) (s : SL) : runL G ic c32_r1aQ s = runL G ic c32_r1a s := rfl
def c32_r2a : List AI := [⟨(some 10), none, .bin .lss (.t 9) (.t 8)⟩]
def c32_r2aQ : List AI := c32_r2a
theorem c32_r2a_e (G : Pure) (ic : Inl) (s : SL) : runL G ic c32_r2aQ s = runL G ic c32_r2a s := rfl
def c32_r3a : List AI := [⟨(some 11), none, .iaddr 5 (.t 7) (.t 9)⟩,
  ⟨(some 12), none, .load (some 5) (.t 11)⟩,
  ⟨(some 6), none, .alloc 512096 51 [.int .i64 0, .bool false, .imm true 1 [], .bool false, .imm true 1 []]⟩,
  ⟨none, none, .store 5 (.t 6) (.t 12)⟩]
def c32_r3aQ : List AI := c32_r3a
theorem c32_r3a_e (G : Pure) (ic : Inl) (s : SL) : runL G ic c32_r3aQ s = runL G ic c32_r3a s := rfl
def c32_r4a : List AI := [⟨(some 13), none, .faddr 0 (.t 6)⟩,
  ⟨(some 14), none, .load none (.t 13)⟩,
  ⟨(some 15), none, .mv (.t 1)⟩,
  ⟨(some 16), none, .bin .eql (.t 14) (.t 15)⟩]
def c32_r4aQ : List AI := c32_r4a
theorem c32_r4a_e (G : Pure) (ic : Inl) (s : SL) : runL G ic c32_r4aQ s = runL G ic c32_r4a s := rfl
def c32_r5a : List AI := [⟨(some 17), none, .faddr 1 (.t 6)⟩,
  ⟨(some 18), none, .load (some 4) (.t 17)⟩,
  ⟨(some 19), none, .call 512304 45 [(.t 18)] false⟩,
  ⟨none, none, .store 4 (.t 4) (.t 19)⟩]
def c32_r5aQ : List AI := c32_r5a
theorem c32_r5a_e (G : Pure) (ic : Inl) (s : SL) : runL G ic c32_r5aQ s = runL G ic c32_r5a s := rfl
def c32_r6a : List AI := [⟨(some 20), none, .bin .add (.t 9) (.c (.int .i64 1))⟩,
  ⟨(some 9), none, .mv (.t 20)⟩]
def c32_r6aQ : List AI := c32_r6a
theorem c32_r6a_e (G : Pure) (ic : Inl) (s : SL) : runL G ic c32_r6aQ s = runL G ic c32_r6a s := rfl
def c32_b0 : ACode := .seq (.reg [] c32_r2aQ []) (.seq (.cond (.t 10) (.skip) (.exit 0)) (.seq (.block none 1 (.seq (.reg [] c32_r3aQ []) (.seq (.reg [] c32_r4aQ []) (.cond (.t 16) (.seq (.reg [] c32_r5aQ []) (.ret c32_kr)) (.skip))))) (.reg [] c32_r6aQ [])))
def c32_b0Q : ACode := c32_b0
theorem c32_b0_e (G : Pure) (ic : Inl) (n : Nat) (s : SL) : evalC G ic n c32_b0Q s = evalC G ic n c32_b0 s := rfl
def c32_k0 : Keep := { slots := [1, 4, 7, 8, 9], drops := [512096], adopt := [] }
def c32_e0 : Keep := { slots := [4], drops := [512096] }
def c32_r7a : List AI := [⟨(some 21), none, .call 512336 48 [] false⟩,
  ⟨none, none, .store 4 (.t 4) (.t 21)⟩]
def c32_r7aQ : List AI := c32_r7a
theorem c32_r7a_e (G : Pure) (ic : Inl) (s : SL) : runL G ic c32_r7aQ s = runL G ic c32_r7a s := rfl
def c32 : ACode := .seq (.reg [] c32_r0aQ []) (.seq (.seq (.reg [] c32_r1aQ []) (.block (some c32_e0) 0 (.loop c32_k0 c32_b0Q))) (.seq (.reg [] c32_r7aQ []) (.ret c32_kr)))
def c32F : AFun := { params := 2, code := c32, results := [.cell 4 (some 4)] }
attribute [simp] c32_kr c32_r0a_e c32_r0a c32_r1a_e c32_r1a c32_r2a_e c32_r2a c32_r3a_e c32_r3a c32_r4a_e c32_r4a c32_r5a_e c32_r5a c32_r6a_e c32_r6a c32_b0_e c32_b0 c32_k0 c32_e0 c32_r7a_e c32_r7a c32 c32F
/-! pairing/pairingref1.At -/
def c33_kr : Option Keep := some { slots := [4], drops := [] }
def c33_r0a : List AI := [⟨(some 4), none, .alloc 528064 33 [.bool false, .imm true 1 [], .bool false, .imm true 1 []]⟩]
def c33_r0aQ : List AI := c33_r0a
theorem c33_r0a_e (G : Pure) (ic : Inl) (s : SL) : runL G ic c33_r0aQ s = runL G ic c33_r0a s := rfl
def c33_r1a : List AI := [⟨(some 5), none, .mv (.c (.int .i64 0))⟩]
def c33_r1aQ : List AI := c33_r1a
theorem c33_r1a_e (G : Pure) (ic : Inl) (s : SL) : runL G ic c33_r1aQ s = runL G ic c33_r1a s := rfl
def c33_r2a : List AI := [⟨(some 6), none, .mv (.t 5)⟩,
  ⟨(some 7), none, .mv (.t 0)⟩,
  ⟨(some 8), none, .len (.t 7)⟩,
  ⟨(some 9), none, .bin .lss (.t 6) (.t 8)⟩]
def c33_r2aQ : List AI := c33_r2a
theorem c33_r2a_e (G : Pure) (ic : Inl) (s : SL) : runL G ic c33_r2aQ s = runL G ic c33_r2a s := rfl
def c33_r4a : List AI := [⟨(some 12), none, .mv (.t 0)⟩,
  ⟨(some 13), none, .mv (.t 5)⟩,
  ⟨(some 14), none, .iaddr 5 (.t 12) (.t 13)⟩,
  ⟨(some 15), none, .faddr 0 (.t 14)⟩,
  ⟨(some 16), none, .load none (.t 15)⟩,
  ⟨(some 17), none, .mv (.t 1)⟩,
  ⟨(some 18), none, .bin .eql (.t 16) (.t 17)⟩]
def c33_r4aQ : List AI := c33_r4a
theorem c33_r4a_e (G : Pure) (ic : Inl) (s : SL) : runL G ic c33_r4aQ s = runL G ic c33_r4a s := rfl
def c33_r5a : List AI := [⟨(some 19), none, .mv (.t 0)⟩,
  ⟨(some 20), none, .mv (.t 5)⟩,
  ⟨(some 21), none, .iaddr 5 (.t 19) (.t 20)⟩,
  ⟨(some 22), none, .faddr 1 (.t 21)⟩,
  ⟨(some 23), none, .load (some 4) (.t 22)⟩,
  ⟨(some 24), none, .call 528384 28 [(.t 23)] false⟩,
  ⟨none, none, .store 4 (.t 4) (.t 24)⟩]
def c33_r5aQ : List AI := c33_r5a
theorem c33_r5a_e (G : Pure) (ic : Inl) (s : SL) : runL G ic c33_r5aQ s = runL G ic c33_r5a s := rfl
def c33_r3a : List AI := [⟨(some 10), none, .mv (.t 5)⟩,
  ⟨(some 11), none, .bin .add (.t 10) (.c (.int .i64 1))⟩,
  ⟨(some 5), none, .mv (.t 11)⟩]
def c33_r3aQ : List AI := c33_r3a
theorem c33_r3a_e (G : Pure) (ic : Inl) (s : SL) : runL G ic c33_r3aQ s = runL G ic c33_r3a s := rfl
def c33_b0 : ACode := .seq (.seq (.reg [] c33_r2aQ []) (.cond (.t 9) (.skip) (.exit 0))) (.seq (.block none 1 (.seq (.reg [] c33_r4aQ []) (.cond (.t 18) (.seq (.reg [] c33_r5aQ []) (.ret c33_kr)) (.skip)))) (.reg [] c33_r3aQ []))
def c33_b0Q : ACode := c33_b0
theorem c33_b0_e (G : Pure) (ic : Inl) (n : Nat) (s : SL) : evalC G ic n c33_b0Q s = evalC G ic n c33_b0 s := rfl
def c33_k0 : Keep := { slots := [0, 1, 4, 5], drops := [], adopt := [] }
def c33_e0 : Keep := { slots := [4], drops := [] }
def c33_r6a : List AI := [⟨(some 25), none, .call 528400 39 [(.c (.int .i64 0))] false⟩,
  ⟨none, none, .store 4 (.t 4) (.t 25)⟩]
def c33_r6aQ : List AI := c33_r6a
theorem c33_r6a_e (G : Pure) (ic : Inl) (s : SL) : runL G ic c33_r6aQ s = runL G ic c33_r6a s := rfl
def c33 : ACode := .seq (.reg [] c33_r0aQ []) (.seq (.seq (.reg [] c33_r1aQ []) (.block (some c33_e0) 0 (.loop c33_k0 c33_b0Q))) (.seq (.reg [] c33_r6aQ []) (.ret c33_kr)))
def c33F : AFun := { params := 2, code := c33, results := [.cell 4 (some 4)] }
attribute [simp] c33_kr c33_r0a_e c33_r0a c33_r1a_e c33_r1a c33_r2a_e c33_r2a c33_r4a_e c33_r4a c33_r5a_e c33_r5a c33_r3a_e c33_r3a c33_b0_e c33_b0 c33_k0 c33_e0 c33_r6a_e c33_r6a c33 c33F
/-! pairing/sparse.Multiply -/
def c34_kr : Option Keep := some { slots := [6, 7], drops := [544240, 544272] }
def c34_r0a : List AI := [⟨(some 6), none, .mv (.c (.imm true 5 []))⟩,
  ⟨(some 7), none, .mv (.c (.int .i64 0))⟩]
def c34_r0aQ : List AI := c34_r0a
theorem c34_r0a_e (G : Pure) (ic : Inl) (s : SL) : runL G ic c34_r0aQ s = runL G ic c34_r0a s := rfl
def c34_r1a : List AI := [⟨(some 18), none, .mv (.t 2)⟩,
  ⟨(some 19), none, .call 544304 12 [(.c (.imm true 5 [])), (.t 18)] false⟩,
  ⟨(some 8), none, .mv (.t 19)⟩]
def c34_r1aQ : List AI := c34_r1a
theorem c34_r1a_e (G : Pure) (ic : Inl) (s : SL) : runL G ic c34_r1aQ s = runL G ic c34_r1a s := rfl
def c34_r2a : List AI := [⟨(some 20), none, .mv (.t 8)⟩,
  ⟨(some 21), none, .bin .neq (.t 20) (.c (.int .i64 0))⟩]
def c34_r2aQ : List AI := c34_r2a
theorem c34_r2a_e (G : Pure) (ic : Inl) (s : SL) : runL G ic c34_r2aQ s = runL G ic c34_r2a s := rfl
def c34_r3a : List AI := [⟨(some 22), none, .mv (.t 8)⟩,
  ⟨(some 6), none, .mv (.c (.imm true 5 []))⟩,
  ⟨(some 7), none, .mv (.t 22)⟩]
def c34_r3aQ : List AI := c34_r3a
theorem c34_r3a_e (G : Pure) (ic : Inl) (s : SL) : runL G ic c34_r3aQ s = runL G ic c34_r3a s := rfl
def c34_r4a : List AI := [⟨(some 23), none, .mv (.t 0)⟩,
  ⟨(some 24), none, .len (.t 23)⟩,
  ⟨(some 25), none, .mv (.c (.int .i64 0))⟩]
def c34_r4aQ : List AI := c34_r4a
theorem c34_r4a_e (G : Pure) (ic : Inl) (s : SL) : runL G ic c34_r4aQ s = runL G ic c34_r4a s := rfl
def c34_r5a : List AI := [⟨(some 26), none, .bin .lss (.t 25) (.t 24)⟩]
def c34_r5aQ : List AI := c34_r5a
theorem c34_r5a_e (G : Pure) (ic : Inl) (s : SL) : runL G ic c34_r5aQ s = runL G ic c34_r5a s := rfl
def c34_r6a : List AI := [⟨(some 27), none, .iaddr 1 (.t 23) (.t 25)⟩,
  ⟨(some 28), none, .load none (.t 27)⟩,
  ⟨(some 10), none, .mv (.t 28)⟩]
def c34_r6aQ : List AI := c34_r6a
theorem c34_r6a_e (G : Pure) (ic : Inl) (s : SL) : runL G ic c34_r6aQ s = runL G ic c34_r6a s := rfl
def c34_r7a : List AI := [⟨(some 29), none, .mv (.t 10)⟩,
  ⟨(some 30), none, .mv (.t 2)⟩,
  ⟨(some 31), none, .call 544496 12 [(.t 29), (.t 30)] false⟩,
  ⟨(some 11), none, .mv (.t 31)⟩]
def c34_r7aQ : List AI := c34_r7a
theorem c34_r7a_e (G : Pure) (ic : Inl) (s : SL) : runL G ic c34_r7aQ s = runL G ic c34_r7a s := rfl
def c34_r8a : List AI := [⟨(some 32), none, .mv (.t 11)⟩,
  ⟨(some 33), none, .bin .neq (.t 32) (.c (.int .i64 0))⟩]
def c34_r8aQ : List AI := c34_r8a
theorem c34_r8a_e (G : Pure) (ic : Inl) (s : SL) : runL G ic c34_r8aQ s = runL G ic c34_r8a s := rfl
def c34_r9a : List AI := [⟨(some 34), none, .mv (.t 11)⟩,
  ⟨(some 6), none, .mv (.c (.imm true 5 []))⟩,
  ⟨(some 7), none, .mv (.t 34)⟩]
def c34_r9aQ : List AI := c34_r9a
theorem c34_r9a_e (G : Pure) (ic : Inl) (s : SL) : runL G ic c34_r9aQ s = runL G ic c34_r9a s := rfl
def c34_r10a : List AI := [⟨(some 35), none, .bin .add (.t 25) (.c (.int .i64 1))⟩,
  ⟨(some 25), none, .mv (.t 35)⟩]
def c34_r10aQ : List AI := c34_r10a
theorem c34_r10a_e (G : Pure) (ic : Inl) (s : SL) : runL G ic c34_r10aQ s = runL G ic c34_r10a s := rfl
def c34_b0 : ACode := .seq (.reg [] c34_r5aQ []) (.seq (.cond (.t 26) (.skip) (.exit 0)) (.seq (.block none 1 (.seq (.reg [] c34_r6aQ []) (.seq (.reg [] c34_r7aQ []) (.seq (.reg [] c34_r8aQ []) (.cond (.t 33) (.seq (.reg [] c34_r9aQ []) (.ret c34_kr)) (.skip)))))) (.reg [] c34_r10aQ [])))
def c34_b0Q : ACode := c34_b0
theorem c34_b0_e (G : Pure) (ic : Inl) (n : Nat) (s : SL) : evalC G ic n c34_b0Q s = evalC G ic n c34_b0 s := rfl
def c34_k0 : Keep := { slots := [0, 1, 2, 23, 24, 25], drops := [], adopt := [] }
def c34_e0 : Keep := { slots := [0, 1, 2], drops := [] }
def c34_r11a : List AI := [⟨(some 36), none, .mv (.t 1)⟩,
  ⟨(some 37), none, .mv (.t 0)⟩,
  ⟨(some 38), none, .len (.t 37)⟩,
  ⟨(some 39), none, .call 544624 12 [(.t 36), (.t 38)] false⟩,
  ⟨(some 12), none, .mv (.t 39)⟩]
def c34_r11aQ : List AI := c34_r11a
theorem c34_r11a_e (G : Pure) (ic : Inl) (s : SL) : runL G ic c34_r11aQ s = runL G ic c34_r11a s := rfl
def c34_r12a : List AI := [⟨(some 40), none, .mv (.t 12)⟩,
  ⟨(some 41), none, .bin .neq (.t 40) (.c (.int .i64 0))⟩]
def c34_r12aQ : List AI := c34_r12a
theorem c34_r12a_e (G : Pure) (ic : Inl) (s : SL) : runL G ic c34_r12aQ s = runL G ic c34_r12a s := rfl
def c34_r13a : List AI := [⟨(some 42), none, .mv (.t 12)⟩,
  ⟨(some 6), none, .mv (.c (.imm true 5 []))⟩,
  ⟨(some 7), none, .mv (.t 42)⟩]
def c34_r13aQ : List AI := c34_r13a
theorem c34_r13a_e (G : Pure) (ic : Inl) (s : SL) : runL G ic c34_r13aQ s = runL G ic c34_r13a s := rfl
def c34_r14a : List AI := [⟨(some 43), none, .mv (.t 2)⟩,
  ⟨(some 44), none, .call 544704 53 [(.t 43)] true⟩,
  ⟨(some 13), none, .mv (.t 44)⟩]
def c34_r14aQ : List AI := c34_r14a
theorem c34_r14a_e (G : Pure) (ic : Inl) (s : SL) : runL G ic c34_r14aQ s = runL G ic c34_r14a s := rfl
def c34_r15a : List AI := [⟨(some 45), none, .mv (.t 1)⟩,
  ⟨(some 46), none, .len (.t 45)⟩,
  ⟨(some 47), none, .mv (.c (.int .i64 0))⟩]
def c34_r15aQ : List AI := c34_r15a
theorem c34_r15a_e (G : Pure) (ic : Inl) (s : SL) : runL G ic c34_r15aQ s = runL G ic c34_r15a s := rfl
def c34_r16a : List AI := [⟨(some 48), none, .bin .lss (.t 47) (.t 46)⟩]
def c34_r16aQ : List AI := c34_r16a
theorem c34_r16a_e (G : Pure) (ic : Inl) (s : SL) : runL G ic c34_r16aQ s = runL G ic c34_r16a s := rfl
def c34_r17a : List AI := [⟨(some 49), none, .iaddr 5 (.t 45) (.t 47)⟩,
  ⟨(some 50), none, .load (some 5) (.t 49)⟩,
  ⟨(some 15), none, .alloc 544240 51 [.int .i64 0, .bool false, .imm true 1 [], .bool false, .imm true 1 []]⟩,
  ⟨none, none, .store 5 (.t 15) (.t 50)⟩]
def c34_r17aQ : List AI := c34_r17a
theorem c34_r17a_e (G : Pure) (ic : Inl) (s : SL) : runL G ic c34_r17aQ s = runL G ic c34_r17a s := rfl
def c34_r18a : List AI := [⟨(some 51), none, .mv (.t 0)⟩,
  ⟨(some 52), none, .faddr 0 (.t 15)⟩,
  ⟨(some 53), none, .load none (.t 52)⟩,
  ⟨(some 54), none, .iaddr 1 (.t 51) (.t 53)⟩,
  ⟨(some 55), none, .load none (.t 54)⟩,
  ⟨(some 56), none, .len (.t 55)⟩,
  ⟨(some 57), none, .mv (.c (.int .i64 0))⟩]
def c34_r18aQ : List AI := c34_r18a
theorem c34_r18a_e (G : Pure) (ic : Inl) (s : SL) : runL G ic c34_r18aQ s = runL G ic c34_r18a s := rfl
def c34_r19a : List AI := [⟨(some 58), none, .bin .lss (.t 57) (.t 56)⟩]
def c34_r19aQ : List AI := c34_r19a
theorem c34_r19a_e (G : Pure) (ic : Inl) (s : SL) : runL G ic c34_r19aQ s = runL G ic c34_r19a s := rfl
def c34_r20a : List AI := [⟨(some 59), none, .iaddr 5 (.t 55) (.t 57)⟩,
  ⟨(some 60), none, .load (some 5) (.t 59)⟩,
  ⟨(some 17), none, .alloc 544272 51 [.int .i64 0, .bool false, .imm true 1 [], .bool false, .imm true 1 []]⟩,
  ⟨none, none, .store 5 (.t 17) (.t 60)⟩]
def c34_r20aQ : List AI := c34_r20a
theorem c34_r20a_e (G : Pure) (ic : Inl) (s : SL) : runL G ic c34_r20aQ s = runL G ic c34_r20a s := rfl
def c34_r21a : List AI := [⟨(some 61), none, .mv (.t 13)⟩,
  ⟨(some 62), none, .faddr 0 (.t 17)⟩,
  ⟨(some 63), none, .load none (.t 62)⟩,
  ⟨(some 64), none, .mv (.t 13)⟩,
  ⟨(some 65), none, .faddr 0 (.t 17)⟩,
  ⟨(some 66), none, .load none (.t 65)⟩,
  ⟨(some 67), none, .iaddr 4 (.t 64) (.t 66)⟩,
  ⟨(some 68), none, .load (some 4) (.t 67)⟩,
  ⟨(some 69), none, .faddr 1 (.t 15)⟩,
  ⟨(some 70), none, .load (some 4) (.t 69)⟩,
  ⟨(some 71), none, .faddr 1 (.t 17)⟩,
  ⟨(some 72), none, .load (some 4) (.t 71)⟩,
  ⟨(some 73), none, .call 545168 46 [(.t 70), (.t 72)] false⟩,
  ⟨(some 74), none, .call 545184 47 [(.t 68), (.t 73)] false⟩,
  ⟨(some 75), none, .iaddr 4 (.t 61) (.t 63)⟩,
  ⟨none, none, .store 4 (.t 75) (.t 74)⟩]
def c34_r21aQ : List AI := c34_r21a
theorem c34_r21a_e (G : Pure) (ic : Inl) (s : SL) : runL G ic c34_r21aQ s = runL G ic c34_r21a s := rfl
def c34_r22a : List AI := [⟨(some 76), none, .bin .add (.t 57) (.c (.int .i64 1))⟩,
  ⟨(some 57), none, .mv (.t 76)⟩]
def c34_r22aQ : List AI := c34_r22a
theorem c34_r22a_e (G : Pure) (ic : Inl) (s : SL) : runL G ic c34_r22aQ s = runL G ic c34_r22a s := rfl
def c34_b1 : ACode := .seq (.reg [] c34_r19aQ []) (.seq (.cond (.t 58) (.skip) (.exit 4)) (.seq (.block none 5 (.seq (.reg [] c34_r20aQ []) (.reg [] c34_r21aQ []))) (.reg [] c34_r22aQ [])))
def c34_b1Q : ACode := c34_b1
theorem c34_b1_e (G : Pure) (ic : Inl) (n : Nat) (s : SL) : evalC G ic n c34_b1Q s = evalC G ic n c34_b1 s := rfl
def c34_k1 : Keep := { slots := [0, 13, 15, 45, 46, 47, 55, 56, 57], drops := [544272], adopt := [] }
def c34_e1 : Keep := { slots := [0, 13, 45, 46, 47], drops := [544272] }
def c34_r23a : List AI := [⟨(some 77), none, .bin .add (.t 47) (.c (.int .i64 1))⟩,
  ⟨(some 47), none, .mv (.t 77)⟩]
def c34_r23aQ : List AI := c34_r23a
theorem c34_r23a_e (G : Pure) (ic : Inl) (s : SL) : runL G ic c34_r23aQ s = runL G ic c34_r23a s := rfl
def c34_b2 : ACode := .seq (.reg [] c34_r16aQ []) (.seq (.cond (.t 48) (.skip) (.exit 2)) (.seq (.block none 3 (.seq (.reg [] c34_r17aQ []) (.seq (.reg [] c34_r18aQ []) (.block (some c34_e1) 4 (.loop c34_k1 c34_b1Q))))) (.reg [] c34_r23aQ [])))
def c34_b2Q : ACode := c34_b2
theorem c34_b2_e (G : Pure) (ic : Inl) (n : Nat) (s : SL) : evalC G ic n c34_b2Q s = evalC G ic n c34_b2 s := rfl
def c34_k2 : Keep := { slots := [0, 13, 45, 46, 47], drops := [544240, 544272], adopt := [] }
def c34_e2 : Keep := { slots := [13], drops := [544240, 544272] }
def c34_r24a : List AI := [⟨(some 78), none, .mv (.t 13)⟩,
  ⟨(some 79), none, .call 545264 54 [(.t 78)] false⟩,
  ⟨(some 6), none, .mv (.t 79)⟩,
  ⟨(some 7), none, .mv (.c (.int .i64 0))⟩]
def c34_r24aQ : List AI := c34_r24a
theorem c34_r24a_e (G : Pure) (ic : Inl) (s : SL) : runL G ic c34_r24aQ s = runL G ic c34_r24a s := rfl
def c34 : ACode := .seq (.reg [] c34_r0aQ []) (.seq (.seq (.reg [] c34_r1aQ []) (.seq (.reg [] c34_r2aQ []) (.cond (.t 21) (.seq (.reg [] c34_r3aQ []) (.ret c34_kr)) (.skip)))) (.seq (.seq (.reg [] c34_r4aQ []) (.block (some c34_e0) 0 (.loop c34_k0 c34_b0Q))) (.seq (.seq (.reg [] c34_r11aQ []) (.seq (.reg [] c34_r12aQ []) (.cond (.t 41) (.seq (.reg [] c34_r13aQ []) (.ret c34_kr)) (.skip)))) (.seq (.reg [] c34_r14aQ []) (.seq (.seq (.reg [] c34_r15aQ []) (.block (some c34_e2) 2 (.loop c34_k2 c34_b2Q))) (.seq (.reg [] c34_r24aQ []) (.ret c34_kr)))))))
def c34F : AFun := { params := 3, code := c34, results := [.tmp 6, .tmp 7] }
attribute [simp] c34_kr c34_r0a_e c34_r0a c34_r1a_e c34_r1a c34_r2a_e c34_r2a c34_r3a_e c34_r3a c34_r4a_e c34_r4a c34_r5a_e c34_r5a c34_r6a_e c34_r6a c34_r7a_e c34_r7a c34_r8a_e c34_r8a c34_r9a_e c34_r9a c34_r10a_e c34_r10a c34_b0_e c34_b0 c34_k0 c34_e0 c34_r11a_e c34_r11a c34_r12a_e c34_r12a c34_r13a_e c34_r13a c34_r14a_e c34_r14a c34_r15a_e c34_r15a c34_r16a_e c34_r16a c34_r17a_e c34_r17a c34_r18a_e c34_r18a c34_r19a_e c34_r19a c34_r20a_e c34_r20a c34_r21a_e c34_r21a c34_r22a_e c34_r22a c34_b1_e c34_b1 c34_k1 c34_e1 c34_r23a_e c34_r23a c34_b2_e c34_b2 c34_k2 c34_e2 c34_r24a_e c34_r24a c34 c34F
theorem c34_ok : IsFun Try.prog ks 34 c34F := by unfold IsFun; kernel_rfl
/-! pairing/pairingref1.Multiply -/
def c35_kr : Option Keep := some { slots := [6, 7], drops := [] }
def c35_r0a : List AI := [⟨(some 6), none, .mv (.c (.imm true 5 []))⟩,
  ⟨(some 7), none, .mv (.c (.int .i64 0))⟩]
def c35_r0aQ : List AI := c35_r0a
theorem c35_r0a_e (G : Pure) (ic : Inl) (s : SL) : runL G ic c35_r0aQ s = runL G ic c35_r0a s := rfl
def c35_r1a : List AI := [⟨(some 13), none, .mv (.t 2)⟩,
  ⟨(some 14), none, .bin .lss (.t 13) (.c (.int .i64 0))⟩,
  ⟨(some 15), none, .mv (.t 14)⟩,
  ⟨(some 16), (some (15, false)), .mv (.t 2)⟩,
  ⟨(some 17), (some (15, false)), .bin .gtr (.t 16) (.c (.int .i64 4096))⟩,
  ⟨(some 18), none, .pick (.t 15) (.c (.bool true)) (.t 17)⟩]
def c35_r1aQ : List AI := c35_r1a
theorem c35_r1a_e (G : Pure) (ic : Inl) (s : SL) : runL G ic c35_r1aQ s = runL G ic c35_r1a s := rfl
def c35_r2a : List AI := [⟨(some 6), none, .mv (.c (.imm true 5 []))⟩,
  ⟨(some 7), none, .mv (.c (.int .i64 5))⟩]
def c35_r2aQ : List AI := c35_r2a
theorem c35_r2a_e (G : Pure) (ic : Inl) (s : SL) : runL G ic c35_r2aQ s = runL G ic c35_r2a s := rfl
def c35_r3a : List AI := [⟨(some 8), none, .mv (.c (.int .i64 0))⟩]
def c35_r3aQ : List AI := c35_r3a
theorem c35_r3a_e (G : Pure) (ic : Inl) (s : SL) : runL G ic c35_r3aQ s = runL G ic c35_r3a s := rfl
def c35_r4a : List AI := [⟨(some 19), none, .mv (.t 8)⟩,
  ⟨(some 20), none, .mv (.t 0)⟩,
  ⟨(some 21), none, .len (.t 20)⟩,
  ⟨(some 22), none, .bin .lss (.t 19) (.t 21)⟩]
def c35_r4aQ : List AI := c35_r4a
theorem c35_r4a_e (G : Pure) (ic : Inl) (s : SL) : runL G ic c35_r4aQ s = runL G ic c35_r4a s := rfl
def c35_r6a : List AI := [⟨(some 25), none, .mv (.t 0)⟩,
  ⟨(some 26), none, .mv (.t 8)⟩,
  ⟨(some 27), none, .iaddr 1 (.t 25) (.t 26)⟩,
  ⟨(some 28), none, .load none (.t 27)⟩,
  ⟨(some 29), none, .mv (.t 2)⟩,
  ⟨(some 30), none, .call 560480 13 [(.t 28), (.t 29)] false⟩,
  ⟨(some 9), none, .mv (.t 30)⟩]
def c35_r6aQ : List AI := c35_r6a
theorem c35_r6a_e (G : Pure) (ic : Inl) (s : SL) : runL G ic c35_r6aQ s = runL G ic c35_r6a s := rfl
def c35_r7a : List AI := [⟨(some 31), none, .mv (.t 9)⟩,
  ⟨(some 32), none, .bin .neq (.t 31) (.c (.int .i64 0))⟩]
def c35_r7aQ : List AI := c35_r7a
theorem c35_r7a_e (G : Pure) (ic : Inl) (s : SL) : runL G ic c35_r7aQ s = runL G ic c35_r7a s := rfl
def c35_r8a : List AI := [⟨(some 33), none, .mv (.t 9)⟩,
  ⟨(some 6), none, .mv (.c (.imm true 5 []))⟩,
  ⟨(some 7), none, .mv (.t 33)⟩]
def c35_r8aQ : List AI := c35_r8a
theorem c35_r8a_e (G : Pure) (ic : Inl) (s : SL) : runL G ic c35_r8aQ s = runL G ic c35_r8a s := rfl
def c35_r5a : List AI := [⟨(some 23), none, .mv (.t 8)⟩,
  ⟨(some 24), none, .bin .add (.t 23) (.c (.int .i64 1))⟩,
  ⟨(some 8), none, .mv (.t 24)⟩]
def c35_r5aQ : List AI := c35_r5a
theorem c35_r5a_e (G : Pure) (ic : Inl) (s : SL) : runL G ic c35_r5aQ s = runL G ic c35_r5a s := rfl
def c35_b0 : ACode := .seq (.seq (.reg [] c35_r4aQ []) (.cond (.t 22) (.skip) (.exit 0))) (.seq (.block none 1 (.seq (.reg [] c35_r6aQ []) (.seq (.reg [] c35_r7aQ []) (.cond (.t 32) (.seq (.reg [] c35_r8aQ []) (.ret c35_kr)) (.skip))))) (.reg [] c35_r5aQ []))
def c35_b0Q : ACode := c35_b0
theorem c35_b0_e (G : Pure) (ic : Inl) (n : Nat) (s : SL) : evalC G ic n c35_b0Q s = evalC G ic n c35_b0 s := rfl
def c35_k0 : Keep := { slots := [0, 1, 2, 8], drops := [], adopt := [] }
def c35_e0 : Keep := { slots := [0, 1, 2], drops := [] }
def c35_r9a : List AI := [⟨(some 34), none, .mv (.t 1)⟩,
  ⟨(some 35), none, .mv (.t 0)⟩,
  ⟨(some 36), none, .len (.t 35)⟩,
  ⟨(some 37), none, .call 560592 13 [(.t 34), (.t 36)] false⟩,
  ⟨(some 10), none, .mv (.t 37)⟩]
def c35_r9aQ : List AI := c35_r9a
theorem c35_r9a_e (G : Pure) (ic : Inl) (s : SL) : runL G ic c35_r9aQ s = runL G ic c35_r9a s := rfl
def c35_r10a : List AI := [⟨(some 38), none, .mv (.t 10)⟩,
  ⟨(some 39), none, .bin .neq (.t 38) (.c (.int .i64 0))⟩]
def c35_r10aQ : List AI := c35_r10a
theorem c35_r10a_e (G : Pure) (ic : Inl) (s : SL) : runL G ic c35_r10aQ s = runL G ic c35_r10a s := rfl
def c35_r11a : List AI := [⟨(some 40), none, .mv (.t 10)⟩,
  ⟨(some 6), none, .mv (.c (.imm true 5 []))⟩,
  ⟨(some 7), none, .mv (.t 40)⟩]
def c35_r11aQ : List AI := c35_r11a
theorem c35_r11a_e (G : Pure) (ic : Inl) (s : SL) : runL G ic c35_r11aQ s = runL G ic c35_r11a s := rfl
def c35_r12a : List AI := [⟨(some 11), none, .mv (.c (.imm true 5 []))⟩]
def c35_r12aQ : List AI := c35_r12a
theorem c35_r12a_e (G : Pure) (ic : Inl) (s : SL) : runL G ic c35_r12aQ s = runL G ic c35_r12a s := rfl
def c35_r13a : List AI := [⟨(some 12), none, .mv (.c (.int .i64 0))⟩]
def c35_r13aQ : List AI := c35_r13a
theorem c35_r13a_e (G : Pure) (ic : Inl) (s : SL) : runL G ic c35_r13aQ s = runL G ic c35_r13a s := rfl
def c35_r14a : List AI := [⟨(some 41), none, .mv (.t 12)⟩,
  ⟨(some 42), none, .mv (.t 1)⟩,
  ⟨(some 43), none, .len (.t 42)⟩,
  ⟨(some 44), none, .bin .lss (.t 41) (.t 43)⟩]
def c35_r14aQ : List AI := c35_r14a
theorem c35_r14a_e (G : Pure) (ic : Inl) (s : SL) : runL G ic c35_r14aQ s = runL G ic c35_r14a s := rfl
def c35_r16a : List AI := [⟨(some 48), none, .mv (.t 11)⟩,
  ⟨(some 49), none, .mv (.t 0)⟩,
  ⟨(some 50), none, .mv (.t 1)⟩,
  ⟨(some 51), none, .mv (.t 12)⟩,
  ⟨(some 52), none, .iaddr 5 (.t 50) (.t 51)⟩,
  ⟨(some 53), none, .faddr 0 (.t 52)⟩,
  ⟨(some 54), none, .load none (.t 53)⟩,
  ⟨(some 55), none, .iaddr 1 (.t 49) (.t 54)⟩,
  ⟨(some 56), none, .load none (.t 55)⟩,
  ⟨(some 57), none, .mv (.t 1)⟩,
  ⟨(some 58), none, .mv (.t 12)⟩,
  ⟨(some 59), none, .iaddr 5 (.t 57) (.t 58)⟩,
  ⟨(some 60), none, .faddr 1 (.t 59)⟩,
  ⟨(some 61), none, .load (some 4) (.t 60)⟩,
  ⟨(some 62), none, .mv (.t 2)⟩,
  ⟨(some 63), none, .call 561008 22 [(.t 48), (.t 56), (.t 61), (.t 62)] false⟩,
  ⟨(some 47), none, .mv (.t 63)⟩,
  ⟨(some 64), none, .extract (.t 47) 0⟩,
  ⟨(some 65), none, .extract (.t 47) 1⟩,
  ⟨(some 11), none, .mv (.t 64)⟩]
def c35_r16aQ : List AI := c35_r16a
theorem c35_r16a_e (G : Pure) (ic : Inl) (s : SL) : runL G ic c35_r16aQ s = runL G ic c35_r16a s := rfl
def c35_r15a : List AI := [⟨(some 45), none, .mv (.t 12)⟩,
  ⟨(some 46), none, .bin .add (.t 45) (.c (.int .i64 1))⟩,
  ⟨(some 12), none, .mv (.t 46)⟩]
def c35_r15aQ : List AI := c35_r15a
theorem c35_r15a_e (G : Pure) (ic : Inl) (s : SL) : runL G ic c35_r15aQ s = runL G ic c35_r15a s := rfl
def c35_b1 : ACode := .seq (.seq (.reg [] c35_r14aQ []) (.cond (.t 44) (.skip) (.exit 2))) (.seq (.block none 3 (.reg [] c35_r16aQ [])) (.reg [] c35_r15aQ []))
def c35_b1Q : ACode := c35_b1
theorem c35_b1_e (G : Pure) (ic : Inl) (n : Nat) (s : SL) : evalC G ic n c35_b1Q s = evalC G ic n c35_b1 s := rfl
def c35_k1 : Keep := { slots := [0, 1, 2, 11, 12], drops := [], adopt := [] }
def c35_e1 : Keep := { slots := [11], drops := [] }
def c35_r17a : List AI := [⟨(some 66), none, .mv (.t 11)⟩,
  ⟨(some 6), none, .mv (.t 66)⟩,
  ⟨(some 7), none, .mv (.c (.int .i64 0))⟩]
def c35_r17aQ : List AI := c35_r17a
theorem c35_r17a_e (G : Pure) (ic : Inl) (s : SL) : runL G ic c35_r17aQ s = runL G ic c35_r17a s := rfl
def c35 : ACode := .seq (.reg [] c35_r0aQ []) (.seq (.seq (.reg [] c35_r1aQ []) (.cond (.t 18) (.seq (.reg [] c35_r2aQ []) (.ret c35_kr)) (.skip))) (.seq (.seq (.reg [] c35_r3aQ []) (.block (some c35_e0) 0 (.loop c35_k0 c35_b0Q))) (.seq (.seq (.reg [] c35_r9aQ []) (.seq (.reg [] c35_r10aQ []) (.cond (.t 39) (.seq (.reg [] c35_r11aQ []) (.ret c35_kr)) (.skip)))) (.seq (.reg [] c35_r12aQ []) (.seq (.seq (.reg [] c35_r13aQ []) (.block (some c35_e1) 2 (.loop c35_k1 c35_b1Q))) (.seq (.reg [] c35_r17aQ []) (.ret c35_kr)))))))
def c35F : AFun := { params := 3, code := c35, results := [.tmp 6, .tmp 7] }
attribute [simp] c35_kr c35_r0a_e c35_r0a c35_r1a_e c35_r1a c35_r2a_e c35_r2a c35_r3a_e c35_r3a c35_r4a_e c35_r4a c35_r6a_e c35_r6a c35_r7a_e c35_r7a c35_r8a_e c35_r8a c35_r5a_e c35_r5a c35_b0_e c35_b0 c35_k0 c35_e0 c35_r9a_e c35_r9a c35_r10a_e c35_r10a c35_r11a_e c35_r11a c35_r12a_e c35_r12a c35_r13a_e c35_r13a c35_r14a_e c35_r14a c35_r16a_e c35_r16a c35_r15a_e c35_r15a c35_b1_e c35_b1 c35_k1 c35_e1 c35_r17a_e c35_r17a c35 c35F
/-! pairing/sparse.Transpose -/
def c36_kr : Option Keep := some { slots := [4, 5], drops := [576208] }
def c36_r0a : List AI := [⟨(some 4), none, .mv (.c (.imm true 1 []))⟩,
  ⟨(some 5), none, .mv (.c (.int .i64 0))⟩]
def c36_r0aQ : List AI := c36_r0a
theorem c36_r0a_e (G : Pure) (ic : Inl) (s : SL) : runL G ic c36_r0aQ s = runL G ic c36_r0a s := rfl
def c36_r1a : List AI := [⟨(some 14), none, .mv (.t 1)⟩,
  ⟨(some 15), none, .bin .lss (.t 14) (.c (.int .i64 0))⟩,
  ⟨(some 16), none, .mv (.t 15)⟩,
  ⟨(some 17), (some (16, false)), .mv (.t 1)⟩,
  ⟨(some 18), (some (16, false)), .bin .gtr (.t 17) (.c (.int .i64 4096))⟩,
  ⟨(some 19), none, .pick (.t 16) (.c (.bool true)) (.t 18)⟩,
  ⟨(some 20), none, .mv (.t 19)⟩,
  ⟨(some 21), (some (20, false)), .mv (.t 0)⟩,
  ⟨(some 22), (some (20, false)), .len (.t 21)⟩,
  ⟨(some 23), (some (20, false)), .bin .gtr (.t 22) (.c (.int .i64 4096))⟩,
  ⟨(some 24), none, .pick (.t 20) (.c (.bool true)) (.t 23)⟩]
def c36_r1aQ : List AI := c36_r1a
theorem c36_r1a_e (G : Pure) (ic : Inl) (s : SL) : runL G ic c36_r1aQ s = runL G ic c36_r1a s := rfl
def c36_r2a : List AI := [⟨(some 4), none, .mv (.c (.imm true 1 []))⟩,
  ⟨(some 5), none, .mv (.c (.int .i64 5))⟩]
def c36_r2aQ : List AI := c36_r2a
theorem c36_r2a_e (G : Pure) (ic : Inl) (s : SL) : runL G ic c36_r2aQ s = runL G ic c36_r2a s := rfl
def c36_r3a : List AI := [⟨(some 25), none, .mv (.t 0)⟩,
  ⟨(some 26), none, .len (.t 25)⟩,
  ⟨(some 27), none, .mv (.c (.int .i64 0))⟩]
def c36_r3aQ : List AI := c36_r3a
theorem c36_r3a_e (G : Pure) (ic : Inl) (s : SL) : runL G ic c36_r3aQ s = runL G ic c36_r3a s := rfl
def c36_r4a : List AI := [⟨(some 28), none, .bin .lss (.t 27) (.t 26)⟩]
def c36_r4aQ : List AI := c36_r4a
theorem c36_r4a_e (G : Pure) (ic : Inl) (s : SL) : runL G ic c36_r4aQ s = runL G ic c36_r4a s := rfl
def c36_r5a : List AI := [⟨(some 29), none, .iaddr 1 (.t 25) (.t 27)⟩,
  ⟨(some 30), none, .load none (.t 29)⟩,
  ⟨(some 7), none, .mv (.t 30)⟩]
def c36_r5aQ : List AI := c36_r5a
theorem c36_r5a_e (G : Pure) (ic : Inl) (s : SL) : runL G ic c36_r5aQ s = runL G ic c36_r5a s := rfl
def c36_r6a : List AI := [⟨(some 31), none, .mv (.t 7)⟩,
  ⟨(some 32), none, .mv (.t 1)⟩,
  ⟨(some 33), none, .call 576528 12 [(.t 31), (.t 32)] false⟩,
  ⟨(some 8), none, .mv (.t 33)⟩]
def c36_r6aQ : List AI := c36_r6a
theorem c36_r6a_e (G : Pure) (ic : Inl) (s : SL) : runL G ic c36_r6aQ s = runL G ic c36_r6a s := rfl
def c36_r7a : List AI := [⟨(some 34), none, .mv (.t 8)⟩,
  ⟨(some 35), none, .bin .neq (.t 34) (.c (.int .i64 0))⟩]
def c36_r7aQ : List AI := c36_r7a
theorem c36_r7a_e (G : Pure) (ic : Inl) (s : SL) : runL G ic c36_r7aQ s = runL G ic c36_r7a s := rfl
def c36_r8a : List AI := [⟨(some 36), none, .mv (.t 8)⟩,
  ⟨(some 4), none, .mv (.c (.imm true 1 []))⟩,
  ⟨(some 5), none, .mv (.t 36)⟩]
def c36_r8aQ : List AI := c36_r8a
theorem c36_r8a_e (G : Pure) (ic : Inl) (s : SL) : runL G ic c36_r8aQ s = runL G ic c36_r8a s := rfl
def c36_r9a : List AI := [⟨(some 37), none, .bin .add (.t 27) (.c (.int .i64 1))⟩,
  ⟨(some 27), none, .mv (.t 37)⟩]
def c36_r9aQ : List AI := c36_r9a
theorem c36_r9a_e (G : Pure) (ic : Inl) (s : SL) : runL G ic c36_r9aQ s = runL G ic c36_r9a s := rfl
def c36_b0 : ACode := .seq (.reg [] c36_r4aQ []) (.seq (.cond (.t 28) (.skip) (.exit 0)) (.seq (.block none 1 (.seq (.reg [] c36_r5aQ []) (.seq (.reg [] c36_r6aQ []) (.seq (.reg [] c36_r7aQ []) (.cond (.t 35) (.seq (.reg [] c36_r8aQ []) (.ret c36_kr)) (.skip)))))) (.reg [] c36_r9aQ [])))
def c36_b0Q : ACode := c36_b0
theorem c36_b0_e (G : Pure) (ic : Inl) (n : Nat) (s : SL) : evalC G ic n c36_b0Q s = evalC G ic n c36_b0 s := rfl
def c36_k0 : Keep := { slots := [0, 1, 25, 26, 27], drops := [], adopt := [] }
def c36_e0 : Keep := { slots := [0, 1], drops := [] }
def c36_r10a : List AI := [⟨(some 38), none, .mv (.t 1)⟩,
  ⟨(some 39), none, .make 576624 23 1 24 [.imm true 5 []] (.t 38) (.t 38)⟩,
  ⟨(some 9), none, .mv (.t 39)⟩]
def c36_r10aQ : List AI := c36_r10a
theorem c36_r10a_e (G : Pure) (ic : Inl) (s : SL) : runL G ic c36_r10aQ s = runL G ic c36_r10a s := rfl
def c36_r11a : List AI := [⟨(some 40), none, .mv (.t 0)⟩,
  ⟨(some 41), none, .len (.t 40)⟩,
  ⟨(some 42), none, .mv (.c (.int .i64 0))⟩]
def c36_r11aQ : List AI := c36_r11a
theorem c36_r11a_e (G : Pure) (ic : Inl) (s : SL) : runL G ic c36_r11aQ s = runL G ic c36_r11a s := rfl
def c36_r12a : List AI := [⟨(some 43), none, .bin .lss (.t 42) (.t 41)⟩]
def c36_r12aQ : List AI := c36_r12a
theorem c36_r12a_e (G : Pure) (ic : Inl) (s : SL) : runL G ic c36_r12aQ s = runL G ic c36_r12a s := rfl
def c36_r13a : List AI := [⟨(some 44), none, .mv (.t 42)⟩,
  ⟨(some 45), none, .iaddr 1 (.t 40) (.t 42)⟩,
  ⟨(some 46), none, .load none (.t 45)⟩,
  ⟨(some 10), none, .mv (.t 44)⟩,
  ⟨(some 11), none, .mv (.t 46)⟩]
def c36_r13aQ : List AI := c36_r13a
theorem c36_r13a_e (G : Pure) (ic : Inl) (s : SL) : runL G ic c36_r13aQ s = runL G ic c36_r13a s := rfl
def c36_r14a : List AI := [⟨(some 47), none, .mv (.t 11)⟩,
  ⟨(some 48), none, .len (.t 47)⟩,
  ⟨(some 49), none, .mv (.c (.int .i64 0))⟩]
def c36_r14aQ : List AI := c36_r14a
theorem c36_r14a_e (G : Pure) (ic : Inl) (s : SL) : runL G ic c36_r14aQ s = runL G ic c36_r14a s := rfl
def c36_r15a : List AI := [⟨(some 50), none, .bin .lss (.t 49) (.t 48)⟩]
def c36_r15aQ : List AI := c36_r15a
theorem c36_r15a_e (G : Pure) (ic : Inl) (s : SL) : runL G ic c36_r15aQ s = runL G ic c36_r15a s := rfl
def c36_r16a : List AI := [⟨(some 51), none, .iaddr 5 (.t 47) (.t 49)⟩,
  ⟨(some 52), none, .load (some 5) (.t 51)⟩,
  ⟨(some 13), none, .alloc 576208 51 [.int .i64 0, .bool false, .imm true 1 [], .bool false, .imm true 1 []]⟩,
  ⟨none, none, .store 5 (.t 13) (.t 52)⟩]
def c36_r16aQ : List AI := c36_r16a
theorem c36_r16a_e (G : Pure) (ic : Inl) (s : SL) : runL G ic c36_r16aQ s = runL G ic c36_r16a s := rfl
def c36_r17a : List AI := [⟨(some 53), none, .mv (.t 9)⟩,
  ⟨(some 54), none, .faddr 0 (.t 13)⟩,
  ⟨(some 55), none, .load none (.t 54)⟩,
  ⟨(some 56), none, .mv (.t 9)⟩,
  ⟨(some 57), none, .faddr 0 (.t 13)⟩,
  ⟨(some 58), none, .load none (.t 57)⟩,
  ⟨(some 59), none, .iaddr 1 (.t 56) (.t 58)⟩,
  ⟨(some 60), none, .load none (.t 59)⟩,
  ⟨(some 61), none, .mv (.t 10)⟩,
  ⟨(some 62), none, .faddr 1 (.t 13)⟩,
  ⟨(some 63), none, .load (some 4) (.t 62)⟩,
  ⟨(some 64), none, .call 577024 45 [(.t 63)] false⟩,
  ⟨(some 65), none, .build [.int .i64 0, .bool false, .imm true 1 [], .bool false, .imm true 1 []] [(0, 1, (.t 61)), (1, 4, (.t 64))]⟩,
  ⟨(some 66), none, .bslice 51 5 1 [.int .i64 0, .bool false, .imm true 1 [], .bool false, .imm true 1 []] [(0, (.t 65))]⟩]
def c36_r17aQ : List AI := c36_r17a
theorem c36_r17a_e (G : Pure) (ic : Inl) (s : SL) : runL G ic c36_r17aQ s = runL G ic c36_r17a s := rfl
theorem c36_r17a_l (G : Pure) (ic : Inl) (l : Logs) (s : SL) : logL G ic c36_r17aQ l s = logL G ic c36_r17a l s := rfl
def c36_r17b : List AI := [⟨(some 68), none, .iaddr 1 (.t 53) (.t 55)⟩,
  ⟨none, none, .store 1 (.t 68) (.t 67)⟩]
def c36_r17bQ : List AI := c36_r17b
theorem c36_r17b_e (G : Pure) (ic : Inl) (s : SL) : runL G ic c36_r17bQ s = runL G ic c36_r17b s := rfl
def c36_r18a : List AI := [⟨(some 69), none, .bin .add (.t 49) (.c (.int .i64 1))⟩,
  ⟨(some 49), none, .mv (.t 69)⟩]
def c36_r18aQ : List AI := c36_r18a
theorem c36_r18a_e (G : Pure) (ic : Inl) (s : SL) : runL G ic c36_r18aQ s = runL G ic c36_r18a s := rfl
def c36_b1 : ACode := .seq (.reg [] c36_r15aQ []) (.seq (.cond (.t 50) (.skip) (.exit 4)) (.seq (.block none 5 (.seq (.reg [] c36_r16aQ []) (.reg2 [] c36_r17aQ ⟨(some 67), none, .app 577072 51 5 72 (.t 60) (.t 66)⟩ c36_r17bQ [0, 1, 2] [9, 53, 13, 54, 54, 55]))) (.reg [] c36_r18aQ [])))
def c36_b1Q : ACode := c36_b1
theorem c36_b1_e (G : Pure) (ic : Inl) (n : Nat) (s : SL) : evalC G ic n c36_b1Q s = evalC G ic n c36_b1 s := rfl
def c36_k1 : Keep := { slots := [9, 10, 40, 41, 42, 47, 48, 49], drops := [576208], adopt := [] }
def c36_e1 : Keep := { slots := [9, 40, 41, 42], drops := [576208] }
def c36_r19a : List AI := [⟨(some 70), none, .bin .add (.t 42) (.c (.int .i64 1))⟩,
  ⟨(some 42), none, .mv (.t 70)⟩]
def c36_r19aQ : List AI := c36_r19a
theorem c36_r19a_e (G : Pure) (ic : Inl) (s : SL) : runL G ic c36_r19aQ s = runL G ic c36_r19a s := rfl
def c36_b2 : ACode := .seq (.reg [] c36_r12aQ []) (.seq (.cond (.t 43) (.skip) (.exit 2)) (.seq (.block none 3 (.seq (.reg [] c36_r13aQ []) (.seq (.reg [] c36_r14aQ []) (.block (some c36_e1) 4 (.loop c36_k1 c36_b1Q))))) (.reg [] c36_r19aQ [])))
def c36_b2Q : ACode := c36_b2
theorem c36_b2_e (G : Pure) (ic : Inl) (n : Nat) (s : SL) : evalC G ic n c36_b2Q s = evalC G ic n c36_b2 s := rfl
def c36_k2 : Keep := { slots := [9, 40, 41, 42], drops := [576208], adopt := [] }
def c36_e2 : Keep := { slots := [9], drops := [576208] }
def c36_r20a : List AI := [⟨(some 71), none, .mv (.t 9)⟩,
  ⟨(some 4), none, .mv (.t 71)⟩,
  ⟨(some 5), none, .mv (.c (.int .i64 0))⟩]
def c36_r20aQ : List AI := c36_r20a
theorem c36_r20a_e (G : Pure) (ic : Inl) (s : SL) : runL G ic c36_r20aQ s = runL G ic c36_r20a s := rfl
def c36 : ACode := .seq (.reg [] c36_r0aQ []) (.seq (.seq (.reg [] c36_r1aQ []) (.cond (.t 24) (.seq (.reg [] c36_r2aQ []) (.ret c36_kr)) (.skip))) (.seq (.seq (.reg [] c36_r3aQ []) (.block (some c36_e0) 0 (.loop c36_k0 c36_b0Q))) (.seq (.reg [] c36_r10aQ []) (.seq (.seq (.reg [] c36_r11aQ []) (.block (some c36_e2) 2 (.loop c36_k2 c36_b2Q))) (.seq (.reg [] c36_r20aQ []) (.ret c36_kr))))))
def c36F : AFun := { params := 2, code := c36, results := [.tmp 4, .tmp 5] }
attribute [simp] c36_kr c36_r0a_e c36_r0a c36_r1a_e c36_r1a c36_r2a_e c36_r2a c36_r3a_e c36_r3a c36_r4a_e c36_r4a c36_r5a_e c36_r5a c36_r6a_e c36_r6a c36_r7a_e c36_r7a c36_r8a_e c36_r8a c36_r9a_e c36_r9a c36_b0_e c36_b0 c36_k0 c36_e0 c36_r10a_e c36_r10a c36_r11a_e c36_r11a c36_r12a_e c36_r12a c36_r13a_e c36_r13a c36_r14a_e c36_r14a c36_r15a_e c36_r15a c36_r16a_e c36_r16a c36_r17a_e c36_r17a c36_r17a_l c36_r17b_e c36_r17b c36_r18a_e c36_r18a c36_b1_e c36_b1 c36_k1 c36_e1 c36_r19a_e c36_r19a c36_b2_e c36_b2 c36_k2 c36_e2 c36_r20a_e c36_r20a c36 c36F
theorem c36_ok : IsFun Try.prog ks 36 c36F := by unfold IsFun; kernel_rfl
/-! pairing/pairingref1.Transpose -/
def c37_kr : Option Keep := some { slots := [4, 5], drops := [592176] }
def c37_r0a : List AI := [⟨(some 4), none, .mv (.c (.imm true 1 []))⟩,
  ⟨(some 5), none, .mv (.c (.int .i64 0))⟩]
def c37_r0aQ : List AI := c37_r0a
theorem c37_r0a_e (G : Pure) (ic : Inl) (s : SL) : runL G ic c37_r0aQ s = runL G ic c37_r0a s := rfl
def c37_r1a : List AI := [⟨(some 12), none, .mv (.t 1)⟩,
  ⟨(some 13), none, .bin .lss (.t 12) (.c (.int .i64 0))⟩,
  ⟨(some 14), none, .mv (.t 13)⟩,
  ⟨(some 15), (some (14, false)), .mv (.t 1)⟩,
  ⟨(some 16), (some (14, false)), .bin .gtr (.t 15) (.c (.int .i64 4096))⟩,
  ⟨(some 17), none, .pick (.t 14) (.c (.bool true)) (.t 16)⟩,
  ⟨(some 18), none, .mv (.t 17)⟩,
  ⟨(some 19), (some (18, false)), .mv (.t 0)⟩,
  ⟨(some 20), (some (18, false)), .len (.t 19)⟩,
  ⟨(some 21), (some (18, false)), .bin .gtr (.t 20) (.c (.int .i64 4096))⟩,
  ⟨(some 22), none, .pick (.t 18) (.c (.bool true)) (.t 21)⟩]
def c37_r1aQ : List AI := c37_r1a
theorem c37_r1a_e (G : Pure) (ic : Inl) (s : SL) : runL G ic c37_r1aQ s = runL G ic c37_r1a s := rfl
def c37_r2a : List AI := [⟨(some 4), none, .mv (.c (.imm true 1 []))⟩,
  ⟨(some 5), none, .mv (.c (.int .i64 5))⟩]
def c37_r2aQ : List AI := c37_r2a
theorem c37_r2a_e (G : Pure) (ic : Inl) (s : SL) : runL G ic c37_r2aQ s = runL G ic c37_r2a s := rfl
def c37_r3a : List AI := [⟨(some 6), none, .mv (.c (.int .i64 0))⟩]
def c37_r3aQ : List AI := c37_r3a
theorem c37_r3a_e (G : Pure) (ic : Inl) (s : SL) : runL G ic c37_r3aQ s = runL G ic c37_r3a s := rfl
def c37_r4a : List AI := [⟨(some 23), none, .mv (.t 6)⟩,
  ⟨(some 24), none, .mv (.t 0)⟩,
  ⟨(some 25), none, .len (.t 24)⟩,
  ⟨(some 26), none, .bin .lss (.t 23) (.t 25)⟩]
def c37_r4aQ : List AI := c37_r4a
theorem c37_r4a_e (G : Pure) (ic : Inl) (s : SL) : runL G ic c37_r4aQ s = runL G ic c37_r4a s := rfl
def c37_r6a : List AI := [⟨(some 29), none, .mv (.t 0)⟩,
  ⟨(some 30), none, .mv (.t 6)⟩,
  ⟨(some 31), none, .iaddr 1 (.t 29) (.t 30)⟩,
  ⟨(some 32), none, .load none (.t 31)⟩,
  ⟨(some 33), none, .mv (.t 1)⟩,
  ⟨(some 34), none, .call 592544 13 [(.t 32), (.t 33)] false⟩,
  ⟨(some 7), none, .mv (.t 34)⟩]
def c37_r6aQ : List AI := c37_r6a
theorem c37_r6a_e (G : Pure) (ic : Inl) (s : SL) : runL G ic c37_r6aQ s = runL G ic c37_r6a s := rfl
def c37_r7a : List AI := [⟨(some 35), none, .mv (.t 7)⟩,
  ⟨(some 36), none, .bin .neq (.t 35) (.c (.int .i64 0))⟩]
def c37_r7aQ : List AI := c37_r7a
theorem c37_r7a_e (G : Pure) (ic : Inl) (s : SL) : runL G ic c37_r7aQ s = runL G ic c37_r7a s := rfl
def c37_r8a : List AI := [⟨(some 37), none, .mv (.t 7)⟩,
  ⟨(some 4), none, .mv (.c (.imm true 1 []))⟩,
  ⟨(some 5), none, .mv (.t 37)⟩]
def c37_r8aQ : List AI := c37_r8a
theorem c37_r8a_e (G : Pure) (ic : Inl) (s : SL) : runL G ic c37_r8aQ s = runL G ic c37_r8a s := rfl
def c37_r5a : List AI := [⟨(some 27), none, .mv (.t 6)⟩,
  ⟨(some 28), none, .bin .add (.t 27) (.c (.int .i64 1))⟩,
  ⟨(some 6), none, .mv (.t 28)⟩]
def c37_r5aQ : List AI := c37_r5a
theorem c37_r5a_e (G : Pure) (ic : Inl) (s : SL) : runL G ic c37_r5aQ s = runL G ic c37_r5a s := rfl
def c37_b0 : ACode := .seq (.seq (.reg [] c37_r4aQ []) (.cond (.t 26) (.skip) (.exit 0))) (.seq (.block none 1 (.seq (.reg [] c37_r6aQ []) (.seq (.reg [] c37_r7aQ []) (.cond (.t 36) (.seq (.reg [] c37_r8aQ []) (.ret c37_kr)) (.skip))))) (.reg [] c37_r5aQ []))
def c37_b0Q : ACode := c37_b0
theorem c37_b0_e (G : Pure) (ic : Inl) (n : Nat) (s : SL) : evalC G ic n c37_b0Q s = evalC G ic n c37_b0 s := rfl
def c37_k0 : Keep := { slots := [0, 1, 6], drops := [], adopt := [] }
def c37_e0 : Keep := { slots := [0, 1], drops := [] }
def c37_r9a : List AI := [⟨(some 38), none, .mv (.t 1)⟩,
  ⟨(some 39), none, .make 592624 23 1 24 [.imm true 5 []] (.t 38) (.t 38)⟩,
  ⟨(some 8), none, .mv (.t 39)⟩]
def c37_r9aQ : List AI := c37_r9a
theorem c37_r9a_e (G : Pure) (ic : Inl) (s : SL) : runL G ic c37_r9aQ s = runL G ic c37_r9a s := rfl
def c37_r10a : List AI := [⟨(some 9), none, .mv (.c (.int .i64 0))⟩]
def c37_r10aQ : List AI := c37_r10a
theorem c37_r10a_e (G : Pure) (ic : Inl) (s : SL) : runL G ic c37_r10aQ s = runL G ic c37_r10a s := rfl
def c37_r11a : List AI := [⟨(some 40), none, .mv (.t 9)⟩,
  ⟨(some 41), none, .mv (.t 0)⟩,
  ⟨(some 42), none, .len (.t 41)⟩,
  ⟨(some 43), none, .bin .lss (.t 40) (.t 42)⟩]
def c37_r11aQ : List AI := c37_r11a
theorem c37_r11a_e (G : Pure) (ic : Inl) (s : SL) : runL G ic c37_r11aQ s = runL G ic c37_r11a s := rfl
def c37_r13a : List AI := [⟨(some 10), none, .mv (.c (.int .i64 0))⟩]
def c37_r13aQ : List AI := c37_r13a
theorem c37_r13a_e (G : Pure) (ic : Inl) (s : SL) : runL G ic c37_r13aQ s = runL G ic c37_r13a s := rfl
def c37_r14a : List AI := [⟨(some 46), none, .mv (.t 10)⟩,
  ⟨(some 47), none, .mv (.t 0)⟩,
  ⟨(some 48), none, .mv (.t 9)⟩,
  ⟨(some 49), none, .iaddr 1 (.t 47) (.t 48)⟩,
  ⟨(some 50), none, .load none (.t 49)⟩,
  ⟨(some 51), none, .len (.t 50)⟩,
  ⟨(some 52), none, .bin .lss (.t 46) (.t 51)⟩]
def c37_r14aQ : List AI := c37_r14a
theorem c37_r14a_e (G : Pure) (ic : Inl) (s : SL) : runL G ic c37_r14aQ s = runL G ic c37_r14a s := rfl
def c37_r16a : List AI := [⟨(some 55), none, .mv (.t 0)⟩,
  ⟨(some 56), none, .mv (.t 9)⟩,
  ⟨(some 57), none, .iaddr 1 (.t 55) (.t 56)⟩,
  ⟨(some 58), none, .load none (.t 57)⟩,
  ⟨(some 59), none, .mv (.t 10)⟩,
  ⟨(some 60), none, .iaddr 5 (.t 58) (.t 59)⟩,
  ⟨(some 61), none, .load (some 5) (.t 60)⟩,
  ⟨(some 11), none, .alloc 592176 51 [.int .i64 0, .bool false, .imm true 1 [], .bool false, .imm true 1 []]⟩,
  ⟨none, none, .store 5 (.t 11) (.t 61)⟩]
def c37_r16aQ : List AI := c37_r16a
theorem c37_r16a_e (G : Pure) (ic : Inl) (s : SL) : runL G ic c37_r16aQ s = runL G ic c37_r16a s := rfl
def c37_r17a : List AI := [⟨(some 62), none, .mv (.t 8)⟩,
  ⟨(some 63), none, .faddr 0 (.t 11)⟩,
  ⟨(some 64), none, .load none (.t 63)⟩,
  ⟨(some 65), none, .mv (.t 8)⟩,
  ⟨(some 66), none, .faddr 0 (.t 11)⟩,
  ⟨(some 67), none, .load none (.t 66)⟩,
  ⟨(some 68), none, .iaddr 1 (.t 65) (.t 67)⟩,
  ⟨(some 69), none, .load none (.t 68)⟩,
  ⟨(some 70), none, .mv (.t 9)⟩,
  ⟨(some 71), none, .faddr 1 (.t 11)⟩,
  ⟨(some 72), none, .load (some 4) (.t 71)⟩,
  ⟨(some 73), none, .call 593168 28 [(.t 72)] false⟩,
  ⟨(some 74), none, .build [.int .i64 0, .bool false, .imm true 1 [], .bool false, .imm true 1 []] [(0, 1, (.t 70)), (1, 4, (.t 73))]⟩,
  ⟨(some 75), none, .bslice 51 5 1 [.int .i64 0, .bool false, .imm true 1 [], .bool false, .imm true 1 []] [(0, (.t 74))]⟩]
def c37_r17aQ : List AI := c37_r17a
theorem c37_r17a_e (G : Pure) (ic : Inl) (s : SL) : runL G ic c37_r17aQ s = runL G ic c37_r17a s := rfl
theorem c37_r17a_l (G : Pure) (ic : Inl) (l : Logs) (s : SL) : logL G ic c37_r17aQ l s = logL G ic c37_r17a l s := rfl
def c37_r17b : List AI := [⟨(some 77), none, .iaddr 1 (.t 62) (.t 64)⟩,
  ⟨none, none, .store 1 (.t 77) (.t 76)⟩]
def c37_r17bQ : List AI := c37_r17b
theorem c37_r17b_e (G : Pure) (ic : Inl) (s : SL) : runL G ic c37_r17bQ s = runL G ic c37_r17b s := rfl
def c37_r15a : List AI := [⟨(some 53), none, .mv (.t 10)⟩,
  ⟨(some 54), none, .bin .add (.t 53) (.c (.int .i64 1))⟩,
  ⟨(some 10), none, .mv (.t 54)⟩]
def c37_r15aQ : List AI := c37_r15a
theorem c37_r15a_e (G : Pure) (ic : Inl) (s : SL) : runL G ic c37_r15aQ s = runL G ic c37_r15a s := rfl
def c37_b1 : ACode := .seq (.seq (.reg [] c37_r14aQ []) (.cond (.t 52) (.skip) (.exit 4))) (.seq (.block none 5 (.seq (.reg [] c37_r16aQ []) (.reg2 [] c37_r17aQ ⟨(some 76), none, .app 593216 51 5 72 (.t 69) (.t 75)⟩ c37_r17bQ [0, 1, 2] [8, 62, 11, 63, 63, 64]))) (.reg [] c37_r15aQ []))
def c37_b1Q : ACode := c37_b1
theorem c37_b1_e (G : Pure) (ic : Inl) (n : Nat) (s : SL) : evalC G ic n c37_b1Q s = evalC G ic n c37_b1 s := rfl
def c37_k1 : Keep := { slots := [0, 8, 9, 10], drops := [592176], adopt := [] }
def c37_e1 : Keep := { slots := [0, 8, 9], drops := [592176] }
def c37_r12a : List AI := [⟨(some 44), none, .mv (.t 9)⟩,
  ⟨(some 45), none, .bin .add (.t 44) (.c (.int .i64 1))⟩,
  ⟨(some 9), none, .mv (.t 45)⟩]
def c37_r12aQ : List AI := c37_r12a
theorem c37_r12a_e (G : Pure) (ic : Inl) (s : SL) : runL G ic c37_r12aQ s = runL G ic c37_r12a s := rfl
def c37_b2 : ACode := .seq (.seq (.reg [] c37_r11aQ []) (.cond (.t 43) (.skip) (.exit 2))) (.seq (.block none 3 (.seq (.reg [] c37_r13aQ []) (.block (some c37_e1) 4 (.loop c37_k1 c37_b1Q)))) (.reg [] c37_r12aQ []))
def c37_b2Q : ACode := c37_b2
theorem c37_b2_e (G : Pure) (ic : Inl) (n : Nat) (s : SL) : evalC G ic n c37_b2Q s = evalC G ic n c37_b2 s := rfl
def c37_k2 : Keep := { slots := [0, 8, 9], drops := [592176], adopt := [] }
def c37_e2 : Keep := { slots := [8], drops := [592176] }
def c37_r18a : List AI := [⟨(some 78), none, .mv (.t 8)⟩,
  ⟨(some 4), none, .mv (.t 78)⟩,
  ⟨(some 5), none, .mv (.c (.int .i64 0))⟩]
def c37_r18aQ : List AI := c37_r18a
theorem c37_r18a_e (G : Pure) (ic : Inl) (s : SL) : runL G ic c37_r18aQ s = runL G ic c37_r18a s := rfl
def c37 : ACode := .seq (.reg [] c37_r0aQ []) (.seq (.seq (.reg [] c37_r1aQ []) (.cond (.t 22) (.seq (.reg [] c37_r2aQ []) (.ret c37_kr)) (.skip))) (.seq (.seq (.reg [] c37_r3aQ []) (.block (some c37_e0) 0 (.loop c37_k0 c37_b0Q))) (.seq (.reg [] c37_r9aQ []) (.seq (.seq (.reg [] c37_r10aQ []) (.block (some c37_e2) 2 (.loop c37_k2 c37_b2Q))) (.seq (.reg [] c37_r18aQ []) (.ret c37_kr))))))
def c37F : AFun := { params := 2, code := c37, results := [.tmp 4, .tmp 5] }
attribute [simp] c37_kr c37_r0a_e c37_r0a c37_r1a_e c37_r1a c37_r2a_e c37_r2a c37_r3a_e c37_r3a c37_r4a_e c37_r4a c37_r6a_e c37_r6a c37_r7a_e c37_r7a c37_r8a_e c37_r8a c37_r5a_e c37_r5a c37_b0_e c37_b0 c37_k0 c37_e0 c37_r9a_e c37_r9a c37_r10a_e c37_r10a c37_r11a_e c37_r11a c37_r13a_e c37_r13a c37_r14a_e c37_r14a c37_r16a_e c37_r16a c37_r17a_e c37_r17a c37_r17a_l c37_r17b_e c37_r17b c37_r15a_e c37_r15a c37_b1_e c37_b1 c37_k1 c37_e1 c37_r12a_e c37_r12a c37_b2_e c37_b2 c37_k2 c37_e2 c37_r18a_e c37_r18a c37 c37F
theorem c37_ok : IsFun Try.prog ks 37 c37F := by unfold IsFun; kernel_rfl
/-! pairing/pairingref1.SameVectors -/
def c38_kr : Option Keep := some { slots := [4], drops := [] }
def c38_r0a : List AI := [⟨(some 4), none, .mv (.c (.bool false))⟩]
def c38_r0aQ : List AI := c38_r0a
theorem c38_r0a_e (G : Pure) (ic : Inl) (s : SL) : runL G ic c38_r0aQ s = runL G ic c38_r0a s := rfl
def c38_r1a : List AI := [⟨(some 6), none, .mv (.t 0)⟩,
  ⟨(some 7), none, .len (.t 6)⟩,
  ⟨(some 8), none, .mv (.t 1)⟩,
  ⟨(some 9), none, .len (.t 8)⟩,
  ⟨(some 10), none, .bin .neq (.t 7) (.t 9)⟩]
def c38_r1aQ : List AI := c38_r1a
theorem c38_r1a_e (G : Pure) (ic : Inl) (s : SL) : runL G ic c38_r1aQ s = runL G ic c38_r1a s := rfl
def c38_r2a : List AI := [⟨(some 4), none, .mv (.c (.bool false))⟩]
def c38_r2aQ : List AI := c38_r2a
theorem c38_r2a_e (G : Pure) (ic : Inl) (s : SL) : runL G ic c38_r2aQ s = runL G ic c38_r2a s := rfl
def c38_r3a : List AI := [⟨(some 5), none, .mv (.c (.int .i64 0))⟩]
def c38_r3aQ : List AI := c38_r3a
theorem c38_r3a_e (G : Pure) (ic : Inl) (s : SL) : runL G ic c38_r3aQ s = runL G ic c38_r3a s := rfl
def c38_r4a : List AI := [⟨(some 11), none, .mv (.t 5)⟩,
  ⟨(some 12), none, .mv (.t 0)⟩,
  ⟨(some 13), none, .len (.t 12)⟩,
  ⟨(some 14), none, .bin .lss (.t 11) (.t 13)⟩]
def c38_r4aQ : List AI := c38_r4a
theorem c38_r4a_e (G : Pure) (ic : Inl) (s : SL) : runL G ic c38_r4aQ s = runL G ic c38_r4a s := rfl
def c38_r6a : List AI := [⟨(some 17), none, .mv (.t 0)⟩,
  ⟨(some 18), none, .mv (.t 5)⟩,
  ⟨(some 19), none, .iaddr 1 (.t 17) (.t 18)⟩,
  ⟨(some 20), none, .load none (.t 19)⟩,
  ⟨(some 21), none, .mv (.t 1)⟩,
  ⟨(some 22), none, .mv (.t 5)⟩,
  ⟨(some 23), none, .iaddr 1 (.t 21) (.t 22)⟩,
  ⟨(some 24), none, .load none (.t 23)⟩,
  ⟨(some 25), none, .call 608400 52 [(.t 20), (.t 24)] false⟩,
  ⟨(some 26), none, .un .not (.t 25)⟩]
def c38_r6aQ : List AI := c38_r6a
theorem c38_r6a_e (G : Pure) (ic : Inl) (s : SL) : runL G ic c38_r6aQ s = runL G ic c38_r6a s := rfl
def c38_r7a : List AI := [⟨(some 4), none, .mv (.c (.bool false))⟩]
def c38_r7aQ : List AI := c38_r7a
theorem c38_r7a_e (G : Pure) (ic : Inl) (s : SL) : runL G ic c38_r7aQ s = runL G ic c38_r7a s := rfl
def c38_r5a : List AI := [⟨(some 15), none, .mv (.t 5)⟩,
  ⟨(some 16), none, .bin .add (.t 15) (.c (.int .i64 1))⟩,
  ⟨(some 5), none, .mv (.t 16)⟩]
def c38_r5aQ : List AI := c38_r5a
theorem c38_r5a_e (G : Pure) (ic : Inl) (s : SL) : runL G ic c38_r5aQ s = runL G ic c38_r5a s := rfl
def c38_b0 : ACode := .seq (.seq (.reg [] c38_r4aQ []) (.cond (.t 14) (.skip) (.exit 0))) (.seq (.block none 1 (.seq (.reg [] c38_r6aQ []) (.cond (.t 26) (.seq (.reg [] c38_r7aQ []) (.ret c38_kr)) (.skip)))) (.reg [] c38_r5aQ []))
def c38_b0Q : ACode := c38_b0
theorem c38_b0_e (G : Pure) (ic : Inl) (n : Nat) (s : SL) : evalC G ic n c38_b0Q s = evalC G ic n c38_b0 s := rfl
def c38_k0 : Keep := { slots := [0, 1, 5], drops := [], adopt := [] }
def c38_e0 : Keep := { slots := [], drops := [] }
def c38_r8a : List AI := [⟨(some 4), none, .mv (.c (.bool true))⟩]
def c38_r8aQ : List AI := c38_r8a
theorem c38_r8a_e (G : Pure) (ic : Inl) (s : SL) : runL G ic c38_r8aQ s = runL G ic c38_r8a s := rfl
def c38 : ACode := .seq (.reg [] c38_r0aQ []) (.seq (.seq (.reg [] c38_r1aQ []) (.cond (.t 10) (.seq (.reg [] c38_r2aQ []) (.ret c38_kr)) (.skip))) (.seq (.seq (.reg [] c38_r3aQ []) (.block (some c38_e0) 0 (.loop c38_k0 c38_b0Q))) (.seq (.reg [] c38_r8aQ []) (.ret c38_kr))))
def c38F : AFun := { params := 2, code := c38, results := [.tmp 4] }
attribute [simp] c38_kr c38_r0a_e c38_r0a c38_r1a_e c38_r1a c38_r2a_e c38_r2a c38_r3a_e c38_r3a c38_r4a_e c38_r4a c38_r6a_e c38_r6a c38_r7a_e c38_r7a c38_r5a_e c38_r5a c38_b0_e c38_b0 c38_k0 c38_e0 c38_r8a_e c38_r8a c38 c38F
/-! pairing/pairingref1.Whole -/
def c39_kr : Option Keep := some { slots := [2], drops := [] }
def c39_r0a : List AI := [⟨(some 2), none, .alloc 624032 33 [.bool false, .imm true 1 [], .bool false, .imm true 1 []]⟩]
def c39_r0aQ : List AI := c39_r0a
theorem c39_r0a_e (G : Pure) (ic : Inl) (s : SL) : runL G ic c39_r0aQ s = runL G ic c39_r0a s := rfl
def c39_r1a : List AI := [⟨(some 3), none, .mv (.t 0)⟩,
  ⟨(some 4), none, .call 624064 61 [(.t 3)] false⟩,
  ⟨(some 5), none, .call 624080 60 [(.t 4)] false⟩,
  ⟨none, none, .store 4 (.t 2) (.t 5)⟩]
def c39_r1aQ : List AI := c39_r1a
theorem c39_r1a_e (G : Pure) (ic : Inl) (s : SL) : runL G ic c39_r1aQ s = runL G ic c39_r1a s := rfl
def c39 : ACode := .seq (.reg [] c39_r0aQ []) (.seq (.reg [] c39_r1aQ []) (.ret c39_kr))
def c39F : AFun := { params := 1, code := c39, results := [.cell 2 (some 4)] }
attribute [simp] c39_kr c39_r0a_e c39_r0a c39_r1a_e c39_r1a c39 c39F
theorem c39_ok : IsFun Try.prog ks 39 c39F := by unfold IsFun; kernel_rfl
/-! pairing/rational.Sign -/
def c40_kr : Option Keep := some { slots := [2], drops := [640016, 640048, 640064] }
def c40_r0a : List AI := [⟨(some 1), none, .box 640016 33 4 (.t 0)⟩,
  ⟨(some 2), none, .mv (.c (.int .i64 0))⟩]
def c40_r0aQ : List AI := c40_r0a
theorem c40_r0a_e (G : Pure) (ic : Inl) (s : SL) : runL G ic c40_r0aQ s = runL G ic c40_r0a s := rfl
def c40_r1a : List AI := [⟨(some 6), none, .load (some 4) (.t 1)⟩,
  ⟨(some 7), none, .call 640112 62 [(.t 6)] false⟩,
  ⟨(some 5), none, .mv (.t 7)⟩,
  ⟨(some 8), none, .extract (.t 5) 0⟩,
  ⟨(some 9), none, .extract (.t 5) 1⟩,
  ⟨(some 3), none, .alloc 640048 31 [.bool false, .imm true 1 []]⟩,
  ⟨(some 4), none, .alloc 640064 31 [.bool false, .imm true 1 []]⟩,
  ⟨none, none, .store 2 (.t 3) (.t 8)⟩,
  ⟨none, none, .store 2 (.t 4) (.t 9)⟩]
def c40_r1aQ : List AI := c40_r1a
theorem c40_r1a_e (G : Pure) (ic : Inl) (s : SL) : runL G ic c40_r1aQ s = runL G ic c40_r1a s := rfl
def c40_r2a : List AI := [⟨(some 10), none, .load (some 2) (.t 3)⟩,
  ⟨(some 11), none, .call 640176 63 [(.t 10)] false⟩,
  ⟨(some 2), none, .mv (.t 11)⟩]
def c40_r2aQ : List AI := c40_r2a
theorem c40_r2a_e (G : Pure) (ic : Inl) (s : SL) : runL G ic c40_r2aQ s = runL G ic c40_r2a s := rfl
def c40 : ACode := .seq (.reg [] c40_r0aQ []) (.seq (.reg [] c40_r1aQ []) (.seq (.reg [] c40_r2aQ []) (.ret c40_kr)))
def c40F : AFun := { params := 1, code := c40, results := [.tmp 2] }
attribute [simp] c40_kr c40_r0a_e c40_r0a c40_r1a_e c40_r1a c40_r2a_e c40_r2a c40 c40F
theorem c40_ok : IsFun Try.prog ks 40 c40F := by unfold IsFun; kernel_rfl
/-! pairing/pairingref1.SignFrac -/
def c41_kr : Option Keep := some { slots := [2], drops := [656016] }
def c41_r0a : List AI := [⟨(some 1), none, .box 656016 33 4 (.t 0)⟩,
  ⟨(some 2), none, .mv (.c (.int .i64 0))⟩]
def c41_r0aQ : List AI := c41_r0a
theorem c41_r0a_e (G : Pure) (ic : Inl) (s : SL) : runL G ic c41_r0aQ s = runL G ic c41_r0a s := rfl
def c41_r1a : List AI := [⟨(some 3), none, .load (some 4) (.t 1)⟩,
  ⟨(some 4), none, .call 656064 28 [(.t 3)] false⟩,
  ⟨(some 5), none, .field 0 (some 2) (.t 4)⟩,
  ⟨(some 6), none, .call 656096 64 [(.t 5)] false⟩,
  ⟨(some 2), none, .mv (.t 6)⟩]
def c41_r1aQ : List AI := c41_r1a
theorem c41_r1a_e (G : Pure) (ic : Inl) (s : SL) : runL G ic c41_r1aQ s = runL G ic c41_r1a s := rfl
def c41 : ACode := .seq (.reg [] c41_r0aQ []) (.seq (.reg [] c41_r1aQ []) (.ret c41_kr))
def c41F : AFun := { params := 1, code := c41, results := [.tmp 2] }
attribute [simp] c41_kr c41_r0a_e c41_r0a c41_r1a_e c41_r1a c41 c41F
theorem c41_ok : IsFun Try.prog ks 41 c41F := by unfold IsFun; kernel_rfl
/-! pairing/pairinglaw1.Light -/
def c42_kr : Option Keep := some { slots := [2], drops := [] }
def c42_r0a : List AI := [⟨(some 2), none, .mv (.c (.bool false))⟩]
def c42_r0aQ : List AI := c42_r0a
theorem c42_r0a_e (G : Pure) (ic : Inl) (s : SL) : runL G ic c42_r0aQ s = runL G ic c42_r0a s := rfl
def c42_r1a : List AI := [⟨(some 3), none, .mv (.c (.int .i64 0))⟩]
def c42_r1aQ : List AI := c42_r1a
theorem c42_r1a_e (G : Pure) (ic : Inl) (s : SL) : runL G ic c42_r1aQ s = runL G ic c42_r1a s := rfl
def c42_r2a : List AI := [⟨(some 4), none, .mv (.c (.int .i64 0))⟩]
def c42_r2aQ : List AI := c42_r2a
theorem c42_r2a_e (G : Pure) (ic : Inl) (s : SL) : runL G ic c42_r2aQ s = runL G ic c42_r2a s := rfl
def c42_r3a : List AI := [⟨(some 5), none, .mv (.t 4)⟩,
  ⟨(some 6), none, .mv (.t 0)⟩,
  ⟨(some 7), none, .len (.t 6)⟩,
  ⟨(some 8), none, .bin .lss (.t 5) (.t 7)⟩]
def c42_r3aQ : List AI := c42_r3a
theorem c42_r3a_e (G : Pure) (ic : Inl) (s : SL) : runL G ic c42_r3aQ s = runL G ic c42_r3a s := rfl
def c42_r5a : List AI := [⟨(some 11), none, .mv (.t 3)⟩,
  ⟨(some 12), none, .mv (.t 0)⟩,
  ⟨(some 13), none, .mv (.t 4)⟩,
  ⟨(some 14), none, .iaddr 2 (.t 12) (.t 13)⟩,
  ⟨(some 15), none, .faddr 1 (.t 14)⟩,
  ⟨(some 16), none, .load none (.t 15)⟩,
  ⟨(some 17), none, .len (.t 16)⟩,
  ⟨(some 18), none, .bin .add (.t 11) (.t 17)⟩,
  ⟨(some 3), none, .mv (.t 18)⟩]
def c42_r5aQ : List AI := c42_r5a
theorem c42_r5a_e (G : Pure) (ic : Inl) (s : SL) : runL G ic c42_r5aQ s = runL G ic c42_r5a s := rfl
def c42_r4a : List AI := [⟨(some 9), none, .mv (.t 4)⟩,
  ⟨(some 10), none, .bin .add (.t 9) (.c (.int .i64 1))⟩,
  ⟨(some 4), none, .mv (.t 10)⟩]
def c42_r4aQ : List AI := c42_r4a
theorem c42_r4a_e (G : Pure) (ic : Inl) (s : SL) : runL G ic c42_r4aQ s = runL G ic c42_r4a s := rfl
def c42_b0 : ACode := .seq (.seq (.reg [] c42_r3aQ []) (.cond (.t 8) (.skip) (.exit 0))) (.seq (.block none 1 (.reg [] c42_r5aQ [])) (.reg [] c42_r4aQ []))
def c42_b0Q : ACode := c42_b0
theorem c42_b0_e (G : Pure) (ic : Inl) (n : Nat) (s : SL) : evalC G ic n c42_b0Q s = evalC G ic n c42_b0 s := rfl
def c42_k0 : Keep := { slots := [0, 3, 4], drops := [], adopt := [] }
def c42_e0 : Keep := { slots := [3], drops := [] }
def c42_r6a : List AI := [⟨(some 19), none, .mv (.t 3)⟩,
  ⟨(some 20), none, .bin .leq (.t 19) (.c (.int .i64 60))⟩,
  ⟨(some 2), none, .mv (.t 20)⟩]
def c42_r6aQ : List AI := c42_r6a
theorem c42_r6a_e (G : Pure) (ic : Inl) (s : SL) : runL G ic c42_r6aQ s = runL G ic c42_r6a s := rfl
def c42 : ACode := .seq (.reg [] c42_r0aQ []) (.seq (.reg [] c42_r1aQ []) (.seq (.seq (.reg [] c42_r2aQ []) (.block (some c42_e0) 0 (.loop c42_k0 c42_b0Q))) (.seq (.reg [] c42_r6aQ []) (.ret c42_kr))))
def c42F : AFun := { params := 1, code := c42, results := [.tmp 2] }
attribute [simp] c42_kr c42_r0a_e c42_r0a c42_r1a_e c42_r1a c42_r2a_e c42_r2a c42_r3a_e c42_r3a c42_r5a_e c42_r5a c42_r4a_e c42_r4a c42_b0_e c42_b0 c42_k0 c42_e0 c42_r6a_e c42_r6a c42 c42F
theorem c42_ok : IsFun Try.prog ks 42 c42F := by unfold IsFun; kernel_rfl
/-! pairing/sparse.both -/
def c43_kr : Option Keep := some { slots := [6], drops := [] }
def c43_r0a : List AI := [⟨(some 6), none, .mv (.c (.int .i64 0))⟩]
def c43_r0aQ : List AI := c43_r0a
theorem c43_r0a_e (G : Pure) (ic : Inl) (s : SL) : runL G ic c43_r0aQ s = runL G ic c43_r0a s := rfl
def c43_r1a : List AI := [⟨(some 8), none, .mv (.t 0)⟩,
  ⟨(some 9), none, .mv (.t 2)⟩,
  ⟨(some 10), none, .call 688160 12 [(.t 8), (.t 9)] false⟩,
  ⟨(some 7), none, .mv (.t 10)⟩]
def c43_r1aQ : List AI := c43_r1a
theorem c43_r1a_e (G : Pure) (ic : Inl) (s : SL) : runL G ic c43_r1aQ s = runL G ic c43_r1a s := rfl
def c43_r2a : List AI := [⟨(some 11), none, .mv (.t 7)⟩,
  ⟨(some 12), none, .bin .neq (.t 11) (.c (.int .i64 0))⟩]
def c43_r2aQ : List AI := c43_r2a
theorem c43_r2a_e (G : Pure) (ic : Inl) (s : SL) : runL G ic c43_r2aQ s = runL G ic c43_r2a s := rfl
def c43_r3a : List AI := [⟨(some 13), none, .mv (.t 7)⟩,
  ⟨(some 6), none, .mv (.t 13)⟩]
def c43_r3aQ : List AI := c43_r3a
theorem c43_r3a_e (G : Pure) (ic : Inl) (s : SL) : runL G ic c43_r3aQ s = runL G ic c43_r3a s := rfl
def c43_r4a : List AI := [⟨(some 14), none, .mv (.t 1)⟩,
  ⟨(some 15), none, .mv (.t 2)⟩,
  ⟨(some 16), none, .call 688256 12 [(.t 14), (.t 15)] false⟩,
  ⟨(some 6), none, .mv (.t 16)⟩]
def c43_r4aQ : List AI := c43_r4a
theorem c43_r4a_e (G : Pure) (ic : Inl) (s : SL) : runL G ic c43_r4aQ s = runL G ic c43_r4a s := rfl
def c43 : ACode := .seq (.reg [] c43_r0aQ []) (.seq (.seq (.reg [] c43_r1aQ []) (.seq (.reg [] c43_r2aQ []) (.cond (.t 12) (.seq (.reg [] c43_r3aQ []) (.ret c43_kr)) (.skip)))) (.seq (.reg [] c43_r4aQ []) (.ret c43_kr)))
def c43F : AFun := { params := 3, code := c43, results := [.tmp 6] }
attribute [simp] c43_kr c43_r0a_e c43_r0a c43_r1a_e c43_r1a c43_r2a_e c43_r2a c43_r3a_e c43_r3a c43_r4a_e c43_r4a c43 c43F
theorem c43_ok : IsFun Try.prog ks 43 c43F := by unfold IsFun; kernel_rfl
/-! pairing/sparse.AddScaled$1 -/
def c44_kr : Option Keep := some { slots := [], drops := [704064] }
def c44_r0a : List AI := [⟨(some 4), none, .box 704064 33 4 (.t 1)⟩]
def c44_r0aQ : List AI := c44_r0a
theorem c44_r0a_e (G : Pure) (ic : Inl) (s : SL) : runL G ic c44_r0aQ s = runL G ic c44_r0a s := rfl
def c44_r1a : List AI := [⟨(some 5), none, .load (some 4) (.t 4)⟩,
  ⟨(some 6), none, .call 704096 40 [(.t 5)] false⟩,
  ⟨(some 7), none, .bin .neq (.t 6) (.c (.int .i64 0))⟩]
def c44_r1aQ : List AI := c44_r1a
theorem c44_r1a_e (G : Pure) (ic : Inl) (s : SL) : runL G ic c44_r1aQ s = runL G ic c44_r1a s := rfl
def c44_r2a : List AI := [⟨(some 8), none, .load none (.t 2)⟩,
  ⟨(some 9), none, .mv (.t 0)⟩,
  ⟨(some 10), none, .load (some 4) (.t 4)⟩,
  ⟨(some 11), none, .call 704176 45 [(.t 10)] false⟩,
  ⟨(some 12), none, .build [.int .i64 0, .bool false, .imm true 1 [], .bool false, .imm true 1 []] [(0, 1, (.t 9)), (1, 4, (.t 11))]⟩,
  ⟨(some 13), none, .bslice 51 5 1 [.int .i64 0, .bool false, .imm true 1 [], .bool false, .imm true 1 []] [(0, (.t 12))]⟩]
def c44_r2aQ : List AI := c44_r2a
theorem c44_r2a_e (G : Pure) (ic : Inl) (s : SL) : runL G ic c44_r2aQ s = runL G ic c44_r2a s := rfl
def c44_r2b : List AI := [⟨(some 14), none, .app 704224 51 5 72 (.t 8) (.t 13)⟩,
  ⟨none, none, .store 1 (.t 2) (.t 14)⟩]
def c44_r2bQ : List AI := c44_r2b
theorem c44_r2b_e (G : Pure) (ic : Inl) (s : SL) : runL G ic c44_r2bQ s = runL G ic c44_r2b s := rfl
def c44 : ACode := .seq (.reg [] c44_r0aQ []) (.seq (.reg [] c44_r1aQ []) (.cond (.t 7) (.reg [] c44_r2aQ c44_r2bQ) (.skip)))
def c44F : AFun := { params := 3, code := c44, results := [] }
attribute [simp] c44_kr c44_r0a_e c44_r0a c44_r1a_e c44_r1a c44_r2a_e c44_r2a c44_r2b_e c44_r2b c44 c44F
/-! pairing/sparse.canonical -/
def c45_kr : Option Keep := some { slots := [2], drops := [720016] }
def c45_r0a : List AI := [⟨(some 1), none, .box 720016 33 4 (.t 0)⟩,
  ⟨(some 2), none, .alloc 720032 33 [.bool false, .imm true 1 [], .bool false, .imm true 1 []]⟩]
def c45_r0aQ : List AI := c45_r0a
theorem c45_r0a_e (G : Pure) (ic : Inl) (s : SL) : runL G ic c45_r0aQ s = runL G ic c45_r0a s := rfl
def c45_r1a : List AI := [⟨(some 3), none, .load (some 4) (.t 1)⟩,
  ⟨(some 4), none, .call 720064 48 [] false⟩,
  ⟨(some 5), none, .call 720080 47 [(.t 3), (.t 4)] false⟩,
  ⟨none, none, .store 4 (.t 2) (.t 5)⟩]
def c45_r1aQ : List AI := c45_r1a
theorem c45_r1a_e (G : Pure) (ic : Inl) (s : SL) : runL G ic c45_r1aQ s = runL G ic c45_r1a s := rfl
def c45 : ACode := .seq (.reg [] c45_r0aQ []) (.seq (.reg [] c45_r1aQ []) (.ret c45_kr))
def c45F : AFun := { params := 1, code := c45, results := [.cell 2 (some 4)] }
attribute [simp] c45_kr c45_r0a_e c45_r0a c45_r1a_e c45_r1a c45 c45F
theorem c45_ok : IsFun Try.prog ks 45 c45F := by unfold IsFun; kernel_rfl
end Go.Proofs.Ythlpmghodgiknaa.C

/-
  The reference's integers: what the functions give.
-/
namespace Go.Proofs.Ythlpmghodgiknaa.C
open Go Go.Ev

section
variable (G : Pure) (ic : Inl) (n : Nat)

/-! ### trim -/

theorem trim_loop (nl : Bool) (H : List (Nat × Ev.Obj)) (F own reb : List Nat) (ds : List Nat) (hw : Wf ds) (h : ds.length < 100000000) : ∀ k m, k ≤ ds.length → k < m →
    ∃ j, j ≤ k ∧ digs (dv (ds.take k)) = ds.take j ∧ blockE (some c74_e0) 0 (iterK G ic n c74_k0 c74_b0Q m ⟨[(0, .imm nl 1 (dg ds)), (3, .int .i64 k)], H, F, own, reb⟩) =
      some (.normal, ⟨[(0, .imm nl 1 (dg ds)), (3, .int .i64 j)], H, F, own, reb⟩) := by
  intro k
  induction k with
  | zero =>
    intro m hk hm
    obtain ⟨m, rfl⟩ : ∃ i, m = i + 1 := ⟨m - 1, by omega⟩
    refine ⟨0, by omega, by simp [dv, digs_zero], ?_⟩
    simp [iterK_succ]
  | succ k ih =>
    intro m hk hm
    obtain ⟨m, rfl⟩ : ∃ i, m = i + 1 := ⟨m - 1, by omega⟩
    by_cases h0 : ds[k] = 0
    · obtain ⟨j, hj, e1, e⟩ := ih m (by omega) (by omega)
      refine ⟨j, by omega, by rw [dv_take_zero (by omega) h0]; exact e1, ?_⟩
      rw [← e]
      simp (disch := omega) [iterK_succ, wrap64_id, dg_get, h0]
    · refine ⟨k + 1, by omega, digs_take hw (by omega) h0, ?_⟩
      simp (disch := omega) [iterK_succ, wrap64_id, dg_get, h0]

def spTrim : List AV → Option PRes
  | [a] => (digOf a).map fun ds => { val := dA (digs (dv ds)) }
  | _ => none

theorem trim_run : FSpec (fun args n => pureF G ic n c74F args) spTrim := by
  intro args r h
  unfold spTrim at h
  split at h
  case h_2 => cases h
  rename_i a
  rw [Option.map_eq_some_iff] at h
  obtain ⟨ds, hd, rfl⟩ := h
  obtain ⟨nl, rfl, hw, hl⟩ := digOf_inv hd
  obtain ⟨j, hj, e1, e⟩ := trim_loop G ic (ds.length + 1) nl [] [] [] [] ds hw hl ds.length (ds.length + 1) (Nat.le_refl _) (by omega)
  rw [List.take_length] at e1
  simp only [c74_e0, c74_k0] at e
  refine ⟨{ val := .imm nl 1 (dg (ds.take j)) }, ⟨ds.length + 1, ?_⟩, rfl, ?_⟩
  · simp (disch := omega) [pureF, runF, dg_length, e, dg_take, hj]
  · simp [AV.weak, weakLL_dg, dA, e1]


theorem trim_eq {nl : Bool} {ds : List Nat} (h : Wf ds) (hl : ds.length < 100000000) : spTrim [.imm nl 1 (dg ds)] = some { val := dA (digs (dv ds)) } := by simp [spTrim, digOf_dg h hl]

/-! ### Make -/

def spMake : List AV → Option PRes
  | [.bool b, a] => (digOf a).map fun ds => { val := iV (sg b (dv ds)) }
  | _ => none

theorem make_run (hT : G 74 = spTrim) : FSpec (fun args n => pureF G ic n c70F args) spMake := by
  intro args r h
  unfold spMake at h
  split at h
  case h_2 => cases h
  rename_i b a
  rw [Option.map_eq_some_iff] at h
  obtain ⟨ds, hd, rfl⟩ := h
  obtain ⟨nl, rfl, hw, hl⟩ := digOf_inv hd
  have t := trim_eq (nl := nl) hw hl
  rw [← hT] at t
  have hlen := digs_length_dv hw
  by_cases h0 : dv ds = 0
  · refine ⟨{ val := .agg [.bool false, .imm true 1 (dg [])] }, ⟨0, ?_⟩, rfl, by rw [weak_iA, h0, iV_sg_zero]⟩
    simp [pureF, runF, t, dA, h0, digs_zero, dg_nil]
  · refine ⟨{ val := .agg [.bool b, .imm false 1 (dg (digs (dv ds)))] }, ⟨0, ?_⟩, rfl, by rw [weak_iA, iV_sg h0]⟩
    have hne : digs (dv ds) ≠ [] := fun e => h0 (digs_eq_nil.1 e)
    have hb : (digs (dv ds)).length * 4 ≤ 140737488355328 := by omega
    simp [pureF, runF, t, dA, hne, dg_length, all_dg, keysLL_dg, hb]


theorem make_eq {b nl : Bool} {ds : List Nat} (h : Wf ds) (hl : ds.length < 100000000) : spMake [.bool b, .imm nl 1 (dg ds)] = some { val := iV (sg b (dv ds)) } := by simp [spMake, digOf_dg h hl]

/-! ### Canon, Negate -/

def spCanon : List AV → Option PRes := sp1 zOf fun z => some (iV z)

theorem weak_iV (z : Int) : (iV z).weak = iV z := by unfold iV iA; rw [weak_iA]; rfl

theorem canon_run (hM : G 70 = spMake) : FSpec (fun args n => pureF G ic n c55F args) spCanon := by
  intro args r h
  obtain ⟨a, z, v, rfl, hd, hv, rfl⟩ := sp1_inv h
  cases hv
  obtain ⟨b, nl, ds, rfl, hw, hl, rfl⟩ := zOf_inv hd
  have t := make_eq (b := b) (nl := nl) hw (by omega)
  rw [← hM] at t
  refine ⟨{ val := iV (sg b (dv ds)) }, ⟨0, ?_⟩, rfl, (weak_iV _).symm⟩
  simp [pureF, runF, t, iV, iA]

def spNegate : List AV → Option PRes := sp1 zOf fun z => some (iV (-z))

theorem sg_not (b : Bool) (n : Nat) : sg (!b) n = -sg b n := by cases b <;> simp [sg]

theorem negate_run (hM : G 70 = spMake) : FSpec (fun args n => pureF G ic n c57F args) spNegate := by
  intro args r h
  obtain ⟨a, z, v, rfl, hd, hv, rfl⟩ := sp1_inv h
  cases hv
  obtain ⟨b, nl, ds, rfl, hw, hl, rfl⟩ := zOf_inv hd
  have t := make_eq (b := !b) (nl := nl) hw (by omega)
  rw [← hM, sg_not] at t
  refine ⟨{ val := iV (-sg b (dv ds)) }, ⟨0, ?_⟩, rfl, (weak_iV _).symm⟩
  simp [pureF, runF, t, iV, iA]

/-! ### compareDigits -/

theorem dv_split {ds : List Nat} {k : Nat} (hk : k ≤ ds.length) : dv ds = dv (ds.take k) + W32 ^ k * dv (ds.drop k) := by
  conv => lhs; rw [← List.take_append_drop k ds]
  rw [dv_append, List.length_take, Nat.min_eq_left hk]

/-- The first difference from above decides. -/
theorem dv_lt_at {a b : List Nat} {k : Nat} (ha : Wf a) (hb : Wf b) (hka : k < a.length) (hkb : k < b.length) (hd : a.drop (k + 1) = b.drop (k + 1)) (hlt : a[k] < b[k]) : dv a < dv b := by
  have ea := dv_split (ds := a) (k := k + 1) (by omega)
  have eb := dv_split (ds := b) (k := k + 1) (by omega)
  rw [dv_take_succ hka] at ea
  rw [dv_take_succ hkb] at eb
  have h1 := dv_lt (wf_take ha k)
  rw [List.length_take, Nat.min_eq_left (by omega)] at h1
  have h2 : W32 ^ k * a[k] + W32 ^ k ≤ W32 ^ k * b[k] := by
    have : W32 ^ k * (a[k] + 1) ≤ W32 ^ k * b[k] := Nat.mul_le_mul_left _ hlt
    rw [Nat.mul_add, Nat.mul_one] at this
    exact this
  rw [hd] at ea
  omega

def cmpI (a b : Nat) : Int := if a < b then -1 else if b < a then 1 else 0

theorem compare_loop (la lb : Bool) (a b : List Nat) (ha : Wf a) (hb : Wf b) (hl : a.length = b.length) (hbd : a.length < 100000000) : ∀ k m, k ≤ a.length → k < m → a.drop k = b.drop k →
    blockE (some c72_e0) 0 (iterK G ic n c72_k0 c72_b0Q m ⟨[(0, .imm la 1 (dg a)), (1, .imm lb 1 (dg b)), (5, .int .i64 ((k : Int) - 1))], [], [], [], []⟩) =
      if dv a = dv b then some (.normal, ⟨[], [], [], [], []⟩) else some (.ret, ⟨[(4, .int .i64 (cmpI (dv a) (dv b)))], [], [], [], []⟩) := by
  intro k
  induction k with
  | zero =>
    intro m hk hm hd
    obtain ⟨m, rfl⟩ : ∃ i, m = i + 1 := ⟨m - 1, by omega⟩
    have e : dv a = dv b := by simp at hd; rw [hd]
    simp [iterK_succ, e]
  | succ k ih =>
    intro m hk hm hd
    obtain ⟨m, rfl⟩ : ∃ i, m = i + 1 := ⟨m - 1, by omega⟩
    have hka : k < a.length := by omega
    have hkb : k < b.length := by omega
    have ga := dg_get a k hka
    have gb := dg_get b k hkb
    have e1 : ((k + 1 : Nat) : Int) - 1 = k := by omega
    rcases Nat.lt_trichotomy a[k] b[k] with h | h | h
    · have h1 := dv_lt_at ha hb hka hkb hd h
      have h2 : ¬ dv a = dv b := by omega
      rw [e1]
      simp [iterK_succ, ga, gb, h, h2, cmpI, h1]
    · have e2 : a.drop k = b.drop k := by rw [List.drop_eq_getElem_cons hka, List.drop_eq_getElem_cons hkb, h, hd]
      have := ih m (by omega) (by omega) e2
      rw [← this, e1]
      have hw : IntKind.i64.wrap ((k : Int) - 1) = (k : Int) - 1 := wrap64_id _ (by omega) (by omega)
      simp [iterK_succ, ga, gb, h, hw]
    · have h1 := dv_lt_at hb ha hkb hka hd.symm h
      have h2 : ¬ dv a = dv b := by omega
      have h3 : ¬ dv a < dv b := by omega
      have h4 : ¬ a[k] < b[k] := by omega
      rw [e1]
      simp [iterK_succ, ga, gb, h, h2, cmpI, h1, h3, h4]


def spCompareDigits : List AV → Option PRes
  | [a, b] => match digOf a, digOf b with | some x, some y => some { val := .int .i64 (cmpI (dv x) (dv y)) } | _, _ => none
  | _ => none

theorem compareDigits_run (hT : G 74 = spTrim) : FSpec (fun args n => pureF G ic n c72F args) spCompareDigits := by
  intro args r h
  unfold spCompareDigits at h
  split at h
  case h_2 => cases h
  rename_i a b
  split at h
  case h_2 => cases h
  rename_i x y hx hy
  cases h
  obtain ⟨la, rfl, hwa, hla⟩ := digOf_inv hx
  obtain ⟨lb, rfl, hwb, hlb⟩ := digOf_inv hy
  have ta := trim_eq (nl := la) hwa hla
  have tb := trim_eq (nl := lb) hwb hlb
  rw [← hT] at ta tb
  have ha := digs_length_dv hwa
  have hb := digs_length_dv hwb
  refine ⟨{ val := .int .i64 (cmpI (dv x) (dv y)) }, ⟨x.length + 1, ?_⟩, rfl, rfl⟩
  rcases Nat.lt_trichotomy (digs (dv x)).length (digs (dv y)).length with h | h | h
  · have h1 := lt_of_len h
    have h2 : ¬ ((digs (dv x)).length : Int) = (digs (dv y)).length := by omega
    simp [pureF, runF, ta, tb, dA, h, h2, cmpI, h1, bne]
  · have e := compare_loop G ic (x.length + 1) false false (digs (dv x)) (digs (dv y)) (wf_digs _) (wf_digs _) h (by omega) (digs (dv x)).length (x.length + 1) (Nat.le_refl _) (by omega) (by rw [List.drop_length, h, List.drop_length])
    simp only [c72_e0, c72_k0, dv_digs] at e
    have hw : IntKind.i64.wrap (((digs (dv y)).length : Int) - 1) = ((digs (dv y)).length : Int) - 1 := wrap64_id _ (by omega) (by omega)
    rw [h] at e
    by_cases hxy : dv x = dv y
    · rw [if_pos hxy] at e
      have hc : cmpI (dv x) (dv y) = 0 := by simp [cmpI, hxy]
      simp [pureF, runF, ta, tb, dA, h, bne, hw, e, hc]
    · rw [if_neg hxy] at e
      simp [pureF, runF, ta, tb, dA, h, bne, hw, e]
  · have h1 := lt_of_len h
    have h2 : ¬ ((digs (dv x)).length : Int) = (digs (dv y)).length := by omega
    have h3 : ¬ dv x < dv y := by omega
    have h4 : ¬ (digs (dv x)).length < (digs (dv y)).length := by omega
    simp [pureF, runF, ta, tb, dA, h4, h2, cmpI, h1, h3, bne]


theorem compareDigits_eq {la lb : Bool} {x y : List Nat} (hx : Wf x) (hy : Wf y) (lx : x.length < 100000000) (ly : y.length < 100000000) : spCompareDigits [.imm la 1 (dg x), .imm lb 1 (dg y)] = some { val := .int .i64 (cmpI (dv x) (dv y)) } := by
  simp [spCompareDigits, digOf_dg hx lx, digOf_dg hy ly]

/-! ### digit -/

def spDigit : List AV → Option PRes
  | [a, .int .i64 i] => match digOf a with | some x => if 0 ≤ i then some { val := .int .u64 (dgt x i.toNat) } else none | none => none
  | _ => none

theorem digit_run : FSpec (fun args n => pureF G ic n c87F args) spDigit := by
  intro args r h
  unfold spDigit at h
  split at h
  case h_2 => cases h
  rename_i a i
  split at h
  case h_2 => cases h
  rename_i x hx
  obtain ⟨hi, h1⟩ := of_ite h
  clear h
  cases h1
  obtain ⟨la, rfl, hw, hl⟩ := digOf_inv hx
  obtain ⟨k, rfl⟩ : ∃ k : Nat, i = k := ⟨i.toNat, by omega⟩
  refine ⟨{ val := .int .u64 (dgt x k) }, ⟨0, ?_⟩, rfl, rfl⟩
  rcases Nat.lt_or_ge k x.length with lt | ge
  · have g := dg_get x k lt
    have hb := wf_get hw lt
    have w : IntKind.u64.wrap (x[k] : Nat) = (x[k] : Nat) := wrapu64_id _ (by omega) (by simp only [W32] at hb; omega)
    simp [pureF, runF, lt, g, w, dgt_get lt]
  · have h2 : ¬ k < x.length := by omega
    simp [pureF, runF, h2, dgt_end ge]

theorem digit_eq {la : Bool} {x : List Nat} (hx : Wf x) (lx : x.length < 100000000) (k : Nat) : spDigit [.imm la 1 (dg x), .int .i64 (k : Int)] = some { val := .int .u64 (dgt x k) } := by
  simp [spDigit, digOf_dg hx lx]

/-! ### addDigits -/

theorem add_loop (hD : G 87 = spDigit) (la lb : Bool) (a b : List Nat) (n1 : Nat) (ha : Wf a) (hb : Wf b) (hla : a.length < 100000000) (hlb : b.length < 100000000) (hn : n1 < 100000001) : ∀ d i s c, i + d = n1 → s.length = n1 → Wf s → c ≤ 1 →
    dv (s.take i) + W32 ^ i * c = dv (a.take i) + dv (b.take i) →
    ∃ s' c', s'.length = n1 ∧ Wf s' ∧ dv s' + W32 ^ n1 * c' = dv (a.take n1) + dv (b.take n1) ∧ ∀ m, d < m →
      blockE (some c71_e0) 0 (iterK G ic n c71_k0 c71_b0Q m ⟨[(0, .imm la 1 (dg a)), (1, .imm lb 1 (dg b)), (5, .int .i64 n1), (6, .sl 1136256 0 n1), (7, .int .u64 c), (8, .int .i64 i)],
        [(1136256, { sz := 1, ty := 88, es := dg s, refs := [] })], [], [1136256], []⟩) =
        some (.normal, ⟨[(6, .sl 1136256 0 n1)], [(1136256, { sz := 1, ty := 88, es := dg s', refs := [] })], [], [1136256], []⟩) := by
  intro d
  induction d with
  | zero =>
    intro i s c hi hs hw hc hv
    have e : i = n1 := by omega
    subst e
    refine ⟨s, c, hs, hw, by rw [List.take_of_length_le (by omega)] at hv; exact hv, fun m hm => ?_⟩
    obtain ⟨m, rfl⟩ : ∃ i, m = i + 1 := ⟨m - 1, by omega⟩
    simp [iterK_succ]
  | succ d ih =>
    intro i s c hi hs hw hc hv
    have hda := dgt_lt ha i
    have hdb := dgt_lt hb i
    have his : i < s.length := by omega
    simp only [W32] at hda hdb
    obtain ⟨t, ht⟩ : ∃ t, t = c + dgt a i + dgt b i := ⟨_, rfl⟩
    obtain ⟨q, hq⟩ : ∃ q, q = t % 4294967296 := ⟨_, rfl⟩
    obtain ⟨e, he⟩ : ∃ e, e = t / 4294967296 := ⟨_, rfl⟩
    have hqe : q + W32 * e = t := by simp only [W32]; omega
    obtain ⟨s', c', r1, r2, r3, r4⟩ := ih (i + 1) (s.set i q) e (by omega) (by simpa using hs) (wf_set hw (by simp only [W32]; omega)) (by omega) (by
      rw [dv_take_set his, dv_take_dgt a, dv_take_dgt b, Nat.pow_succ, Nat.mul_assoc]
      have e2 : W32 ^ i * q + W32 ^ i * (W32 * e) = W32 ^ i * t := by rw [← Nat.mul_add, hqe]
      have e3 : W32 ^ i * t = W32 ^ i * c + W32 ^ i * dgt a i + W32 ^ i * dgt b i := by rw [ht, Nat.mul_add, Nat.mul_add]
      omega)
    refine ⟨s', c', r1, r2, r3, fun m hm => ?_⟩
    obtain ⟨m, rfl⟩ : ∃ i, m = i + 1 := ⟨m - 1, by omega⟩
    have r5 := r4 m (by omega)
    rw [← r5]
    have da := digit_eq (la := la) ha hla i
    have db := digit_eq (la := lb) hb hlb i
    rw [← hD] at da db
    have hlt : i < n1 := by omega
    have w1 : IntKind.u64.wrap ((c : Int) + (dgt a i : Nat)) = (c : Int) + (dgt a i : Nat) := wrapu64_id _ (by omega) (by omega)
    have w2 : IntKind.u64.wrap ((c : Int) + (dgt a i : Nat) + (dgt b i : Nat)) = (t : Int) := w64_nat (by omega) (by omega)
    have w5 : IntKind.i64.wrap ((i : Int) + 1) = (i : Int) + 1 := wrap64_id _ (by omega) (by omega)
    simp [iterK_succ, da, db, hlt, w1, w2, w32_nat hq, fdiv_nat he, w5, dg_set, hs]

def spAddDigits : List AV → Option PRes
  | [a, b] => match digOf a, digOf b with | some x, some y => if x.length + y.length < 99999000 then some { val := dA (digs (dv x + dv y)) } else none | _, _ => none
  | _ => none

theorem addDigits_run (hT : G 74 = spTrim) (hD : G 87 = spDigit) : FSpec (fun args n => pureF G ic n c71F args) spAddDigits := by
  intro args r h
  unfold spAddDigits at h
  split at h
  case h_2 => cases h
  rename_i a b
  split at h
  case h_2 => cases h
  rename_i x y hx hy
  obtain ⟨hxy, h1⟩ := of_ite h
  clear h
  cases h1
  obtain ⟨la, rfl, hwa, hla⟩ := digOf_inv hx
  obtain ⟨lb, rfl, hwb, hlb⟩ := digOf_inv hy
  obtain ⟨k, hk⟩ : ∃ k, k = max x.length y.length := ⟨_, rfl⟩
  have hkx : x.length ≤ k := by omega
  have hky : y.length ≤ k := by omega
  have hk1 : k < 99999000 := by omega
  obtain ⟨N, hN⟩ : ∃ N, N = k + 2 := ⟨_, rfl⟩
  obtain ⟨s', c', r1, r2, r3, r4⟩ := add_loop G ic N hD la lb x y (k + 1) hwa hwb hla hlb (by omega) (k + 1) 0 (List.replicate (k + 1) 0) 0 (by omega) (by simp) (wf_replicate _) (by omega) (by simp [dv])
  rw [List.take_of_length_le (by omega), List.take_of_length_le (by omega)] at r3
  have hc : c' = 0 := carry_zero (by decide) (dv_lt_of_le hwa hkx) (dv_lt_of_le hwb hky) r3
  have hv : dv s' = dv x + dv y := by rw [hc, Nat.mul_zero, Nat.add_zero] at r3; exact r3
  have t := trim_eq (nl := false) r2 (by omega)
  rw [← hT] at t
  have e := r4 N (by omega)
  simp [c71_e0, c71_k0] at e
  refine ⟨{ val := dA (digs (dv s')) }, ⟨N, ?_⟩, rfl, by rw [hv]; exact (weak_dA _ _).symm⟩
  have hm : (if x.length < y.length then (y.length : Int) else x.length) = (k : Int) := by split <;> omega
  have w : IntKind.i64.wrap ((k : Int) + 1) = (k : Int) + 1 := wrap64_id _ (by omega) (by omega)
  have w2 : 0 ≤ (k : Int) + 1 := by omega
  have w3 : ((k : Int) + 1) * 4 ≤ 140737488355328 := by omega
  have w4 : ((k : Int) + 1).toNat = k + 1 := by omega
  have hk2 : k + 1 ≤ s'.length := by omega
  have hk3 : (dg s').take (k + 1) = dg s' := by rw [← r1, take_dg]
  simp [pureF, runF, hm, w, w2, w3, w4, dg_replicate, e, hk2, hk3, t, dA]


theorem addDigits_eq {la lb : Bool} {x y : List Nat} (hx : Wf x) (hy : Wf y) (h : x.length + y.length < 99999000) : spAddDigits [.imm la 1 (dg x), .imm lb 1 (dg y)] = some { val := dA (digs (dv x + dv y)) } := by
  simp [spAddDigits, digOf_dg hx (by omega), digOf_dg hy (by omega), h]

/-! ### subDigits -/

theorem sub_loop (hD : G 87 = spDigit) (la lb : Bool) (a b : List Nat) (ha : Wf a) (hb : Wf b) (hla : a.length < 100000000) (hlb : b.length < 100000000) : ∀ d i s c, i + d = a.length → s.length = a.length → Wf s → c ≤ 1 →
    dv (s.take i) + dv (b.take i) = dv (a.take i) + W32 ^ i * c →
    ∃ s' c', s'.length = a.length ∧ Wf s' ∧ dv s' + dv (b.take a.length) = dv a + W32 ^ a.length * c' ∧ ∀ m, d < m →
      blockE (some c73_e0) 0 (iterK G ic n c73_k0 c73_b0Q m ⟨[(0, .imm la 1 (dg a)), (1, .imm lb 1 (dg b)), (5, .sl 1168176 0 a.length), (6, .int .u64 c), (7, .int .i64 i)],
        [(1168176, { sz := 1, ty := 88, es := dg s, refs := [] })], [], [1168176], []⟩) =
        some (.normal, ⟨[(5, .sl 1168176 0 a.length)], [(1168176, { sz := 1, ty := 88, es := dg s', refs := [] })], [], [1168176], []⟩) := by
  intro d
  induction d with
  | zero =>
    intro i s c hi hs hw hc hv
    have e : i = a.length := by omega
    subst e
    refine ⟨s, c, hs, hw, by rw [List.take_of_length_le (by omega), List.take_length] at hv; exact hv, fun m hm => ?_⟩
    obtain ⟨m, rfl⟩ : ∃ i, m = i + 1 := ⟨m - 1, by omega⟩
    simp [iterK_succ]
  | succ d ih =>
    intro i s c hi hs hw hc hv
    have hda := dgt_lt ha i
    have hdb := dgt_lt hb i
    have his : i < s.length := by omega
    simp only [W32] at hda hdb
    obtain ⟨t, ht⟩ : ∃ t, t = dgt a i + 4294967296 - dgt b i - c := ⟨_, rfl⟩
    obtain ⟨q, hq⟩ : ∃ q, q = t % 4294967296 := ⟨_, rfl⟩
    obtain ⟨e, he⟩ : ∃ e, e = t / 4294967296 := ⟨_, rfl⟩
    have he1 : e ≤ 1 := by omega
    have hqe : q + dgt b i + c = dgt a i + W32 * (1 - e) := by simp only [W32]; omega
    obtain ⟨s', c', r1, r2, r3, r4⟩ := ih (i + 1) (s.set i q) (1 - e) (by omega) (by simpa using hs) (wf_set hw (by simp only [W32]; omega)) (by omega) (by
      rw [dv_take_set his, dv_take_dgt a, dv_take_dgt b, Nat.pow_succ, Nat.mul_assoc]
      exact sub_step hv hqe)
    refine ⟨s', c', r1, r2, r3, fun m hm => ?_⟩
    obtain ⟨m, rfl⟩ : ∃ i, m = i + 1 := ⟨m - 1, by omega⟩
    have r5 := r4 m (by omega)
    rw [← r5]
    have da := digit_eq (la := la) ha hla i
    have db := digit_eq (la := lb) hb hlb i
    rw [← hD] at da db
    have hlt : i < a.length := by omega
    have w1 : IntKind.u64.wrap ((dgt a i : Nat) + (4294967296 : Int)) = (dgt a i : Nat) + (4294967296 : Int) := wrapu64_id _ (by omega) (by omega)
    have w2 : IntKind.u64.wrap ((dgt a i : Nat) + (4294967296 : Int) - (dgt b i : Nat)) = (dgt a i : Nat) + (4294967296 : Int) - (dgt b i : Nat) := wrapu64_id _ (by omega) (by omega)
    have w3 : IntKind.u64.wrap ((dgt a i : Nat) + (4294967296 : Int) - (dgt b i : Nat) - (c : Nat)) = (t : Int) := w64_nat (by omega) (by omega)
    have w4 : IntKind.u64.wrap (1 - (e : Int)) = ((1 - e : Nat) : Int) := w64_nat (by omega) (by omega)
    have w5 : IntKind.i64.wrap ((i : Int) + 1) = (i : Int) + 1 := wrap64_id _ (by omega) (by omega)
    simp [iterK_succ, da, db, hlt, w1, w2, w3, w4, w32_nat hq, fdiv_nat he, w5, dg_set, hs]

def spSubDigits : List AV → Option PRes
  | [a, b] => match digOf a, digOf b with | some x, some y => if dv y ≤ dv x then some { val := dA (digs (dv x - dv y)) } else none | _, _ => none
  | _ => none

theorem subDigits_run (hT : G 74 = spTrim) (hD : G 87 = spDigit) : FSpec (fun args n => pureF G ic n c73F args) spSubDigits := by
  intro args r h
  unfold spSubDigits at h
  split at h
  case h_2 => cases h
  rename_i a b
  split at h
  case h_2 => cases h
  rename_i x y hx hy
  obtain ⟨hxy, h1⟩ := of_ite h
  clear h
  cases h1
  obtain ⟨la, rfl, hwa, hla⟩ := digOf_inv hx
  obtain ⟨lb, rfl, hwb, hlb⟩ := digOf_inv hy
  obtain ⟨N, hN⟩ : ∃ N, N = x.length + 1 := ⟨_, rfl⟩
  obtain ⟨s', c', r1, r2, r3, r4⟩ := sub_loop G ic N hD la lb x y hwa hwb hla hlb x.length 0 (List.replicate x.length 0) 0 (by omega) (by simp) (wf_replicate _) (by omega) (by simp [dv])
  have hlt := dv_lt hwa
  rw [dv_take_of_lt (by omega)] at r3
  have hs' := dv_lt r2
  rw [r1] at hs'
  have hc : c' = 0 := borrow_zero hs' hxy r3
  have hv : dv s' = dv x - dv y := by rw [hc, Nat.mul_zero, Nat.add_zero] at r3; omega
  have t := trim_eq (nl := false) r2 (by omega)
  rw [← hT] at t
  have e := r4 N (by omega)
  simp [c73_e0, c73_k0] at e
  refine ⟨{ val := dA (digs (dv s')) }, ⟨N, ?_⟩, rfl, by rw [hv]; exact (weak_dA _ _).symm⟩
  have w3 : (x.length : Int) * 4 ≤ 140737488355328 := by omega
  have hk2 : x.length ≤ s'.length := by omega
  have hk3 : (dg s').take x.length = dg s' := by rw [← r1, take_dg]
  simp [pureF, runF, w3, dg_replicate, e, hk2, hk3, t, dA]


theorem subDigits_eq {la lb : Bool} {x y : List Nat} (hx : Wf x) (hy : Wf y) (lx : x.length < 100000000) (ly : y.length < 100000000) (h : dv y ≤ dv x) : spSubDigits [.imm la 1 (dg x), .imm lb 1 (dg y)] = some { val := dA (digs (dv x - dv y)) } := by
  simp [spSubDigits, digOf_dg hx lx, digOf_dg hy ly, h]

/-! ### mulDigits -/

end
end Go.Proofs.Ythlpmghodgiknaa.C

/-
  The reference's integers: bits and division.
-/
namespace Go.Proofs.Ythlpmghodgiknaa.C
open Go Go.Ev

section
variable (G : Pure) (ic : Inl) (n : Nat)

/-! ### bitLen -/

theorem fdiv2 {t e : Nat} (h : e = t / 2) : (t : Int).fdiv 2 = (e : Int) := by rw [Int.fdiv_eq_ediv_of_nonneg _ (by decide)]; omega
theorem fdiv2_nat (t : Nat) : (t : Int).fdiv 2 = ((t / 2 : Nat) : Int) := by rw [Int.fdiv_eq_ediv_of_nonneg _ (by decide)]; omega

theorem bits_loop : ∀ (x k m : Nat), x < W32 → k + bl x < 10000000000 → bl x < m →
    blockE (some c88_e0) 0 (iterK G ic n c88_k0 c88_b0Q m ⟨[(3, .int .i64 k), (4, .int .u32 x)], [], [], [], []⟩) = some (.normal, ⟨[(3, .int .i64 ((k + bl x : Nat) : Int))], [], [], [], []⟩) := by
  intro x
  induction x using Nat.strongRecOn with
  | _ x ih =>
    intro k m hx hk hm
    obtain ⟨m, rfl⟩ : ∃ i, m = i + 1 := ⟨m - 1, by omega⟩
    by_cases h : x = 0
    · subst h
      simp [iterK_succ, bl_zero]
    · have hp : 0 < x := by omega
      rw [bl_pos h] at hm hk ⊢
      have e := ih (x / 2) (by omega) (k + 1) m (by simp only [W32] at *; omega) (by omega) (by omega)
      have e2 : k + 1 + bl (x / 2) = k + (bl (x / 2) + 1) := by omega
      rw [e2] at e
      rw [← e]
      have w : IntKind.i64.wrap ((k : Int) + 1) = (k : Int) + 1 := wrap64_id _ (by omega) (by omega)
      simp [iterK_succ, hp, w, fdiv2_nat]

def spBitLen : List AV → Option PRes
  | [a] => (digOf a).map fun ds => { val := .int .i64 (bl (dv ds) : Nat) }
  | _ => none

theorem bitLen_run (hT : G 74 = spTrim) : FSpec (fun args n => pureF G ic n c88F args) spBitLen := by
  intro args r h
  unfold spBitLen at h
  split at h
  case h_2 => cases h
  rename_i a
  rw [Option.map_eq_some_iff] at h
  obtain ⟨ds, hd, rfl⟩ := h
  obtain ⟨nl, rfl, hw, hl⟩ := digOf_inv hd
  have t := trim_eq (nl := nl) hw hl
  rw [← hT] at t
  have hlen := digs_length_dv hw
  refine ⟨{ val := .int .i64 (bl (dv ds) : Nat) }, ⟨100, ?_⟩, rfl, rfl⟩
  by_cases h0 : dv ds = 0
  · simp [pureF, runF, t, dA, h0, digs_zero, dg_nil, bl_zero]
  · obtain ⟨k, hk⟩ : ∃ k, (digs (dv ds)).length = k + 1 := ⟨(digs (dv ds)).length - 1, by
      have : (digs (dv ds)).length ≠ 0 := fun e => h0 (digs_eq_nil.1 (List.eq_nil_of_length_eq_zero e))
      omega⟩
    have hkl : k < (digs (dv ds)).length := by omega
    have htop : (digs (dv ds))[k] ≠ 0 := digs_last (by omega)
    have hb := bl_dv (wf_digs _) hk htop
    rw [dv_digs] at hb
    have hlt := wf_get (wf_digs (dv ds)) hkl
    obtain ⟨N, hN⟩ : ∃ N, N = 100 := ⟨_, rfl⟩
    rw [← hN]
    obtain ⟨X, hX⟩ : ∃ X, X = (digs (dv ds))[k] := ⟨_, rfl⟩
    rw [← hX] at hb hlt
    have e := bits_loop G ic N X (32 * k) N hlt (by have := bl_digit hlt; omega) (by have := bl_digit hlt; omega)
    rw [← hb] at e
    simp [c88_e0, c88_k0] at e
    have g := dg_get _ k hkl
    rw [← hX] at g
    have w1 : IntKind.i64.wrap (k : Int) = (k : Int) := wrap64_id _ (by omega) (by omega)
    have w2 : IntKind.i64.wrap (32 * (k : Int)) = 32 * (k : Int) := wrap64_id _ (by omega) (by omega)
    have hne : ¬ (k : Int) + 1 = 0 := by omega
    simp [pureF, runF, t, dA, hk, hne, w1, w2, ← hX, e]

theorem bitLen_eq {nl : Bool} {ds : List Nat} (h : Wf ds) (hl : ds.length < 100000000) : spBitLen [.imm nl 1 (dg ds)] = some { val := .int .i64 (bl (dv ds) : Nat) } := by simp [spBitLen, digOf_dg h hl]


/-! ### half -/

theorem w32_or {a b i z : Nat} (ha : a < 2 ^ i) (hb : b = 2 ^ i * z) (hs : a + b < 4294967296) : IntKind.u32.wrap ((a % 2 ^ IntKind.u32.bits ||| b % 2 ^ IntKind.u32.bits : Nat) : Int) = ((a + b : Nat) : Int) := by
  show IntKind.u32.wrap ((a % 4294967296 ||| b % 4294967296 : Nat) : Int) = ((a + b : Nat) : Int)
  have h3 : a ||| b = a + b := by
    rw [hb, Nat.or_comm, ← Nat.two_pow_add_eq_or_of_lt ha]; omega
  rw [Nat.mod_eq_of_lt (by omega), Nat.mod_eq_of_lt (by omega), h3]
  exact wrapu32_id _ (by omega) (by omega)

theorem half_loop (hD : G 87 = spDigit) (la : Bool) (a : List Nat) (ha : Wf a) (hla : a.length < 100000000) : ∀ d i s, i + d = a.length → s.length = a.length → Wf s →
    2 * dv (s.take i) + dgt a 0 % 2 = dv (a.take i) + W32 ^ i * (dgt a i % 2) →
    ∃ s', s'.length = a.length ∧ Wf s' ∧ 2 * dv s' + dgt a 0 % 2 = dv a ∧ ∀ m, d < m →
      blockE (some c90_e0) 0 (iterK G ic n c90_k0 c90_b0Q m ⟨[(0, .imm la 1 (dg a)), (3, .sl 1440112 0 a.length), (4, .int .i64 i)],
        [(1440112, { sz := 1, ty := 88, es := dg s, refs := [] })], [], [1440112], []⟩) =
        some (.normal, ⟨[(3, .sl 1440112 0 a.length)], [(1440112, { sz := 1, ty := 88, es := dg s', refs := [] })], [], [1440112], []⟩) := by
  intro d
  induction d with
  | zero =>
    intro i s hi hs hw hv
    have e : i = a.length := by omega
    subst e
    rw [dgt_end (Nat.le_refl _), List.take_length, List.take_of_length_le (by omega), Nat.zero_mod, Nat.mul_zero, Nat.add_zero] at hv
    refine ⟨s, hs, hw, hv, fun m hm => ?_⟩
    obtain ⟨m, rfl⟩ : ∃ i, m = i + 1 := ⟨m - 1, by omega⟩
    simp [iterK_succ]
  | succ d ih =>
    intro i s hi hs hw hv
    have hia : i < a.length := by omega
    have his : i < s.length := by omega
    have hA := wf_get ha hia
    have hB := dgt_lt ha (i + 1)
    simp only [W32] at hA hB
    obtain ⟨A, hAe⟩ : ∃ A, A = a[i] := ⟨_, rfl⟩
    have hdA : dgt a i = A := by rw [dgt_get hia, hAe]
    rw [← hAe] at hA
    obtain ⟨B, hBe⟩ : ∃ B, B = dgt a (i + 1) := ⟨_, rfl⟩
    rw [← hBe] at hB
    obtain ⟨u, hu⟩ : ∃ u, u = B * 2147483648 := ⟨_, rfl⟩
    obtain ⟨q, hq⟩ : ∃ q, q = u % 4294967296 := ⟨_, rfl⟩
    have hq2 : q = 2 ^ 31 * (B % 2) := by simp only [Nat.reducePow]; omega
    obtain ⟨H, hH⟩ : ∃ H, H = A / 2 := ⟨_, rfl⟩
    have hsum : H + q < 4294967296 := by simp only [Nat.reducePow] at hq2; omega
    obtain ⟨t, ht⟩ : ∃ t, t = H + q := ⟨_, rfl⟩
    have hstep : 2 * t + A % 2 = A + W32 * (B % 2) := by simp only [W32, Nat.reducePow] at *; omega
    obtain ⟨s', r1, r2, r3, r4⟩ := ih (i + 1) (s.set i t) (by omega) (by simpa using hs) (wf_set hw (by simp only [W32]; omega)) (by
      rw [dv_take_set his, dv_take_dgt a, hdA, Nat.pow_succ, Nat.mul_assoc, ← hBe]
      rw [hdA] at hv
      exact half_step hv hstep)
    refine ⟨s', r1, r2, r3, fun m hm => ?_⟩
    obtain ⟨m, rfl⟩ : ∃ i, m = i + 1 := ⟨m - 1, by omega⟩
    rw [← r4 m (by omega)]
    have da := digit_eq (la := la) ha hla (i + 1)
    rw [← hD, ← hBe] at da
    have e1 : ((i + 1 : Nat) : Int) = (i : Int) + 1 := by omega
    rw [e1] at da
    have w1 : IntKind.i64.wrap ((i : Int) + 1) = (i : Int) + 1 := wrap64_id _ (by omega) (by omega)
    have w2 : IntKind.u64.wrap ((B : Int) * 2147483648) = (u : Int) := w64_nat (by omega) (by omega)
    have w3 := w32_or (a := H) (b := q) (i := 31) (by simp only [Nat.reducePow]; omega) hq2 hsum
    rw [← ht] at w3
    simp [iterK_succ, hia, da, w1, w2, w32_nat hq, ← hAe, fdiv2 hH, dg_set, hs, w3]


def spHalf : List AV → Option PRes
  | [a] => (digOf a).map fun ds => { val := dA (digs (dv ds / 2)) }
  | _ => none

theorem half_run (hT : G 74 = spTrim) (hD : G 87 = spDigit) : FSpec (fun args n => pureF G ic n c90F args) spHalf := by
  intro args r h
  unfold spHalf at h
  split at h
  case h_2 => cases h
  rename_i a
  rw [Option.map_eq_some_iff] at h
  obtain ⟨x, hd, rfl⟩ := h
  obtain ⟨la, rfl, hw, hl⟩ := digOf_inv hd
  obtain ⟨N, hN⟩ : ∃ N, N = x.length + 1 := ⟨_, rfl⟩
  obtain ⟨s', r1, r2, r3, r4⟩ := half_loop G ic N hD la x hw hl x.length 0 (List.replicate x.length 0) (by omega) (by simp) (wf_replicate _) (by simp [dv])
  have hv : dv s' = dv x / 2 := by omega
  have t := trim_eq (nl := false) r2 (by omega)
  rw [← hT] at t
  have e := r4 N (by omega)
  simp [c90_e0, c90_k0] at e
  refine ⟨{ val := dA (digs (dv s')) }, ⟨N, ?_⟩, rfl, by rw [hv]; exact (weak_dA _ _).symm⟩
  have w3 : (x.length : Int) * 4 ≤ 140737488355328 := by omega
  have hk2 : x.length ≤ s'.length := by omega
  have hk3 : (dg s').take x.length = dg s' := by rw [← r1, take_dg]
  simp [pureF, runF, w3, dg_replicate, e, hk2, hk3, t, dA]

theorem half_eq {nl : Bool} {ds : List Nat} (h : Wf ds) (hl : ds.length < 100000000) : spHalf [.imm nl 1 (dg ds)] = some { val := dA (digs (dv ds / 2)) } := by simp [spHalf, digOf_dg h hl]


/-! ### shift -/

theorem shift_loop (la : Bool) (a : List Nat) (N w r L : Nat) (ha : Wf a) (hL : L = a.length + w + 1) (hLb : L < 100000000) (hr : r < 32) (hN : N = 32 * w + r) : ∀ d i s, i + d = a.length → s.length = L → Wf s → dv s = W32 ^ w * (2 ^ r * dv (a.take i)) → dgt s (i + w) < 2 ^ r → (∀ j, i + w < j → dgt s j = 0) →
    ∃ s', s'.length = L ∧ Wf s' ∧ dv s' = W32 ^ w * (2 ^ r * dv a) ∧ ∀ m, d < m →
      blockE (some c89_e0) 0 (iterK G ic n c89_k0 c89_b0Q m ⟨[(0, .imm la 1 (dg a)), (1, .int .i64 N), (5, .sl 1424224 0 L), (6, .int .i64 i)],
        [(1424224, { sz := 1, ty := 88, es := dg s, refs := [] })], [], [1424224], []⟩) =
        some (.normal, ⟨[(5, .sl 1424224 0 L)], [(1424224, { sz := 1, ty := 88, es := dg s', refs := [] })], [], [1424224], []⟩) := by
  intro d
  induction d with
  | zero =>
    intro i s hi hs hw hv _ _
    have e : i = a.length := by omega
    subst e
    rw [List.take_length] at hv
    refine ⟨s, hs, hw, hv, fun m hm => ?_⟩
    obtain ⟨m, rfl⟩ : ∃ i, m = i + 1 := ⟨m - 1, by omega⟩
    simp [iterK_succ]
  | succ d ih =>
    intro i s hi hs hw hv htop hz
    have hia : i < a.length := by omega
    have hA := wf_get ha hia
    obtain ⟨A, hAe⟩ : ∃ A, A = a[i] := ⟨_, rfl⟩
    rw [← hAe] at hA
    obtain ⟨z, p1, p2, p3, p4⟩ := shl_parts hr hA
    obtain ⟨x, hx⟩ : ∃ x, x = A * 2 ^ r := ⟨_, rfl⟩
    rw [← hx] at p1 p2 p4
    obtain ⟨q, hq⟩ : ∃ q, q = x % 4294967296 := ⟨_, rfl⟩
    obtain ⟨e, he⟩ : ∃ e, e = x / 4294967296 := ⟨_, rfl⟩
    have hq2 : q = 2 ^ r * z := by rw [hq]; exact p1
    have he2 : e < 2 ^ r := by rw [he]; exact p2
    have hiw : i + w < s.length := by omega
    have hiw1 : i + w + 1 < s.length := by omega
    obtain ⟨T, hT⟩ : ∃ T, T = s[i + w] := ⟨_, rfl⟩
    have hT2 : T < 2 ^ r := by rw [hT, ← dgt_get hiw]; exact htop
    have h31 : 2 ^ r ≤ 2147483648 := by
      have : 2 ^ r ≤ 2 ^ 31 := Nat.pow_le_pow_right (by decide) (by omega)
      simpa using this
    have hzero : s[i + w + 1] = 0 := by rw [← dgt_get hiw1]; exact hz _ (by omega)
    have hsum : T + q < 4294967296 := by rw [hq2]; simp only [W32] at p3; omega
    obtain ⟨t, ht⟩ : ∃ t, t = T + q := ⟨_, rfl⟩
    have hset1 := dv_set (ds := s) (j := i + w) (q := t) hiw
    have hset2 := dv_set (ds := s.set (i + w) t) (j := i + w + 1) (q := e) (by simpa using hiw1)
    have hz2 : (s.set (i + w) t)[i + w + 1]'(by simpa using hiw1) = 0 := by rw [List.getElem_set_ne (by omega)]; exact hzero
    rw [hz2, Nat.mul_zero, Nat.add_zero] at hset2
    rw [← hT] at hset1
    have hwt : Wf (s.set (i + w) t) := wf_set hw (by simp only [W32]; omega)
    have hwe : Wf ((s.set (i + w) t).set (i + w + 1) e) := wf_set hwt (by simp only [W32]; omega)
    have hqe : q + W32 * e = x := by simp only [W32]; omega
    obtain ⟨s', r1, r2, r3, r4⟩ := ih (i + 1) ((s.set (i + w) t).set (i + w + 1) e) (by omega) (by simpa using hs) hwe (by
      rw [hset2, dv_take_succ hia, ← hAe]
      exact shift_step hv hset1 (by omega) hqe hx) (by
      rw [show i + 1 + w = i + w + 1 by omega, dgt_get (by simpa using hiw1), List.getElem_set_self]; exact he2) (fun j hj => by
      rw [dgt_set_ne (by omega), dgt_set_ne (by omega)]; exact hz j (by omega))
    refine ⟨s', r1, r2, r3, fun m hm => ?_⟩
    obtain ⟨m, rfl⟩ : ∃ i, m = i + 1 := ⟨m - 1, by omega⟩
    rw [← r4 m (by omega)]
    have f1 : IntKind.i64.wrap ((N : Int) / 32) = (w : Int) := by
      have : (N : Int) / 32 = (w : Int) := by omega
      rw [this]; exact wrap64_id _ (by omega) (by omega)
    have f2 : (N : Int).tmod 32 = (r : Int) := by rw [Int.tmod_eq_emod_of_nonneg (by omega)]; omega
    have f3 : IntKind.u64.wrap (r : Int) = (r : Int) := wrapu64_id _ (by omega) (by omega)
    have f4 : IntKind.u64.wrap (A : Int) = (A : Int) := wrapu64_id _ (by omega) (by simp only [W32] at hA; omega)
    have f5 : min r 64 = r := by omega
    have f6 : IntKind.u64.wrap ((A : Int) * 2 ^ r) = (x : Int) := w64_nat (by rw [hx]; simp) (by simp only [W32] at p4; omega)
    have f7 : IntKind.i64.wrap ((i : Int) + w) = (i : Int) + w := wrap64_id _ (by omega) (by omega)
    have f8 : ((i : Int) + w).toNat = i + w := by omega
    have f9 : IntKind.i64.wrap ((i : Int) + w + 1) = (i : Int) + w + 1 := wrap64_id _ (by omega) (by omega)
    have f10 : ((i : Int) + w + 1).toNat = i + w + 1 := by omega
    have f11 := w32_or hT2 hq2 hsum
    rw [← ht] at f11
    have f12 : IntKind.u32.wrap (e : Int) = (e : Int) := wrapu32_id _ (by omega) (by omega)
    have f13 : IntKind.i64.wrap ((i : Int) + 1) = (i : Int) + 1 := wrap64_id _ (by omega) (by omega)
    have g1 : 0 ≤ (i : Int) + w := by omega
    have g2 : 0 ≤ (i : Int) + w + 1 := by omega
    have g3 : (i : Int) + w < L := by omega
    have g4 : (i : Int) + w + 1 < L := by omega
    have g5 : i + w < L := by omega
    have g6 : i + w + 1 < L := by omega
    have f0 : ¬ (r : Int) < 0 := by omega
    simp [iterK_succ, hia, f0, f1, f2, f3, f4, f5, f6, f7, f8, f9, f10, f11, f12, f13, g1, g2, g3, g4, g5, g6, hs, ← hAe, ← hT, w32_nat hq, fdiv_nat he, dg_set]


def spShift : List AV → Option PRes
  | [a, .int .i64 N] => match digOf a with | some x => if 0 ≤ N ∧ (x.length : Int) + N / 32 + 1 < 100000000 then some { val := dA (digs (2 ^ N.toNat * dv x)) } else none | none => none
  | _ => none

theorem shift_run (hT : G 74 = spTrim) : FSpec (fun args n => pureF G ic n c89F args) spShift := by
  intro args r h
  unfold spShift at h
  split at h
  case h_2 => cases h
  rename_i a N0
  split at h
  case h_2 => cases h
  rename_i x hx
  obtain ⟨⟨hN0, hNb⟩, h1⟩ := of_ite h
  clear h
  cases h1
  obtain ⟨la, rfl, hwa, hla⟩ := digOf_inv hx
  obtain ⟨N, rfl⟩ : ∃ N : Nat, N0 = N := ⟨N0.toNat, by omega⟩
  obtain ⟨w, hw⟩ : ∃ w, w = N / 32 := ⟨_, rfl⟩
  obtain ⟨q, hq⟩ : ∃ q, q = N % 32 := ⟨_, rfl⟩
  obtain ⟨L, hL⟩ : ∃ L, L = x.length + w + 1 := ⟨_, rfl⟩
  obtain ⟨M, hM⟩ : ∃ M, M = x.length + 1 := ⟨_, rfl⟩
  have hp : 0 < 2 ^ q := Nat.pow_pos (by decide)
  obtain ⟨s', r1, r2, r3, r4⟩ := shift_loop G ic M la x N w q L hwa hL (by omega) (by omega) (by omega) x.length 0 (List.replicate L 0) (by omega) (by simp) (wf_replicate _) (by rw [dv_replicate, List.take_zero, dv, Nat.mul_zero, Nat.mul_zero]) (by rw [dgt_replicate]; exact hp) (fun j _ => dgt_replicate _ j)
  have hv : dv s' = 2 ^ N * dv x := by
    rw [r3, W32_pow, ← Nat.mul_assoc, ← Nat.pow_add]
    congr 2
    omega
  have t := trim_eq (nl := false) r2 (by omega)
  rw [← hT] at t
  have e := r4 M (by omega)
  simp [c89_e0, c89_k0] at e
  refine ⟨{ val := dA (digs (dv s')) }, ⟨M, ?_⟩, rfl, by rw [hv]; exact (weak_dA _ _).symm⟩
  have f1 : IntKind.i64.wrap ((N : Int) / 32) = (w : Int) := by
    have : (N : Int) / 32 = (w : Int) := by omega
    rw [this]; exact wrap64_id _ (by omega) (by omega)
  have f2 : IntKind.i64.wrap ((x.length : Int) + w) = (x.length : Int) + w := wrap64_id _ (by omega) (by omega)
  have f3 : IntKind.i64.wrap ((x.length : Int) + w + 1) = (L : Int) := by rw [wrap64_id _ (by omega) (by omega)]; omega
  have f4 : (L : Int) * 4 ≤ 140737488355328 := by omega
  have hk2 : L ≤ s'.length := by omega
  have hk3 : (dg s').take L = dg s' := by rw [← r1, take_dg]
  simp [pureF, runF, f1, f2, f3, f4, dg_replicate, e, hk2, hk3, t, dA]


/-! ### divDigits -/

theorem cmp_digs (hC : G 72 = spCompareDigits) {x y : Nat} {lx ly : Bool} (hx : (digs x).length < 100000000) (hy : (digs y).length < 100000000) :
    G 72 [.imm lx 1 (dg (digs x)), .imm ly 1 (dg (digs y))] = some { val := .int .i64 (cmpI x y) } := by
  rw [hC, compareDigits_eq (wf_digs _) (wf_digs _) hx hy, dv_digs, dv_digs]

theorem sub_digs (hS : G 73 = spSubDigits) {x y : Nat} {lx ly : Bool} (hx : (digs x).length < 100000000) (hy : (digs y).length < 100000000) (h : y ≤ x) :
    G 73 [.imm lx 1 (dg (digs x)), .imm ly 1 (dg (digs y))] = some { val := dA (digs (x - y)) } := by
  rw [hS, subDigits_eq (wf_digs _) (wf_digs _) hx hy (by rw [dv_digs, dv_digs]; exact h), dv_digs, dv_digs]

theorem half_digs (hH : G 90 = spHalf) {x : Nat} {lx : Bool} (hx : (digs x).length < 100000000) :
    G 90 [.imm lx 1 (dg (digs x))] = some { val := dA (digs (x / 2)) } := by
  rw [hH, half_eq (wf_digs _) hx, dv_digs]


theorem cmp_ge {x y : Nat} : (0 ≤ cmpI x y) ↔ y ≤ x := by
  unfold cmpI
  split
  · constructor <;> intro h <;> omega
  · split <;> constructor <;> intro h <;> omega

theorem div_loop_imm (hC : G 72 = spCompareDigits) (hS : G 73 = spSubDigits) (hH : G 90 = spHalf) (a b X E L : Nat) (rs0 : List Nat) (F own reb : List Nat) (hF : 1216400 ∉ F)
    (hX : X < W32 ^ E) (hE : E < 100000000) (hL : L < 100000000) : ∀ k m r q, k ≤ 32 * L → r < b * 2 ^ k → r ≤ X → b * 2 ^ k ≤ X → q.length = L → Wf q → (∃ Z, dv q = 2 ^ k * Z) → a = b * dv q + r → k < m →
    ∃ q' r', q'.length = L ∧ Wf q' ∧ r' < b ∧ a = b * dv q' + r' ∧
      blockE (some c76_e0) 0 (iterK G ic n c76_k0 c76_b0Q m ⟨[(6, .imm false 1 (dg (digs r))), (8, .sl 1216400 0 L), (9, .imm false 1 (dg (digs (b * 2 ^ k / 2)))), (10, .int .i64 ((k : Int) - 1))],
        [(1216208, { sz := 1, ty := 88, es := dg rs0, refs := [] }), (1216400, { sz := 1, ty := 88, es := dg q, refs := [] })], F, own, reb⟩) =
        some (.normal, ⟨[(6, .imm false 1 (dg (digs r'))), (8, .sl 1216400 0 L)], [(1216208, { sz := 1, ty := 88, es := dg rs0, refs := [] }), (1216400, { sz := 1, ty := 88, es := dg q', refs := [] })], F, own, reb⟩) := by
  intro k
  induction k with
  | zero =>
    intro m r q hk hr hrX hbX hq hw hZ ha hm
    obtain ⟨m, rfl⟩ : ∃ i, m = i + 1 := ⟨m - 1, by omega⟩
    refine ⟨q, r, hq, hw, by simpa using hr, ha, ?_⟩
    simp [iterK_succ]
  | succ k ih =>
    intro m r q hk hr hrX hbX hq hw hZ ha hm
    obtain ⟨m, rfl⟩ : ∃ i, m = i + 1 := ⟨m - 1, by omega⟩
    obtain ⟨Z, hZ⟩ := hZ
    have hp2 : b * 2 ^ (k + 1) = 2 * (b * 2 ^ k) := by rw [Nat.pow_succ]; rw [← Nat.mul_assoc, Nat.mul_comm]
    obtain ⟨D, hD⟩ : ∃ D, D = b * 2 ^ k := ⟨_, rfl⟩
    rw [← hD] at hp2
    have hD2 : b * 2 ^ (k + 1) / 2 = D := by omega
    have lr := len_of_le hrX hX hE
    have lD := len_of_le (n := D) (by omega) hX hE
    have tc := cmp_digs G hC (lx := false) (ly := false) lr lD
    have th := half_digs G hH (lx := false) lD
    have e1 : ((k + 1 : Nat) : Int) - 1 = k := by omega
    have w1 : IntKind.i64.wrap ((k : Int) - 1) = (k : Int) - 1 := wrap64_id _ (by omega) (by omega)
    rw [hD2, e1]
    by_cases hc : D ≤ r
    · obtain ⟨j, hj⟩ : ∃ j, j = k / 32 := ⟨_, rfl⟩
      obtain ⟨e, he⟩ : ∃ e, e = k % 32 := ⟨_, rfl⟩
      have hjq : j < q.length := by omega
      obtain ⟨z, hz⟩ := dgt_mul hw hZ
      rw [← hj, ← he, dgt_get hjq] at hz
      obtain ⟨T, hT⟩ : ∃ T, T = q[j] := ⟨_, rfl⟩
      obtain ⟨P, hP⟩ : ∃ P, P = 2 ^ e := ⟨_, rfl⟩
      rw [← hT] at hz
      have hTb : T < W32 := by rw [hT]; exact wf_get hw hjq
      obtain ⟨t, ht⟩ : ∃ t, t = P + T := ⟨_, rfl⟩
      have hPT : P + T < 4294967296 := by
        have h1 : W32 = 2 ^ (e + 1) * 2 ^ (31 - e) := by rw [← Nat.pow_add, show e + 1 + (31 - e) = 32 by omega]
        have h2 : 2 ^ (e + 1) * z < 2 ^ (e + 1) * 2 ^ (31 - e) := by rw [← hz, ← h1]; exact hTb
        have h3 : z < 2 ^ (31 - e) := Nat.lt_of_mul_lt_mul_left h2
        have h4 : 2 ^ (e + 1) * (z + 1) ≤ 2 ^ (e + 1) * 2 ^ (31 - e) := Nat.mul_le_mul_left _ h3
        rw [Nat.mul_add, Nat.mul_one, ← hz, ← h1, Nat.pow_succ, ← hP] at h4
        simp only [W32] at h4
        have : 0 < P := by rw [hP]; exact Nat.pow_pos (by decide)
        omega
      have hset := dv_set (ds := q) (j := j) (q := t) hjq
      rw [← hT] at hset
      have hdq : dv (q.set j t) = dv q + 2 ^ k := by
        have h1 : W32 ^ j * P = 2 ^ k := by rw [W32_pow, hP, ← Nat.pow_add]; congr 1; omega
        have h2 : W32 ^ j * t = W32 ^ j * P + W32 ^ j * T := by rw [ht, Nat.mul_add]
        omega
      obtain ⟨q', r', p1, p2, p3, p4, p5⟩ := ih m (r - D) (q.set j t) (by omega) (by omega) (by omega) (by omega) (by simpa using hq) (wf_set hw (by simp only [W32]; omega)) ⟨2 * Z + 1, by rw [hdq, hZ, Nat.pow_succ, Nat.mul_add, Nat.mul_one, Nat.mul_assoc]⟩ (by
        rw [hdq, Nat.mul_add, ← hD]; omega) (by omega)
      refine ⟨q', r', p1, p2, p3, p4, ?_⟩
      rw [← p5, ← hD]
      have ts := sub_digs G hS (lx := false) (ly := false) lr lD hc
      have hpos : 0 ≤ cmpI r D := cmp_ge.2 hc
      have f1 : IntKind.i64.wrap ((k : Int) / 32) = (j : Int) := by
        have : (k : Int) / 32 = (j : Int) := by omega
        rw [this]; exact wrap64_id _ (by omega) (by omega)
      have f2 : (k : Int).tmod 32 = (e : Int) := by rw [Int.tmod_eq_emod_of_nonneg (by omega)]; omega
      have f3 : IntKind.u64.wrap (e : Int) = (e : Int) := wrapu64_id _ (by omega) (by omega)
      have f0 : ¬ (e : Int) < 0 := by omega
      have f5 : min e 32 = e := by omega
      have f6 : IntKind.u32.wrap (2 ^ e : Int) = (P : Int) := by rw [show (2 ^ e : Int) = (P : Int) by rw [hP]; simp]; exact wrapu32_id _ (by omega) (by omega)
      have f7 : IntKind.u32.wrap ((T % 2 ^ IntKind.u32.bits ||| P % 2 ^ IntKind.u32.bits : Nat) : Int) = (t : Int) := by
        rw [Nat.or_comm, w32_or (i := e + 1) (z := z) (by rw [hP, Nat.pow_succ]; have := Nat.pow_pos (n := e) (show 0 < 2 by decide); omega) hz hPT, ht]
      have g5 : j < L := by omega
      simp [iterK_succ, tc, th, ts, hpos, w1, dA, f0, f1, f2, f3, f5, f6, f7, g5, hq, ← hT, dg_set, hF]
    · have hneg : ¬ (0 ≤ cmpI r D) := fun h => hc (cmp_ge.1 h)
      obtain ⟨q', r', p1, p2, p3, p4, p5⟩ := ih m r q (by omega) (by omega) hrX (by omega) hq hw ⟨2 * Z, by rw [hZ, Nat.pow_succ]; rw [Nat.mul_assoc]⟩ ha (by omega)
      refine ⟨q', r', p1, p2, p3, p4, ?_⟩
      rw [← p5, ← hD]
      simp [iterK_succ, tc, th, hneg, w1, dA]

theorem div_loop_sl (hC : G 72 = spCompareDigits) (hS : G 73 = spSubDigits) (hH : G 90 = spHalf) (a b X E L : Nat) (own reb : List Nat)
    (hX : X < W32 ^ E) (hE : E < 100000000) (hL : L < 100000000) : ∀ k m r q F, 1216400 ∉ F → k ≤ 32 * L → r < b * 2 ^ k → r ≤ X → b * 2 ^ k ≤ X → q.length = L → Wf q → (∃ Z, dv q = 2 ^ k * Z) → a = b * dv q + r → k < m →
    ∃ q' r' R' F', q'.length = L ∧ Wf q' ∧ r' < b ∧ a = b * dv q' + r' ∧ 1216400 ∉ F' ∧ (R' = .imm false 1 (dg (digs r')) ∨ (R' = .sl 1216208 0 (digs r').length ∧ r' = r)) ∧
      blockE (some c76_e0) 0 (iterK G ic n c76_k0 c76_b0Q m ⟨[(6, .sl 1216208 0 (digs r).length), (8, .sl 1216400 0 L), (9, .imm false 1 (dg (digs (b * 2 ^ k / 2)))), (10, .int .i64 ((k : Int) - 1))],
        [(1216208, { sz := 1, ty := 88, es := dg (digs r), refs := [] }), (1216400, { sz := 1, ty := 88, es := dg q, refs := [] })], F, own, reb⟩) =
        some (.normal, ⟨[(6, R'), (8, .sl 1216400 0 L)], [(1216208, { sz := 1, ty := 88, es := dg (digs r), refs := [] }), (1216400, { sz := 1, ty := 88, es := dg q', refs := [] })], F', own, reb⟩) := by
  intro k
  induction k with
  | zero =>
    intro m r q F hF hk hr hrX hbX hq hw hZ ha hm
    obtain ⟨m, rfl⟩ : ∃ i, m = i + 1 := ⟨m - 1, by omega⟩
    refine ⟨q, r, _, F, hq, hw, by simpa using hr, ha, hF, .inr ⟨rfl, rfl⟩, ?_⟩
    simp [iterK_succ]
  | succ k ih =>
    intro m r q F hF hk hr hrX hbX hq hw hZ ha hm
    obtain ⟨m, rfl⟩ : ∃ i, m = i + 1 := ⟨m - 1, by omega⟩
    obtain ⟨Z, hZ⟩ := hZ
    have hp2 : b * 2 ^ (k + 1) = 2 * (b * 2 ^ k) := by rw [Nat.pow_succ]; rw [← Nat.mul_assoc, Nat.mul_comm]
    obtain ⟨D, hD⟩ : ∃ D, D = b * 2 ^ k := ⟨_, rfl⟩
    rw [← hD] at hp2
    have hD2 : b * 2 ^ (k + 1) / 2 = D := by omega
    have lr := len_of_le hrX hX hE
    have lD := len_of_le (n := D) (by omega) hX hE
    have tc := cmp_digs G hC (lx := false) (ly := false) lr lD
    have th := half_digs G hH (lx := false) lD
    have e1 : ((k + 1 : Nat) : Int) - 1 = k := by omega
    have w1 : IntKind.i64.wrap ((k : Int) - 1) = (k : Int) - 1 := wrap64_id _ (by omega) (by omega)
    rw [hD2, e1]
    by_cases hc : D ≤ r
    · obtain ⟨j, hj⟩ : ∃ j, j = k / 32 := ⟨_, rfl⟩
      obtain ⟨e, he⟩ : ∃ e, e = k % 32 := ⟨_, rfl⟩
      have hjq : j < q.length := by omega
      obtain ⟨z, hz⟩ := dgt_mul hw hZ
      rw [← hj, ← he, dgt_get hjq] at hz
      obtain ⟨T, hT⟩ : ∃ T, T = q[j] := ⟨_, rfl⟩
      obtain ⟨P, hP⟩ : ∃ P, P = 2 ^ e := ⟨_, rfl⟩
      rw [← hT] at hz
      have hTb : T < W32 := by rw [hT]; exact wf_get hw hjq
      obtain ⟨t, ht⟩ : ∃ t, t = P + T := ⟨_, rfl⟩
      have hPT : P + T < 4294967296 := by
        have h1 : W32 = 2 ^ (e + 1) * 2 ^ (31 - e) := by rw [← Nat.pow_add, show e + 1 + (31 - e) = 32 by omega]
        have h2 : 2 ^ (e + 1) * z < 2 ^ (e + 1) * 2 ^ (31 - e) := by rw [← hz, ← h1]; exact hTb
        have h3 : z < 2 ^ (31 - e) := Nat.lt_of_mul_lt_mul_left h2
        have h4 : 2 ^ (e + 1) * (z + 1) ≤ 2 ^ (e + 1) * 2 ^ (31 - e) := Nat.mul_le_mul_left _ h3
        rw [Nat.mul_add, Nat.mul_one, ← hz, ← h1, Nat.pow_succ, ← hP] at h4
        simp only [W32] at h4
        have : 0 < P := by rw [hP]; exact Nat.pow_pos (by decide)
        omega
      have hset := dv_set (ds := q) (j := j) (q := t) hjq
      rw [← hT] at hset
      have hdq : dv (q.set j t) = dv q + 2 ^ k := by
        have h1 : W32 ^ j * P = 2 ^ k := by rw [W32_pow, hP, ← Nat.pow_add]; congr 1; omega
        have h2 : W32 ^ j * t = W32 ^ j * P + W32 ^ j * T := by rw [ht, Nat.mul_add]
        omega
      obtain ⟨q', r', p1, p2, p3, p4, p5⟩ := div_loop_imm G ic n hC hS hH a b X E L (digs r) (1216208 :: 1216208 :: F) own reb (by simp [hF]) hX hE hL k m (r - D) (q.set j t) (by omega) (by omega) (by omega) (by omega) (by simpa using hq) (wf_set hw (by simp only [W32]; omega)) ⟨2 * Z + 1, by rw [hdq, hZ, Nat.pow_succ, Nat.mul_add, Nat.mul_one, Nat.mul_assoc]⟩ (by
        rw [hdq, Nat.mul_add, ← hD]; omega) (by omega)
      refine ⟨q', r', _, 1216208 :: 1216208 :: F, p1, p2, p3, p4, by simp [hF], .inl rfl, ?_⟩
      rw [← p5, ← hD]
      have ts := sub_digs G hS (lx := false) (ly := false) lr lD hc
      have hpos : 0 ≤ cmpI r D := cmp_ge.2 hc
      have f1 : IntKind.i64.wrap ((k : Int) / 32) = (j : Int) := by
        have : (k : Int) / 32 = (j : Int) := by omega
        rw [this]; exact wrap64_id _ (by omega) (by omega)
      have f2 : (k : Int).tmod 32 = (e : Int) := by rw [Int.tmod_eq_emod_of_nonneg (by omega)]; omega
      have f3 : IntKind.u64.wrap (e : Int) = (e : Int) := wrapu64_id _ (by omega) (by omega)
      have f0 : ¬ (e : Int) < 0 := by omega
      have f5 : min e 32 = e := by omega
      have f6 : IntKind.u32.wrap (2 ^ e : Int) = (P : Int) := by rw [show (2 ^ e : Int) = (P : Int) by rw [hP]; simp]; exact wrapu32_id _ (by omega) (by omega)
      have f7 : IntKind.u32.wrap ((T % 2 ^ IntKind.u32.bits ||| P % 2 ^ IntKind.u32.bits : Nat) : Int) = (t : Int) := by
        rw [Nat.or_comm, w32_or (i := e + 1) (z := z) (by rw [hP, Nat.pow_succ]; have := Nat.pow_pos (n := e) (show 0 < 2 by decide); omega) hz hPT, ht]
      have g5 : j < L := by omega
      simp [iterK_succ, tc, th, ts, hpos, w1, dA, f0, f1, f2, f3, f5, f6, f7, g5, hq, ← hT, dg_set, hF]
    · have hneg : ¬ (0 ≤ cmpI r D) := fun h => hc (cmp_ge.1 h)
      obtain ⟨q', r', R', F', p1, p2, p3, p4, p6, p7, p5⟩ := ih m r q (1216208 :: F) (by simp [hF]) (by omega) (by omega) hrX (by omega) hq hw ⟨2 * Z, by rw [hZ, Nat.pow_succ]; rw [Nat.mul_assoc]⟩ ha (by omega)
      refine ⟨q', r', R', F', p1, p2, p3, p4, p6, p7, ?_⟩
      rw [← p5, ← hD]
      simp [iterK_succ, tc, th, hneg, w1, dA]


def spDivDigits : List AV → Option PRes
  | [a, b] => match digOf a, digOf b with
    | some x, some y => if dv y ≠ 0 ∧ x.length + y.length < 90000000 then some { val := .tup [dA (digs (dv x / dv y)), dA (digs (dv x % dv y))] } else none
    | _, _ => none
  | _ => none

theorem divDigits_run (hT : G 74 = spTrim) (hB : G 88 = spBitLen) (hSh : G 89 = spShift) (hC : G 72 = spCompareDigits) (hS : G 73 = spSubDigits) (hH : G 90 = spHalf) :
    FSpec (fun args n => pureF G ic n c76F args) spDivDigits := by
  intro args r h
  unfold spDivDigits at h
  split at h
  case h_2 => cases h
  rename_i a b
  split at h
  case h_2 => cases h
  rename_i x y hx hy
  obtain ⟨⟨hy0, hxy⟩, h1⟩ := of_ite h
  clear h
  cases h1
  obtain ⟨la, rfl, hwa, hla⟩ := digOf_inv hx
  obtain ⟨lb, rfl, hwb, hlb⟩ := digOf_inv hy
  have t := trim_eq (nl := la) hwa hla
  have ba := bitLen_eq (nl := la) hwa hla
  have bb := bitLen_eq (nl := lb) hwb hlb
  rw [← hT] at t
  rw [← hB] at ba bb
  have lx := digs_length_dv hwa
  have Bx := bl_dv_le hwa
  have By := bl_dv_le hwb
  have w1 : IntKind.i64.wrap ((bl (dv x) : Int) - bl (dv y)) = (bl (dv x) : Int) - bl (dv y) := wrap64_id _ (by omega) (by omega)
  have hb4 : (digs (dv x)).length * 4 ≤ 140737488355328 := by omega
  by_cases hlt : bl (dv x) < bl (dv y)
  · have hxy2 := bl_mono hlt
    have hq : dv x / dv y = 0 := Nat.div_eq_of_lt hxy2
    have hr : dv x % dv y = dv x := Nat.mod_eq_of_lt hxy2
    have w2 : (bl (dv x) : Int) - bl (dv y) < 0 := by omega
    refine ⟨{ val := .tup [.imm true 1 (dg []), .imm false 1 (dg (digs (dv x)))] }, ⟨0, ?_⟩, rfl, ?_⟩
    · simp [pureF, runF, t, ba, bb, dA, w1, w2, hb4, dg_nil]
    · rw [hq, hr, digs_zero]; simp [AV.weak, AV.weakL, weakLL_dg, dA]
  · obtain ⟨N, hN⟩ : ∃ N, N + bl (dv y) = bl (dv x) := ⟨bl (dv x) - bl (dv y), by omega⟩
    obtain ⟨L, hL⟩ : ∃ L, L = N / 32 + 1 := ⟨_, rfl⟩
    obtain ⟨M, hM⟩ : ∃ M, M = N + 2 := ⟨_, rfl⟩
    have eN : (bl (dv x) : Int) - bl (dv y) = (N : Int) := by omega
    rw [eN] at w1
    have hX1 := lt_bl (dv x)
    have hY1 := lt_bl (dv y)
    have hY2 := bl_le hy0
    have hbY : bl (dv y) ≠ 0 := by rw [bl_pos hy0]; omega
    have hpow : 2 ^ bl (dv y) * 2 ^ (N + 1) = 2 ^ (bl (dv x) + 1) := by rw [← Nat.pow_add]; congr 1; omega
    have hXb : dv y * 2 ^ (N + 1) ≤ 2 ^ (bl (dv x) + 1) := by rw [← hpow]; exact Nat.mul_le_mul_right _ (Nat.le_of_lt hY1)
    have hrx : dv x < dv y * 2 ^ (N + 1) := by
      have h1 : 2 ^ (bl (dv y) - 1) * 2 ^ (N + 1) = 2 ^ bl (dv x) := by rw [← Nat.pow_add]; congr 1; omega
      have h2 : 2 ^ (bl (dv y) - 1) * 2 ^ (N + 1) ≤ dv y * 2 ^ (N + 1) := Nat.mul_le_mul_right _ hY2
      omega
    have hXE : 2 ^ (bl (dv x) + 1) < W32 ^ (x.length + 1) := by rw [W32_pow]; exact Nat.pow_lt_pow_of_lt (by decide) (by omega)
    have hrX : dv x ≤ 2 ^ (bl (dv x) + 1) := by
      have : 2 ^ bl (dv x) ≤ 2 ^ (bl (dv x) + 1) := Nat.pow_le_pow_right (by decide) (by omega)
      omega
    obtain ⟨q', r', R', F', p1, p2, p3, p4, p5, p6, p7⟩ := div_loop_sl G ic M hC hS hH (dv x) (dv y) (2 ^ (bl (dv x) + 1)) (x.length + 1) L [1216400, 1216208] [] hXE (by omega) (by omega)
      (N + 1) M (dv x) (List.replicate L 0) [] (by simp) (by omega) hrx hrX hXb (by simp) (wf_replicate _) ⟨0, by rw [dv_replicate]; rfl⟩ (by rw [dv_replicate]; omega) (by omega)
    have hdm : dv q' = dv x / dv y ∧ r' = dv x % dv y := by
      have h1 : dv x = r' + dv y * dv q' := by omega
      constructor
      · rw [h1, Nat.add_mul_div_left _ _ (by omega), Nat.div_eq_of_lt p3, Nat.zero_add]
      · rw [h1, Nat.add_mul_mod_self_left, Nat.mod_eq_of_lt p3]
    have tq := trim_eq (nl := false) p2 (by omega)
    rw [← hT] at tq
    have sh : spShift [.imm lb 1 (dg y), .int .i64 (N : Int)] = some { val := dA (digs (2 ^ N * dv y)) } := by
      simp only [spShift, digOf_dg hwb hlb]
      rw [if_pos ⟨by omega, by omega⟩]
      simp
    rw [← hSh] at sh
    have e9 : dv y * 2 ^ (N + 1) / 2 = 2 ^ N * dv y := by rw [Nat.pow_succ, ← Nat.mul_assoc, Nat.mul_div_cancel _ (by decide), Nat.mul_comm]
    have e := p7
    rw [e9] at e
    simp [c76_e0, c76_k0] at e
    have f0 : ¬ (N : Int) < 0 := by omega
    have f1 : IntKind.i64.wrap ((N : Int) / 32) = (N : Int) / 32 := wrap64_id _ (by omega) (by omega)
    have f2 : IntKind.i64.wrap ((N : Int) / 32 + 1) = (L : Int) := by rw [wrap64_id _ (by omega) (by omega)]; omega
    have f4 : (L : Int) * 4 ≤ 140737488355328 := by omega
    have hk2 : L ≤ q'.length := by omega
    have hk3 : (dg q').take L = dg q' := by rw [← p1, take_dg]
    refine ⟨{ val := .tup [dA (digs (dv q')), .imm false 1 (dg (digs r'))] }, ⟨M, ?_⟩, rfl, ?_⟩
    · rcases p6 with rfl | ⟨rfl, rfl⟩
      · simp [pureF, runF, t, ba, bb, dA, eN, w1, hb4, f0, f1, f2, f4, sh, dg_replicate, e, hk2, hk3, tq]
      · simp [pureF, runF, t, ba, bb, dA, eN, w1, hb4, f0, f1, f2, f4, sh, dg_replicate, e, hk2, hk3, tq]
    · rw [hdm.1, hdm.2]; simp [AV.weak, AV.weakL, weakLL_dg, dA]

end
end Go.Proofs.Ythlpmghodgiknaa.C

/-
  The reference's integers: arithmetic by sign and magnitude.
-/
namespace Go.Proofs.Ythlpmghodgiknaa.C
open Go Go.Ev

section
variable (G : Pure) (ic : Inl) (n : Nat)

theorem make_at {G : Pure} (hM : G 70 = spMake) {b nl : Bool} {ds : List Nat} (h : Wf ds) (hl : ds.length < 100000000) : G 70 [.bool b, .imm nl 1 (dg ds)] = some { val := iV (sg b (dv ds)) } := by
  rw [hM]; exact make_eq h hl

/-! ### FromInt64, one -/

def spFromInt64 : List AV → Option PRes := sp1 i64Of fun z => some (iV z)

/-- The two digits of an int64's magnitude. -/
theorem two_digits {u : Nat} (h : u < 18446744073709551616) : Wf [u % 4294967296, u / 4294967296] ∧ dv [u % 4294967296, u / 4294967296] = u := by
  refine ⟨?_, ?_⟩
  · intro d hd
    simp at hd
    simp only [W32]
    rcases hd with rfl | rfl <;> omega
  · simp only [dv, W32]; omega

theorem fromInt64_run (hM : G 70 = spMake) : FSpec (fun args n => pureF G ic n c61F args) spFromInt64 := by
  intro args r h
  obtain ⟨a, z, v, rfl, hd, hv, rfl⟩ := sp1_inv h
  cases hv
  obtain ⟨rfl, h0, h1⟩ := i64Of_inv hd
  obtain ⟨u, hu⟩ : ∃ u, u = z.natAbs := ⟨_, rfl⟩
  obtain ⟨k1, k2⟩ := two_digits (u := u) (by omega)
  have t := make_at hM (b := decide (z < 0)) (nl := false) k1 (by simp)
  have e : sg (decide (z < 0)) u = z := by by_cases hz : z < 0 <;> simp [sg, hz] <;> omega
  rw [k2, e] at t
  simp only [dg, List.map_cons, List.map_nil] at t
  refine ⟨{ val := iV z }, ⟨0, ?_⟩, rfl, (weak_iV _).symm⟩
  by_cases hz : z < 0
  · have w1 : IntKind.u64.wrap (-(IntKind.u64.wrap z)) = (u : Int) := by rw [wrapu64, wrapu64]; omega
    have w2 : IntKind.u32.wrap (u : Int) = ((u % 4294967296 : Nat) : Int) := w32_nat rfl
    have w3 : (u : Int).fdiv 4294967296 = ((u / 4294967296 : Nat) : Int) := fdiv_nat rfl
    have w4 : IntKind.u32.wrap ((u / 4294967296 : Nat) : Int) = ((u / 4294967296 : Nat) : Int) := wrapu32_id _ (by omega) (by omega)
    have w5 : IntKind.u64.wrap (u : Int) = (u : Int) := wrapu64_id _ (by omega) (by omega)
    simp [hz] at t
    simp only [Int.natCast_emod, Int.natCast_ediv, Int.cast_ofNat_Int] at w2 w3 w4
    simp [pureF, runF, hz, w1, w2, w3, w4, w5, t, iV, iA]
  · have w1 : IntKind.u64.wrap z = (u : Int) := by rw [wrapu64]; omega
    have w2 : IntKind.u32.wrap (u : Int) = ((u % 4294967296 : Nat) : Int) := w32_nat rfl
    have w3 : (u : Int).fdiv 4294967296 = ((u / 4294967296 : Nat) : Int) := fdiv_nat rfl
    have w4 : IntKind.u32.wrap ((u / 4294967296 : Nat) : Int) = ((u / 4294967296 : Nat) : Int) := wrapu32_id _ (by omega) (by omega)
    have w5 : IntKind.u64.wrap (u : Int) = (u : Int) := wrapu64_id _ (by omega) (by omega)
    simp [hz] at t
    simp only [Int.natCast_emod, Int.natCast_ediv, Int.cast_ofNat_Int] at w2 w3 w4
    simp [pureF, runF, hz, w1, w2, w3, w4, w5, t, iV, iA]

def spOne : List AV → Option PRes := sp0 (iV 1)

theorem one_run (hF : G 61 = spFromInt64) : FSpec (fun args n => pureF G ic n c56F args) spOne := by
  intro args r h
  obtain ⟨rfl, rfl⟩ := sp0_inv h
  have t := sp1_at hF (i64Of_mk (n := 1) (by decide) (by decide)) rfl
  refine ⟨{ val := iV 1 }, ⟨0, ?_⟩, rfl, (weak_iV _).symm⟩
  simp [pureF, runF, t, iV, iA]

/-! ### Mul, Add, Sub -/

def spMul : List AV → Option PRes := sp2 zOf zOf fun x y => some (iV (x * y))

def spAdd : List AV → Option PRes := sp2 zOf zOf fun x y => some (iV (x + y))

theorem cmp_at {G : Pure} (hC : G 72 = spCompareDigits) {la lb : Bool} {x y : List Nat} (hx : Wf x) (hy : Wf y) (lx : x.length < 100000000) (ly : y.length < 100000000) : G 72 [.imm la 1 (dg x), .imm lb 1 (dg y)] = some { val := .int .i64 (cmpI (dv x) (dv y)) } := by
  rw [hC]; exact compareDigits_eq hx hy lx ly
theorem trim_at {G : Pure} (hT : G 74 = spTrim) {nl : Bool} {ds : List Nat} (h : Wf ds) (hl : ds.length < 100000000) : G 74 [.imm nl 1 (dg ds)] = some { val := .imm false 1 (dg (digs (dv ds))) } := by
  rw [hT]; exact trim_eq h hl
theorem add_at {G : Pure} (hA : G 71 = spAddDigits) {la lb : Bool} {x y : List Nat} (hx : Wf x) (hy : Wf y) (h : x.length + y.length < 99999000) : G 71 [.imm la 1 (dg x), .imm lb 1 (dg y)] = some { val := .imm false 1 (dg (digs (dv x + dv y))) } := by
  rw [hA]; exact addDigits_eq hx hy h
theorem sub_at {G : Pure} (hS : G 73 = spSubDigits) {la lb : Bool} {x y : List Nat} (hx : Wf x) (hy : Wf y) (lx : x.length < 100000000) (ly : y.length < 100000000) (h : dv y ≤ dv x) : G 73 [.imm la 1 (dg x), .imm lb 1 (dg y)] = some { val := .imm false 1 (dg (digs (dv x - dv y))) } := by
  rw [hS]; exact subDigits_eq hx hy lx ly h

theorem addZ_run (hM : G 70 = spMake) (hA : G 71 = spAddDigits) (hC : G 72 = spCompareDigits) (hT : G 74 = spTrim) (hS : G 73 = spSubDigits) :
    FSpec (fun args n => pureF G ic n c49F args) spAdd := by
  intro args r h
  obtain ⟨a, b, x, y, v, rfl, hx, hy, hv, rfl⟩ := sp2_inv h
  cases hv
  obtain ⟨s1, l1, d1, rfl, w1, k1, rfl⟩ := zOf_inv hx
  obtain ⟨s2, l2, d2, rfl, w2, k2, rfl⟩ := zOf_inv hy
  have q1 := digs_length_dv w1
  have q2 := digs_length_dv w2
  refine ⟨{ val := iV (sg s1 (dv d1) + sg s2 (dv d2)) }, ⟨0, ?_⟩, rfl, (weak_iV _).symm⟩
  by_cases hs : s1 = s2
  · subst hs
    have t1 := add_at hA (la := l1) (lb := l2) w1 w2 (by omega)
    have hlen : (digs (dv d1 + dv d2)).length ≤ d1.length + d2.length + 1 := by
      have := zl_add (dv d1) (dv d2)
      simp only [zl] at this
      rw [show ((dv d1 : Int) + dv d2).natAbs = dv d1 + dv d2 by omega] at this
      simp at this
      omega
    have t2 := make_at hM (b := s1) (nl := false) (wf_digs (dv d1 + dv d2)) (by omega)
    rw [dv_digs, sg_add_same] at t2
    simp [pureF, runF, t1, t2, iV, iA]
  · have t0 := cmp_at hC (la := l1) (lb := l2) w1 w2 (by omega) (by omega)
    by_cases hle : dv d2 ≤ dv d1
    · have hc : 0 ≤ cmpI (dv d1) (dv d2) := cmp_ge.2 hle
      have t1 := trim_at hT (nl := l2) w2 (by omega)
      have t2 := sub_at hS (la := l1) (lb := false) w1 (wf_digs (dv d2)) (by omega) (by omega) (by rw [dv_digs]; exact hle)
      rw [dv_digs] at t2
      have hlen : (digs (dv d1 - dv d2)).length ≤ (digs (dv d1)).length := digs_len_mono (Nat.sub_le _ _)
      have t3 := make_at hM (b := s1) (nl := false) (wf_digs (dv d1 - dv d2)) (by omega)
      rw [dv_digs, sg_sub_same hle hs] at t3
      simp [pureF, runF, hs, t0, hc, t1, t2, t3, iV, iA]
    · have hc : ¬ 0 ≤ cmpI (dv d1) (dv d2) := fun h => hle (cmp_ge.1 h)
      have t1 := trim_at hT (nl := l1) w1 (by omega)
      have t2 := sub_at hS (la := l2) (lb := false) w2 (wf_digs (dv d1)) (by omega) (by omega) (by rw [dv_digs]; omega)
      rw [dv_digs] at t2
      have hlen : (digs (dv d2 - dv d1)).length ≤ (digs (dv d2)).length := digs_len_mono (Nat.sub_le _ _)
      have t3 := make_at hM (b := s2) (nl := false) (wf_digs (dv d2 - dv d1)) (by omega)
      rw [dv_digs, sg_sub_same (by omega) (Ne.symm hs), Int.add_comm] at t3
      simp [pureF, runF, hs, t0, hc, t1, t2, t3, iV, iA]

def spSub : List AV → Option PRes := sp2 zOf zOf fun x y => some (iV (x - y))

theorem iV_agg (z : Int) : iV z = .agg [.bool (decide (z < 0)), .imm false 1 (dg (digs z.natAbs))] := rfl

theorem subZ_run (hN : G 57 = spNegate) (hA : G 49 = spAdd) : FSpec (fun args n => pureF G ic n c77F args) spSub := by
  intro args r h
  obtain ⟨a, b, x, y, v, rfl, hx, hy, hv, rfl⟩ := sp2_inv h
  cases hv
  have hyl := zOf_zl hy
  have t1 := sp1_at hN hy rfl
  have t2 := sp2_at hA hx (zOf_iV (z := -y) (by have := zl_neg y; simp only [zl] at *; omega)) rfl
  rw [← Int.sub_eq_add_neg] at t2
  obtain ⟨m, hm⟩ : ∃ m, m = -y := ⟨_, rfl⟩
  obtain ⟨z, hz⟩ : ∃ z, z = x - y := ⟨_, rfl⟩
  rw [← hm] at t1 t2
  rw [← hz] at t2
  simp only [iV_agg] at t1 t2
  refine ⟨{ val := iV z }, ⟨0, ?_⟩, rfl, by rw [← hz]; exact (weak_iV _).symm⟩
  clear hm hz
  obtain ⟨s1, l1, d1, rfl, w1, k1, -⟩ := zOf_inv hx
  obtain ⟨s2, l2, d2, rfl, w2, k2, -⟩ := zOf_inv hy
  simp [pureF, runF, iV_agg, t1, t2]

/-! ### Compare, Sign -/

def cmpZ (x y : Int) : Int := if x < y then -1 else if y < x then 1 else 0
def spCompare : List AV → Option PRes := sp2 zOf zOf fun x y => some (.int .i64 (cmpZ x y))

theorem compareZ_run (hCn : G 55 = spCanon) (hC : G 72 = spCompareDigits) : FSpec (fun args n => pureF G ic n c81F args) spCompare := by
  intro args r h
  obtain ⟨a, b, x, y, v, rfl, hx, hy, hv, rfl⟩ := sp2_inv h
  cases hv
  have lx := zOf_zl hx
  have ly := zOf_zl hy
  have t1 := sp1_at hCn hx rfl
  have t2 := sp1_at hCn hy rfl
  simp only [iV_agg] at t1 t2
  simp only [zl] at lx ly
  have t3 := cmp_at hC (la := false) (lb := false) (wf_digs x.natAbs) (wf_digs y.natAbs) (by omega) (by omega)
  have t4 := cmp_at hC (la := false) (lb := false) (wf_digs y.natAbs) (wf_digs x.natAbs) (by omega) (by omega)
  rw [dv_digs, dv_digs] at t3 t4
  obtain ⟨s1, l1, d1, rfl, w1, k1, ex⟩ := zOf_inv hx
  obtain ⟨s2, l2, d2, rfl, w2, k2, ey⟩ := zOf_inv hy
  refine ⟨{ val := .int .i64 (cmpZ x y) }, ⟨0, ?_⟩, rfl, rfl⟩
  by_cases hx0 : x < 0
  · by_cases hy0 : y < 0
    · have e : cmpI y.natAbs x.natAbs = cmpZ x y := by unfold cmpI cmpZ; split <;> split <;> (try split) <;> omega
      simp [pureF, runF, t1, t2, hx0, hy0, t4, e]
    · have e : cmpZ x y = -1 := by unfold cmpZ; rw [if_pos (by omega)]
      simp [pureF, runF, t1, t2, hx0, hy0, e]
  · by_cases hy0 : y < 0
    · have e : cmpZ x y = 1 := by unfold cmpZ; rw [if_neg (by omega), if_pos (by omega)]
      simp [pureF, runF, t1, t2, hx0, hy0, e]
    · have e : cmpI x.natAbs y.natAbs = cmpZ x y := by unfold cmpI cmpZ; split <;> split <;> (try split) <;> omega
      simp [pureF, runF, t1, t2, hx0, hy0, t3, e]

def spSign : List AV → Option PRes := sp1 zOf fun x => some (.int .i64 (cmpZ x 0))

theorem sign_run (hC : G 81 = spCompare) : FSpec (fun args n => pureF G ic n c64F args) spSign := by
  intro args r h
  obtain ⟨a, x, v, rfl, hx, hv, rfl⟩ := sp1_inv h
  cases hv
  have h0 : zOf (.agg [.bool false, .imm true 1 []]) = some 0 := by
    have := zOf_mk (b := false) (nl := true) wf_nil (by simp)
    simpa [dg, dv, sg] using this
  have t := sp2_at hC hx h0 rfl
  obtain ⟨s1, l1, d1, rfl, w1, k1, ex⟩ := zOf_inv hx
  refine ⟨{ val := .int .i64 (cmpZ x 0) }, ⟨0, ?_⟩, rfl, rfl⟩
  simp [pureF, runF, t]

end
end Go.Proofs.Ythlpmghodgiknaa.C
