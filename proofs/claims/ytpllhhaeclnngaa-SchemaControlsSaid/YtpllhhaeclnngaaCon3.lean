/- Parts of the proof: EvTab1, EvTab, S0, S1, S2, S5, S7, S8, S9, S10, A1, M1, M2. Conditions: none. -/
import Derived.Test.YtpllhhaeclnngaaCon2
import Derived.Test.YtpllhhaeclnngaaProg
/- The functions of the program in the evaluator's form, as its own look-up lays them (part 1). Conditions: none; these are definitions. -/
namespace Go.Proofs.Ytpllhhaeclnngaa.Ev
set_option maxRecDepth 100000
def g52 : AFunc := (.code 73 (.seq (.ops [⟨(some 4), (.box (.tmp 1)), none, []⟩]) (.seq (.ops [⟨(some 8), (.fAddr 2 (.tmp 4)), none, []⟩, ⟨(some 9), (.loadN 9 (.tmp 8)), none, []⟩, ⟨(some 6), (.alloc [(.int .i64 0), (.string (bs [])), (.string (bs [])), (.int .u64 0), (.int .u64 0), (.string (bs [])), (.string (bs [])), (.int .u64 0), (.int .u64 0)]), none, []⟩, ⟨none, (.store 9 (.tmp 6) (.tmp 9)), none, []⟩]) (.seq (.ops [⟨(some 7), (.alloc [(.int .i64 0), (.string (bs [])), (.string (bs [])), (.int .u64 0), (.int .u64 0), (.string (bs [])), (.string (bs [])), (.int .u64 0), (.int .u64 0)]), none, []⟩]) (.seq (.ops [⟨(some 10), (.fAddr 0 (.tmp 4)), none, []⟩, ⟨(some 11), (.load1 (.tmp 10)), none, []⟩]) (.block 0 (.seq (.ops [⟨(some 15), (.bin .eql (.tmp 11) (.const (.int .i64 1))), none, []⟩, ⟨(some 14), (.mov (.tmp 15)), none, []⟩]) (.cond (.tmp 14) (.seq (.ops [⟨(some 16), (.mov (.tmp 0)), none, []⟩, ⟨(some 17), (.loadN 9 (.tmp 6)), none, []⟩, ⟨(some 18), (.loadN 9 (.tmp 7)), none, []⟩, ⟨(some 19), (.eqs false 9 [(0, 1), (1, 2), (2, 2), (3, 1), (4, 1), (5, 2), (6, 2), (7, 1), (8, 1)] (.tmp 17) (.tmp 18)), none, []⟩, ⟨(some 20), (.callv (.func 46) [(.tmp 16), (.tmp 19), (.const (.int .i64 75))]), none, []⟩]) (.seq (.ops [⟨(some 21), (.mov (.tmp 0)), none, []⟩, ⟨(some 22), (.mov (.tmp 0)), none, []⟩, ⟨(some 23), (.nilChk (.tmp 22)), none, []⟩, ⟨(some 24), (.fAddr 0 (.tmp 23)), none, []⟩, ⟨(some 26), (.fAddr 1 (.tmp 4)), none, []⟩, ⟨(some 25), (.loadN 6 (.tmp 24)), none, []⟩, ⟨(some 27), (.load1 (.tmp 26)), none, []⟩, ⟨(some 28), (.callv (.func 40) [(.tmp 25), (.tmp 27)]), none, []⟩, ⟨(some 29), (.bin .geq (.tmp 28) (.const (.int .i64 0))), none, []⟩, ⟨(some 30), (.callv (.func 46) [(.tmp 21), (.tmp 29), (.const (.int .i64 72))]), none, []⟩]) (.seq (.ops [⟨(some 31), (.mov (.tmp 0)), none, []⟩, ⟨(some 32), (.mov (.tmp 2)), none, []⟩, ⟨(some 33), (.fAddr 1 (.tmp 4)), none, []⟩, ⟨(some 34), (.load1 (.tmp 33)), none, []⟩, ⟨(some 35), (.lookup (.prim 2) (.int .i64 0) false (.tmp 32) (.tmp 34)), none, []⟩, ⟨(some 36), (.bin .eql (.tmp 35) (.const (.int .i64 0))), none, []⟩, ⟨(some 37), (.callv (.func 46) [(.tmp 31), (.tmp 36), (.const (.int .i64 71))]), none, []⟩]) (.ops [⟨(some 38), (.mov (.tmp 2)), none, []⟩, ⟨(some 39), (.fAddr 1 (.tmp 4)), none, []⟩, ⟨(some 40), (.load1 (.tmp 39)), none, []⟩, ⟨none, (.mapUpd (.prim 2) (.tmp 38) (.tmp 40) (.const (.int .i64 1))), none, []⟩])))) (.seq (.ops [⟨(some 42), (.bin .eql (.tmp 11) (.const (.int .i64 3))), none, []⟩, ⟨(some 41), (.mov (.tmp 42)), none, []⟩]) (.cond (.tmp 41) (.ops [⟨(some 43), (.mov (.tmp 0)), none, []⟩, ⟨(some 44), (.loadN 9 (.tmp 6)), none, []⟩, ⟨(some 45), (.loadN 9 (.tmp 7)), none, []⟩, ⟨(some 46), (.eqs false 9 [(0, 1), (1, 2), (2, 2), (3, 1), (4, 1), (5, 2), (6, 2), (7, 1), (8, 1)] (.tmp 44) (.tmp 45)), none, []⟩, ⟨(some 47), (.mov (.tmp 46)), none, []⟩, ⟨(some 48), (.fAddr 1 (.tmp 4)), (some (47, true)), []⟩, ⟨(some 49), (.load1 (.tmp 48)), (some (47, true)), []⟩, ⟨(some 50), (.bin .eql (.tmp 49) (.const (.string (bs [])))), (some (47, true)), []⟩, ⟨(some 51), (.pick (.tmp 47) (.tmp 50) (.const (.bool false))), none, []⟩, ⟨(some 52), (.mov (.tmp 51)), none, []⟩, ⟨(some 53), (.fAddr 11 (.tmp 4)), (some (52, true)), []⟩, ⟨(some 54), (.load1 (.tmp 53)), (some (52, true)), []⟩, ⟨(some 55), (.lenSl (.tmp 54)), (some (52, true)), []⟩, ⟨(some 56), (.fAddr 12 (.tmp 4)), (some (52, true)), []⟩, ⟨(some 57), (.load1 (.tmp 56)), (some (52, true)), []⟩, ⟨(some 58), (.lenSl (.tmp 57)), (some (52, true)), []⟩, ⟨(some 59), (.bin .add (.tmp 55) (.tmp 58)), (some (52, true)), []⟩, ⟨(some 60), (.bin .eql (.tmp 59) (.const (.int .i64 0))), (some (52, true)), []⟩, ⟨(some 61), (.pick (.tmp 52) (.tmp 60) (.const (.bool false))), none, []⟩, ⟨(some 62), (.callv (.func 46) [(.tmp 43), (.tmp 61), (.const (.int .i64 75))]), none, []⟩]) (.seq (.ops [⟨(some 64), (.bin .eql (.tmp 11) (.const (.int .i64 2))), none, []⟩, ⟨(some 63), (.mov (.tmp 64)), none, []⟩]) (.cond (.tmp 63) (.seq (.ops [⟨(some 65), (.mov (.tmp 0)), none, []⟩, ⟨(some 66), (.fAddr 1 (.tmp 4)), none, []⟩, ⟨(some 67), (.load1 (.tmp 66)), none, []⟩, ⟨(some 68), (.bin .eql (.tmp 67) (.const (.string (bs [])))), none, []⟩, ⟨(some 69), (.callv (.func 46) [(.tmp 65), (.tmp 68), (.const (.int .i64 75))]), none, []⟩]) (.ops [⟨(some 70), (.mov (.tmp 0)), none, []⟩, ⟨(some 71), (.loadN 9 (.tmp 6)), none, []⟩, ⟨(some 72), (.callv (.func 92) [(.tmp 70), (.tmp 71)]), none, []⟩])) (.ops [⟨(some 12), (.mov (.tmp 0)), none, []⟩, ⟨(some 13), (.callv (.func 46) [(.tmp 12), (.const (.bool false)), (.const (.int .i64 75))]), none, []⟩])))))))))))) [])
def g53 : AFunc := (.code 8 (.seq (.ops [⟨(some 2), (.box (.tmp 0)), none, []⟩, ⟨(some 3), (.mov (.const (.bool false))), none, []⟩]) (.seq (.ops [⟨(some 4), (.fAddr 1 (.tmp 1)), none, []⟩, ⟨(some 5), (.load1 (.tmp 4)), none, []⟩, ⟨(some 6), (.mkFunc 55 [] [(.tmp 2)]), none, []⟩, ⟨(some 7), (.callv (.func 54) [(.tmp 5), (.tmp 6)]), none, []⟩, ⟨(some 3), (.mov (.tmp 7)), none, []⟩]) .ret)) [(.tmp 3)])
def g54 : AFunc := (.code 9 (.seq (.ops [⟨(some 4), (.mov (.const (.bool false))), none, []⟩]) (.seq (.ops [⟨(some 5), (.mov (.tmp 0)), none, []⟩, ⟨(some 6), (.mov (.tmp 1)), none, []⟩, ⟨(some 7), (.callv (.func 93) [(.tmp 5), (.tmp 6)]), none, []⟩, ⟨(some 8), (.bin .geq (.tmp 7) (.const (.int .i64 0))), none, []⟩, ⟨(some 4), (.mov (.tmp 8)), none, []⟩]) .ret)) [(.tmp 4)])
def g55 : AFunc := (.code 8 (.seq (.ops [⟨(some 2), (.box (.tmp 0)), none, []⟩, ⟨(some 3), (.mov (.const (.bool false))), none, []⟩]) (.seq (.ops [⟨(some 4), (.fAddr 2 (.tmp 2)), none, []⟩, ⟨(some 5), (.load1 (.tmp 4)), none, []⟩, ⟨(some 6), (.load1 (.tmp 1)), none, []⟩, ⟨(some 7), (.bin .eql (.tmp 5) (.tmp 6)), none, []⟩, ⟨(some 3), (.mov (.tmp 7)), none, []⟩]) .ret)) [(.tmp 3)])
def g56 : AFunc := (.code 42 (.seq (.ops [⟨(some 2), (.box (.tmp 0)), none, []⟩, ⟨(some 3), (.box (.tmp 1)), none, []⟩, ⟨(some 4), (.alloc [(.string (bs [])), (.int .i64 0)]), none, []⟩, ⟨(some 5), (.mov (.const (.bool false))), none, []⟩]) (.seq (.ops [⟨(some 9), (.fAddr 1 (.tmp 2)), none, []⟩, ⟨(some 10), (.load1 (.tmp 9)), none, []⟩, ⟨(some 6), (.mov (.tmp 10)), none, []⟩]) (.seq (.seq (.ops [⟨(some 11), (.fAddr 0 (.tmp 3)), none, []⟩, ⟨(some 12), (.load1 (.tmp 11)), none, []⟩]) (.block 0 (.seq (.ops [⟨(some 27), (.bin .eql (.tmp 12) (.const (.string (bs [])))), none, []⟩, ⟨(some 26), (.mov (.tmp 27)), none, []⟩]) (.cond (.tmp 26) (.seq (.ops [⟨(some 28), (.build [(.string (bs [])), (.int .i64 0)] []), none, []⟩, ⟨none, (.store 2 (.tmp 4) (.tmp 28)), none, []⟩, ⟨(some 5), (.mov (.const (.bool false))), none, []⟩]) .ret) (.seq (.ops [⟨(some 30), (.bin .eql (.tmp 12) (.const (.string (bs [109, 101, 116, 97])))), none, []⟩, ⟨(some 29), (.mov (.tmp 30)), none, []⟩]) (.cond (.tmp 29) .skip (.seq (.ops [⟨(some 13), (.loadN 6 (.tmp 2)), none, []⟩, ⟨(some 14), (.fAddr 0 (.tmp 3)), none, []⟩, ⟨(some 15), (.load1 (.tmp 14)), none, []⟩, ⟨(some 16), (.callv (.func 42) [(.tmp 13), (.tmp 15)]), none, []⟩, ⟨(some 7), (.mov (.tmp 16)), none, []⟩]) (.seq (.seq (.ops [⟨(some 17), (.mov (.tmp 7)), none, []⟩, ⟨(some 18), (.bin .lss (.tmp 17) (.const (.int .i64 0))), none, []⟩]) (.cond (.tmp 18) (.seq (.ops [⟨(some 19), (.build [(.string (bs [])), (.int .i64 0)] []), none, []⟩, ⟨none, (.store 2 (.tmp 4) (.tmp 19)), none, []⟩, ⟨(some 5), (.mov (.const (.bool false))), none, []⟩]) .ret) .skip)) (.ops [⟨(some 20), (.fAddr 0 (.tmp 2)), none, []⟩, ⟨(some 21), (.load1 (.tmp 20)), none, []⟩, ⟨(some 22), (.mov (.tmp 7)), none, []⟩, ⟨(some 23), (.iAddrSl 2 (.tmp 21) (.tmp 22)), none, []⟩, ⟨(some 24), (.fAddr 1 (.tmp 23)), none, []⟩, ⟨(some 25), (.load1 (.tmp 24)), none, []⟩, ⟨(some 6), (.mov (.tmp 25)), none, []⟩]))))))))) (.seq (.seq (.ops [⟨(some 31), (.mov (.tmp 6)), none, []⟩, ⟨(some 32), (.fAddr 1 (.tmp 3)), none, []⟩, ⟨(some 33), (.load1 (.tmp 32)), none, []⟩, ⟨(some 34), (.callv (.func 94) [(.tmp 31), (.tmp 33)]), none, []⟩, ⟨(some 8), (.mov (.tmp 34)), none, []⟩]) (.seq (.ops [⟨(some 35), (.mov (.tmp 8)), none, []⟩, ⟨(some 36), (.bin .geq (.tmp 35) (.const (.int .i64 0))), none, []⟩]) (.cond (.tmp 36) (.seq (.ops [⟨(some 37), (.mov (.tmp 6)), none, []⟩, ⟨(some 38), (.mov (.tmp 8)), none, []⟩, ⟨(some 39), (.iAddrSl 2 (.tmp 37) (.tmp 38)), none, []⟩, ⟨(some 40), (.loadN 2 (.tmp 39)), none, []⟩, ⟨none, (.store 2 (.tmp 4) (.tmp 40)), none, []⟩, ⟨(some 5), (.mov (.const (.bool true))), none, []⟩]) .ret) .skip))) (.seq (.ops [⟨(some 41), (.build [(.string (bs [])), (.int .i64 0)] []), none, []⟩, ⟨none, (.store 2 (.tmp 4) (.tmp 41)), none, []⟩, ⟨(some 5), (.mov (.const (.bool false))), none, []⟩]) .ret))))) [(.cellN 4 2), (.tmp 5)])
def g57 : AFunc := (.code 26 (.seq (.ops [⟨(some 4), (.mov (.const (.bool false))), none, []⟩]) (.seq (.seq (.ops [⟨(some 6), (.mov (.tmp 0)), none, []⟩, ⟨(some 7), (.lenSl (.tmp 6)), none, []⟩, ⟨(some 8), (.mov (.tmp 1)), none, []⟩, ⟨(some 9), (.lenSl (.tmp 8)), none, []⟩, ⟨(some 10), (.bin .neq (.tmp 7) (.tmp 9)), none, []⟩]) (.cond (.tmp 10) (.seq (.ops [⟨(some 4), (.mov (.const (.bool false))), none, []⟩]) .ret) .skip)) (.seq (.seq (.ops [⟨(some 11), (.mov (.tmp 0)), none, []⟩, ⟨(some 12), (.lenSl (.tmp 11)), none, []⟩, ⟨(some 13), (.mov (.const (.int .i64 0))), none, []⟩]) (.block 0 (.loop (.seq (.ops [⟨(some 14), (.bin .lss (.tmp 13) (.tmp 12)), none, []⟩]) (.seq (.cond (.tmp 14) .skip (.exit 0)) (.seq (.block 1 (.seq (.ops [⟨(some 15), (.mov (.tmp 13)), none, []⟩, ⟨(some 5), (.mov (.tmp 15)), none, []⟩]) (.seq (.ops [⟨(some 16), (.mov (.tmp 0)), none, []⟩, ⟨(some 17), (.mov (.tmp 5)), none, []⟩, ⟨(some 18), (.iAddrSl 2 (.tmp 16) (.tmp 17)), none, []⟩, ⟨(some 20), (.mov (.tmp 1)), none, []⟩, ⟨(some 21), (.mov (.tmp 5)), none, []⟩, ⟨(some 22), (.iAddrSl 2 (.tmp 20) (.tmp 21)), none, []⟩, ⟨(some 19), (.loadN 2 (.tmp 18)), none, []⟩, ⟨(some 23), (.loadN 2 (.tmp 22)), none, []⟩, ⟨(some 24), (.eqs true 2 [(0, 2), (1, 1)] (.tmp 19) (.tmp 23)), none, []⟩]) (.cond (.tmp 24) (.seq (.ops [⟨(some 4), (.mov (.const (.bool false))), none, []⟩]) .ret) .skip)))) (.ops [⟨(some 25), (.bin .add (.tmp 13) (.const (.int .i64 1))), none, []⟩, ⟨(some 13), (.mov (.tmp 25)), none, []⟩]))))))) (.seq (.ops [⟨(some 4), (.mov (.const (.bool true))), none, []⟩]) .ret)))) [(.tmp 4)])
def g58 : AFunc := (.code 32 (.seq (.ops [⟨(some 6), (.mov (.const (.bool false))), none, []⟩]) (.seq (.seq (.ops [⟨(some 10), (.mov (.tmp 0)), none, []⟩, ⟨(some 11), (.lenSl (.tmp 10)), none, []⟩, ⟨(some 12), (.mov (.tmp 1)), none, []⟩, ⟨(some 13), (.lenSl (.tmp 12)), none, []⟩, ⟨(some 14), (.bin .neq (.tmp 11) (.tmp 13)), none, []⟩]) (.cond (.tmp 14) (.seq (.ops [⟨(some 6), (.mov (.const (.bool false))), none, []⟩]) .ret) .skip)) (.seq (.seq (.ops [⟨(some 15), (.mov (.tmp 0)), none, []⟩, ⟨(some 16), (.lenSl (.tmp 15)), none, []⟩, ⟨(some 17), (.mov (.const (.int .i64 0))), none, []⟩]) (.block 0 (.loop (.seq (.ops [⟨(some 18), (.bin .lss (.tmp 17) (.tmp 16)), none, []⟩]) (.seq (.cond (.tmp 18) .skip (.exit 0)) (.seq (.block 1 (.seq (.ops [⟨(some 19), (.mov (.tmp 17)), none, []⟩, ⟨(some 20), (.iAddrSl 2 (.tmp 15) (.tmp 17)), none, []⟩, ⟨(some 21), (.loadN 2 (.tmp 20)), none, []⟩, ⟨(some 8), (.alloc [(.string (bs [])), (.slice none 0 0)]), none, []⟩, ⟨(some 7), (.mov (.tmp 19)), none, []⟩, ⟨none, (.store 2 (.tmp 8) (.tmp 21)), none, []⟩]) (.seq (.ops [⟨(some 22), (.mov (.tmp 1)), none, []⟩, ⟨(some 23), (.mov (.tmp 7)), none, []⟩, ⟨(some 24), (.iAddrSl 2 (.tmp 22) (.tmp 23)), none, []⟩, ⟨(some 25), (.loadN 2 (.tmp 24)), none, []⟩, ⟨(some 9), (.alloc [(.string (bs [])), (.slice none 0 0)]), none, []⟩, ⟨none, (.store 2 (.tmp 9) (.tmp 25)), none, []⟩]) (.seq (.ops [⟨(some 26), (.mov (.tmp 2)), none, []⟩, ⟨(some 27), (.loadN 2 (.tmp 8)), none, []⟩, ⟨(some 28), (.loadN 2 (.tmp 9)), none, []⟩, ⟨(some 29), (.callv (.tmp 26) [(.tmp 27), (.tmp 28)]), none, []⟩, ⟨(some 30), (.un .not (.tmp 29)), none, []⟩]) (.cond (.tmp 30) (.seq (.ops [⟨(some 6), (.mov (.const (.bool false))), none, []⟩]) .ret) .skip))))) (.ops [⟨(some 31), (.bin .add (.tmp 17) (.const (.int .i64 1))), none, []⟩, ⟨(some 17), (.mov (.tmp 31)), none, []⟩]))))))) (.seq (.ops [⟨(some 6), (.mov (.const (.bool true))), none, []⟩]) .ret)))) [(.tmp 6)])
def g59 : AFunc := (.code 17 (.seq (.ops [⟨(some 2), (.box (.tmp 0)), none, []⟩, ⟨(some 3), (.box (.tmp 1)), none, []⟩, ⟨(some 4), (.mov (.const (.bool false))), none, []⟩]) (.seq (.ops [⟨(some 5), (.fAddr 0 (.tmp 2)), none, []⟩, ⟨(some 6), (.load1 (.tmp 5)), none, []⟩, ⟨(some 7), (.fAddr 0 (.tmp 3)), none, []⟩, ⟨(some 8), (.load1 (.tmp 7)), none, []⟩, ⟨(some 9), (.bin .eql (.tmp 6) (.tmp 8)), none, []⟩, ⟨(some 10), (.mov (.tmp 9)), none, []⟩, ⟨(some 11), (.fAddr 1 (.tmp 2)), (some (10, true)), []⟩, ⟨(some 12), (.load1 (.tmp 11)), (some (10, true)), []⟩, ⟨(some 13), (.fAddr 1 (.tmp 3)), (some (10, true)), []⟩, ⟨(some 14), (.load1 (.tmp 13)), (some (10, true)), []⟩, ⟨(some 15), (.callv (.func 57) [(.tmp 12), (.tmp 14)]), (some (10, true)), []⟩, ⟨(some 16), (.pick (.tmp 10) (.tmp 15) (.const (.bool false))), none, []⟩, ⟨(some 4), (.mov (.tmp 16)), none, []⟩]) .ret)) [(.tmp 4)])
def g60 : AFunc := (.code 32 (.seq (.ops [⟨(some 6), (.mov (.const (.bool false))), none, []⟩]) (.seq (.seq (.ops [⟨(some 10), (.mov (.tmp 0)), none, []⟩, ⟨(some 11), (.lenSl (.tmp 10)), none, []⟩, ⟨(some 12), (.mov (.tmp 1)), none, []⟩, ⟨(some 13), (.lenSl (.tmp 12)), none, []⟩, ⟨(some 14), (.bin .neq (.tmp 11) (.tmp 13)), none, []⟩]) (.cond (.tmp 14) (.seq (.ops [⟨(some 6), (.mov (.const (.bool false))), none, []⟩]) .ret) .skip)) (.seq (.seq (.ops [⟨(some 15), (.mov (.tmp 0)), none, []⟩, ⟨(some 16), (.lenSl (.tmp 15)), none, []⟩, ⟨(some 17), (.mov (.const (.int .i64 0))), none, []⟩]) (.block 0 (.loop (.seq (.ops [⟨(some 18), (.bin .lss (.tmp 17) (.tmp 16)), none, []⟩]) (.seq (.cond (.tmp 18) .skip (.exit 0)) (.seq (.block 1 (.seq (.ops [⟨(some 19), (.mov (.tmp 17)), none, []⟩, ⟨(some 20), (.iAddrSl 6 (.tmp 15) (.tmp 17)), none, []⟩, ⟨(some 21), (.loadN 6 (.tmp 20)), none, []⟩, ⟨(some 8), (.alloc [(.string (bs [])), (.string (bs [])), (.string (bs [])), (.string (bs [])), (.slice none 0 0), (.string (bs []))]), none, []⟩, ⟨(some 7), (.mov (.tmp 19)), none, []⟩, ⟨none, (.store 6 (.tmp 8) (.tmp 21)), none, []⟩]) (.seq (.ops [⟨(some 22), (.mov (.tmp 1)), none, []⟩, ⟨(some 23), (.mov (.tmp 7)), none, []⟩, ⟨(some 24), (.iAddrSl 6 (.tmp 22) (.tmp 23)), none, []⟩, ⟨(some 25), (.loadN 6 (.tmp 24)), none, []⟩, ⟨(some 9), (.alloc [(.string (bs [])), (.string (bs [])), (.string (bs [])), (.string (bs [])), (.slice none 0 0), (.string (bs []))]), none, []⟩, ⟨none, (.store 6 (.tmp 9) (.tmp 25)), none, []⟩]) (.seq (.ops [⟨(some 26), (.mov (.tmp 2)), none, []⟩, ⟨(some 27), (.loadN 6 (.tmp 8)), none, []⟩, ⟨(some 28), (.loadN 6 (.tmp 9)), none, []⟩, ⟨(some 29), (.callv (.tmp 26) [(.tmp 27), (.tmp 28)]), none, []⟩, ⟨(some 30), (.un .not (.tmp 29)), none, []⟩]) (.cond (.tmp 30) (.seq (.ops [⟨(some 6), (.mov (.const (.bool false))), none, []⟩]) .ret) .skip))))) (.ops [⟨(some 31), (.bin .add (.tmp 17) (.const (.int .i64 1))), none, []⟩, ⟨(some 17), (.mov (.tmp 31)), none, []⟩]))))))) (.seq (.ops [⟨(some 6), (.mov (.const (.bool true))), none, []⟩]) .ret)))) [(.tmp 6)])
def g61 : AFunc := (.code 38 (.seq (.ops [⟨(some 2), (.box (.tmp 0)), none, []⟩, ⟨(some 3), (.box (.tmp 1)), none, []⟩, ⟨(some 4), (.mov (.const (.bool false))), none, []⟩]) (.seq (.ops [⟨(some 5), (.fAddr 0 (.tmp 2)), none, []⟩, ⟨(some 6), (.load1 (.tmp 5)), none, []⟩, ⟨(some 7), (.fAddr 0 (.tmp 3)), none, []⟩, ⟨(some 8), (.load1 (.tmp 7)), none, []⟩, ⟨(some 9), (.bin .eql (.tmp 6) (.tmp 8)), none, []⟩, ⟨(some 10), (.mov (.tmp 9)), none, []⟩, ⟨(some 11), (.fAddr 1 (.tmp 2)), (some (10, true)), []⟩, ⟨(some 12), (.load1 (.tmp 11)), (some (10, true)), []⟩, ⟨(some 13), (.fAddr 1 (.tmp 3)), (some (10, true)), []⟩, ⟨(some 14), (.load1 (.tmp 13)), (some (10, true)), []⟩, ⟨(some 15), (.bin .eql (.tmp 12) (.tmp 14)), (some (10, true)), []⟩, ⟨(some 16), (.pick (.tmp 10) (.tmp 15) (.const (.bool false))), none, []⟩, ⟨(some 17), (.mov (.tmp 16)), none, []⟩, ⟨(some 18), (.fAddr 2 (.tmp 2)), (some (17, true)), []⟩, ⟨(some 19), (.loadN 2 (.tmp 18)), (some (17, true)), []⟩, ⟨(some 20), (.fAddr 2 (.tmp 3)), (some (17, true)), []⟩, ⟨(some 21), (.loadN 2 (.tmp 20)), (some (17, true)), []⟩, ⟨(some 22), (.eqs false 2 [(0, 2), (1, 2)] (.tmp 19) (.tmp 21)), (some (17, true)), []⟩, ⟨(some 23), (.pick (.tmp 17) (.tmp 22) (.const (.bool false))), none, []⟩, ⟨(some 24), (.mov (.tmp 23)), none, []⟩, ⟨(some 25), (.fAddr 5 (.tmp 2)), (some (24, true)), []⟩, ⟨(some 26), (.load1 (.tmp 25)), (some (24, true)), []⟩, ⟨(some 27), (.fAddr 5 (.tmp 3)), (some (24, true)), []⟩, ⟨(some 28), (.load1 (.tmp 27)), (some (24, true)), []⟩, ⟨(some 29), (.bin .eql (.tmp 26) (.tmp 28)), (some (24, true)), []⟩, ⟨(some 30), (.pick (.tmp 24) (.tmp 29) (.const (.bool false))), none, []⟩, ⟨(some 31), (.mov (.tmp 30)), none, []⟩, ⟨(some 32), (.fAddr 4 (.tmp 2)), (some (31, true)), []⟩, ⟨(some 33), (.load1 (.tmp 32)), (some (31, true)), []⟩, ⟨(some 34), (.fAddr 4 (.tmp 3)), (some (31, true)), []⟩, ⟨(some 35), (.load1 (.tmp 34)), (some (31, true)), []⟩, ⟨(some 36), (.callv (.func 62) [(.tmp 33), (.tmp 35)]), (some (31, true)), []⟩, ⟨(some 37), (.pick (.tmp 31) (.tmp 36) (.const (.bool false))), none, []⟩, ⟨(some 4), (.mov (.tmp 37)), none, []⟩]) .ret)) [(.tmp 4)])
def g62 : AFunc := (.code 26 (.seq (.ops [⟨(some 4), (.mov (.const (.bool false))), none, []⟩]) (.seq (.seq (.ops [⟨(some 6), (.mov (.tmp 0)), none, []⟩, ⟨(some 7), (.lenSl (.tmp 6)), none, []⟩, ⟨(some 8), (.mov (.tmp 1)), none, []⟩, ⟨(some 9), (.lenSl (.tmp 8)), none, []⟩, ⟨(some 10), (.bin .neq (.tmp 7) (.tmp 9)), none, []⟩]) (.cond (.tmp 10) (.seq (.ops [⟨(some 4), (.mov (.const (.bool false))), none, []⟩]) .ret) .skip)) (.seq (.seq (.ops [⟨(some 11), (.mov (.tmp 0)), none, []⟩, ⟨(some 12), (.lenSl (.tmp 11)), none, []⟩, ⟨(some 13), (.mov (.const (.int .i64 0))), none, []⟩]) (.block 0 (.loop (.seq (.ops [⟨(some 14), (.bin .lss (.tmp 13) (.tmp 12)), none, []⟩]) (.seq (.cond (.tmp 14) .skip (.exit 0)) (.seq (.block 1 (.seq (.ops [⟨(some 15), (.mov (.tmp 13)), none, []⟩, ⟨(some 5), (.mov (.tmp 15)), none, []⟩]) (.seq (.ops [⟨(some 16), (.mov (.tmp 0)), none, []⟩, ⟨(some 17), (.mov (.tmp 5)), none, []⟩, ⟨(some 18), (.iAddrSl 5 (.tmp 16) (.tmp 17)), none, []⟩, ⟨(some 20), (.mov (.tmp 1)), none, []⟩, ⟨(some 21), (.mov (.tmp 5)), none, []⟩, ⟨(some 22), (.iAddrSl 5 (.tmp 20) (.tmp 21)), none, []⟩, ⟨(some 19), (.loadN 5 (.tmp 18)), none, []⟩, ⟨(some 23), (.loadN 5 (.tmp 22)), none, []⟩, ⟨(some 24), (.eqs true 5 [(0, 1), (1, 1), (2, 1), (3, 1), (4, 2)] (.tmp 19) (.tmp 23)), none, []⟩]) (.cond (.tmp 24) (.seq (.ops [⟨(some 4), (.mov (.const (.bool false))), none, []⟩]) .ret) .skip)))) (.ops [⟨(some 25), (.bin .add (.tmp 13) (.const (.int .i64 1))), none, []⟩, ⟨(some 13), (.mov (.tmp 25)), none, []⟩]))))))) (.seq (.ops [⟨(some 4), (.mov (.const (.bool true))), none, []⟩]) .ret)))) [(.tmp 4)])
def g63 : AFunc := (.code 32 (.seq (.ops [⟨(some 6), (.mov (.const (.bool false))), none, []⟩]) (.seq (.seq (.ops [⟨(some 10), (.mov (.tmp 0)), none, []⟩, ⟨(some 11), (.lenSl (.tmp 10)), none, []⟩, ⟨(some 12), (.mov (.tmp 1)), none, []⟩, ⟨(some 13), (.lenSl (.tmp 12)), none, []⟩, ⟨(some 14), (.bin .neq (.tmp 11) (.tmp 13)), none, []⟩]) (.cond (.tmp 14) (.seq (.ops [⟨(some 6), (.mov (.const (.bool false))), none, []⟩]) .ret) .skip)) (.seq (.seq (.ops [⟨(some 15), (.mov (.tmp 0)), none, []⟩, ⟨(some 16), (.lenSl (.tmp 15)), none, []⟩, ⟨(some 17), (.mov (.const (.int .i64 0))), none, []⟩]) (.block 0 (.loop (.seq (.ops [⟨(some 18), (.bin .lss (.tmp 17) (.tmp 16)), none, []⟩]) (.seq (.cond (.tmp 18) .skip (.exit 0)) (.seq (.block 1 (.seq (.ops [⟨(some 19), (.mov (.tmp 17)), none, []⟩, ⟨(some 20), (.iAddrSl 3 (.tmp 15) (.tmp 17)), none, []⟩, ⟨(some 21), (.loadN 3 (.tmp 20)), none, []⟩, ⟨(some 8), (.alloc [(.string (bs [])), (.slice none 0 0), (.slice none 0 0)]), none, []⟩, ⟨(some 7), (.mov (.tmp 19)), none, []⟩, ⟨none, (.store 3 (.tmp 8) (.tmp 21)), none, []⟩]) (.seq (.ops [⟨(some 22), (.mov (.tmp 1)), none, []⟩, ⟨(some 23), (.mov (.tmp 7)), none, []⟩, ⟨(some 24), (.iAddrSl 3 (.tmp 22) (.tmp 23)), none, []⟩, ⟨(some 25), (.loadN 3 (.tmp 24)), none, []⟩, ⟨(some 9), (.alloc [(.string (bs [])), (.slice none 0 0), (.slice none 0 0)]), none, []⟩, ⟨none, (.store 3 (.tmp 9) (.tmp 25)), none, []⟩]) (.seq (.ops [⟨(some 26), (.mov (.tmp 2)), none, []⟩, ⟨(some 27), (.loadN 3 (.tmp 8)), none, []⟩, ⟨(some 28), (.loadN 3 (.tmp 9)), none, []⟩, ⟨(some 29), (.callv (.tmp 26) [(.tmp 27), (.tmp 28)]), none, []⟩, ⟨(some 30), (.un .not (.tmp 29)), none, []⟩]) (.cond (.tmp 30) (.seq (.ops [⟨(some 6), (.mov (.const (.bool false))), none, []⟩]) .ret) .skip))))) (.ops [⟨(some 31), (.bin .add (.tmp 17) (.const (.int .i64 1))), none, []⟩, ⟨(some 17), (.mov (.tmp 31)), none, []⟩]))))))) (.seq (.ops [⟨(some 6), (.mov (.const (.bool true))), none, []⟩]) .ret)))) [(.tmp 6)])
def g64 : AFunc := (.code 24 (.seq (.ops [⟨(some 2), (.box (.tmp 0)), none, []⟩, ⟨(some 3), (.box (.tmp 1)), none, []⟩, ⟨(some 4), (.mov (.const (.bool false))), none, []⟩]) (.seq (.ops [⟨(some 5), (.fAddr 0 (.tmp 2)), none, []⟩, ⟨(some 6), (.load1 (.tmp 5)), none, []⟩, ⟨(some 7), (.fAddr 0 (.tmp 3)), none, []⟩, ⟨(some 8), (.load1 (.tmp 7)), none, []⟩, ⟨(some 9), (.bin .eql (.tmp 6) (.tmp 8)), none, []⟩, ⟨(some 10), (.mov (.tmp 9)), none, []⟩, ⟨(some 11), (.fAddr 1 (.tmp 2)), (some (10, true)), []⟩, ⟨(some 12), (.load1 (.tmp 11)), (some (10, true)), []⟩, ⟨(some 13), (.fAddr 1 (.tmp 3)), (some (10, true)), []⟩, ⟨(some 14), (.load1 (.tmp 13)), (some (10, true)), []⟩, ⟨(some 15), (.callv (.func 57) [(.tmp 12), (.tmp 14)]), (some (10, true)), []⟩, ⟨(some 16), (.pick (.tmp 10) (.tmp 15) (.const (.bool false))), none, []⟩, ⟨(some 17), (.mov (.tmp 16)), none, []⟩, ⟨(some 18), (.fAddr 2 (.tmp 2)), (some (17, true)), []⟩, ⟨(some 19), (.load1 (.tmp 18)), (some (17, true)), []⟩, ⟨(some 20), (.fAddr 2 (.tmp 3)), (some (17, true)), []⟩, ⟨(some 21), (.load1 (.tmp 20)), (some (17, true)), []⟩, ⟨(some 22), (.callv (.func 65) [(.tmp 19), (.tmp 21)]), (some (17, true)), []⟩, ⟨(some 23), (.pick (.tmp 17) (.tmp 22) (.const (.bool false))), none, []⟩, ⟨(some 4), (.mov (.tmp 23)), none, []⟩]) .ret)) [(.tmp 4)])
def g65 : AFunc := (.code 26 (.seq (.ops [⟨(some 4), (.mov (.const (.bool false))), none, []⟩]) (.seq (.seq (.ops [⟨(some 6), (.mov (.tmp 0)), none, []⟩, ⟨(some 7), (.lenSl (.tmp 6)), none, []⟩, ⟨(some 8), (.mov (.tmp 1)), none, []⟩, ⟨(some 9), (.lenSl (.tmp 8)), none, []⟩, ⟨(some 10), (.bin .neq (.tmp 7) (.tmp 9)), none, []⟩]) (.cond (.tmp 10) (.seq (.ops [⟨(some 4), (.mov (.const (.bool false))), none, []⟩]) .ret) .skip)) (.seq (.seq (.ops [⟨(some 11), (.mov (.tmp 0)), none, []⟩, ⟨(some 12), (.lenSl (.tmp 11)), none, []⟩, ⟨(some 13), (.mov (.const (.int .i64 0))), none, []⟩]) (.block 0 (.loop (.seq (.ops [⟨(some 14), (.bin .lss (.tmp 13) (.tmp 12)), none, []⟩]) (.seq (.cond (.tmp 14) .skip (.exit 0)) (.seq (.block 1 (.seq (.ops [⟨(some 15), (.mov (.tmp 13)), none, []⟩, ⟨(some 5), (.mov (.tmp 15)), none, []⟩]) (.seq (.ops [⟨(some 16), (.mov (.tmp 0)), none, []⟩, ⟨(some 17), (.mov (.tmp 5)), none, []⟩, ⟨(some 18), (.iAddrSl 12 (.tmp 16) (.tmp 17)), none, []⟩, ⟨(some 20), (.mov (.tmp 1)), none, []⟩, ⟨(some 21), (.mov (.tmp 5)), none, []⟩, ⟨(some 22), (.iAddrSl 12 (.tmp 20) (.tmp 21)), none, []⟩, ⟨(some 19), (.loadN 12 (.tmp 18)), none, []⟩, ⟨(some 23), (.loadN 12 (.tmp 22)), none, []⟩, ⟨(some 24), (.eqs true 12 [(0, 1), (1, 2), (2, 2), (3, 1), (4, 2), (5, 2), (6, 1), (7, 1), (8, 2), (9, 2), (10, 1), (11, 1)] (.tmp 19) (.tmp 23)), none, []⟩]) (.cond (.tmp 24) (.seq (.ops [⟨(some 4), (.mov (.const (.bool false))), none, []⟩]) .ret) .skip)))) (.ops [⟨(some 25), (.bin .add (.tmp 13) (.const (.int .i64 1))), none, []⟩, ⟨(some 13), (.mov (.tmp 25)), none, []⟩]))))))) (.seq (.ops [⟨(some 4), (.mov (.const (.bool true))), none, []⟩]) .ret)))) [(.tmp 4)])
def g66 : AFunc := (.code 32 (.seq (.ops [⟨(some 6), (.mov (.const (.bool false))), none, []⟩]) (.seq (.seq (.ops [⟨(some 10), (.mov (.tmp 0)), none, []⟩, ⟨(some 11), (.lenSl (.tmp 10)), none, []⟩, ⟨(some 12), (.mov (.tmp 1)), none, []⟩, ⟨(some 13), (.lenSl (.tmp 12)), none, []⟩, ⟨(some 14), (.bin .neq (.tmp 11) (.tmp 13)), none, []⟩]) (.cond (.tmp 14) (.seq (.ops [⟨(some 6), (.mov (.const (.bool false))), none, []⟩]) .ret) .skip)) (.seq (.seq (.ops [⟨(some 15), (.mov (.tmp 0)), none, []⟩, ⟨(some 16), (.lenSl (.tmp 15)), none, []⟩, ⟨(some 17), (.mov (.const (.int .i64 0))), none, []⟩]) (.block 0 (.loop (.seq (.ops [⟨(some 18), (.bin .lss (.tmp 17) (.tmp 16)), none, []⟩]) (.seq (.cond (.tmp 18) .skip (.exit 0)) (.seq (.block 1 (.seq (.ops [⟨(some 19), (.mov (.tmp 17)), none, []⟩, ⟨(some 20), (.iAddrSl 7 (.tmp 15) (.tmp 17)), none, []⟩, ⟨(some 21), (.loadN 7 (.tmp 20)), none, []⟩, ⟨(some 8), (.alloc [(.string (bs [])), (.slice none 0 0), (.slice none 0 0), (.int .i64 0), (.string (bs [])), (.slice none 0 0), (.bool false)]), none, []⟩, ⟨(some 7), (.mov (.tmp 19)), none, []⟩, ⟨none, (.store 7 (.tmp 8) (.tmp 21)), none, []⟩]) (.seq (.ops [⟨(some 22), (.mov (.tmp 1)), none, []⟩, ⟨(some 23), (.mov (.tmp 7)), none, []⟩, ⟨(some 24), (.iAddrSl 7 (.tmp 22) (.tmp 23)), none, []⟩, ⟨(some 25), (.loadN 7 (.tmp 24)), none, []⟩, ⟨(some 9), (.alloc [(.string (bs [])), (.slice none 0 0), (.slice none 0 0), (.int .i64 0), (.string (bs [])), (.slice none 0 0), (.bool false)]), none, []⟩, ⟨none, (.store 7 (.tmp 9) (.tmp 25)), none, []⟩]) (.seq (.ops [⟨(some 26), (.mov (.tmp 2)), none, []⟩, ⟨(some 27), (.loadN 7 (.tmp 8)), none, []⟩, ⟨(some 28), (.loadN 7 (.tmp 9)), none, []⟩, ⟨(some 29), (.callv (.tmp 26) [(.tmp 27), (.tmp 28)]), none, []⟩, ⟨(some 30), (.un .not (.tmp 29)), none, []⟩]) (.cond (.tmp 30) (.seq (.ops [⟨(some 6), (.mov (.const (.bool false))), none, []⟩]) .ret) .skip))))) (.ops [⟨(some 31), (.bin .add (.tmp 17) (.const (.int .i64 1))), none, []⟩, ⟨(some 17), (.mov (.tmp 31)), none, []⟩]))))))) (.seq (.ops [⟨(some 6), (.mov (.const (.bool true))), none, []⟩]) .ret)))) [(.tmp 6)])
def g67 : AFunc := (.code 56 (.seq (.ops [⟨(some 2), (.box (.tmp 0)), none, []⟩, ⟨(some 3), (.box (.tmp 1)), none, []⟩, ⟨(some 4), (.mov (.const (.bool false))), none, []⟩]) (.seq (.ops [⟨(some 5), (.fAddr 0 (.tmp 2)), none, []⟩, ⟨(some 6), (.load1 (.tmp 5)), none, []⟩, ⟨(some 7), (.fAddr 0 (.tmp 3)), none, []⟩, ⟨(some 8), (.load1 (.tmp 7)), none, []⟩, ⟨(some 9), (.bin .eql (.tmp 6) (.tmp 8)), none, []⟩, ⟨(some 10), (.mov (.tmp 9)), none, []⟩, ⟨(some 11), (.fAddr 3 (.tmp 2)), (some (10, true)), []⟩, ⟨(some 12), (.load1 (.tmp 11)), (some (10, true)), []⟩, ⟨(some 13), (.fAddr 3 (.tmp 3)), (some (10, true)), []⟩, ⟨(some 14), (.load1 (.tmp 13)), (some (10, true)), []⟩, ⟨(some 15), (.bin .eql (.tmp 12) (.tmp 14)), (some (10, true)), []⟩, ⟨(some 16), (.pick (.tmp 10) (.tmp 15) (.const (.bool false))), none, []⟩, ⟨(some 17), (.mov (.tmp 16)), none, []⟩, ⟨(some 18), (.fAddr 6 (.tmp 2)), (some (17, true)), []⟩, ⟨(some 19), (.load1 (.tmp 18)), (some (17, true)), []⟩, ⟨(some 20), (.fAddr 6 (.tmp 3)), (some (17, true)), []⟩, ⟨(some 21), (.load1 (.tmp 20)), (some (17, true)), []⟩, ⟨(some 22), (.eqb false (.tmp 19) (.tmp 21)), (some (17, true)), []⟩, ⟨(some 23), (.pick (.tmp 17) (.tmp 22) (.const (.bool false))), none, []⟩, ⟨(some 24), (.mov (.tmp 23)), none, []⟩, ⟨(some 25), (.fAddr 4 (.tmp 2)), (some (24, true)), []⟩, ⟨(some 26), (.fAddr 0 (.tmp 25)), (some (24, true)), []⟩, ⟨(some 27), (.load1 (.tmp 26)), (some (24, true)), []⟩, ⟨(some 28), (.fAddr 4 (.tmp 3)), (some (24, true)), []⟩, ⟨(some 29), (.fAddr 0 (.tmp 28)), (some (24, true)), []⟩, ⟨(some 30), (.load1 (.tmp 29)), (some (24, true)), []⟩, ⟨(some 31), (.bin .eql (.tmp 27) (.tmp 30)), (some (24, true)), []⟩, ⟨(some 32), (.pick (.tmp 24) (.tmp 31) (.const (.bool false))), none, []⟩, ⟨(some 33), (.mov (.tmp 32)), none, []⟩, ⟨(some 34), (.fAddr 1 (.tmp 2)), (some (33, true)), []⟩, ⟨(some 35), (.load1 (.tmp 34)), (some (33, true)), []⟩, ⟨(some 36), (.fAddr 1 (.tmp 3)), (some (33, true)), []⟩, ⟨(some 37), (.load1 (.tmp 36)), (some (33, true)), []⟩, ⟨(some 38), (.callv (.func 95) [(.tmp 35), (.tmp 37)]), (some (33, true)), []⟩, ⟨(some 39), (.pick (.tmp 33) (.tmp 38) (.const (.bool false))), none, []⟩, ⟨(some 40), (.mov (.tmp 39)), none, []⟩, ⟨(some 41), (.fAddr 2 (.tmp 2)), (some (40, true)), []⟩, ⟨(some 42), (.load1 (.tmp 41)), (some (40, true)), []⟩, ⟨(some 43), (.fAddr 2 (.tmp 3)), (some (40, true)), []⟩, ⟨(some 44), (.load1 (.tmp 43)), (some (40, true)), []⟩, ⟨(some 45), (.callv (.func 96) [(.tmp 42), (.tmp 44)]), (some (40, true)), []⟩, ⟨(some 46), (.pick (.tmp 40) (.tmp 45) (.const (.bool false))), none, []⟩, ⟨(some 47), (.mov (.tmp 46)), none, []⟩, ⟨(some 48), (.fAddr 4 (.tmp 2)), (some (47, true)), []⟩, ⟨(some 49), (.fAddr 1 (.tmp 48)), (some (47, true)), []⟩, ⟨(some 50), (.load1 (.tmp 49)), (some (47, true)), []⟩, ⟨(some 51), (.fAddr 4 (.tmp 3)), (some (47, true)), []⟩, ⟨(some 52), (.fAddr 1 (.tmp 51)), (some (47, true)), []⟩, ⟨(some 53), (.load1 (.tmp 52)), (some (47, true)), []⟩, ⟨(some 54), (.callv (.func 97) [(.tmp 50), (.tmp 53)]), (some (47, true)), []⟩, ⟨(some 55), (.pick (.tmp 47) (.tmp 54) (.const (.bool false))), none, []⟩, ⟨(some 4), (.mov (.tmp 55)), none, []⟩]) .ret)) [(.tmp 4)])
def g68 : AFunc := (.code 8 (.seq (.ops [⟨(some 4), (.mov (.const (.bool false))), none, []⟩]) (.seq (.ops [⟨(some 5), (.mov (.tmp 0)), none, []⟩, ⟨(some 6), (.mov (.tmp 1)), none, []⟩, ⟨(some 7), (.callv (.func 98) [(.tmp 5), (.tmp 6), (.func 99)]), none, []⟩, ⟨(some 4), (.mov (.tmp 7)), none, []⟩]) .ret)) [(.tmp 4)])
def g69 : AFunc := (.code 8 (.seq (.ops [⟨(some 2), (.mov (.const (.slice none 0 0))), none, []⟩]) (.seq (.seq (.ops [⟨(some 3), (.mov (.tmp 0)), none, []⟩, ⟨(some 4), (.eqp 1 false (.tmp 3) (.const (.slice none 0 0))), none, []⟩]) (.cond (.tmp 4) (.seq (.ops [⟨(some 2), (.mov (.const (.slice none 0 0))), none, []⟩]) .ret) .skip)) (.seq (.ops [⟨(some 5), (.buildSlice 2 0 [] []), none, []⟩, ⟨(some 6), (.mov (.tmp 0)), none, []⟩, ⟨(some 7), (.append 2 40 (.tmp 5) (.tmp 6)), none, []⟩, ⟨(some 2), (.mov (.tmp 7)), none, []⟩]) .ret))) [(.tmp 2)])
def g70 : AFunc := (.code 8 (.seq (.ops [⟨(some 2), (.mov (.const (.slice none 0 0))), none, []⟩]) (.seq (.seq (.ops [⟨(some 3), (.mov (.tmp 0)), none, []⟩, ⟨(some 4), (.eqp 1 false (.tmp 3) (.const (.slice none 0 0))), none, []⟩]) (.cond (.tmp 4) (.seq (.ops [⟨(some 2), (.mov (.const (.slice none 0 0))), none, []⟩]) .ret) .skip)) (.seq (.ops [⟨(some 5), (.buildSlice 6 0 [] []), none, []⟩, ⟨(some 6), (.mov (.tmp 0)), none, []⟩, ⟨(some 7), (.append 6 104 (.tmp 5) (.tmp 6)), none, []⟩, ⟨(some 2), (.mov (.tmp 7)), none, []⟩]) .ret))) [(.tmp 2)])
def g71 : AFunc := (.code 8 (.seq (.ops [⟨(some 2), (.mov (.const (.slice none 0 0))), none, []⟩]) (.seq (.seq (.ops [⟨(some 3), (.mov (.tmp 0)), none, []⟩, ⟨(some 4), (.eqp 1 false (.tmp 3) (.const (.slice none 0 0))), none, []⟩]) (.cond (.tmp 4) (.seq (.ops [⟨(some 2), (.mov (.const (.slice none 0 0))), none, []⟩]) .ret) .skip)) (.seq (.ops [⟨(some 5), (.buildSlice 5 0 [] []), none, []⟩, ⟨(some 6), (.mov (.tmp 0)), none, []⟩, ⟨(some 7), (.append 5 48 (.tmp 5) (.tmp 6)), none, []⟩, ⟨(some 2), (.mov (.tmp 7)), none, []⟩]) .ret))) [(.tmp 2)])
def g72 : AFunc := (.code 8 (.seq (.ops [⟨(some 2), (.mov (.const (.slice none 0 0))), none, []⟩]) (.seq (.seq (.ops [⟨(some 3), (.mov (.tmp 0)), none, []⟩, ⟨(some 4), (.eqp 1 false (.tmp 3) (.const (.slice none 0 0))), none, []⟩]) (.cond (.tmp 4) (.seq (.ops [⟨(some 2), (.mov (.const (.slice none 0 0))), none, []⟩]) .ret) .skip)) (.seq (.ops [⟨(some 5), (.buildSlice 3 0 [] []), none, []⟩, ⟨(some 6), (.mov (.tmp 0)), none, []⟩, ⟨(some 7), (.append 3 64 (.tmp 5) (.tmp 6)), none, []⟩, ⟨(some 2), (.mov (.tmp 7)), none, []⟩]) .ret))) [(.tmp 2)])
def g73 : AFunc := (.code 12 (.seq (.ops [⟨(some 1), (.box (.tmp 0)), none, []⟩, ⟨(some 2), (.alloc [(.string (bs [])), (.slice none 0 0), (.slice none 0 0)]), none, []⟩]) (.seq (.ops [⟨(some 3), (.fAddr 1 (.tmp 1)), none, []⟩, ⟨(some 4), (.load1 (.tmp 3)), none, []⟩, ⟨(some 5), (.callv (.func 43) [(.tmp 4)]), none, []⟩, ⟨(some 6), (.fAddr 1 (.tmp 1)), none, []⟩, ⟨none, (.store 1 (.tmp 6) (.tmp 5)), none, []⟩]) (.seq (.ops [⟨(some 7), (.fAddr 2 (.tmp 1)), none, []⟩, ⟨(some 8), (.load1 (.tmp 7)), none, []⟩, ⟨(some 9), (.callv (.func 100) [(.tmp 8)]), none, []⟩, ⟨(some 10), (.fAddr 2 (.tmp 1)), none, []⟩, ⟨none, (.store 1 (.tmp 10) (.tmp 9)), none, []⟩]) (.seq (.ops [⟨(some 11), (.loadN 3 (.tmp 1)), none, []⟩, ⟨none, (.store 3 (.tmp 2) (.tmp 11)), none, []⟩]) .ret)))) [(.cellN 2 3)])
def g74 : AFunc := (.code 8 (.seq (.ops [⟨(some 2), (.mov (.const (.slice none 0 0))), none, []⟩]) (.seq (.seq (.ops [⟨(some 3), (.mov (.tmp 0)), none, []⟩, ⟨(some 4), (.eqp 1 false (.tmp 3) (.const (.slice none 0 0))), none, []⟩]) (.cond (.tmp 4) (.seq (.ops [⟨(some 2), (.mov (.const (.slice none 0 0))), none, []⟩]) .ret) .skip)) (.seq (.ops [⟨(some 5), (.buildSlice 7 0 [] []), none, []⟩, ⟨(some 6), (.mov (.tmp 0)), none, []⟩, ⟨(some 7), (.append 7 120 (.tmp 5) (.tmp 6)), none, []⟩, ⟨(some 2), (.mov (.tmp 7)), none, []⟩]) .ret))) [(.tmp 2)])
def g75 : AFunc := (.code 33 (.seq (.ops [⟨(some 2), (.mov (.const (.slice none 0 0))), none, []⟩]) (.seq (.ops [⟨(some 4), (.mov (.tmp 0)), none, []⟩, ⟨(some 5), (.callv (.func 101) [(.tmp 4)]), none, []⟩, ⟨(some 0), (.mov (.tmp 5)), none, []⟩]) (.seq (.seq (.ops [⟨(some 6), (.mov (.tmp 0)), none, []⟩, ⟨(some 7), (.lenSl (.tmp 6)), none, []⟩, ⟨(some 8), (.mov (.const (.int .i64 0))), none, []⟩]) (.block 0 (.loop (.seq (.ops [⟨(some 9), (.bin .lss (.tmp 8) (.tmp 7)), none, []⟩]) (.seq (.cond (.tmp 9) .skip (.exit 0)) (.seq (.block 1 (.seq (.ops [⟨(some 10), (.mov (.tmp 8)), none, []⟩, ⟨(some 3), (.mov (.tmp 10)), none, []⟩]) (.seq (.ops [⟨(some 11), (.mov (.tmp 0)), none, []⟩, ⟨(some 12), (.mov (.tmp 3)), none, []⟩, ⟨(some 13), (.mov (.tmp 0)), none, []⟩, ⟨(some 14), (.mov (.tmp 3)), none, []⟩, ⟨(some 15), (.iAddrSl 13 (.tmp 13) (.tmp 14)), none, []⟩, ⟨(some 16), (.fAddr 11 (.tmp 15)), none, []⟩, ⟨(some 17), (.load1 (.tmp 16)), none, []⟩, ⟨(some 18), (.callv (.func 75) [(.tmp 17)]), none, []⟩, ⟨(some 19), (.iAddrSl 13 (.tmp 11) (.tmp 12)), none, []⟩, ⟨(some 20), (.fAddr 11 (.tmp 19)), none, []⟩, ⟨none, (.store 1 (.tmp 20) (.tmp 18)), none, []⟩]) (.ops [⟨(some 21), (.mov (.tmp 0)), none, []⟩, ⟨(some 22), (.mov (.tmp 3)), none, []⟩, ⟨(some 23), (.mov (.tmp 0)), none, []⟩, ⟨(some 24), (.mov (.tmp 3)), none, []⟩, ⟨(some 25), (.iAddrSl 13 (.tmp 23) (.tmp 24)), none, []⟩, ⟨(some 26), (.fAddr 12 (.tmp 25)), none, []⟩, ⟨(some 27), (.load1 (.tmp 26)), none, []⟩, ⟨(some 28), (.callv (.func 75) [(.tmp 27)]), none, []⟩, ⟨(some 29), (.iAddrSl 13 (.tmp 21) (.tmp 22)), none, []⟩, ⟨(some 30), (.fAddr 12 (.tmp 29)), none, []⟩, ⟨none, (.store 1 (.tmp 30) (.tmp 28)), none, []⟩])))) (.ops [⟨(some 31), (.bin .add (.tmp 8) (.const (.int .i64 1))), none, []⟩, ⟨(some 8), (.mov (.tmp 31)), none, []⟩]))))))) (.seq (.ops [⟨(some 32), (.mov (.tmp 0)), none, []⟩, ⟨(some 2), (.mov (.tmp 32)), none, []⟩]) .ret)))) [(.tmp 2)])
def g76 : AFunc := (.code 16 (.seq (.ops [⟨(some 4), (.box (.tmp 0)), none, []⟩, ⟨(some 6), (.mov (.const (.bool false))), none, []⟩]) (.seq (.ops [⟨(some 7), (.load1 (.tmp 2)), none, []⟩, ⟨(some 8), (.bin .add (.tmp 7) (.const (.int .i64 1))), none, []⟩, ⟨none, (.store 1 (.tmp 2) (.tmp 8)), none, []⟩]) (.seq (.ops [⟨(some 9), (.load1 (.tmp 3)), none, []⟩, ⟨(some 10), (.mov (.tmp 9)), none, []⟩, ⟨(some 11), (.mov (.tmp 1)), (some (10, false)), []⟩, ⟨(some 12), (.bin .gtr (.tmp 11) (.const (.int .i64 8))), (some (10, false)), []⟩, ⟨(some 13), (.pick (.tmp 10) (.const (.bool true)) (.tmp 12)), none, []⟩, ⟨none, (.store 1 (.tmp 3) (.tmp 13)), none, []⟩]) (.seq (.ops [⟨(some 14), (.load1 (.tmp 2)), none, []⟩, ⟨(some 15), (.bin .leq (.tmp 14) (.const (.int .i64 128))), none, []⟩, ⟨(some 6), (.mov (.tmp 15)), none, []⟩]) .ret)))) [(.tmp 6)])
def g77 : AFunc := (.code 19 (.seq (.ops [⟨(some 4), (.mov (.const (.int .i64 0))), none, []⟩]) (.seq (.seq (.ops [⟨(some 6), (.mov (.tmp 0)), none, []⟩, ⟨(some 7), (.lenSl (.tmp 6)), none, []⟩, ⟨(some 8), (.mov (.const (.int .i64 0))), none, []⟩]) (.block 0 (.loop (.seq (.ops [⟨(some 9), (.bin .lss (.tmp 8) (.tmp 7)), none, []⟩]) (.seq (.cond (.tmp 9) .skip (.exit 0)) (.seq (.block 1 (.seq (.ops [⟨(some 10), (.mov (.tmp 8)), none, []⟩, ⟨(some 5), (.mov (.tmp 10)), none, []⟩]) (.seq (.ops [⟨(some 11), (.mov (.tmp 1)), none, []⟩, ⟨(some 12), (.mov (.tmp 0)), none, []⟩, ⟨(some 13), (.mov (.tmp 5)), none, []⟩, ⟨(some 14), (.iAddrSl 1 (.tmp 12) (.tmp 13)), none, []⟩, ⟨(some 15), (.load1 (.tmp 14)), none, []⟩, ⟨(some 16), (.bin .eql (.tmp 11) (.tmp 15)), none, []⟩]) (.cond (.tmp 16) (.seq (.ops [⟨(some 17), (.mov (.tmp 5)), none, []⟩, ⟨(some 4), (.mov (.tmp 17)), none, []⟩]) .ret) .skip)))) (.ops [⟨(some 18), (.bin .add (.tmp 8) (.const (.int .i64 1))), none, []⟩, ⟨(some 8), (.mov (.tmp 18)), none, []⟩]))))))) (.seq (.ops [⟨(some 4), (.mov (.const (.int .i64 (-1)))), none, []⟩]) .ret))) [(.tmp 4)])
def g78 : AFunc := (.code 47 (.seq (.ops [⟨(some 6), (.mov (.const (.slice none 0 0))), none, []⟩]) (.seq (.seq (.ops [⟨(some 7), (.mov (.const (.int .i64 0))), none, []⟩]) (.block 0 (.loop (.seq (.seq (.ops [⟨(some 8), (.mov (.tmp 7)), none, []⟩, ⟨(some 9), (.mov (.tmp 1)), none, []⟩, ⟨(some 10), (.lenSl (.tmp 9)), none, []⟩, ⟨(some 11), (.bin .lss (.tmp 8) (.tmp 10)), none, []⟩, ⟨(some 12), (.mov (.tmp 11)), none, []⟩, ⟨(some 13), (.mov (.tmp 0)), (some (12, true)), []⟩, ⟨(some 14), (.lenSl (.tmp 13)), (some (12, true)), []⟩, ⟨(some 15), (.bin .leq (.tmp 14) (.const (.int .i64 128))), (some (12, true)), []⟩, ⟨(some 16), (.pick (.tmp 12) (.tmp 15) (.const (.bool false))), none, []⟩]) (.cond (.tmp 16) .skip (.exit 0))) (.seq (.block 1 (.seq (.ops [⟨(some 19), (.mov (.tmp 0)), none, []⟩, ⟨(some 20), (.mov (.tmp 1)), none, []⟩, ⟨(some 21), (.mov (.tmp 7)), none, []⟩, ⟨(some 22), (.iAddrSl 13 (.tmp 20) (.tmp 21)), none, []⟩, ⟨(some 23), (.loadN 13 (.tmp 22)), none, []⟩, ⟨(some 24), (.mov (.tmp 2)), none, []⟩, ⟨(some 25), (.build [(.int .i64 0), (.string (bs [])), (.int .i64 0), (.string (bs [])), (.string (bs [])), (.int .u64 0), (.int .u64 0), (.string (bs [])), (.string (bs [])), (.int .u64 0), (.int .u64 0), (.slice none 0 0), (.slice none 0 0), (.int .i64 0)] [(0, (13, (.tmp 23))), (13, (1, (.tmp 24)))]), none, []⟩, ⟨(some 26), (.buildSlice 14 1 [(.int .i64 0), (.string (bs [])), (.int .i64 0), (.string (bs [])), (.string (bs [])), (.int .u64 0), (.int .u64 0), (.string (bs [])), (.string (bs [])), (.int .u64 0), (.int .u64 0), (.slice none 0 0), (.slice none 0 0), (.int .i64 0)] [(0, (14, (.tmp 25)))]), none, []⟩, ⟨(some 27), (.append 14 184 (.tmp 19) (.tmp 26)), none, []⟩, ⟨(some 0), (.mov (.tmp 27)), none, []⟩]) (.seq (.ops [⟨(some 28), (.mov (.tmp 0)), none, []⟩, ⟨(some 29), (.mov (.tmp 1)), none, []⟩, ⟨(some 30), (.mov (.tmp 7)), none, []⟩, ⟨(some 31), (.iAddrSl 13 (.tmp 29) (.tmp 30)), none, []⟩, ⟨(some 32), (.fAddr 11 (.tmp 31)), none, []⟩, ⟨(some 33), (.load1 (.tmp 32)), none, []⟩, ⟨(some 34), (.mov (.tmp 2)), none, []⟩, ⟨(some 35), (.bin .add (.tmp 34) (.const (.int .i64 1))), none, []⟩, ⟨(some 36), (.callv (.func 78) [(.tmp 28), (.tmp 33), (.tmp 35)]), none, []⟩, ⟨(some 0), (.mov (.tmp 36)), none, []⟩]) (.ops [⟨(some 37), (.mov (.tmp 0)), none, []⟩, ⟨(some 38), (.mov (.tmp 1)), none, []⟩, ⟨(some 39), (.mov (.tmp 7)), none, []⟩, ⟨(some 40), (.iAddrSl 13 (.tmp 38) (.tmp 39)), none, []⟩, ⟨(some 41), (.fAddr 12 (.tmp 40)), none, []⟩, ⟨(some 42), (.load1 (.tmp 41)), none, []⟩, ⟨(some 43), (.mov (.tmp 2)), none, []⟩, ⟨(some 44), (.bin .add (.tmp 43) (.const (.int .i64 1))), none, []⟩, ⟨(some 45), (.callv (.func 78) [(.tmp 37), (.tmp 42), (.tmp 44)]), none, []⟩, ⟨(some 0), (.mov (.tmp 45)), none, []⟩])))) (.ops [⟨(some 17), (.mov (.tmp 7)), none, []⟩, ⟨(some 18), (.bin .add (.tmp 17) (.const (.int .i64 1))), none, []⟩, ⟨(some 7), (.mov (.tmp 18)), none, []⟩])))))) (.seq (.ops [⟨(some 46), (.mov (.tmp 0)), none, []⟩, ⟨(some 6), (.mov (.tmp 46)), none, []⟩]) .ret))) [(.tmp 6)])
def g79 : AFunc := (.code 8 (.seq (.ops [⟨(some 4), (.mov (.const (.int .i64 0))), none, []⟩]) (.seq (.ops [⟨(some 5), (.mov (.tmp 0)), none, []⟩, ⟨(some 6), (.mov (.tmp 1)), none, []⟩, ⟨(some 7), (.callv (.func 102) [(.tmp 5), (.tmp 6)]), none, []⟩, ⟨(some 4), (.mov (.tmp 7)), none, []⟩]) .ret)) [(.tmp 4)])
def g80 : AFunc := (.code 8 (.seq (.ops [⟨(some 2), (.box (.tmp 0)), none, []⟩, ⟨(some 3), (.mov (.const (.bool false))), none, []⟩]) (.seq (.ops [⟨(some 4), (.fAddr 0 (.tmp 2)), none, []⟩, ⟨(some 5), (.load1 (.tmp 4)), none, []⟩, ⟨(some 6), (.load1 (.tmp 1)), none, []⟩, ⟨(some 7), (.bin .eql (.tmp 5) (.tmp 6)), none, []⟩, ⟨(some 3), (.mov (.tmp 7)), none, []⟩]) .ret)) [(.tmp 3)])
def g81 : AFunc := (.code 8 (.seq (.ops [⟨(some 2), (.mov (.const (.slice none 0 0))), none, []⟩]) (.seq (.seq (.ops [⟨(some 3), (.mov (.tmp 0)), none, []⟩, ⟨(some 4), (.eqp 1 false (.tmp 3) (.const (.slice none 0 0))), none, []⟩]) (.cond (.tmp 4) (.seq (.ops [⟨(some 2), (.mov (.const (.slice none 0 0))), none, []⟩]) .ret) .skip)) (.seq (.ops [⟨(some 5), (.buildSlice 3 0 [] []), none, []⟩, ⟨(some 6), (.mov (.tmp 0)), none, []⟩, ⟨(some 7), (.append 3 40 (.tmp 5) (.tmp 6)), none, []⟩, ⟨(some 2), (.mov (.tmp 7)), none, []⟩]) .ret))) [(.tmp 2)])
def g82 : AFunc := (.code 8 (.seq (.ops [⟨(some 2), (.mov (.const (.slice none 0 0))), none, []⟩]) (.seq (.seq (.ops [⟨(some 3), (.mov (.tmp 0)), none, []⟩, ⟨(some 4), (.eqp 1 false (.tmp 3) (.const (.slice none 0 0))), none, []⟩]) (.cond (.tmp 4) (.seq (.ops [⟨(some 2), (.mov (.const (.slice none 0 0))), none, []⟩]) .ret) .skip)) (.seq (.ops [⟨(some 5), (.buildSlice 1 0 [] []), none, []⟩, ⟨(some 6), (.mov (.tmp 0)), none, []⟩, ⟨(some 7), (.append 1 16 (.tmp 5) (.tmp 6)), none, []⟩, ⟨(some 2), (.mov (.tmp 7)), none, []⟩]) .ret))) [(.tmp 2)])
def g83 : AFunc := (.code 8 (.seq (.ops [⟨(some 2), (.mov (.const (.slice none 0 0))), none, []⟩]) (.seq (.seq (.ops [⟨(some 3), (.mov (.tmp 0)), none, []⟩, ⟨(some 4), (.eqp 1 false (.tmp 3) (.const (.slice none 0 0))), none, []⟩]) (.cond (.tmp 4) (.seq (.ops [⟨(some 2), (.mov (.const (.slice none 0 0))), none, []⟩]) .ret) .skip)) (.seq (.ops [⟨(some 5), (.buildSlice 2 0 [] []), none, []⟩, ⟨(some 6), (.mov (.tmp 0)), none, []⟩, ⟨(some 7), (.append 2 16 (.tmp 5) (.tmp 6)), none, []⟩, ⟨(some 2), (.mov (.tmp 7)), none, []⟩]) .ret))) [(.tmp 2)])
def g84 : AFunc := (.code 8 (.seq (.ops [⟨(some 4), (.mov (.const (.int .i64 0))), none, []⟩]) (.seq (.ops [⟨(some 5), (.mov (.tmp 0)), none, []⟩, ⟨(some 6), (.mov (.tmp 1)), none, []⟩, ⟨(some 7), (.callv (.func 103) [(.tmp 5), (.tmp 6)]), none, []⟩, ⟨(some 4), (.mov (.tmp 7)), none, []⟩]) .ret)) [(.tmp 4)])
def g85 : AFunc := (.code 8 (.seq (.ops [⟨(some 2), (.box (.tmp 0)), none, []⟩, ⟨(some 3), (.mov (.const (.bool false))), none, []⟩]) (.seq (.ops [⟨(some 4), (.fAddr 0 (.tmp 2)), none, []⟩, ⟨(some 5), (.load1 (.tmp 4)), none, []⟩, ⟨(some 6), (.load1 (.tmp 1)), none, []⟩, ⟨(some 7), (.bin .eql (.tmp 5) (.tmp 6)), none, []⟩, ⟨(some 3), (.mov (.tmp 7)), none, []⟩]) .ret)) [(.tmp 3)])
def g86 : AFunc := (.code 18 (.seq (.ops [⟨(some 6), (.mov (.tmp 0)), none, []⟩, ⟨(some 7), (.mov (.tmp 1)), none, []⟩, ⟨(some 8), (.callv (.func 9) [(.tmp 7)]), none, []⟩, ⟨(some 9), (.callv (.func 46) [(.tmp 6), (.tmp 8), (.const (.int .i64 70))]), none, []⟩]) (.seq (.ops [⟨(some 10), (.mov (.tmp 0)), none, []⟩, ⟨(some 11), (.mov (.tmp 2)), none, []⟩, ⟨(some 12), (.mov (.tmp 1)), none, []⟩, ⟨(some 13), (.lookup (.prim 2) (.int .i64 0) false (.tmp 11) (.tmp 12)), none, []⟩, ⟨(some 14), (.bin .eql (.tmp 13) (.const (.int .i64 0))), none, []⟩, ⟨(some 15), (.callv (.func 46) [(.tmp 10), (.tmp 14), (.const (.int .i64 71))]), none, []⟩]) (.ops [⟨(some 16), (.mov (.tmp 2)), none, []⟩, ⟨(some 17), (.mov (.tmp 1)), none, []⟩, ⟨none, (.mapUpd (.prim 2) (.tmp 16) (.tmp 17) (.const (.int .i64 1))), none, []⟩]))) [])
def g87 : AFunc := (.code 37 (.seq (.ops [⟨(some 2), (.box (.tmp 0)), none, []⟩, ⟨(some 4), (.mov (.const (.bool false))), none, []⟩]) (.seq (.seq (.ops [⟨(some 5), (.mov (.tmp 1)), none, []⟩, ⟨(some 6), (.bin .lss (.tmp 5) (.const (.int .i64 1))), none, []⟩, ⟨(some 7), (.mov (.tmp 6)), none, []⟩, ⟨(some 8), (.mov (.tmp 1)), (some (7, false)), []⟩, ⟨(some 9), (.bin .gtr (.tmp 8) (.const (.int .i64 128))), (some (7, false)), []⟩, ⟨(some 10), (.pick (.tmp 7) (.const (.bool true)) (.tmp 9)), none, []⟩]) (.cond (.tmp 10) (.seq (.ops [⟨(some 4), (.mov (.const (.bool false))), none, []⟩]) .ret) .skip)) (.seq (.seq (.ops [⟨(some 11), (.mov (.tmp 1)), none, []⟩, ⟨(some 12), (.bin .gtr (.tmp 11) (.const (.int .i64 64))), none, []⟩]) (.cond (.tmp 12) (.seq (.ops [⟨(some 13), (.mov (.tmp 1)), none, []⟩, ⟨(some 14), (.bin .eql (.tmp 13) (.const (.int .i64 128))), none, []⟩, ⟨(some 15), (.mov (.tmp 14)), none, []⟩, ⟨(some 16), (.fAddr 0 (.tmp 2)), (some (15, false)), []⟩, ⟨(some 18), (.mov (.tmp 1)), (some (15, false)), []⟩, ⟨(some 19), (.bin .sub (.tmp 18) (.const (.int .i64 64))), (some (15, false)), []⟩, ⟨(some 20), (.bin .shl (.const (.int .u64 1)) (.tmp 19)), (some (15, false)), []⟩, ⟨(some 17), (.load1 (.tmp 16)), (some (15, false)), []⟩, ⟨(some 21), (.bin .lss (.tmp 17) (.tmp 20)), (some (15, false)), []⟩, ⟨(some 22), (.pick (.tmp 15) (.const (.bool true)) (.tmp 21)), none, []⟩, ⟨(some 4), (.mov (.tmp 22)), none, []⟩]) .ret) .skip)) (.seq (.ops [⟨(some 23), (.fAddr 0 (.tmp 2)), none, []⟩, ⟨(some 24), (.load1 (.tmp 23)), none, []⟩, ⟨(some 25), (.bin .eql (.tmp 24) (.const (.int .u64 0))), none, []⟩, ⟨(some 26), (.mov (.tmp 25)), none, []⟩, ⟨(some 27), (.mov (.tmp 1)), (some (26, true)), []⟩, ⟨(some 28), (.bin .eql (.tmp 27) (.const (.int .i64 64))), (some (26, true)), []⟩, ⟨(some 29), (.mov (.tmp 28)), (some (26, true)), []⟩, ⟨(some 30), (.fAddr 1 (.tmp 2)), (some (29, false)), []⟩, ⟨(some 32), (.mov (.tmp 1)), (some (29, false)), []⟩, ⟨(some 33), (.bin .shl (.const (.int .u64 1)) (.tmp 32)), (some (29, false)), []⟩, ⟨(some 31), (.load1 (.tmp 30)), (some (29, false)), []⟩, ⟨(some 34), (.bin .lss (.tmp 31) (.tmp 33)), (some (29, false)), []⟩, ⟨(some 35), (.pick (.tmp 29) (.const (.bool true)) (.tmp 34)), (some (26, true)), []⟩, ⟨(some 36), (.pick (.tmp 26) (.tmp 35) (.const (.bool false))), none, []⟩, ⟨(some 4), (.mov (.tmp 36)), none, []⟩]) .ret)))) [(.tmp 4)])
def g88 : AFunc := (.code 130 (.seq (.ops [⟨(some 16), .mkMap, none, []⟩, ⟨(some 2), (.mov (.tmp 16)), none, []⟩]) (.seq (.seq (.ops [⟨(some 17), (.mov (.tmp 0)), none, []⟩, ⟨(some 18), (.nilChk (.tmp 17)), none, []⟩, ⟨(some 19), (.fAddr 0 (.tmp 18)), none, []⟩, ⟨(some 20), (.fAddr 2 (.tmp 19)), none, []⟩, ⟨(some 21), (.load1 (.tmp 20)), none, []⟩, ⟨(some 22), (.lenSl (.tmp 21)), none, []⟩, ⟨(some 23), (.mov (.const (.int .i64 0))), none, []⟩]) (.block 0 (.loop (.seq (.ops [⟨(some 24), (.bin .lss (.tmp 23) (.tmp 22)), none, []⟩]) (.seq (.cond (.tmp 24) .skip (.exit 0)) (.seq (.block 1 (.seq (.ops [⟨(some 25), (.mov (.tmp 23)), none, []⟩, ⟨(some 26), (.iAddrSl 6 (.tmp 21) (.tmp 23)), none, []⟩, ⟨(some 27), (.loadN 6 (.tmp 26)), none, []⟩, ⟨(some 4), (.alloc [(.string (bs [])), (.string (bs [])), (.string (bs [])), (.string (bs [])), (.slice none 0 0), (.string (bs []))]), none, []⟩, ⟨(some 3), (.mov (.tmp 25)), none, []⟩, ⟨none, (.store 6 (.tmp 4) (.tmp 27)), none, []⟩]) (.ops [⟨(some 28), (.mov (.tmp 2)), none, []⟩, ⟨(some 29), (.fAddr 0 (.tmp 4)), none, []⟩, ⟨(some 30), (.load1 (.tmp 29)), none, []⟩, ⟨(some 31), (.mov (.tmp 3)), none, []⟩, ⟨(some 32), (.bin .add (.tmp 31) (.const (.int .i64 1))), none, []⟩, ⟨none, (.mapUpd (.prim 2) (.tmp 28) (.tmp 30) (.tmp 32)), none, []⟩]))) (.ops [⟨(some 33), (.bin .add (.tmp 23) (.const (.int .i64 1))), none, []⟩, ⟨(some 23), (.mov (.tmp 33)), none, []⟩]))))))) (.seq (.ops [⟨(some 34), (.mov (.tmp 0)), none, []⟩, ⟨(some 35), (.nilChk (.tmp 34)), none, []⟩, ⟨(some 36), (.fAddr 0 (.tmp 35)), none, []⟩, ⟨(some 37), (.fAddr 2 (.tmp 36)), none, []⟩, ⟨(some 38), (.load1 (.tmp 37)), none, []⟩, ⟨(some 39), (.lenSl (.tmp 38)), none, []⟩, ⟨(some 40), (.mov (.const (.int .i64 0))), none, []⟩]) (.block 2 (.loop (.seq (.ops [⟨(some 41), (.bin .lss (.tmp 40) (.tmp 39)), none, []⟩]) (.seq (.cond (.tmp 41) .skip (.exit 2)) (.seq (.block 3 (.seq (.ops [⟨(some 42), (.mov (.tmp 40)), none, []⟩, ⟨(some 43), (.iAddrSl 6 (.tmp 38) (.tmp 40)), none, []⟩, ⟨(some 44), (.loadN 6 (.tmp 43)), none, []⟩, ⟨(some 6), (.alloc [(.string (bs [])), (.string (bs [])), (.string (bs [])), (.string (bs [])), (.slice none 0 0), (.string (bs []))]), none, []⟩, ⟨(some 5), (.mov (.tmp 42)), none, []⟩, ⟨none, (.store 6 (.tmp 6) (.tmp 44)), none, []⟩]) (.seq (.ops [⟨(some 45), (.mov (.tmp 0)), none, []⟩, ⟨(some 46), (.fAddr 0 (.tmp 6)), none, []⟩, ⟨(some 47), (.load1 (.tmp 46)), none, []⟩, ⟨(some 48), (.bin .add (.const (.string (bs [115, 116, 97, 116, 101, 32]))) (.tmp 47)), none, []⟩, ⟨(some 49), (.nilChk (.tmp 45)), none, []⟩, ⟨(some 50), (.fAddr 6 (.tmp 49)), none, []⟩, ⟨none, (.store 1 (.tmp 50) (.tmp 48)), none, []⟩]) (.seq (.ops [⟨(some 51), (.mov (.tmp 0)), none, []⟩, ⟨(some 52), (.nilChk (.tmp 51)), none, []⟩, ⟨(some 53), (.fAddr 0 (.tmp 52)), none, []⟩, ⟨(some 54), (.fAddr 2 (.tmp 53)), none, []⟩, ⟨(some 55), (.load1 (.tmp 54)), none, []⟩, ⟨(some 56), (.lenSl (.tmp 55)), none, []⟩, ⟨(some 57), (.mkSlice 1 1 [(.bool false)] (.tmp 56) (.tmp 56)), none, []⟩, ⟨(some 7), (.mov (.tmp 57)), none, []⟩]) (.seq (.ops [⟨(some 58), (.mov (.tmp 5)), none, []⟩, ⟨(some 59), (.buildSlice 1 1 [(.int .i64 0)] [(0, (1, (.tmp 58)))]), none, []⟩, ⟨(some 8), (.mov (.tmp 59)), none, []⟩]) (.block 4 (.loop (.seq (.seq (.ops [⟨(some 60), (.mov (.tmp 8)), none, []⟩, ⟨(some 61), (.lenSl (.tmp 60)), none, []⟩, ⟨(some 62), (.bin .gtr (.tmp 61) (.const (.int .i64 0))), none, []⟩]) (.cond (.tmp 62) .skip (.exit 4))) (.block 5 (.seq (.ops [⟨(some 63), (.mov (.tmp 0)), none, []⟩, ⟨(some 64), (.nilChk (.tmp 63)), none, []⟩, ⟨(some 65), (.fAddr 0 (.tmp 64)), none, []⟩, ⟨(some 66), (.fAddr 2 (.tmp 65)), none, []⟩, ⟨(some 68), (.mov (.tmp 8)), none, []⟩, ⟨(some 69), (.mov (.tmp 8)), none, []⟩, ⟨(some 70), (.lenSl (.tmp 69)), none, []⟩, ⟨(some 71), (.bin .sub (.tmp 70) (.const (.int .i64 1))), none, []⟩, ⟨(some 72), (.iAddrSl 1 (.tmp 68) (.tmp 71)), none, []⟩, ⟨(some 67), (.load1 (.tmp 66)), none, []⟩, ⟨(some 73), (.load1 (.tmp 72)), none, []⟩, ⟨(some 74), (.iAddrSl 6 (.tmp 67) (.tmp 73)), none, []⟩, ⟨(some 75), (.loadN 6 (.tmp 74)), none, []⟩, ⟨(some 9), (.alloc [(.string (bs [])), (.string (bs [])), (.string (bs [])), (.string (bs [])), (.slice none 0 0), (.string (bs []))]), none, []⟩, ⟨none, (.store 6 (.tmp 9) (.tmp 75)), none, []⟩]) (.seq (.ops [⟨(some 76), (.mov (.tmp 8)), none, []⟩, ⟨(some 77), (.mov (.tmp 8)), none, []⟩, ⟨(some 78), (.lenSl (.tmp 77)), none, []⟩, ⟨(some 79), (.bin .sub (.tmp 78) (.const (.int .i64 1))), none, []⟩, ⟨(some 80), (.slSl 1 (.tmp 76) none (some (.tmp 79))), none, []⟩, ⟨(some 8), (.mov (.tmp 80)), none, []⟩]) (.seq (.ops [⟨(some 81), (.fAddr 5 (.tmp 9)), none, []⟩, ⟨(some 82), (.load1 (.tmp 81)), none, []⟩, ⟨(some 83), (.buildSlice 1 1 [(.string (bs []))] [(0, (1, (.tmp 82)))]), none, []⟩, ⟨(some 10), (.mov (.tmp 83)), none, []⟩]) (.seq (.seq (.ops [⟨(some 84), (.fAddr 4 (.tmp 9)), none, []⟩, ⟨(some 85), (.load1 (.tmp 84)), none, []⟩, ⟨(some 86), (.lenSl (.tmp 85)), none, []⟩, ⟨(some 87), (.mov (.const (.int .i64 0))), none, []⟩]) (.block 6 (.loop (.seq (.ops [⟨(some 88), (.bin .lss (.tmp 87) (.tmp 86)), none, []⟩]) (.seq (.cond (.tmp 88) .skip (.exit 6)) (.seq (.block 7 (.seq (.ops [⟨(some 89), (.iAddrSl 5 (.tmp 85) (.tmp 87)), none, []⟩, ⟨(some 90), (.loadN 5 (.tmp 89)), none, []⟩, ⟨(some 12), (.alloc [(.int .u64 0), (.int .u64 0), (.int .u64 0), (.int .u64 0), (.string (bs []))]), none, []⟩, ⟨none, (.store 5 (.tmp 12) (.tmp 90)), none, []⟩]) (.ops [⟨(some 91), (.mov (.tmp 10)), none, []⟩, ⟨(some 92), (.fAddr 4 (.tmp 12)), none, []⟩, ⟨(some 93), (.load1 (.tmp 92)), none, []⟩, ⟨(some 94), (.buildSlice 1 1 [(.string (bs []))] [(0, (1, (.tmp 93)))]), none, []⟩, ⟨(some 95), (.append 1 16 (.tmp 91) (.tmp 94)), none, []⟩, ⟨(some 10), (.mov (.tmp 95)), none, []⟩]))) (.ops [⟨(some 96), (.bin .add (.tmp 87) (.const (.int .i64 1))), none, []⟩, ⟨(some 87), (.mov (.tmp 96)), none, []⟩]))))))) (.seq (.ops [⟨(some 97), (.mov (.tmp 10)), none, []⟩, ⟨(some 98), (.lenSl (.tmp 97)), none, []⟩, ⟨(some 99), (.mov (.const (.int .i64 0))), none, []⟩]) (.block 8 (.loop (.seq (.ops [⟨(some 100), (.bin .lss (.tmp 99) (.tmp 98)), none, []⟩]) (.seq (.cond (.tmp 100) .skip (.exit 8)) (.seq (.block 9 (.seq (.ops [⟨(some 101), (.iAddrSl 1 (.tmp 97) (.tmp 99)), none, []⟩, ⟨(some 102), (.load1 (.tmp 101)), none, []⟩, ⟨(some 14), (.mov (.tmp 102)), none, []⟩]) (.seq (.ops [⟨(some 103), (.mov (.tmp 2)), none, []⟩, ⟨(some 104), (.mov (.tmp 14)), none, []⟩, ⟨(some 105), (.lookup (.prim 2) (.int .i64 0) false (.tmp 103) (.tmp 104)), none, []⟩, ⟨(some 106), (.bin .sub (.tmp 105) (.const (.int .i64 1))), none, []⟩, ⟨(some 15), (.mov (.tmp 106)), none, []⟩]) (.seq (.ops [⟨(some 107), (.mov (.tmp 0)), none, []⟩, ⟨(some 108), (.mov (.tmp 15)), none, []⟩, ⟨(some 109), (.mov (.tmp 5)), none, []⟩, ⟨(some 110), (.bin .neq (.tmp 108) (.tmp 109)), none, []⟩, ⟨(some 111), (.callv (.func 46) [(.tmp 107), (.tmp 110), (.const (.int .i64 78))]), none, []⟩]) (.seq (.ops [⟨(some 112), (.mov (.tmp 15)), none, []⟩, ⟨(some 113), (.bin .geq (.tmp 112) (.const (.int .i64 0))), none, []⟩, ⟨(some 114), (.mov (.tmp 113)), none, []⟩, ⟨(some 115), (.mov (.tmp 7)), (some (114, true)), []⟩, ⟨(some 116), (.mov (.tmp 15)), (some (114, true)), []⟩, ⟨(some 117), (.iAddrSl 1 (.tmp 115) (.tmp 116)), (some (114, true)), []⟩, ⟨(some 118), (.load1 (.tmp 117)), (some (114, true)), []⟩, ⟨(some 119), (.un .not (.tmp 118)), (some (114, true)), []⟩, ⟨(some 120), (.pick (.tmp 114) (.tmp 119) (.const (.bool false))), none, []⟩]) (.cond (.tmp 120) (.seq (.ops [⟨(some 121), (.mov (.tmp 7)), none, []⟩, ⟨(some 122), (.mov (.tmp 15)), none, []⟩, ⟨(some 123), (.iAddrSl 1 (.tmp 121) (.tmp 122)), none, []⟩, ⟨none, (.store 1 (.tmp 123) (.const (.bool true))), none, []⟩]) (.ops [⟨(some 124), (.mov (.tmp 8)), none, []⟩, ⟨(some 125), (.mov (.tmp 15)), none, []⟩, ⟨(some 126), (.buildSlice 1 1 [(.int .i64 0)] [(0, (1, (.tmp 125)))]), none, []⟩, ⟨(some 127), (.append 1 8 (.tmp 124) (.tmp 126)), none, []⟩, ⟨(some 8), (.mov (.tmp 127)), none, []⟩])) .skip)))))) (.ops [⟨(some 128), (.bin .add (.tmp 99) (.const (.int .i64 1))), none, []⟩, ⟨(some 99), (.mov (.tmp 128)), none, []⟩])))))))))))))))))))) (.ops [⟨(some 129), (.bin .add (.tmp 40) (.const (.int .i64 1))), none, []⟩, ⟨(some 40), (.mov (.tmp 129)), none, []⟩]))))))))) [])
def g89 : AFunc := (.code 158 (.seq (.ops [⟨(some 5), (.box (.tmp 2)), none, []⟩]) (.seq (.ops [⟨(some 6), (.mov (.const (.bool false))), none, []⟩]) (.seq (.ops [⟨(some 7), (.alloc [(.string (bs [])), (.string (bs [])), (.int .u64 0), (.int .u64 0)]), none, []⟩]) (.seq (.seq (.ops [⟨(some 14), (.fAddr 0 (.tmp 5)), none, []⟩, ⟨(some 15), (.load1 (.tmp 14)), none, []⟩]) (.block 0 (.seq (.ops [⟨(some 17), (.bin .eql (.tmp 15) (.const (.int .i64 1))), none, []⟩, ⟨(some 16), (.mov (.tmp 17)), none, []⟩]) (.cond (.tmp 16) (.ops [⟨(some 18), (.fAddr 3 (.tmp 5)), none, []⟩, ⟨(some 19), (.load1 (.tmp 18)), none, []⟩, ⟨(some 20), (.bin .geq (.tmp 19) (.const (.int .i64 0))), none, []⟩, ⟨(some 21), (.mov (.tmp 20)), none, []⟩, ⟨(some 22), (.fAddr 3 (.tmp 5)), (some (21, true)), []⟩, ⟨(some 23), (.load1 (.tmp 22)), (some (21, true)), []⟩, ⟨(some 24), (.bin .leq (.tmp 23) (.const (.int .i64 5))), (some (21, true)), []⟩, ⟨(some 25), (.pick (.tmp 21) (.tmp 24) (.const (.bool false))), none, []⟩, ⟨(some 26), (.mov (.tmp 25)), none, []⟩, ⟨(some 27), (.fAddr 4 (.tmp 5)), (some (26, true)), []⟩, ⟨(some 28), (.loadN 4 (.tmp 27)), (some (26, true)), []⟩, ⟨(some 29), (.callv (.func 104) [(.tmp 28)]), (some (26, true)), []⟩, ⟨(some 30), (.pick (.tmp 26) (.tmp 29) (.const (.bool false))), none, []⟩, ⟨(some 31), (.mov (.tmp 30)), none, []⟩, ⟨(some 32), (.fAddr 8 (.tmp 5)), (some (31, true)), []⟩, ⟨(some 33), (.loadN 4 (.tmp 32)), (some (31, true)), []⟩, ⟨(some 34), (.callv (.func 104) [(.tmp 33)]), (some (31, true)), []⟩, ⟨(some 35), (.pick (.tmp 31) (.tmp 34) (.const (.bool false))), none, []⟩, ⟨(some 36), (.mov (.tmp 35)), none, []⟩, ⟨(some 37), (.fAddr 3 (.tmp 5)), (some (36, true)), []⟩, ⟨(some 38), (.load1 (.tmp 37)), (some (36, true)), []⟩, ⟨(some 39), (.bin .neq (.tmp 38) (.const (.int .i64 0))), (some (36, true)), []⟩, ⟨(some 40), (.mov (.tmp 39)), (some (36, true)), []⟩, ⟨(some 41), (.fAddr 8 (.tmp 5)), (some (40, false)), []⟩, ⟨(some 42), (.loadN 4 (.tmp 41)), (some (40, false)), []⟩, ⟨(some 43), (.loadN 4 (.tmp 7)), (some (40, false)), []⟩, ⟨(some 44), (.eqs false 4 [(0, 2), (1, 2), (2, 1), (3, 1)] (.tmp 42) (.tmp 43)), (some (40, false)), []⟩, ⟨(some 45), (.pick (.tmp 40) (.const (.bool true)) (.tmp 44)), (some (36, true)), []⟩, ⟨(some 46), (.pick (.tmp 36) (.tmp 45) (.const (.bool false))), none, []⟩, ⟨(some 6), (.mov (.tmp 46)), none, []⟩]) (.seq (.seq (.ops [⟨(some 48), (.bin .eql (.tmp 15) (.const (.int .i64 2))), none, []⟩, ⟨(some 47), (.mov (.tmp 48)), none, []⟩]) (.cond (.tmp 47) .skip (.ops [⟨(some 49), (.bin .eql (.tmp 15) (.const (.int .i64 6))), none, []⟩, ⟨(some 47), (.mov (.tmp 49)), none, []⟩]))) (.cond (.tmp 47) (.ops [⟨(some 50), (.loadN 12 (.tmp 5)), none, []⟩, ⟨(some 51), (.fAddr 0 (.tmp 5)), none, []⟩, ⟨(some 52), (.load1 (.tmp 51)), none, []⟩, ⟨(some 53), (.build [(.int .i64 0), (.string (bs [])), (.string (bs [])), (.int .i64 0), (.string (bs [])), (.string (bs [])), (.int .u64 0), (.int .u64 0), (.string (bs [])), (.string (bs [])), (.int .u64 0), (.int .u64 0)] [(0, (1, (.tmp 52)))]), none, []⟩, ⟨(some 54), (.eqs false 12 [(0, 1), (1, 2), (2, 2), (3, 1), (4, 2), (5, 2), (6, 1), (7, 1), (8, 2), (9, 2), (10, 1), (11, 1)] (.tmp 50) (.tmp 53)), none, []⟩, ⟨(some 6), (.mov (.tmp 54)), none, []⟩]) (.seq (.seq (.ops [⟨(some 56), (.bin .eql (.tmp 15) (.const (.int .i64 3))), none, []⟩, ⟨(some 55), (.mov (.tmp 56)), none, []⟩]) (.cond (.tmp 55) .skip (.ops [⟨(some 57), (.bin .eql (.tmp 15) (.const (.int .i64 4))), none, []⟩, ⟨(some 55), (.mov (.tmp 57)), none, []⟩]))) (.cond (.tmp 55) (.ops [⟨(some 58), (.loadN 12 (.tmp 5)), none, []⟩, ⟨(some 59), (.fAddr 0 (.tmp 5)), none, []⟩, ⟨(some 60), (.load1 (.tmp 59)), none, []⟩, ⟨(some 61), (.fAddr 1 (.tmp 5)), none, []⟩, ⟨(some 62), (.fAddr 0 (.tmp 61)), none, []⟩, ⟨(some 63), (.load1 (.tmp 62)), none, []⟩, ⟨(some 64), (.build [(.string (bs [])), (.string (bs []))] [(0, (1, (.tmp 63)))]), none, []⟩, ⟨(some 65), (.build [(.int .i64 0), (.string (bs [])), (.string (bs [])), (.int .i64 0), (.string (bs [])), (.string (bs [])), (.int .u64 0), (.int .u64 0), (.string (bs [])), (.string (bs [])), (.int .u64 0), (.int .u64 0)] [(0, (1, (.tmp 60))), (1, (2, (.tmp 64)))]), none, []⟩, ⟨(some 66), (.eqs false 12 [(0, 1), (1, 2), (2, 2), (3, 1), (4, 2), (5, 2), (6, 1), (7, 1), (8, 2), (9, 2), (10, 1), (11, 1)] (.tmp 58) (.tmp 65)), none, []⟩, ⟨(some 6), (.mov (.tmp 66)), none, []⟩]) (.seq (.ops [⟨(some 68), (.bin .eql (.tmp 15) (.const (.int .i64 5))), none, []⟩, ⟨(some 67), (.mov (.tmp 68)), none, []⟩]) (.cond (.tmp 67) (.ops [⟨(some 69), (.loadN 12 (.tmp 5)), none, []⟩, ⟨(some 70), (.fAddr 0 (.tmp 5)), none, []⟩, ⟨(some 71), (.load1 (.tmp 70)), none, []⟩, ⟨(some 72), (.fAddr 1 (.tmp 5)), none, []⟩, ⟨(some 73), (.loadN 2 (.tmp 72)), none, []⟩, ⟨(some 74), (.build [(.int .i64 0), (.string (bs [])), (.string (bs [])), (.int .i64 0), (.string (bs [])), (.string (bs [])), (.int .u64 0), (.int .u64 0), (.string (bs [])), (.string (bs [])), (.int .u64 0), (.int .u64 0)] [(0, (1, (.tmp 71))), (1, (2, (.tmp 73)))]), none, []⟩, ⟨(some 75), (.eqs false 12 [(0, 1), (1, 2), (2, 2), (3, 1), (4, 2), (5, 2), (6, 1), (7, 1), (8, 2), (9, 2), (10, 1), (11, 1)] (.tmp 69) (.tmp 74)), none, []⟩, ⟨(some 6), (.mov (.tmp 75)), none, []⟩]) .skip)))))))))) (.seq (.ops [⟨(some 76), (.mov (.tmp 0)), none, []⟩, ⟨(some 77), (.mov (.tmp 6)), none, []⟩, ⟨(some 78), (.callv (.func 46) [(.tmp 76), (.tmp 77), (.const (.int .i64 75))]), none, []⟩]) (.seq (.ops [⟨(some 79), (.fAddr 0 (.tmp 5)), none, []⟩, ⟨(some 80), (.load1 (.tmp 79)), none, []⟩]) (.block 1 (.seq (.ops [⟨(some 82), (.bin .eql (.tmp 80) (.const (.int .i64 1))), none, []⟩, ⟨(some 81), (.mov (.tmp 82)), none, []⟩]) (.cond (.tmp 81) (.seq (.ops [⟨(some 84), (.mov (.tmp 0)), none, []⟩, ⟨(some 85), (.nilChk (.tmp 84)), none, []⟩, ⟨(some 86), (.fAddr 0 (.tmp 85)), none, []⟩, ⟨(some 88), (.fAddr 1 (.tmp 5)), none, []⟩, ⟨(some 87), (.loadN 6 (.tmp 86)), none, []⟩, ⟨(some 89), (.loadN 2 (.tmp 88)), none, []⟩, ⟨(some 90), (.callv (.func 56) [(.tmp 87), (.tmp 89)]), none, []⟩, ⟨(some 83), (.mov (.tmp 90)), none, []⟩, ⟨(some 91), (.extract (.tmp 83) 0), none, []⟩, ⟨(some 92), (.extract (.tmp 83) 1), none, []⟩, ⟨(some 8), (.alloc [(.string (bs [])), (.int .i64 0)]), none, []⟩, ⟨none, (.store 2 (.tmp 8) (.tmp 91)), none, []⟩, ⟨(some 9), (.mov (.tmp 92)), none, []⟩]) (.seq (.ops [⟨(some 93), (.mov (.tmp 0)), none, []⟩, ⟨(some 94), (.mov (.tmp 9)), none, []⟩, ⟨(some 95), (.callv (.func 46) [(.tmp 93), (.tmp 94), (.const (.int .i64 72))]), none, []⟩]) (.seq (.ops [⟨(some 96), (.mov (.tmp 0)), none, []⟩, ⟨(some 97), (.mov (.tmp 1)), none, []⟩, ⟨(some 98), (.fAddr 4 (.tmp 5)), none, []⟩, ⟨(some 99), (.loadN 4 (.tmp 98)), none, []⟩, ⟨(some 100), (.callv (.func 105) [(.tmp 96), (.tmp 97), (.tmp 99)]), none, []⟩, ⟨(some 10), (.mov (.tmp 100)), none, []⟩]) (.seq (.ops [⟨(some 101), (.mov (.tmp 0)), none, []⟩, ⟨(some 102), (.mov (.tmp 1)), none, []⟩, ⟨(some 103), (.fAddr 8 (.tmp 5)), none, []⟩, ⟨(some 104), (.loadN 4 (.tmp 103)), none, []⟩, ⟨(some 105), (.callv (.func 105) [(.tmp 101), (.tmp 102), (.tmp 104)]), none, []⟩, ⟨(some 11), (.mov (.tmp 105)), none, []⟩]) (.seq (.ops [⟨(some 106), (.mov (.tmp 0)), none, []⟩, ⟨(some 107), (.mov (.tmp 10)), none, []⟩, ⟨(some 108), (.fAddr 1 (.tmp 8)), none, []⟩, ⟨(some 109), (.load1 (.tmp 108)), none, []⟩, ⟨(some 110), (.callv (.tmp 107) [(.tmp 109)]), none, []⟩, ⟨(some 111), (.callv (.func 46) [(.tmp 106), (.tmp 110), (.const (.int .i64 73))]), none, []⟩]) (.ops [⟨(some 112), (.mov (.tmp 0)), none, []⟩, ⟨(some 113), (.mov (.tmp 11)), none, []⟩, ⟨(some 114), (.fAddr 1 (.tmp 8)), none, []⟩, ⟨(some 115), (.load1 (.tmp 114)), none, []⟩, ⟨(some 116), (.callv (.tmp 113) [(.tmp 115)]), none, []⟩, ⟨(some 117), (.callv (.func 46) [(.tmp 112), (.tmp 116), (.const (.int .i64 73))]), none, []⟩])))))) (.seq (.seq (.ops [⟨(some 119), (.bin .eql (.tmp 80) (.const (.int .i64 3))), none, []⟩, ⟨(some 118), (.mov (.tmp 119)), none, []⟩]) (.cond (.tmp 118) .skip (.ops [⟨(some 120), (.bin .eql (.tmp 80) (.const (.int .i64 4))), none, []⟩, ⟨(some 118), (.mov (.tmp 120)), none, []⟩]))) (.cond (.tmp 118) (.ops [⟨(some 121), (.mov (.tmp 0)), none, []⟩, ⟨(some 122), (.mov (.tmp 0)), none, []⟩, ⟨(some 123), (.nilChk (.tmp 122)), none, []⟩, ⟨(some 124), (.fAddr 0 (.tmp 123)), none, []⟩, ⟨(some 126), (.fAddr 1 (.tmp 5)), none, []⟩, ⟨(some 127), (.fAddr 0 (.tmp 126)), none, []⟩, ⟨(some 125), (.loadN 6 (.tmp 124)), none, []⟩, ⟨(some 128), (.load1 (.tmp 127)), none, []⟩, ⟨(some 129), (.callv (.func 42) [(.tmp 125), (.tmp 128)]), none, []⟩, ⟨(some 130), (.bin .geq (.tmp 129) (.const (.int .i64 0))), none, []⟩, ⟨(some 131), (.callv (.func 46) [(.tmp 121), (.tmp 130), (.const (.int .i64 72))]), none, []⟩]) (.seq (.ops [⟨(some 133), (.bin .eql (.tmp 80) (.const (.int .i64 5))), none, []⟩, ⟨(some 132), (.mov (.tmp 133)), none, []⟩]) (.cond (.tmp 132) (.seq (.ops [⟨(some 135), (.mov (.tmp 0)), none, []⟩, ⟨(some 136), (.nilChk (.tmp 135)), none, []⟩, ⟨(some 137), (.fAddr 0 (.tmp 136)), none, []⟩, ⟨(some 139), (.fAddr 1 (.tmp 5)), none, []⟩, ⟨(some 138), (.loadN 6 (.tmp 137)), none, []⟩, ⟨(some 140), (.loadN 2 (.tmp 139)), none, []⟩, ⟨(some 141), (.callv (.func 56) [(.tmp 138), (.tmp 140)]), none, []⟩, ⟨(some 134), (.mov (.tmp 141)), none, []⟩, ⟨(some 142), (.extract (.tmp 134) 0), none, []⟩, ⟨(some 143), (.extract (.tmp 134) 1), none, []⟩, ⟨(some 12), (.alloc [(.string (bs [])), (.int .i64 0)]), none, []⟩, ⟨none, (.store 2 (.tmp 12) (.tmp 142)), none, []⟩, ⟨(some 13), (.mov (.tmp 143)), none, []⟩]) (.seq (.ops [⟨(some 144), (.mov (.tmp 0)), none, []⟩, ⟨(some 145), (.mov (.tmp 13)), none, []⟩, ⟨(some 146), (.mov (.tmp 145)), none, []⟩, ⟨(some 147), (.fAddr 1 (.tmp 5)), (some (146, true)), []⟩, ⟨(some 148), (.fAddr 0 (.tmp 147)), (some (146, true)), []⟩, ⟨(some 149), (.load1 (.tmp 148)), (some (146, true)), []⟩, ⟨(some 150), (.bin .neq (.tmp 149) (.const (.string (bs [109, 101, 116, 97])))), (some (146, true)), []⟩, ⟨(some 151), (.pick (.tmp 146) (.tmp 150) (.const (.bool false))), none, []⟩, ⟨(some 152), (.callv (.func 46) [(.tmp 144), (.tmp 151), (.const (.int .i64 72))]), none, []⟩]) (.ops [⟨(some 153), (.mov (.tmp 0)), none, []⟩, ⟨(some 154), (.fAddr 1 (.tmp 12)), none, []⟩, ⟨(some 155), (.load1 (.tmp 154)), none, []⟩, ⟨(some 156), (.bin .eql (.tmp 155) (.const (.int .i64 16))), none, []⟩, ⟨(some 157), (.callv (.func 46) [(.tmp 153), (.tmp 156), (.const (.int .i64 73))]), none, []⟩]))) .skip))))))))))))) [])
def g90 : AFunc := (.code 9 (.seq (.ops [⟨(some 2), (.box (.tmp 0)), none, []⟩, ⟨(some 3), (.box (.tmp 1)), none, []⟩, ⟨(some 4), (.mov (.const (.int .i64 0))), none, []⟩]) (.seq (.ops [⟨(some 5), (.fAddr 3 (.tmp 2)), none, []⟩, ⟨(some 6), (.load1 (.tmp 5)), none, []⟩, ⟨(some 7), (.mkFunc 107 [] [(.tmp 3)]), none, []⟩, ⟨(some 8), (.callv (.func 106) [(.tmp 6), (.tmp 7)]), none, []⟩, ⟨(some 4), (.mov (.tmp 8)), none, []⟩]) .ret)) [(.tmp 4)])
def g91 : AFunc := (.code 70 (.seq (.ops [⟨(some 3), (.box (.tmp 0)), none, []⟩, ⟨(some 5), (.box (.tmp 2)), none, []⟩, ⟨(some 6), (.mov (.const (.int .i64 0))), none, []⟩]) (.seq (.ops [⟨(some 12), (.mov (.tmp 1)), none, []⟩, ⟨(some 15), (.fAddr 0 (.tmp 5)), none, []⟩, ⟨(some 11), (.loadN 6 (.tmp 3)), none, []⟩, ⟨(some 14), (.loadN 6 (.tmp 3)), none, []⟩, ⟨(some 16), (.load1 (.tmp 15)), none, []⟩, ⟨(some 13), (.callv (.func 40) [(.tmp 11), (.tmp 12)]), none, [(3, 1), (15, 1)]⟩, ⟨(some 17), (.callv (.func 90) [(.tmp 14), (.tmp 16)]), none, []⟩, ⟨(some 7), (.mov (.tmp 13)), none, []⟩, ⟨(some 8), (.mov (.tmp 17)), none, []⟩]) (.seq (.block 0 (.seq (.ops [⟨(some 19), (.mov (.tmp 7)), none, []⟩, ⟨(some 20), (.bin .lss (.tmp 19) (.const (.int .i64 0))), none, []⟩, ⟨(some 18), (.mov (.tmp 20)), none, []⟩]) (.cond (.tmp 18) (.seq (.ops [⟨(some 6), (.mov (.const (.int .i64 110))), none, []⟩]) .ret) (.seq (.ops [⟨(some 22), (.mov (.tmp 8)), none, []⟩, ⟨(some 23), (.bin .lss (.tmp 22) (.const (.int .i64 0))), none, []⟩, ⟨(some 24), (.mov (.tmp 23)), none, []⟩, ⟨(some 25), (.fAddr 4 (.tmp 3)), (some (24, false)), []⟩, ⟨(some 27), (.mov (.tmp 7)), (some (24, false)), []⟩, ⟨(some 31), (.fAddr 0 (.tmp 5)), (some (24, false)), []⟩, ⟨(some 26), (.load1 (.tmp 25)), (some (24, false)), []⟩, ⟨(some 28), (.iAddrSl 7 (.tmp 26) (.tmp 27)), (some (24, false)), []⟩, ⟨(some 29), (.fAddr 2 (.tmp 28)), (some (24, false)), []⟩, ⟨(some 30), (.load1 (.tmp 29)), (some (24, false)), []⟩, ⟨(some 32), (.load1 (.tmp 31)), (some (24, false)), []⟩, ⟨(some 33), (.callv (.func 35) [(.tmp 30), (.tmp 32)]), (some (24, false)), []⟩, ⟨(some 34), (.un .not (.tmp 33)), (some (24, false)), []⟩, ⟨(some 35), (.pick (.tmp 24) (.const (.bool true)) (.tmp 34)), none, []⟩, ⟨(some 21), (.mov (.tmp 35)), none, []⟩]) (.cond (.tmp 21) (.seq (.ops [⟨(some 6), (.mov (.const (.int .i64 113))), none, []⟩]) .ret) (.seq (.ops [⟨(some 37), (.fAddr 3 (.tmp 3)), none, []⟩, ⟨(some 39), (.mov (.tmp 8)), none, []⟩, ⟨(some 44), (.fAddr 1 (.tmp 5)), none, []⟩, ⟨(some 38), (.load1 (.tmp 37)), none, []⟩, ⟨(some 40), (.iAddrSl 3 (.tmp 38) (.tmp 39)), none, []⟩, ⟨(some 41), (.fAddr 1 (.tmp 40)), none, []⟩, ⟨(some 42), (.load1 (.tmp 41)), none, []⟩, ⟨(some 43), (.lenSl (.tmp 42)), none, []⟩, ⟨(some 45), (.load1 (.tmp 44)), none, []⟩, ⟨(some 46), (.lenSl (.tmp 45)), none, []⟩, ⟨(some 47), (.bin .neq (.tmp 43) (.tmp 46)), none, []⟩, ⟨(some 36), (.mov (.tmp 47)), none, []⟩]) (.cond (.tmp 36) (.seq (.ops [⟨(some 6), (.mov (.const (.int .i64 76))), none, []⟩]) .ret) .skip))))))) (.seq (.seq (.ops [⟨(some 48), (.fAddr 3 (.tmp 3)), none, []⟩, ⟨(some 49), (.load1 (.tmp 48)), none, []⟩, ⟨(some 50), (.mov (.tmp 8)), none, []⟩, ⟨(some 51), (.iAddrSl 3 (.tmp 49) (.tmp 50)), none, []⟩, ⟨(some 52), (.fAddr 1 (.tmp 51)), none, []⟩, ⟨(some 53), (.load1 (.tmp 52)), none, []⟩, ⟨(some 54), (.lenSl (.tmp 53)), none, []⟩, ⟨(some 55), (.mov (.const (.int .i64 0))), none, []⟩]) (.block 1 (.loop (.seq (.ops [⟨(some 56), (.bin .lss (.tmp 55) (.tmp 54)), none, []⟩]) (.seq (.cond (.tmp 56) .skip (.exit 1)) (.seq (.block 2 (.seq (.ops [⟨(some 57), (.mov (.tmp 55)), none, []⟩, ⟨(some 58), (.iAddrSl 2 (.tmp 53) (.tmp 55)), none, []⟩, ⟨(some 59), (.loadN 2 (.tmp 58)), none, []⟩, ⟨(some 10), (.alloc [(.string (bs [])), (.int .i64 0)]), none, []⟩, ⟨(some 9), (.mov (.tmp 57)), none, []⟩, ⟨none, (.store 2 (.tmp 10) (.tmp 59)), none, []⟩]) (.seq (.ops [⟨(some 60), (.fAddr 1 (.tmp 5)), none, []⟩, ⟨(some 62), (.mov (.tmp 9)), none, []⟩, ⟨(some 65), (.fAddr 1 (.tmp 10)), none, []⟩, ⟨(some 61), (.load1 (.tmp 60)), none, []⟩, ⟨(some 63), (.iAddrSl 2 (.tmp 61) (.tmp 62)), none, []⟩, ⟨(some 64), (.loadN 2 (.tmp 63)), none, []⟩, ⟨(some 66), (.load1 (.tmp 65)), none, []⟩, ⟨(some 67), (.callv (.func 87) [(.tmp 64), (.tmp 66)]), none, []⟩, ⟨(some 68), (.un .not (.tmp 67)), none, []⟩]) (.cond (.tmp 68) (.seq (.ops [⟨(some 6), (.mov (.const (.int .i64 76))), none, []⟩]) .ret) .skip)))) (.ops [⟨(some 69), (.bin .add (.tmp 55) (.const (.int .i64 1))), none, []⟩, ⟨(some 55), (.mov (.tmp 69)), none, []⟩]))))))) (.seq (.ops [⟨(some 6), (.mov (.const (.int .i64 0))), none, []⟩]) .ret))))) [(.tmp 6)])
def g92 : AFunc := (.code 106 (.seq (.ops [⟨(some 3), (.box (.tmp 1)), none, []⟩]) (.seq (.seq (.ops [⟨(some 10), (.fAddr 0 (.tmp 3)), none, []⟩, ⟨(some 11), (.load1 (.tmp 10)), none, []⟩, ⟨(some 12), (.bin .eql (.tmp 11) (.const (.int .i64 1))), none, []⟩]) (.cond (.tmp 12) (.seq (.ops [⟨(some 13), (.mov (.tmp 0)), none, []⟩, ⟨(some 14), (.loadN 9 (.tmp 3)), none, []⟩, ⟨(some 15), (.fAddr 0 (.tmp 3)), none, []⟩, ⟨(some 16), (.load1 (.tmp 15)), none, []⟩, ⟨(some 17), (.fAddr 1 (.tmp 3)), none, []⟩, ⟨(some 18), (.fAddr 0 (.tmp 17)), none, []⟩, ⟨(some 19), (.fAddr 0 (.tmp 18)), none, []⟩, ⟨(some 20), (.load1 (.tmp 19)), none, []⟩, ⟨(some 21), (.build [(.string (bs [])), (.string (bs []))] [(0, (1, (.tmp 20)))]), none, []⟩, ⟨(some 22), (.build [(.string (bs [])), (.string (bs [])), (.int .u64 0), (.int .u64 0)] [(0, (2, (.tmp 21)))]), none, []⟩, ⟨(some 23), (.build [(.int .i64 0), (.string (bs [])), (.string (bs [])), (.int .u64 0), (.int .u64 0), (.string (bs [])), (.string (bs [])), (.int .u64 0), (.int .u64 0)] [(0, (1, (.tmp 16))), (1, (4, (.tmp 22)))]), none, []⟩, ⟨(some 24), (.eqs false 9 [(0, 1), (1, 2), (2, 2), (3, 1), (4, 1), (5, 2), (6, 2), (7, 1), (8, 1)] (.tmp 14) (.tmp 23)), none, []⟩, ⟨(some 25), (.callv (.func 46) [(.tmp 13), (.tmp 24), (.const (.int .i64 75))]), none, []⟩]) (.seq (.ops [⟨(some 26), (.mov (.tmp 0)), none, []⟩, ⟨(some 27), (.mov (.tmp 0)), none, []⟩, ⟨(some 28), (.nilChk (.tmp 27)), none, []⟩, ⟨(some 29), (.fAddr 0 (.tmp 28)), none, []⟩, ⟨(some 31), (.fAddr 1 (.tmp 3)), none, []⟩, ⟨(some 32), (.fAddr 0 (.tmp 31)), none, []⟩, ⟨(some 33), (.fAddr 0 (.tmp 32)), none, []⟩, ⟨(some 30), (.loadN 6 (.tmp 29)), none, []⟩, ⟨(some 34), (.load1 (.tmp 33)), none, []⟩, ⟨(some 35), (.callv (.func 42) [(.tmp 30), (.tmp 34)]), none, []⟩, ⟨(some 36), (.bin .geq (.tmp 35) (.const (.int .i64 0))), none, []⟩, ⟨(some 37), (.callv (.func 46) [(.tmp 26), (.tmp 36), (.const (.int .i64 72))]), none, []⟩]) .ret)) .skip)) (.seq (.ops [⟨(some 38), (.mov (.tmp 0)), none, []⟩, ⟨(some 39), (.fAddr 0 (.tmp 3)), none, []⟩, ⟨(some 40), (.load1 (.tmp 39)), none, []⟩, ⟨(some 41), (.bin .geq (.tmp 40) (.const (.int .i64 2))), none, []⟩, ⟨(some 42), (.mov (.tmp 41)), none, []⟩, ⟨(some 43), (.fAddr 0 (.tmp 3)), (some (42, true)), []⟩, ⟨(some 44), (.load1 (.tmp 43)), (some (42, true)), []⟩, ⟨(some 45), (.bin .leq (.tmp 44) (.const (.int .i64 5))), (some (42, true)), []⟩, ⟨(some 46), (.pick (.tmp 42) (.tmp 45) (.const (.bool false))), none, []⟩, ⟨(some 47), (.mov (.tmp 46)), none, []⟩, ⟨(some 48), (.fAddr 1 (.tmp 3)), (some (47, true)), []⟩, ⟨(some 49), (.loadN 4 (.tmp 48)), (some (47, true)), []⟩, ⟨(some 50), (.callv (.func 104) [(.tmp 49)]), (some (47, true)), []⟩, ⟨(some 51), (.pick (.tmp 47) (.tmp 50) (.const (.bool false))), none, []⟩, ⟨(some 52), (.mov (.tmp 51)), none, []⟩, ⟨(some 53), (.fAddr 5 (.tmp 3)), (some (52, true)), []⟩, ⟨(some 54), (.loadN 4 (.tmp 53)), (some (52, true)), []⟩, ⟨(some 55), (.callv (.func 104) [(.tmp 54)]), (some (52, true)), []⟩, ⟨(some 56), (.pick (.tmp 52) (.tmp 55) (.const (.bool false))), none, []⟩, ⟨(some 57), (.callv (.func 46) [(.tmp 38), (.tmp 56), (.const (.int .i64 75))]), none, []⟩]) (.seq (.ops [⟨(some 58), (.mov (.tmp 0)), none, []⟩, ⟨(some 59), (.fAddr 1 (.tmp 3)), none, []⟩, ⟨(some 60), (.loadN 4 (.tmp 59)), none, []⟩, ⟨(some 61), (.callv (.func 105) [(.tmp 58), (.const (.slice none 0 0)), (.tmp 60)]), none, []⟩, ⟨(some 4), (.mov (.tmp 61)), none, []⟩]) (.seq (.ops [⟨(some 62), (.mov (.tmp 0)), none, []⟩, ⟨(some 63), (.fAddr 5 (.tmp 3)), none, []⟩, ⟨(some 64), (.loadN 4 (.tmp 63)), none, []⟩, ⟨(some 65), (.callv (.func 105) [(.tmp 62), (.const (.slice none 0 0)), (.tmp 64)]), none, []⟩, ⟨(some 5), (.mov (.tmp 65)), none, []⟩]) (.seq (.ops [⟨(some 67), (.mov (.tmp 0)), none, []⟩, ⟨(some 68), (.nilChk (.tmp 67)), none, []⟩, ⟨(some 69), (.fAddr 0 (.tmp 68)), none, []⟩, ⟨(some 71), (.fAddr 1 (.tmp 3)), none, []⟩, ⟨(some 72), (.fAddr 0 (.tmp 71)), none, []⟩, ⟨(some 70), (.loadN 6 (.tmp 69)), none, []⟩, ⟨(some 73), (.loadN 2 (.tmp 72)), none, []⟩, ⟨(some 74), (.callv (.func 56) [(.tmp 70), (.tmp 73)]), none, []⟩, ⟨(some 66), (.mov (.tmp 74)), none, []⟩, ⟨(some 75), (.extract (.tmp 66) 0), none, []⟩, ⟨(some 76), (.extract (.tmp 66) 1), none, []⟩, ⟨(some 6), (.alloc [(.string (bs [])), (.int .i64 0)]), none, []⟩, ⟨none, (.store 2 (.tmp 6) (.tmp 75)), none, []⟩, ⟨(some 7), (.mov (.tmp 76)), none, []⟩]) (.seq (.ops [⟨(some 78), (.mov (.tmp 0)), none, []⟩, ⟨(some 79), (.nilChk (.tmp 78)), none, []⟩, ⟨(some 80), (.fAddr 0 (.tmp 79)), none, []⟩, ⟨(some 82), (.fAddr 5 (.tmp 3)), none, []⟩, ⟨(some 83), (.fAddr 0 (.tmp 82)), none, []⟩, ⟨(some 81), (.loadN 6 (.tmp 80)), none, []⟩, ⟨(some 84), (.loadN 2 (.tmp 83)), none, []⟩, ⟨(some 85), (.callv (.func 56) [(.tmp 81), (.tmp 84)]), none, []⟩, ⟨(some 77), (.mov (.tmp 85)), none, []⟩, ⟨(some 86), (.extract (.tmp 77) 0), none, []⟩, ⟨(some 87), (.extract (.tmp 77) 1), none, []⟩, ⟨(some 8), (.alloc [(.string (bs [])), (.int .i64 0)]), none, []⟩, ⟨none, (.store 2 (.tmp 8) (.tmp 86)), none, []⟩, ⟨(some 9), (.mov (.tmp 87)), none, []⟩]) (.block 0 (.seq (.ops [⟨(some 91), (.mov (.tmp 7)), none, []⟩, ⟨(some 90), (.mov (.tmp 91)), none, []⟩]) (.cond (.tmp 90) (.ops [⟨(some 92), (.mov (.tmp 0)), none, []⟩, ⟨(some 93), (.mov (.tmp 5)), none, []⟩, ⟨(some 94), (.fAddr 1 (.tmp 6)), none, []⟩, ⟨(some 95), (.load1 (.tmp 94)), none, []⟩, ⟨(some 96), (.callv (.tmp 93) [(.tmp 95)]), none, []⟩, ⟨(some 97), (.callv (.func 46) [(.tmp 92), (.tmp 96), (.const (.int .i64 73))]), none, []⟩]) (.seq (.ops [⟨(some 99), (.mov (.tmp 9)), none, []⟩, ⟨(some 98), (.mov (.tmp 99)), none, []⟩]) (.cond (.tmp 98) (.ops [⟨(some 100), (.mov (.tmp 0)), none, []⟩, ⟨(some 101), (.mov (.tmp 4)), none, []⟩, ⟨(some 102), (.fAddr 1 (.tmp 8)), none, []⟩, ⟨(some 103), (.load1 (.tmp 102)), none, []⟩, ⟨(some 104), (.callv (.tmp 101) [(.tmp 103)]), none, []⟩, ⟨(some 105), (.callv (.func 46) [(.tmp 100), (.tmp 104), (.const (.int .i64 73))]), none, []⟩]) (.ops [⟨(some 88), (.mov (.tmp 0)), none, []⟩, ⟨(some 89), (.callv (.func 46) [(.tmp 88), (.const (.bool false)), (.const (.int .i64 73))]), none, []⟩]))))))))))))) [])
def g93 : AFunc := (.code 19 (.seq (.ops [⟨(some 4), (.mov (.const (.int .i64 0))), none, []⟩]) (.seq (.seq (.ops [⟨(some 6), (.mov (.tmp 0)), none, []⟩, ⟨(some 7), (.lenSl (.tmp 6)), none, []⟩, ⟨(some 8), (.mov (.const (.int .i64 0))), none, []⟩]) (.block 0 (.loop (.seq (.ops [⟨(some 9), (.bin .lss (.tmp 8) (.tmp 7)), none, []⟩]) (.seq (.cond (.tmp 9) .skip (.exit 0)) (.seq (.block 1 (.seq (.ops [⟨(some 10), (.mov (.tmp 8)), none, []⟩, ⟨(some 5), (.mov (.tmp 10)), none, []⟩]) (.seq (.ops [⟨(some 11), (.mov (.tmp 1)), none, []⟩, ⟨(some 12), (.mov (.tmp 0)), none, []⟩, ⟨(some 13), (.mov (.tmp 5)), none, []⟩, ⟨(some 14), (.iAddrSl 3 (.tmp 12) (.tmp 13)), none, []⟩, ⟨(some 15), (.loadN 3 (.tmp 14)), none, []⟩, ⟨(some 16), (.callv (.tmp 11) [(.tmp 15)]), none, []⟩]) (.cond (.tmp 16) (.seq (.ops [⟨(some 17), (.mov (.tmp 5)), none, []⟩, ⟨(some 4), (.mov (.tmp 17)), none, []⟩]) .ret) .skip)))) (.ops [⟨(some 18), (.bin .add (.tmp 8) (.const (.int .i64 1))), none, []⟩, ⟨(some 8), (.mov (.tmp 18)), none, []⟩]))))))) (.seq (.ops [⟨(some 4), (.mov (.const (.int .i64 (-1)))), none, []⟩]) .ret))) [(.tmp 4)])
def g94 : AFunc := (.code 8 (.seq (.ops [⟨(some 3), (.box (.tmp 1)), none, []⟩, ⟨(some 4), (.mov (.const (.int .i64 0))), none, []⟩]) (.seq (.ops [⟨(some 5), (.mov (.tmp 0)), none, []⟩, ⟨(some 6), (.mkFunc 109 [] [(.tmp 3)]), none, []⟩, ⟨(some 7), (.callv (.func 108) [(.tmp 5), (.tmp 6)]), none, []⟩, ⟨(some 4), (.mov (.tmp 7)), none, []⟩]) .ret)) [(.tmp 4)])
def g95 : AFunc := (.code 26 (.seq (.ops [⟨(some 4), (.mov (.const (.bool false))), none, []⟩]) (.seq (.seq (.ops [⟨(some 6), (.mov (.tmp 0)), none, []⟩, ⟨(some 7), (.lenSl (.tmp 6)), none, []⟩, ⟨(some 8), (.mov (.tmp 1)), none, []⟩, ⟨(some 9), (.lenSl (.tmp 8)), none, []⟩, ⟨(some 10), (.bin .neq (.tmp 7) (.tmp 9)), none, []⟩]) (.cond (.tmp 10) (.seq (.ops [⟨(some 4), (.mov (.const (.bool false))), none, []⟩]) .ret) .skip)) (.seq (.seq (.ops [⟨(some 11), (.mov (.tmp 0)), none, []⟩, ⟨(some 12), (.lenSl (.tmp 11)), none, []⟩, ⟨(some 13), (.mov (.const (.int .i64 0))), none, []⟩]) (.block 0 (.loop (.seq (.ops [⟨(some 14), (.bin .lss (.tmp 13) (.tmp 12)), none, []⟩]) (.seq (.cond (.tmp 14) .skip (.exit 0)) (.seq (.block 1 (.seq (.ops [⟨(some 15), (.mov (.tmp 13)), none, []⟩, ⟨(some 5), (.mov (.tmp 15)), none, []⟩]) (.seq (.ops [⟨(some 16), (.mov (.tmp 0)), none, []⟩, ⟨(some 17), (.mov (.tmp 5)), none, []⟩, ⟨(some 18), (.iAddrSl 3 (.tmp 16) (.tmp 17)), none, []⟩, ⟨(some 20), (.mov (.tmp 1)), none, []⟩, ⟨(some 21), (.mov (.tmp 5)), none, []⟩, ⟨(some 22), (.iAddrSl 3 (.tmp 20) (.tmp 21)), none, []⟩, ⟨(some 19), (.loadN 3 (.tmp 18)), none, []⟩, ⟨(some 23), (.loadN 3 (.tmp 22)), none, []⟩, ⟨(some 24), (.eqs true 3 [(0, 2), (1, 2), (2, 1)] (.tmp 19) (.tmp 23)), none, []⟩]) (.cond (.tmp 24) (.seq (.ops [⟨(some 4), (.mov (.const (.bool false))), none, []⟩]) .ret) .skip)))) (.ops [⟨(some 25), (.bin .add (.tmp 13) (.const (.int .i64 1))), none, []⟩, ⟨(some 13), (.mov (.tmp 25)), none, []⟩]))))))) (.seq (.ops [⟨(some 4), (.mov (.const (.bool true))), none, []⟩]) .ret)))) [(.tmp 4)])
def g96 : AFunc := (.code 26 (.seq (.ops [⟨(some 4), (.mov (.const (.bool false))), none, []⟩]) (.seq (.seq (.ops [⟨(some 6), (.mov (.tmp 0)), none, []⟩, ⟨(some 7), (.lenSl (.tmp 6)), none, []⟩, ⟨(some 8), (.mov (.tmp 1)), none, []⟩, ⟨(some 9), (.lenSl (.tmp 8)), none, []⟩, ⟨(some 10), (.bin .neq (.tmp 7) (.tmp 9)), none, []⟩]) (.cond (.tmp 10) (.seq (.ops [⟨(some 4), (.mov (.const (.bool false))), none, []⟩]) .ret) .skip)) (.seq (.seq (.ops [⟨(some 11), (.mov (.tmp 0)), none, []⟩, ⟨(some 12), (.lenSl (.tmp 11)), none, []⟩, ⟨(some 13), (.mov (.const (.int .i64 0))), none, []⟩]) (.block 0 (.loop (.seq (.ops [⟨(some 14), (.bin .lss (.tmp 13) (.tmp 12)), none, []⟩]) (.seq (.cond (.tmp 14) .skip (.exit 0)) (.seq (.block 1 (.seq (.ops [⟨(some 15), (.mov (.tmp 13)), none, []⟩, ⟨(some 5), (.mov (.tmp 15)), none, []⟩]) (.seq (.ops [⟨(some 16), (.mov (.tmp 0)), none, []⟩, ⟨(some 17), (.mov (.tmp 5)), none, []⟩, ⟨(some 18), (.iAddrSl 1 (.tmp 16) (.tmp 17)), none, []⟩, ⟨(some 20), (.mov (.tmp 1)), none, []⟩, ⟨(some 21), (.mov (.tmp 5)), none, []⟩, ⟨(some 22), (.iAddrSl 1 (.tmp 20) (.tmp 21)), none, []⟩, ⟨(some 19), (.load1 (.tmp 18)), none, []⟩, ⟨(some 23), (.load1 (.tmp 22)), none, []⟩, ⟨(some 24), (.bin .neq (.tmp 19) (.tmp 23)), none, []⟩]) (.cond (.tmp 24) (.seq (.ops [⟨(some 4), (.mov (.const (.bool false))), none, []⟩]) .ret) .skip)))) (.ops [⟨(some 25), (.bin .add (.tmp 13) (.const (.int .i64 1))), none, []⟩, ⟨(some 13), (.mov (.tmp 25)), none, []⟩]))))))) (.seq (.ops [⟨(some 4), (.mov (.const (.bool true))), none, []⟩]) .ret)))) [(.tmp 4)])
def g97 : AFunc := (.code 26 (.seq (.ops [⟨(some 4), (.mov (.const (.bool false))), none, []⟩]) (.seq (.seq (.ops [⟨(some 6), (.mov (.tmp 0)), none, []⟩, ⟨(some 7), (.lenSl (.tmp 6)), none, []⟩, ⟨(some 8), (.mov (.tmp 1)), none, []⟩, ⟨(some 9), (.lenSl (.tmp 8)), none, []⟩, ⟨(some 10), (.bin .neq (.tmp 7) (.tmp 9)), none, []⟩]) (.cond (.tmp 10) (.seq (.ops [⟨(some 4), (.mov (.const (.bool false))), none, []⟩]) .ret) .skip)) (.seq (.seq (.ops [⟨(some 11), (.mov (.tmp 0)), none, []⟩, ⟨(some 12), (.lenSl (.tmp 11)), none, []⟩, ⟨(some 13), (.mov (.const (.int .i64 0))), none, []⟩]) (.block 0 (.loop (.seq (.ops [⟨(some 14), (.bin .lss (.tmp 13) (.tmp 12)), none, []⟩]) (.seq (.cond (.tmp 14) .skip (.exit 0)) (.seq (.block 1 (.seq (.ops [⟨(some 15), (.mov (.tmp 13)), none, []⟩, ⟨(some 5), (.mov (.tmp 15)), none, []⟩]) (.seq (.ops [⟨(some 16), (.mov (.tmp 0)), none, []⟩, ⟨(some 17), (.mov (.tmp 5)), none, []⟩, ⟨(some 18), (.iAddrSl 2 (.tmp 16) (.tmp 17)), none, []⟩, ⟨(some 20), (.mov (.tmp 1)), none, []⟩, ⟨(some 21), (.mov (.tmp 5)), none, []⟩, ⟨(some 22), (.iAddrSl 2 (.tmp 20) (.tmp 21)), none, []⟩, ⟨(some 19), (.loadN 2 (.tmp 18)), none, []⟩, ⟨(some 23), (.loadN 2 (.tmp 22)), none, []⟩, ⟨(some 24), (.eqs true 2 [(0, 1), (1, 1)] (.tmp 19) (.tmp 23)), none, []⟩]) (.cond (.tmp 24) (.seq (.ops [⟨(some 4), (.mov (.const (.bool false))), none, []⟩]) .ret) .skip)))) (.ops [⟨(some 25), (.bin .add (.tmp 13) (.const (.int .i64 1))), none, []⟩, ⟨(some 13), (.mov (.tmp 25)), none, []⟩]))))))) (.seq (.ops [⟨(some 4), (.mov (.const (.bool true))), none, []⟩]) .ret)))) [(.tmp 4)])
def g98 : AFunc := (.code 32 (.seq (.ops [⟨(some 6), (.mov (.const (.bool false))), none, []⟩]) (.seq (.seq (.ops [⟨(some 10), (.mov (.tmp 0)), none, []⟩, ⟨(some 11), (.lenSl (.tmp 10)), none, []⟩, ⟨(some 12), (.mov (.tmp 1)), none, []⟩, ⟨(some 13), (.lenSl (.tmp 12)), none, []⟩, ⟨(some 14), (.bin .neq (.tmp 11) (.tmp 13)), none, []⟩]) (.cond (.tmp 14) (.seq (.ops [⟨(some 6), (.mov (.const (.bool false))), none, []⟩]) .ret) .skip)) (.seq (.seq (.ops [⟨(some 15), (.mov (.tmp 0)), none, []⟩, ⟨(some 16), (.lenSl (.tmp 15)), none, []⟩, ⟨(some 17), (.mov (.const (.int .i64 0))), none, []⟩]) (.block 0 (.loop (.seq (.ops [⟨(some 18), (.bin .lss (.tmp 17) (.tmp 16)), none, []⟩]) (.seq (.cond (.tmp 18) .skip (.exit 0)) (.seq (.block 1 (.seq (.ops [⟨(some 19), (.mov (.tmp 17)), none, []⟩, ⟨(some 20), (.iAddrSl 13 (.tmp 15) (.tmp 17)), none, []⟩, ⟨(some 21), (.loadN 13 (.tmp 20)), none, []⟩, ⟨(some 8), (.alloc [(.int .i64 0), (.string (bs [])), (.int .i64 0), (.string (bs [])), (.string (bs [])), (.int .u64 0), (.int .u64 0), (.string (bs [])), (.string (bs [])), (.int .u64 0), (.int .u64 0), (.slice none 0 0), (.slice none 0 0)]), none, []⟩, ⟨(some 7), (.mov (.tmp 19)), none, []⟩, ⟨none, (.store 13 (.tmp 8) (.tmp 21)), none, []⟩]) (.seq (.ops [⟨(some 22), (.mov (.tmp 1)), none, []⟩, ⟨(some 23), (.mov (.tmp 7)), none, []⟩, ⟨(some 24), (.iAddrSl 13 (.tmp 22) (.tmp 23)), none, []⟩, ⟨(some 25), (.loadN 13 (.tmp 24)), none, []⟩, ⟨(some 9), (.alloc [(.int .i64 0), (.string (bs [])), (.int .i64 0), (.string (bs [])), (.string (bs [])), (.int .u64 0), (.int .u64 0), (.string (bs [])), (.string (bs [])), (.int .u64 0), (.int .u64 0), (.slice none 0 0), (.slice none 0 0)]), none, []⟩, ⟨none, (.store 13 (.tmp 9) (.tmp 25)), none, []⟩]) (.seq (.ops [⟨(some 26), (.mov (.tmp 2)), none, []⟩, ⟨(some 27), (.loadN 13 (.tmp 8)), none, []⟩, ⟨(some 28), (.loadN 13 (.tmp 9)), none, []⟩, ⟨(some 29), (.callv (.tmp 26) [(.tmp 27), (.tmp 28)]), none, []⟩, ⟨(some 30), (.un .not (.tmp 29)), none, []⟩]) (.cond (.tmp 30) (.seq (.ops [⟨(some 6), (.mov (.const (.bool false))), none, []⟩]) .ret) .skip))))) (.ops [⟨(some 31), (.bin .add (.tmp 17) (.const (.int .i64 1))), none, []⟩, ⟨(some 17), (.mov (.tmp 31)), none, []⟩]))))))) (.seq (.ops [⟨(some 6), (.mov (.const (.bool true))), none, []⟩]) .ret)))) [(.tmp 6)])
def g99 : AFunc := (.code 38 (.seq (.ops [⟨(some 2), (.box (.tmp 0)), none, []⟩, ⟨(some 3), (.box (.tmp 1)), none, []⟩, ⟨(some 4), (.mov (.const (.bool false))), none, []⟩]) (.seq (.ops [⟨(some 5), (.fAddr 0 (.tmp 2)), none, []⟩, ⟨(some 6), (.load1 (.tmp 5)), none, []⟩, ⟨(some 7), (.fAddr 0 (.tmp 3)), none, []⟩, ⟨(some 8), (.load1 (.tmp 7)), none, []⟩, ⟨(some 9), (.bin .eql (.tmp 6) (.tmp 8)), none, []⟩, ⟨(some 10), (.mov (.tmp 9)), none, []⟩, ⟨(some 11), (.fAddr 1 (.tmp 2)), (some (10, true)), []⟩, ⟨(some 12), (.load1 (.tmp 11)), (some (10, true)), []⟩, ⟨(some 13), (.fAddr 1 (.tmp 3)), (some (10, true)), []⟩, ⟨(some 14), (.load1 (.tmp 13)), (some (10, true)), []⟩, ⟨(some 15), (.bin .eql (.tmp 12) (.tmp 14)), (some (10, true)), []⟩, ⟨(some 16), (.pick (.tmp 10) (.tmp 15) (.const (.bool false))), none, []⟩, ⟨(some 17), (.mov (.tmp 16)), none, []⟩, ⟨(some 18), (.fAddr 2 (.tmp 2)), (some (17, true)), []⟩, ⟨(some 19), (.loadN 9 (.tmp 18)), (some (17, true)), []⟩, ⟨(some 20), (.fAddr 2 (.tmp 3)), (some (17, true)), []⟩, ⟨(some 21), (.loadN 9 (.tmp 20)), (some (17, true)), []⟩, ⟨(some 22), (.eqs false 9 [(0, 1), (1, 2), (2, 2), (3, 1), (4, 1), (5, 2), (6, 2), (7, 1), (8, 1)] (.tmp 19) (.tmp 21)), (some (17, true)), []⟩, ⟨(some 23), (.pick (.tmp 17) (.tmp 22) (.const (.bool false))), none, []⟩, ⟨(some 24), (.mov (.tmp 23)), none, []⟩, ⟨(some 25), (.fAddr 11 (.tmp 2)), (some (24, true)), []⟩, ⟨(some 26), (.load1 (.tmp 25)), (some (24, true)), []⟩, ⟨(some 27), (.fAddr 11 (.tmp 3)), (some (24, true)), []⟩, ⟨(some 28), (.load1 (.tmp 27)), (some (24, true)), []⟩, ⟨(some 29), (.callv (.func 68) [(.tmp 26), (.tmp 28)]), (some (24, true)), []⟩, ⟨(some 30), (.pick (.tmp 24) (.tmp 29) (.const (.bool false))), none, []⟩, ⟨(some 31), (.mov (.tmp 30)), none, []⟩, ⟨(some 32), (.fAddr 12 (.tmp 2)), (some (31, true)), []⟩, ⟨(some 33), (.load1 (.tmp 32)), (some (31, true)), []⟩, ⟨(some 34), (.fAddr 12 (.tmp 3)), (some (31, true)), []⟩, ⟨(some 35), (.load1 (.tmp 34)), (some (31, true)), []⟩, ⟨(some 36), (.callv (.func 68) [(.tmp 33), (.tmp 35)]), (some (31, true)), []⟩, ⟨(some 37), (.pick (.tmp 31) (.tmp 36) (.const (.bool false))), none, []⟩, ⟨(some 4), (.mov (.tmp 37)), none, []⟩]) .ret)) [(.tmp 4)])
def g100 : AFunc := (.code 8 (.seq (.ops [⟨(some 2), (.mov (.const (.slice none 0 0))), none, []⟩]) (.seq (.seq (.ops [⟨(some 3), (.mov (.tmp 0)), none, []⟩, ⟨(some 4), (.eqp 1 false (.tmp 3) (.const (.slice none 0 0))), none, []⟩]) (.cond (.tmp 4) (.seq (.ops [⟨(some 2), (.mov (.const (.slice none 0 0))), none, []⟩]) .ret) .skip)) (.seq (.ops [⟨(some 5), (.buildSlice 12 0 [] []), none, []⟩, ⟨(some 6), (.mov (.tmp 0)), none, []⟩, ⟨(some 7), (.append 12 144 (.tmp 5) (.tmp 6)), none, []⟩, ⟨(some 2), (.mov (.tmp 7)), none, []⟩]) .ret))) [(.tmp 2)])
def g101 : AFunc := (.code 8 (.seq (.ops [⟨(some 2), (.mov (.const (.slice none 0 0))), none, []⟩]) (.seq (.seq (.ops [⟨(some 3), (.mov (.tmp 0)), none, []⟩, ⟨(some 4), (.eqp 1 false (.tmp 3) (.const (.slice none 0 0))), none, []⟩]) (.cond (.tmp 4) (.seq (.ops [⟨(some 2), (.mov (.const (.slice none 0 0))), none, []⟩]) .ret) .skip)) (.seq (.ops [⟨(some 5), (.buildSlice 13 0 [] []), none, []⟩, ⟨(some 6), (.mov (.tmp 0)), none, []⟩, ⟨(some 7), (.append 13 176 (.tmp 5) (.tmp 6)), none, []⟩, ⟨(some 2), (.mov (.tmp 7)), none, []⟩]) .ret))) [(.tmp 2)])
def g102 : AFunc := (.code 19 (.seq (.ops [⟨(some 4), (.mov (.const (.int .i64 0))), none, []⟩]) (.seq (.seq (.ops [⟨(some 6), (.mov (.tmp 0)), none, []⟩, ⟨(some 7), (.lenSl (.tmp 6)), none, []⟩, ⟨(some 8), (.mov (.const (.int .i64 0))), none, []⟩]) (.block 0 (.loop (.seq (.ops [⟨(some 9), (.bin .lss (.tmp 8) (.tmp 7)), none, []⟩]) (.seq (.cond (.tmp 9) .skip (.exit 0)) (.seq (.block 1 (.seq (.ops [⟨(some 10), (.mov (.tmp 8)), none, []⟩, ⟨(some 5), (.mov (.tmp 10)), none, []⟩]) (.seq (.ops [⟨(some 11), (.mov (.tmp 1)), none, []⟩, ⟨(some 12), (.mov (.tmp 0)), none, []⟩, ⟨(some 13), (.mov (.tmp 5)), none, []⟩, ⟨(some 14), (.iAddrSl 7 (.tmp 12) (.tmp 13)), none, []⟩, ⟨(some 15), (.loadN 7 (.tmp 14)), none, []⟩, ⟨(some 16), (.callv (.tmp 11) [(.tmp 15)]), none, []⟩]) (.cond (.tmp 16) (.seq (.ops [⟨(some 17), (.mov (.tmp 5)), none, []⟩, ⟨(some 4), (.mov (.tmp 17)), none, []⟩]) .ret) .skip)))) (.ops [⟨(some 18), (.bin .add (.tmp 8) (.const (.int .i64 1))), none, []⟩, ⟨(some 8), (.mov (.tmp 18)), none, []⟩]))))))) (.seq (.ops [⟨(some 4), (.mov (.const (.int .i64 (-1)))), none, []⟩]) .ret))) [(.tmp 4)])
def g103 : AFunc := (.code 19 (.seq (.ops [⟨(some 4), (.mov (.const (.int .i64 0))), none, []⟩]) (.seq (.seq (.ops [⟨(some 6), (.mov (.tmp 0)), none, []⟩, ⟨(some 7), (.lenSl (.tmp 6)), none, []⟩, ⟨(some 8), (.mov (.const (.int .i64 0))), none, []⟩]) (.block 0 (.loop (.seq (.ops [⟨(some 9), (.bin .lss (.tmp 8) (.tmp 7)), none, []⟩]) (.seq (.cond (.tmp 9) .skip (.exit 0)) (.seq (.block 1 (.seq (.ops [⟨(some 10), (.mov (.tmp 8)), none, []⟩, ⟨(some 5), (.mov (.tmp 10)), none, []⟩]) (.seq (.ops [⟨(some 11), (.mov (.tmp 1)), none, []⟩, ⟨(some 12), (.mov (.tmp 0)), none, []⟩, ⟨(some 13), (.mov (.tmp 5)), none, []⟩, ⟨(some 14), (.iAddrSl 2 (.tmp 12) (.tmp 13)), none, []⟩, ⟨(some 15), (.loadN 2 (.tmp 14)), none, []⟩, ⟨(some 16), (.callv (.tmp 11) [(.tmp 15)]), none, []⟩]) (.cond (.tmp 16) (.seq (.ops [⟨(some 17), (.mov (.tmp 5)), none, []⟩, ⟨(some 4), (.mov (.tmp 17)), none, []⟩]) .ret) .skip)))) (.ops [⟨(some 18), (.bin .add (.tmp 8) (.const (.int .i64 1))), none, []⟩, ⟨(some 8), (.mov (.tmp 18)), none, []⟩]))))))) (.seq (.ops [⟨(some 4), (.mov (.const (.int .i64 (-1)))), none, []⟩]) .ret))) [(.tmp 4)])
def g104 : AFunc := (.code 13 (.seq (.ops [⟨(some 1), (.box (.tmp 0)), none, []⟩, ⟨(some 2), (.mov (.const (.bool false))), none, []⟩]) (.seq (.ops [⟨(some 3), (.fAddr 0 (.tmp 1)), none, []⟩, ⟨(some 4), (.loadN 2 (.tmp 3)), none, []⟩, ⟨(some 5), (.build [(.string (bs [])), (.string (bs []))] []), none, []⟩, ⟨(some 6), (.eqs false 2 [(0, 2), (1, 2)] (.tmp 4) (.tmp 5)), none, []⟩, ⟨(some 7), (.mov (.tmp 6)), none, []⟩, ⟨(some 8), (.fAddr 2 (.tmp 1)), (some (7, false)), []⟩, ⟨(some 9), (.loadN 2 (.tmp 8)), (some (7, false)), []⟩, ⟨(some 10), (.build [(.int .u64 0), (.int .u64 0)] []), (some (7, false)), []⟩, ⟨(some 11), (.eqs false 2 [(0, 1), (1, 1)] (.tmp 9) (.tmp 10)), (some (7, false)), []⟩, ⟨(some 12), (.pick (.tmp 7) (.const (.bool true)) (.tmp 11)), none, []⟩, ⟨(some 2), (.mov (.tmp 12)), none, []⟩]) .ret)) [(.tmp 2)])
def g105 : AFunc := (.code 44 (.seq (.ops [⟨(some 5), (.box (.tmp 2)), none, []⟩, ⟨(some 6), (.mov (.const .nilFunc)), none, []⟩]) (.seq (.seq (.ops [⟨(some 10), (.fAddr 0 (.tmp 5)), none, []⟩, ⟨(some 11), (.loadN 2 (.tmp 10)), none, []⟩, ⟨(some 12), (.build [(.string (bs [])), (.string (bs []))] []), none, []⟩, ⟨(some 13), (.eqs false 2 [(0, 2), (1, 2)] (.tmp 11) (.tmp 12)), none, []⟩]) (.cond (.tmp 13) (.seq (.ops [⟨(some 14), (.mkFunc 110 [] [(.tmp 5)]), none, []⟩, ⟨(some 6), (.mov (.tmp 14)), none, []⟩]) .ret) .skip)) (.seq (.ops [⟨(some 16), (.mov (.tmp 0)), none, []⟩, ⟨(some 17), (.nilChk (.tmp 16)), none, []⟩, ⟨(some 18), (.fAddr 0 (.tmp 17)), none, []⟩, ⟨(some 20), (.fAddr 0 (.tmp 5)), none, []⟩, ⟨(some 19), (.loadN 6 (.tmp 18)), none, []⟩, ⟨(some 21), (.loadN 2 (.tmp 20)), none, []⟩, ⟨(some 22), (.callv (.func 56) [(.tmp 19), (.tmp 21)]), none, []⟩, ⟨(some 15), (.mov (.tmp 22)), none, []⟩, ⟨(some 23), (.extract (.tmp 15) 0), none, []⟩, ⟨(some 24), (.extract (.tmp 15) 1), none, []⟩, ⟨(some 7), (.alloc [(.string (bs [])), (.int .i64 0)]), none, []⟩, ⟨none, (.store 2 (.tmp 7) (.tmp 23)), none, []⟩, ⟨(some 8), (.mov (.tmp 24)), none, []⟩]) (.seq (.seq (.ops [⟨(some 25), (.fAddr 0 (.tmp 5)), none, []⟩, ⟨(some 26), (.fAddr 0 (.tmp 25)), none, []⟩, ⟨(some 27), (.load1 (.tmp 26)), none, []⟩, ⟨(some 28), (.bin .eql (.tmp 27) (.const (.string (bs [])))), none, []⟩]) (.cond (.tmp 28) (.seq (.ops [⟨(some 29), (.mov (.tmp 1)), none, []⟩, ⟨(some 30), (.fAddr 0 (.tmp 5)), none, []⟩, ⟨(some 31), (.fAddr 1 (.tmp 30)), none, []⟩, ⟨(some 32), (.load1 (.tmp 31)), none, []⟩, ⟨(some 33), (.callv (.func 94) [(.tmp 29), (.tmp 32)]), none, []⟩, ⟨(some 9), (.mov (.tmp 33)), none, []⟩]) (.seq (.ops [⟨(some 34), (.mov (.tmp 9)), none, []⟩, ⟨(some 35), (.bin .geq (.tmp 34) (.const (.int .i64 0))), none, []⟩]) (.cond (.tmp 35) (.ops [⟨(some 36), (.mov (.tmp 1)), none, []⟩, ⟨(some 37), (.mov (.tmp 9)), none, []⟩, ⟨(some 38), (.iAddrSl 2 (.tmp 36) (.tmp 37)), none, []⟩, ⟨(some 39), (.loadN 2 (.tmp 38)), none, []⟩, ⟨none, (.store 2 (.tmp 7) (.tmp 39)), none, []⟩, ⟨(some 8), (.mov (.const (.bool true))), none, []⟩]) .skip))) .skip)) (.seq (.ops [⟨(some 40), (.mov (.tmp 0)), none, []⟩, ⟨(some 41), (.mov (.tmp 8)), none, []⟩, ⟨(some 42), (.callv (.func 46) [(.tmp 40), (.tmp 41), (.const (.int .i64 72))]), none, []⟩]) (.seq (.ops [⟨(some 43), (.mkFunc 111 [] [(.tmp 7)]), none, []⟩, ⟨(some 6), (.mov (.tmp 43)), none, []⟩]) .ret)))))) [(.tmp 6)])
def g106 : AFunc := (.code 8 (.seq (.ops [⟨(some 4), (.mov (.const (.int .i64 0))), none, []⟩]) (.seq (.ops [⟨(some 5), (.mov (.tmp 0)), none, []⟩, ⟨(some 6), (.mov (.tmp 1)), none, []⟩, ⟨(some 7), (.callv (.func 112) [(.tmp 5), (.tmp 6)]), none, []⟩, ⟨(some 4), (.mov (.tmp 7)), none, []⟩]) .ret)) [(.tmp 4)])
def g107 : AFunc := (.code 8 (.seq (.ops [⟨(some 2), (.box (.tmp 0)), none, []⟩, ⟨(some 3), (.mov (.const (.bool false))), none, []⟩]) (.seq (.ops [⟨(some 4), (.fAddr 0 (.tmp 2)), none, []⟩, ⟨(some 5), (.load1 (.tmp 4)), none, []⟩, ⟨(some 6), (.load1 (.tmp 1)), none, []⟩, ⟨(some 7), (.bin .eql (.tmp 5) (.tmp 6)), none, []⟩, ⟨(some 3), (.mov (.tmp 7)), none, []⟩]) .ret)) [(.tmp 3)])
def g108 : AFunc := (.code 8 (.seq (.ops [⟨(some 4), (.mov (.const (.int .i64 0))), none, []⟩]) (.seq (.ops [⟨(some 5), (.mov (.tmp 0)), none, []⟩, ⟨(some 6), (.mov (.tmp 1)), none, []⟩, ⟨(some 7), (.callv (.func 113) [(.tmp 5), (.tmp 6)]), none, []⟩, ⟨(some 4), (.mov (.tmp 7)), none, []⟩]) .ret)) [(.tmp 4)])
def g109 : AFunc := (.code 8 (.seq (.ops [⟨(some 2), (.box (.tmp 0)), none, []⟩, ⟨(some 3), (.mov (.const (.bool false))), none, []⟩]) (.seq (.ops [⟨(some 4), (.fAddr 0 (.tmp 2)), none, []⟩, ⟨(some 5), (.load1 (.tmp 4)), none, []⟩, ⟨(some 6), (.load1 (.tmp 1)), none, []⟩, ⟨(some 7), (.bin .eql (.tmp 5) (.tmp 6)), none, []⟩, ⟨(some 3), (.mov (.tmp 7)), none, []⟩]) .ret)) [(.tmp 3)])
def g110 : AFunc := (.code 8 (.seq (.ops [⟨(some 3), (.mov (.const (.bool false))), none, []⟩]) (.seq (.ops [⟨(some 4), (.fAddr 2 (.tmp 1)), none, []⟩, ⟨(some 5), (.loadN 2 (.tmp 4)), none, []⟩, ⟨(some 6), (.mov (.tmp 0)), none, []⟩, ⟨(some 7), (.callv (.func 87) [(.tmp 5), (.tmp 6)]), none, []⟩, ⟨(some 3), (.mov (.tmp 7)), none, []⟩]) .ret)) [(.tmp 3)])
def g111 : AFunc := (.code 8 (.seq (.ops [⟨(some 3), (.mov (.const (.bool false))), none, []⟩]) (.seq (.ops [⟨(some 4), (.fAddr 1 (.tmp 1)), none, []⟩, ⟨(some 5), (.load1 (.tmp 4)), none, []⟩, ⟨(some 6), (.mov (.tmp 0)), none, []⟩, ⟨(some 7), (.bin .eql (.tmp 5) (.tmp 6)), none, []⟩, ⟨(some 3), (.mov (.tmp 7)), none, []⟩]) .ret)) [(.tmp 3)])
def g112 : AFunc := (.code 19 (.seq (.ops [⟨(some 4), (.mov (.const (.int .i64 0))), none, []⟩]) (.seq (.seq (.ops [⟨(some 6), (.mov (.tmp 0)), none, []⟩, ⟨(some 7), (.lenSl (.tmp 6)), none, []⟩, ⟨(some 8), (.mov (.const (.int .i64 0))), none, []⟩]) (.block 0 (.loop (.seq (.ops [⟨(some 9), (.bin .lss (.tmp 8) (.tmp 7)), none, []⟩]) (.seq (.cond (.tmp 9) .skip (.exit 0)) (.seq (.block 1 (.seq (.ops [⟨(some 10), (.mov (.tmp 8)), none, []⟩, ⟨(some 5), (.mov (.tmp 10)), none, []⟩]) (.seq (.ops [⟨(some 11), (.mov (.tmp 1)), none, []⟩, ⟨(some 12), (.mov (.tmp 0)), none, []⟩, ⟨(some 13), (.mov (.tmp 5)), none, []⟩, ⟨(some 14), (.iAddrSl 3 (.tmp 12) (.tmp 13)), none, []⟩, ⟨(some 15), (.loadN 3 (.tmp 14)), none, []⟩, ⟨(some 16), (.callv (.tmp 11) [(.tmp 15)]), none, []⟩]) (.cond (.tmp 16) (.seq (.ops [⟨(some 17), (.mov (.tmp 5)), none, []⟩, ⟨(some 4), (.mov (.tmp 17)), none, []⟩]) .ret) .skip)))) (.ops [⟨(some 18), (.bin .add (.tmp 8) (.const (.int .i64 1))), none, []⟩, ⟨(some 8), (.mov (.tmp 18)), none, []⟩]))))))) (.seq (.ops [⟨(some 4), (.mov (.const (.int .i64 (-1)))), none, []⟩]) .ret))) [(.tmp 4)])
def g113 : AFunc := (.code 19 (.seq (.ops [⟨(some 4), (.mov (.const (.int .i64 0))), none, []⟩]) (.seq (.seq (.ops [⟨(some 6), (.mov (.tmp 0)), none, []⟩, ⟨(some 7), (.lenSl (.tmp 6)), none, []⟩, ⟨(some 8), (.mov (.const (.int .i64 0))), none, []⟩]) (.block 0 (.loop (.seq (.ops [⟨(some 9), (.bin .lss (.tmp 8) (.tmp 7)), none, []⟩]) (.seq (.cond (.tmp 9) .skip (.exit 0)) (.seq (.block 1 (.seq (.ops [⟨(some 10), (.mov (.tmp 8)), none, []⟩, ⟨(some 5), (.mov (.tmp 10)), none, []⟩]) (.seq (.ops [⟨(some 11), (.mov (.tmp 1)), none, []⟩, ⟨(some 12), (.mov (.tmp 0)), none, []⟩, ⟨(some 13), (.mov (.tmp 5)), none, []⟩, ⟨(some 14), (.iAddrSl 2 (.tmp 12) (.tmp 13)), none, []⟩, ⟨(some 15), (.loadN 2 (.tmp 14)), none, []⟩, ⟨(some 16), (.callv (.tmp 11) [(.tmp 15)]), none, []⟩]) (.cond (.tmp 16) (.seq (.ops [⟨(some 17), (.mov (.tmp 5)), none, []⟩, ⟨(some 4), (.mov (.tmp 17)), none, []⟩]) .ret) .skip)))) (.ops [⟨(some 18), (.bin .add (.tmp 8) (.const (.int .i64 1))), none, []⟩, ⟨(some 8), (.mov (.tmp 18)), none, []⟩]))))))) (.seq (.ops [⟨(some 4), (.mov (.const (.int .i64 (-1)))), none, []⟩]) .ret))) [(.tmp 4)])
end Go.Proofs.Ytpllhhaeclnngaa.Ev

/- The table of the evaluator's functions; each is what the program's own function is laid as. Conditions: none. -/
namespace Go.Proofs.Ytpllhhaeclnngaa.Ev
set_option maxRecDepth 100000
noncomputable def T : Pg := ⟨Try.prog, Try.prog.globals.size⟩
theorem follows : T.P.follows .mixedOrders = true := by kernel_rfl
theorem t3 : Laid T 3 g3 := ⟨Try.f3, Try.func3, by kernel_rfl⟩
theorem t5 : Laid T 5 g5 := ⟨Try.f5, Try.func5, by kernel_rfl⟩
theorem t8 : Laid T 8 g8 := ⟨Try.f8, Try.func8, by kernel_rfl⟩
theorem t9 : Laid T 9 g9 := ⟨Try.f9, Try.func9, by kernel_rfl⟩
theorem t10 : Laid T 10 g10 := ⟨Try.f10, Try.func10, by kernel_rfl⟩
theorem t11 : Laid T 11 g11 := ⟨Try.f11, Try.func11, by kernel_rfl⟩
theorem t12 : Laid T 12 g12 := ⟨Try.f12, Try.func12, by kernel_rfl⟩
theorem t13 : Laid T 13 g13 := ⟨Try.f13, Try.func13, by kernel_rfl⟩
theorem t14 : Laid T 14 g14 := ⟨Try.f14, Try.func14, by kernel_rfl⟩
theorem t15 : Laid T 15 g15 := ⟨Try.f15, Try.func15, by kernel_rfl⟩
theorem t16 : Laid T 16 g16 := ⟨Try.f16, Try.func16, by kernel_rfl⟩
theorem t17 : Laid T 17 g17 := ⟨Try.f17, Try.func17, by kernel_rfl⟩
theorem t18 : Laid T 18 g18 := ⟨Try.f18, Try.func18, by kernel_rfl⟩
theorem t19 : Laid T 19 g19 := ⟨Try.f19, Try.func19, by kernel_rfl⟩
theorem t20 : Laid T 20 g20 := ⟨Try.f20, Try.func20, by kernel_rfl⟩
theorem t21 : Laid T 21 g21 := ⟨Try.f21, Try.func21, by kernel_rfl⟩
theorem t22 : Laid T 22 g22 := ⟨Try.f22, Try.func22, by kernel_rfl⟩
theorem t23 : Laid T 23 g23 := ⟨Try.f23, Try.func23, by kernel_rfl⟩
theorem t24 : Laid T 24 g24 := ⟨Try.f24, Try.func24, by kernel_rfl⟩
theorem t25 : Laid T 25 g25 := ⟨Try.f25, Try.func25, by kernel_rfl⟩
theorem t26 : Laid T 26 g26 := ⟨Try.f26, Try.func26, by kernel_rfl⟩
theorem t27 : Laid T 27 g27 := ⟨Try.f27, Try.func27, by kernel_rfl⟩
theorem t28 : Laid T 28 g28 := ⟨Try.f28, Try.func28, by kernel_rfl⟩
theorem t29 : Laid T 29 g29 := ⟨Try.f29, Try.func29, by kernel_rfl⟩
theorem t30 : Laid T 30 g30 := ⟨Try.f30, Try.func30, by kernel_rfl⟩
theorem t31 : Laid T 31 g31 := ⟨Try.f31, Try.func31, by kernel_rfl⟩
theorem t32 : Laid T 32 g32 := ⟨Try.f32, Try.func32, by kernel_rfl⟩
theorem t33 : Laid T 33 g33 := ⟨Try.f33, Try.func33, by kernel_rfl⟩
theorem t34 : Laid T 34 g34 := ⟨Try.f34, Try.func34, by kernel_rfl⟩
theorem t35 : Laid T 35 g35 := ⟨Try.f35, Try.func35, by kernel_rfl⟩
theorem t36 : Laid T 36 g36 := ⟨Try.f36, Try.func36, by kernel_rfl⟩
theorem t37 : Laid T 37 g37 := ⟨Try.f37, Try.func37, by kernel_rfl⟩
theorem t38 : Laid T 38 g38 := ⟨Try.f38, Try.func38, by kernel_rfl⟩
theorem t39 : Laid T 39 g39 := ⟨Try.f39, Try.func39, by kernel_rfl⟩
theorem t40 : Laid T 40 g40 := ⟨Try.f40, Try.func40, by kernel_rfl⟩
theorem t41 : Laid T 41 g41 := ⟨Try.f41, Try.func41, by kernel_rfl⟩
theorem t42 : Laid T 42 g42 := ⟨Try.f42, Try.func42, by kernel_rfl⟩
theorem t43 : Laid T 43 g43 := ⟨Try.f43, Try.func43, by kernel_rfl⟩
theorem t44 : Laid T 44 g44 := ⟨Try.f44, Try.func44, by kernel_rfl⟩
theorem t45 : Laid T 45 g45 := ⟨Try.f45, Try.func45, by kernel_rfl⟩
theorem t46 : Laid T 46 g46 := ⟨Try.f46, Try.func46, by kernel_rfl⟩
theorem t47 : Laid T 47 g47 := ⟨Try.f47, Try.func47, by kernel_rfl⟩
theorem t48 : Laid T 48 g48 := ⟨Try.f48, Try.func48, by kernel_rfl⟩
theorem t49 : Laid T 49 g49 := ⟨Try.f49, Try.func49, by kernel_rfl⟩
theorem t50 : Laid T 50 g50 := ⟨Try.f50, Try.func50, by kernel_rfl⟩
theorem t51 : Laid T 51 g51 := ⟨Try.f51, Try.func51, by kernel_rfl⟩
theorem t52 : Laid T 52 g52 := ⟨Try.f52, Try.func52, by kernel_rfl⟩
theorem t53 : Laid T 53 g53 := ⟨Try.f53, Try.func53, by kernel_rfl⟩
theorem t54 : Laid T 54 g54 := ⟨Try.f54, Try.func54, by kernel_rfl⟩
theorem t55 : Laid T 55 g55 := ⟨Try.f55, Try.func55, by kernel_rfl⟩
theorem t56 : Laid T 56 g56 := ⟨Try.f56, Try.func56, by kernel_rfl⟩
theorem t57 : Laid T 57 g57 := ⟨Try.f57, Try.func57, by kernel_rfl⟩
theorem t58 : Laid T 58 g58 := ⟨Try.f58, Try.func58, by kernel_rfl⟩
theorem t59 : Laid T 59 g59 := ⟨Try.f59, Try.func59, by kernel_rfl⟩
theorem t60 : Laid T 60 g60 := ⟨Try.f60, Try.func60, by kernel_rfl⟩
theorem t61 : Laid T 61 g61 := ⟨Try.f61, Try.func61, by kernel_rfl⟩
theorem t62 : Laid T 62 g62 := ⟨Try.f62, Try.func62, by kernel_rfl⟩
theorem t63 : Laid T 63 g63 := ⟨Try.f63, Try.func63, by kernel_rfl⟩
theorem t64 : Laid T 64 g64 := ⟨Try.f64, Try.func64, by kernel_rfl⟩
theorem t65 : Laid T 65 g65 := ⟨Try.f65, Try.func65, by kernel_rfl⟩
theorem t66 : Laid T 66 g66 := ⟨Try.f66, Try.func66, by kernel_rfl⟩
theorem t67 : Laid T 67 g67 := ⟨Try.f67, Try.func67, by kernel_rfl⟩
theorem t68 : Laid T 68 g68 := ⟨Try.f68, Try.func68, by kernel_rfl⟩
theorem t69 : Laid T 69 g69 := ⟨Try.f69, Try.func69, by kernel_rfl⟩
theorem t70 : Laid T 70 g70 := ⟨Try.f70, Try.func70, by kernel_rfl⟩
theorem t71 : Laid T 71 g71 := ⟨Try.f71, Try.func71, by kernel_rfl⟩
theorem t72 : Laid T 72 g72 := ⟨Try.f72, Try.func72, by kernel_rfl⟩
theorem t73 : Laid T 73 g73 := ⟨Try.f73, Try.func73, by kernel_rfl⟩
theorem t74 : Laid T 74 g74 := ⟨Try.f74, Try.func74, by kernel_rfl⟩
theorem t75 : Laid T 75 g75 := ⟨Try.f75, Try.func75, by kernel_rfl⟩
theorem t76 : Laid T 76 g76 := ⟨Try.f76, Try.func76, by kernel_rfl⟩
theorem t77 : Laid T 77 g77 := ⟨Try.f77, Try.func77, by kernel_rfl⟩
theorem t78 : Laid T 78 g78 := ⟨Try.f78, Try.func78, by kernel_rfl⟩
theorem t79 : Laid T 79 g79 := ⟨Try.f79, Try.func79, by kernel_rfl⟩
theorem t80 : Laid T 80 g80 := ⟨Try.f80, Try.func80, by kernel_rfl⟩
theorem t81 : Laid T 81 g81 := ⟨Try.f81, Try.func81, by kernel_rfl⟩
theorem t82 : Laid T 82 g82 := ⟨Try.f82, Try.func82, by kernel_rfl⟩
theorem t83 : Laid T 83 g83 := ⟨Try.f83, Try.func83, by kernel_rfl⟩
theorem t84 : Laid T 84 g84 := ⟨Try.f84, Try.func84, by kernel_rfl⟩
theorem t85 : Laid T 85 g85 := ⟨Try.f85, Try.func85, by kernel_rfl⟩
theorem t86 : Laid T 86 g86 := ⟨Try.f86, Try.func86, by kernel_rfl⟩
theorem t87 : Laid T 87 g87 := ⟨Try.f87, Try.func87, by kernel_rfl⟩
theorem t88 : Laid T 88 g88 := ⟨Try.f88, Try.func88, by kernel_rfl⟩
theorem t89 : Laid T 89 g89 := ⟨Try.f89, Try.func89, by kernel_rfl⟩
theorem t90 : Laid T 90 g90 := ⟨Try.f90, Try.func90, by kernel_rfl⟩
theorem t91 : Laid T 91 g91 := ⟨Try.f91, Try.func91, by kernel_rfl⟩
theorem t92 : Laid T 92 g92 := ⟨Try.f92, Try.func92, by kernel_rfl⟩
theorem t93 : Laid T 93 g93 := ⟨Try.f93, Try.func93, by kernel_rfl⟩
theorem t94 : Laid T 94 g94 := ⟨Try.f94, Try.func94, by kernel_rfl⟩
theorem t95 : Laid T 95 g95 := ⟨Try.f95, Try.func95, by kernel_rfl⟩
theorem t96 : Laid T 96 g96 := ⟨Try.f96, Try.func96, by kernel_rfl⟩
theorem t97 : Laid T 97 g97 := ⟨Try.f97, Try.func97, by kernel_rfl⟩
theorem t98 : Laid T 98 g98 := ⟨Try.f98, Try.func98, by kernel_rfl⟩
theorem t99 : Laid T 99 g99 := ⟨Try.f99, Try.func99, by kernel_rfl⟩
theorem t100 : Laid T 100 g100 := ⟨Try.f100, Try.func100, by kernel_rfl⟩
theorem t101 : Laid T 101 g101 := ⟨Try.f101, Try.func101, by kernel_rfl⟩
theorem t102 : Laid T 102 g102 := ⟨Try.f102, Try.func102, by kernel_rfl⟩
theorem t103 : Laid T 103 g103 := ⟨Try.f103, Try.func103, by kernel_rfl⟩
theorem t104 : Laid T 104 g104 := ⟨Try.f104, Try.func104, by kernel_rfl⟩
theorem t105 : Laid T 105 g105 := ⟨Try.f105, Try.func105, by kernel_rfl⟩
theorem t106 : Laid T 106 g106 := ⟨Try.f106, Try.func106, by kernel_rfl⟩
theorem t107 : Laid T 107 g107 := ⟨Try.f107, Try.func107, by kernel_rfl⟩
theorem t108 : Laid T 108 g108 := ⟨Try.f108, Try.func108, by kernel_rfl⟩
theorem t109 : Laid T 109 g109 := ⟨Try.f109, Try.func109, by kernel_rfl⟩
theorem t110 : Laid T 110 g110 := ⟨Try.f110, Try.func110, by kernel_rfl⟩
theorem t111 : Laid T 111 g111 := ⟨Try.f111, Try.func111, by kernel_rfl⟩
theorem t112 : Laid T 112 g112 := ⟨Try.f112, Try.func112, by kernel_rfl⟩
theorem t113 : Laid T 113 g113 := ⟨Try.f113, Try.func113, by kernel_rfl⟩
def Tab : Table := fun f =>
  match f with
  | 3 => some g3
  | 5 => some g5
  | 8 => some g8
  | 9 => some g9
  | 10 => some g10
  | 11 => some g11
  | 12 => some g12
  | 13 => some g13
  | 14 => some g14
  | 15 => some g15
  | 16 => some g16
  | 17 => some g17
  | 18 => some g18
  | 19 => some g19
  | 20 => some g20
  | 21 => some g21
  | 22 => some g22
  | 23 => some g23
  | 24 => some g24
  | 25 => some g25
  | 26 => some g26
  | 27 => some g27
  | 28 => some g28
  | 29 => some g29
  | 30 => some g30
  | 31 => some g31
  | 32 => some g32
  | 33 => some g33
  | 34 => some g34
  | 35 => some g35
  | 36 => some g36
  | 37 => some g37
  | 38 => some g38
  | 39 => some g39
  | 40 => some g40
  | 41 => some g41
  | 42 => some g42
  | 43 => some g43
  | 44 => some g44
  | 45 => some g45
  | 46 => some g46
  | 47 => some g47
  | 48 => some g48
  | 49 => some g49
  | 50 => some g50
  | 51 => some g51
  | 52 => some g52
  | 53 => some g53
  | 54 => some g54
  | 55 => some g55
  | 56 => some g56
  | 57 => some g57
  | 58 => some g58
  | 59 => some g59
  | 60 => some g60
  | 61 => some g61
  | 62 => some g62
  | 63 => some g63
  | 64 => some g64
  | 65 => some g65
  | 66 => some g66
  | 67 => some g67
  | 68 => some g68
  | 69 => some g69
  | 70 => some g70
  | 71 => some g71
  | 72 => some g72
  | 73 => some g73
  | 74 => some g74
  | 75 => some g75
  | 76 => some g76
  | 77 => some g77
  | 78 => some g78
  | 79 => some g79
  | 80 => some g80
  | 81 => some g81
  | 82 => some g82
  | 83 => some g83
  | 84 => some g84
  | 85 => some g85
  | 86 => some g86
  | 87 => some g87
  | 88 => some g88
  | 89 => some g89
  | 90 => some g90
  | 91 => some g91
  | 92 => some g92
  | 93 => some g93
  | 94 => some g94
  | 95 => some g95
  | 96 => some g96
  | 97 => some g97
  | 98 => some g98
  | 99 => some g99
  | 100 => some g100
  | 101 => some g101
  | 102 => some g102
  | 103 => some g103
  | 104 => some g104
  | 105 => some g105
  | 106 => some g106
  | 107 => some g107
  | 108 => some g108
  | 109 => some g109
  | 110 => some g110
  | 111 => some g111
  | 112 => some g112
  | 113 => some g113
  | _ => none
theorem table_ok : TableOK T.P T.G Tab := by
  intro f af h
  unfold Tab at h
  split at h
  · cases h; exact t3
  · cases h; exact t5
  · cases h; exact t8
  · cases h; exact t9
  · cases h; exact t10
  · cases h; exact t11
  · cases h; exact t12
  · cases h; exact t13
  · cases h; exact t14
  · cases h; exact t15
  · cases h; exact t16
  · cases h; exact t17
  · cases h; exact t18
  · cases h; exact t19
  · cases h; exact t20
  · cases h; exact t21
  · cases h; exact t22
  · cases h; exact t23
  · cases h; exact t24
  · cases h; exact t25
  · cases h; exact t26
  · cases h; exact t27
  · cases h; exact t28
  · cases h; exact t29
  · cases h; exact t30
  · cases h; exact t31
  · cases h; exact t32
  · cases h; exact t33
  · cases h; exact t34
  · cases h; exact t35
  · cases h; exact t36
  · cases h; exact t37
  · cases h; exact t38
  · cases h; exact t39
  · cases h; exact t40
  · cases h; exact t41
  · cases h; exact t42
  · cases h; exact t43
  · cases h; exact t44
  · cases h; exact t45
  · cases h; exact t46
  · cases h; exact t47
  · cases h; exact t48
  · cases h; exact t49
  · cases h; exact t50
  · cases h; exact t51
  · cases h; exact t52
  · cases h; exact t53
  · cases h; exact t54
  · cases h; exact t55
  · cases h; exact t56
  · cases h; exact t57
  · cases h; exact t58
  · cases h; exact t59
  · cases h; exact t60
  · cases h; exact t61
  · cases h; exact t62
  · cases h; exact t63
  · cases h; exact t64
  · cases h; exact t65
  · cases h; exact t66
  · cases h; exact t67
  · cases h; exact t68
  · cases h; exact t69
  · cases h; exact t70
  · cases h; exact t71
  · cases h; exact t72
  · cases h; exact t73
  · cases h; exact t74
  · cases h; exact t75
  · cases h; exact t76
  · cases h; exact t77
  · cases h; exact t78
  · cases h; exact t79
  · cases h; exact t80
  · cases h; exact t81
  · cases h; exact t82
  · cases h; exact t83
  · cases h; exact t84
  · cases h; exact t85
  · cases h; exact t86
  · cases h; exact t87
  · cases h; exact t88
  · cases h; exact t89
  · cases h; exact t90
  · cases h; exact t91
  · cases h; exact t92
  · cases h; exact t93
  · cases h; exact t94
  · cases h; exact t95
  · cases h; exact t96
  · cases h; exact t97
  · cases h; exact t98
  · cases h; exact t99
  · cases h; exact t100
  · cases h; exact t101
  · cases h; exact t102
  · cases h; exact t103
  · cases h; exact t104
  · cases h; exact t105
  · cases h; exact t106
  · cases h; exact t107
  · cases h; exact t108
  · cases h; exact t109
  · cases h; exact t110
  · cases h; exact t111
  · cases h; exact t112
  · cases h; exact t113
  · cases h
end Go.Proofs.Ytpllhhaeclnngaa.Ev

/- A call that is evaluated over nothing. -/
namespace Go.Proofs.Ytpllhhaeclnngaa.Ev
set_option maxRecDepth 100000
set_option linter.unusedSimpArgs false
set_option linter.unusedVariables false
variable {R : FRes → Heap → Prop} {H : Heap}

def isTrue : Option (FRes × Heap) → Bool
  | some (.ret (.bool true), _) => true
  | _ => false
theorem of_isTrue {x : Option (FRes × Heap)} (h : isTrue x = true) : ∃ H1, x = some (.ret (.bool true), H1) := by
  unfold isTrue at h
  split at h
  · exact ⟨_, rfl⟩
  · cases h

def H0 : Heap := []
theorem globs : T.G ≤ H0.length := by
  have : T.G = 0 := by unfold T; kernel_rfl
  rw [this]
  exact Nat.le_refl _

/-- A call that is evaluated over nothing. -/
theorem WD.frameD {f : FuncId} {args : List Value} {H0 H : Heap} {v : Value} (hp : ∃ g, H = H0 ++ g) (hG : T.G ≤ H0.length) (hro : ∀ o ∈ H0, o = .dead)
    (hargs : ∀ a ∈ args, closedV a = true) (hv : Scoped T.G v) (h : WD T f args H0 (fun r _ => r = .ret v)) {R : FRes → Heap → Prop} (hR : R (.ret v) H) : WD T f args H R := by
  obtain ⟨g, rfl⟩ := hp
  intro ρ w args' hr ha
  have hr0 : Rel T.G ρ H0 w := by
    refine ⟨fun b o ho => ?_, fun b c o u hb hc hne hw hl => ?_, hr.glob, hG⟩
    · obtain rfl := hro o (List.mem_of_getElem? ho)
      exact trivial
    · obtain rfl := hro o (List.mem_of_getElem? hb)
      cases hw
  have ha0 : VL H0.length ρ args args'.toList := ⟨ha.1, fun i x y hx hy => (ha.2 i x y hx hy).narrow (.closed (hargs x (List.mem_of_getElem? hx)))⟩
  have nofoot : ∀ c, ¬ Foot ρ H0 c := by
    rintro c ⟨b, o, hb, hw, _⟩
    obtain rfl := hro o (List.mem_of_getElem? hb)
    cases hw
  have hkk : ∀ en w1, (∃ r H1, r = .ret v ∧ RetOK T.G ρ H0 w r H1 en w1) → ∃ r H1, R r H1 ∧ RetOK T.G ρ (H0 ++ g) w r H1 en w1 := by
    rintro en w1 ⟨r, H1, rfl, ρ1, hs, v', rfl, hvr⟩
    have hold : ∀ c, c < w.heap.size → w1.heap[c]? = w.heap[c]? := fun c hc => hs.frame c hc (nofoot c)
    refine ⟨_, _, hR, ρ, ⟨⟨fun b o ho => ?_, hr.inj, hr.glob, hr.many⟩, Nat.le_refl _, fun _ _ => rfl, hs.os, hs.tape, hs.output, hs.size, fun c hc _ => hold c hc, fun c hc => .inl hc, hs.loops, fun c u hu hl => .inl ⟨u, hu, hl⟩⟩, v', rfl, ?_⟩
    · exact (hr.obj b o ho).mono (Nat.le_refl _) rfl (fun _ _ => rfl) (fun hl => hold _ (lt_of_live (hr.obj b o ho) hl))
    · have h1 : VR T.G ρ1 v v' := hvr.narrow hv
      refine (h1.mono (Nat.le_refl _) fun b hb => ?_).mono (by have := hr.many; omega) fun _ _ => rfl
      exact (hr.glob b hb).trans (hs.rel.glob b hb).symm
  rcases h ρ w args' hr0 ha0 with ⟨v', h1, h2⟩ | ⟨h1, h2⟩
  · exact .inl ⟨v', h1, hkk _ _ h2⟩
  · exact .inr ⟨h1, h2.mono hkk⟩


end Go.Proofs.Ytpllhhaeclnngaa.Ev

/- Which texts are names: the program's IsName. -/
namespace Go.Proofs.Ytpllhhaeclnngaa.Ev
set_option maxRecDepth 100000
set_option linter.unusedSimpArgs false
set_option linter.unusedVariables false
variable {R : FRes → Heap → Prop} {H : Heap}

/-- Does a text stand in another one? -/
def hasSub (p s : List UInt8) : Bool := (List.range (s.length + 1 - p.length)).any fun i => decide ((s.drop i).take p.length = p)

theorem hasSub_true {p s : List UInt8} : hasSub p s = true ↔ ∃ i, i + p.length ≤ s.length ∧ (s.drop i).take p.length = p := by
  unfold hasSub
  rw [List.any_eq_true]
  constructor
  · rintro ⟨i, hi, h⟩
    rw [List.mem_range] at hi
    exact ⟨i, by omega, of_decide_eq_true h⟩
  · rintro ⟨i, hi, h⟩
    exact ⟨i, by rw [List.mem_range]; omega, decide_eq_true h⟩

def ctI (s p : List UInt8) (H : Heap) : Nat → Env → Heap → Prop := fun z e K =>
  ∃ i : Nat, i ≤ s.length + 1 ∧ z = s.length + 1 - i ∧ K = H ∧ (∀ j, j < i → (s.drop j).take p.length ≠ p) ∧ (∃ x : Nat → Value, e = [.string (bs s), .string (bs p), x 2, x 3, x 4, .int .i64 (i : Int), x 6, x 7, x 8, x 9, x 10, x 11, x 12, x 13, x 14, x 15, x 16, x 17, x 18, x 19, x 20, x 21, x 22, x 23])

theorem contains_s {s p : List UInt8} (hs : s.length ≤ 1000000) (hp : p.length ≤ 1000000) (h : R (.ret (.bool (hasSub p s))) H) : WD T 30 [.string (bs s), .string (bs p)] H R := by
  refine WD.of follows t30 (by simp) ?_
  simp (disch := omega) only [kB, kcx, kdm, kdn, kel, aop, resultsL, resultOf, Nat.reduceEqDiff, reduceCtorEq, eq1, apartOK, apart2, AObj.live, Int.reduceEq, Int.reduceLT, Int.reduceLE, Int.reduceAdd, Int.reduceSub, Int.reduceMul, Int.reduceToNat, cutCells, Nat.reduceAdd, Nat.reduceLeDiff, Nat.reduceLT, Nat.reduceMul, Nat.reduceSub]
  refine WLoop.inv (ctI s p H) ?_ (s.length + 1) _ _ ⟨0, by omega, by omega, rfl, fun j hj => by omega, by exact ex_env rfl⟩
  rintro z e K ⟨i, hi, rfl, rfl, hno, ⟨x, rfl⟩⟩
  have w1 : IntKind.i64.wrap ((i : Int) + (p.length : Int)) = ((i + p.length : Nat) : Int) := by rw [← Int.natCast_add]; exact wr_i64 (by omega) (by omega)
  have w2 : IntKind.i64.wrap ((i : Int) + 1) = ((i + 1 : Nat) : Int) := by rw [show (i : Int) + 1 = ((i + 1 : Nat) : Int) by omega]; exact wr_i64 (by omega) (by omega)
  by_cases hle : i + p.length ≤ s.length
  · have c0 : ((i + p.length : Nat) : Int) ≤ (s.length : Int) := by omega
    have c1 : (i : Int) ≤ ((i + p.length : Nat) : Int) := by omega
    have hcut : (s.take (i + p.length)).drop i = (s.drop i).take p.length := by rw [List.drop_take]; congr 1; omega
    by_cases hq : (s.drop i).take p.length = p
    · rw [hasSub_true.2 ⟨i, hle, hq⟩] at h
      simp (disch := omega) only [kB, kcx, kdm, kdn, kel, aop, resultsL, resultOf, Nat.reduceEqDiff, reduceCtorEq, eq1, apartOK, apart2, AObj.live, Int.reduceEq, Int.reduceLT, Int.reduceLE, Int.reduceAdd, Int.reduceSub, Int.reduceMul, Int.reduceToNat, cutCells, Nat.reduceAdd, Nat.reduceLeDiff, Nat.reduceLT, Nat.reduceMul, Nat.reduceSub, w1, c0, c1, hcut, hq]
      exact h
    · simp (disch := omega) only [kB, kcx, kdm, kdn, kel, aop, resultsL, resultOf, Nat.reduceEqDiff, reduceCtorEq, eq1, apartOK, apart2, AObj.live, Int.reduceEq, Int.reduceLT, Int.reduceLE, Int.reduceAdd, Int.reduceSub, Int.reduceMul, Int.reduceToNat, cutCells, Nat.reduceAdd, Nat.reduceLeDiff, Nat.reduceLT, Nat.reduceMul, Nat.reduceSub, w1, c0, c1, hcut, hq, w2]
      refine ⟨s.length + 1 - (i + 1), by omega, i + 1, by omega, rfl, rfl, fun j hj => ?_, by exact ex_env rfl⟩
      by_cases hji : j = i
      · rw [hji]; exact hq
      · exact hno j (by omega)
  · have c0 : ¬ ((i + p.length : Nat) : Int) ≤ (s.length : Int) := by omega
    have : hasSub p s = false := by
      cases hb : hasSub p s with
      | false => rfl
      | true =>
        obtain ⟨j, hj1, hj2⟩ := hasSub_true.1 hb
        exact absurd hj2 (hno j (by omega))
    rw [this] at h
    simp (disch := omega) only [kB, kcx, kdm, kdn, kel, aop, resultsL, resultOf, Nat.reduceEqDiff, reduceCtorEq, eq1, apartOK, apart2, AObj.live, Int.reduceEq, Int.reduceLT, Int.reduceLE, Int.reduceAdd, Int.reduceSub, Int.reduceMul, Int.reduceToNat, cutCells, Nat.reduceAdd, Nat.reduceLeDiff, Nat.reduceLT, Nat.reduceMul, Nat.reduceSub, w1, c0]
    exact h

/-- The words that are no names. -/
def wordsL : List (List UInt8) := [[97, 99, 99, 101, 112, 116], [97, 99, 116, 105, 111, 110], [97, 100, 100], [97, 103, 97, 105, 110], [97, 112, 112, 108, 121], [99, 97, 110], [99, 111, 110, 116, 114, 111, 108], [100, 101, 102, 97, 117, 108, 116], [100, 114, 111, 112], [101, 108, 115, 101], [101, 120, 97, 99, 116], [101, 120, 105, 116], [102, 105, 120, 101, 100], [104, 101, 97, 100, 101, 114], [105, 102], [107, 101, 121], [109, 101, 116, 97], [111, 110], [112, 114, 101, 102, 105, 120], [114, 97, 110, 103, 101], [114, 101, 106, 101, 99, 116], [114, 101, 109, 111, 118, 101], [115, 105, 122, 101], [115, 116, 97, 116, 101], [115, 117, 109], [116, 97, 98, 108, 101], [116, 97, 107, 101], [116, 101, 114, 110, 97, 114, 121], [118, 97, 108, 105, 100]]
def resT : List UInt8 := 32 :: wordsL.flatMap (fun w => w ++ [32])

theorem sub_word {t : List UInt8} (h0 : t ≠ []) (h : ∀ c ∈ t, c ≠ 32) : hasSub (32 :: (t ++ [32])) resT = wordsL.contains t := by
  have key : ∀ i ∈ List.range resT.length, resT[i]? = some 32 → ((resT.drop (i + 1)).takeWhile fun c => decide (c ≠ 32)) = [] ∨ ((resT.drop (i + 1)).takeWhile fun c => decide (c ≠ 32)) ∈ wordsL := by decide +kernel
  have key2 : ∀ w ∈ wordsL, hasSub (32 :: (w ++ [32])) resT = true := by decide +kernel
  rw [Bool.eq_iff_iff, List.contains_iff_mem]
  constructor
  · intro hs
    obtain ⟨i, h1, h2⟩ := hasSub_true.1 hs
    have hlt : i < resT.length := by simp at h1; omega
    have hd : resT.drop i = 32 :: (t ++ [32]) ++ (resT.drop i).drop (32 :: (t ++ [32])).length := by
      have := List.take_append_drop (32 :: (t ++ [32])).length (resT.drop i)
      rw [h2] at this
      exact this.symm
    have h3 : resT[i]? = some 32 := by
      have := congrArg (·[0]?) hd
      simpa using this
    have h4 : resT.drop (i + 1) = t ++ 32 :: (resT.drop i).drop (32 :: (t ++ [32])).length := by
      rw [← List.drop_drop, hd]
      simp
    have h5 : (resT.drop (i + 1)).takeWhile (fun c => decide (c ≠ 32)) = t := by
      rw [h4, List.takeWhile_append_of_pos (fun c hc => decide_eq_true (h c hc))]
      simp
    rcases key i (List.mem_range.2 hlt) h3 with q | q
    · rw [h5] at q; exact absurd q h0
    · rwa [h5] at q
  · exact key2 t

end Go.Proofs.Ytpllhhaeclnngaa.Ev

/- The program's IsName. -/
namespace Go.Proofs.Ytpllhhaeclnngaa.Ev
set_option maxRecDepth 100000
set_option linter.unusedSimpArgs false
set_option linter.unusedVariables false
variable {R : FRes → Heap → Prop} {H : Heap}

def smallC (b : Nat) : Bool := decide (97 ≤ b ∧ b ≤ 122)
/-- May such a letter stand there in a name? -/
def okC (i b : Nat) : Bool := smallC b || (decide (i ≠ 0) && (decide (b = 95) || decide (48 ≤ b ∧ b ≤ 57)))
def okFrom : Nat → List UInt8 → Bool
  | _, [] => true
  | i, c :: l => okC i c.toNat && okFrom (i + 1) l
theorem okFrom_iff : ∀ (l : List UInt8) (k : Nat), okFrom k l = true ↔ ∀ (j : Nat) (c : UInt8), l[j]? = some c → okC (k + j) c.toNat = true
  | [], k => by simp [okFrom]
  | c :: l, k => by
    rw [okFrom, Bool.and_eq_true, okFrom_iff l (k + 1)]
    constructor
    · rintro ⟨h1, h2⟩ j d hj
      cases j with
      | zero => simp at hj; rw [← hj]; exact h1
      | succ j => simp at hj; rw [show k + (j + 1) = k + 1 + j by omega]; exact h2 j d hj
    · intro h
      exact ⟨h 0 c rfl, fun j d hj => by rw [show k + 1 + j = k + (j + 1) by omega]; exact h (j + 1) d (by simpa using hj)⟩

/-- Is it a name? -/
def isNm (l : List UInt8) : Bool := decide (l ≠ [] ∧ l.length ≤ 32) && okFrom 0 l && !wordsL.contains l

theorem ok_no32 {l : List UInt8} (h : okFrom 0 l = true) : ∀ c ∈ l, c ≠ 32 := by
  rintro c hc rfl
  obtain ⟨j, hj, he⟩ := List.getElem_of_mem hc
  have := (okFrom_iff l 0).1 h j 32 (by simp [← he])
  simp [okC, smallC] at this

theorem res_eq : ([32, 97, 99, 99, 101, 112, 116, 32, 97, 99, 116, 105, 111, 110, 32, 97, 100, 100, 32, 97, 103, 97, 105, 110, 32, 97, 112, 112, 108, 121, 32, 99, 97, 110, 32, 99, 111, 110, 116, 114, 111, 108, 32, 100, 101, 102, 97, 117, 108, 116, 32, 100, 114, 111, 112, 32, 101, 108, 115, 101, 32, 101, 120, 97, 99, 116, 32, 101, 120, 105, 116, 32, 102, 105, 120, 101, 100, 32, 104, 101, 97, 100, 101, 114, 32, 105, 102, 32, 107, 101, 121, 32, 109, 101, 116, 97, 32, 111, 110, 32, 112, 114, 101, 102, 105, 120, 32, 114, 97, 110, 103, 101, 32, 114, 101, 106, 101, 99, 116, 32, 114, 101, 109, 111, 118, 101, 32, 115, 105, 122, 101, 32, 115, 116, 97, 116, 101, 32, 115, 117, 109, 32, 116, 97, 98, 108, 101, 32, 116, 97, 107, 101, 32, 116, 101, 114, 110, 97, 114, 121, 32, 118, 97, 108, 105, 100, 32] : List UInt8) = resT := by decide +kernel

def nmI (l : List UInt8) (H : Heap) : Nat → Env → Heap → Prop := fun z e K =>
  ∃ i : Nat, i ≤ l.length ∧ z = l.length - i ∧ K = H ++ [.row (l.map fun c => .int .u8 (c.toNat : Int)) 1 true] ∧ (∀ (j : Nat) (c : UInt8), j < i → l[j]? = some c → okC j c.toNat = true) ∧
    (∃ x : Nat → Value, e = [.string (bs l), x 1, x 2, x 3, x 4, x 5, x 6, x 7, x 8, x 9, x 10, x 11, x 12, x 13, .slice (some ⟨H.length, 0, none⟩) l.length l.length, .int .i64 (l.length : Int), .int .i64 (i : Int), x 17, x 18, x 19, x 20, x 21, x 22, x 23, x 24, x 25, x 26, x 27, x 28, x 29, x 30, x 31, x 32, x 33, x 34, x 35, x 36, x 37, x 38, x 39, x 40, x 41, x 42, x 43, x 44, x 45, x 46, x 47, x 48, x 49, x 50])

set_option maxHeartbeats 4000000 in
theorem isName_s {l : List UInt8} (h : R (.ret (.bool (isNm l))) H) : WD T 9 [.string (bs l)] H R := by
  refine WD.gc0 (WD.of follows t9 (by simp) ?_)
  have fin : ∀ b : Bool, isNm l = b → ∃ v, FRes.ret (.bool b) = .ret v ∧ (∃ g, H = H ++ g) ∧ Scoped H.length v ∧ R (.ret v) H := fun b hb => by
    rw [hb] at h
    exact ⟨_, rfl, ⟨[], by simp⟩, .closed rfl, h⟩
  by_cases h0 : l = []
  · have hf : isNm l = false := by subst h0; rfl
    rw [hf] at h
    subst h0
    simp (disch := omega) only [kB, kcx, kdm, kdn, kel, aop, resultsL, resultOf, Nat.reduceEqDiff, reduceCtorEq, eq1, apartOK, apart2, AObj.live, Int.reduceEq, Int.reduceLT, Int.reduceLE, Int.reduceAdd, Int.reduceSub, Int.reduceMul, Int.reduceToNat, cutCells, Nat.reduceAdd, Nat.reduceLeDiff, Nat.reduceLT, Nat.reduceMul, Nat.reduceSub]
    exact ⟨_, rfl, ⟨[], by simp⟩, .closed rfl, h⟩
  by_cases h32 : 32 < l.length
  · have hf : isNm l = false := by unfold isNm; rw [decide_eq_false (fun q => by omega)]; rfl
    rw [hf] at h
    have c1 : (32 : Int) < (l.length : Int) := by omega
    simp (disch := omega) only [kB, kcx, kdm, kdn, kel, aop, resultsL, resultOf, Nat.reduceEqDiff, reduceCtorEq, eq1, apartOK, apart2, AObj.live, Int.reduceEq, Int.reduceLT, Int.reduceLE, Int.reduceAdd, Int.reduceSub, Int.reduceMul, Int.reduceToNat, cutCells, Nat.reduceAdd, Nat.reduceLeDiff, Nat.reduceLT, Nat.reduceMul, Nat.reduceSub, h0, c1]
    exact ⟨_, rfl, ⟨[], by simp⟩, .closed rfl, h⟩
  have c1 : ¬ (32 : Int) < (l.length : Int) := by omega
  have hlen : decide (l ≠ [] ∧ l.length ≤ 32) = true := decide_eq_true ⟨h0, by omega⟩
  simp (disch := omega) only [kB, kcx, kdm, kdn, kel, aop, resultsL, resultOf, Nat.reduceEqDiff, reduceCtorEq, eq1, apartOK, apart2, AObj.live, Int.reduceEq, Int.reduceLT, Int.reduceLE, Int.reduceAdd, Int.reduceSub, Int.reduceMul, Int.reduceToNat, cutCells, Nat.reduceAdd, Nat.reduceLeDiff, Nat.reduceLT, Nat.reduceMul, Nat.reduceSub, h0, c1]
  refine WLoop.inv (nmI l H) ?_ l.length _ _ ⟨0, Nat.zero_le _, by omega, rfl, fun j c hj => by omega, by exact ex_env rfl⟩
  rintro z e K ⟨i, hi, rfl, rfl, hok, ⟨x, rfl⟩⟩
  by_cases hlt : i < l.length
  · have c0 : (i : Int) < (l.length : Int) := by omega
    have hg : l[i]? = some l[i] := List.getElem?_eq_getElem hlt
    have hgm : (l.map fun c => Value.int .u8 (c.toNat : Int))[i]? = some (.int .u8 ((l[i].toNat : Nat) : Int)) := by rw [List.getElem?_map, hg]; rfl
    have w2 : IntKind.i64.wrap ((i : Int) + 1) = ((i + 1 : Nat) : Int) := by rw [show (i : Int) + 1 = ((i + 1 : Nat) : Int) by omega]; exact wr_i64 (by omega) (by omega)
    have next : okC i (l[i]).toNat = true → ∀ e : Env, (∃ x : Nat → Value, e = [.string (bs l), x 1, x 2, x 3, x 4, x 5, x 6, x 7, x 8, x 9, x 10, x 11, x 12, x 13, .slice (some ⟨H.length, 0, none⟩) l.length l.length, .int .i64 (l.length : Int), .int .i64 ((i + 1 : Nat) : Int), x 17, x 18, x 19, x 20, x 21, x 22, x 23, x 24, x 25, x 26, x 27, x 28, x 29, x 30, x 31, x 32, x 33, x 34, x 35, x 36, x 37, x 38, x 39, x 40, x 41, x 42, x 43, x 44, x 45, x 46, x 47, x 48, x 49, x 50]) → ∃ m, m < l.length - i ∧ nmI l H m e (H ++ [.row (l.map fun c => .int .u8 (c.toNat : Int)) 1 true]) := fun ho e he => by
      refine ⟨l.length - (i + 1), by omega, i + 1, by omega, rfl, rfl, fun j c hj hc => ?_, he⟩
      by_cases hji : j = i
      · subst hji; rw [hg] at hc; cases hc; exact ho
      · exact hok j c (by omega) hc
    have bad : okC i (l[i]).toNat = false → ∃ v, FRes.ret (.bool false) = .ret v ∧ (∃ g, H ++ [.row (l.map fun c => .int .u8 (c.toNat : Int)) 1 true] = H ++ g) ∧ Scoped H.length v ∧ R (.ret v) H := fun ho => by
      have hf : isNm l = false := by
        have : okFrom 0 l = false := by
          cases hq : okFrom 0 l with
          | false => rfl
          | true =>
            have := (okFrom_iff l 0).1 hq i l[i] hg
            rw [Nat.zero_add, ho] at this
            cases this
        unfold isNm
        rw [this, Bool.and_false, Bool.false_and]
      rw [hf] at h
      exact ⟨_, rfl, ⟨_, rfl⟩, .closed rfl, h⟩
    by_cases a1 : 97 ≤ l[i].toNat
    · have x1 : (97 : Int) ≤ ((l[i].toNat : Nat) : Int) := by omega
      by_cases a2 : l[i].toNat ≤ 122
      · have x2 : ((l[i].toNat : Nat) : Int) ≤ 122 := by omega
        simp (disch := omega) only [kB, kcx, kdm, kdn, kel, aop, resultsL, resultOf, Nat.reduceEqDiff, reduceCtorEq, eq1, apartOK, apart2, AObj.live, Int.reduceEq, Int.reduceLT, Int.reduceLE, Int.reduceAdd, Int.reduceSub, Int.reduceMul, Int.reduceToNat, cutCells, Nat.reduceAdd, Nat.reduceLeDiff, Nat.reduceLT, Nat.reduceMul, Nat.reduceSub, c0, hgm, x1, x2, w2]
        exact next (by unfold okC smallC; simp [a1, a2]) _ (by exact ex_env rfl)
      · have x2 : ¬ ((l[i].toNat : Nat) : Int) ≤ 122 := by omega
        by_cases i0 : i = 0
        · have z0 : ((i : Int) = 0) = True := eq_true (by omega)
          simp (disch := omega) only [kB, kcx, kdm, kdn, kel, aop, resultsL, resultOf, Nat.reduceEqDiff, reduceCtorEq, eq1, apartOK, apart2, AObj.live, Int.reduceEq, Int.reduceLT, Int.reduceLE, Int.reduceAdd, Int.reduceSub, Int.reduceMul, Int.reduceToNat, cutCells, Nat.reduceAdd, Nat.reduceLeDiff, Nat.reduceLT, Nat.reduceMul, Nat.reduceSub, c0, hgm, x1, x2, z0]
          exact bad (by unfold okC; rw [show smallC l[i].toNat = false from decide_eq_false (by omega), decide_eq_false (show ¬ i ≠ 0 from fun q => q i0)]; rfl)
        have z0 : ((i : Int) = 0) = False := eq_false (by omega)
        have d1 : ¬ l[i].toNat = 95 := by omega
        have y1 : (((l[i].toNat : Nat) : Int) = 95) = False := eq_false (by omega)
        have y2 : ¬ ((l[i].toNat : Nat) : Int) < 48 := by omega
        have y3 : (57 : Int) < ((l[i].toNat : Nat) : Int) := by omega
        simp (disch := omega) only [kB, kcx, kdm, kdn, kel, aop, resultsL, resultOf, Nat.reduceEqDiff, reduceCtorEq, eq1, apartOK, apart2, AObj.live, Int.reduceEq, Int.reduceLT, Int.reduceLE, Int.reduceAdd, Int.reduceSub, Int.reduceMul, Int.reduceToNat, cutCells, Nat.reduceAdd, Nat.reduceLeDiff, Nat.reduceLT, Nat.reduceMul, Nat.reduceSub, c0, hgm, x1, x2, z0, y1, y2, y3]
        exact bad (by unfold okC; rw [show smallC l[i].toNat = false from decide_eq_false (by omega), decide_eq_false d1, decide_eq_false (show ¬ (48 ≤ l[i].toNat ∧ l[i].toNat ≤ 57) by omega)]; simp)
    · have x1 : ¬ (97 : Int) ≤ ((l[i].toNat : Nat) : Int) := by omega
      by_cases i0 : i = 0
      · have z0 : ((i : Int) = 0) = True := eq_true (by omega)
        simp (disch := omega) only [kB, kcx, kdm, kdn, kel, aop, resultsL, resultOf, Nat.reduceEqDiff, reduceCtorEq, eq1, apartOK, apart2, AObj.live, Int.reduceEq, Int.reduceLT, Int.reduceLE, Int.reduceAdd, Int.reduceSub, Int.reduceMul, Int.reduceToNat, cutCells, Nat.reduceAdd, Nat.reduceLeDiff, Nat.reduceLT, Nat.reduceMul, Nat.reduceSub, c0, hgm, x1, z0]
        exact bad (by unfold okC; rw [show smallC l[i].toNat = false from decide_eq_false (by omega), decide_eq_false (show ¬ i ≠ 0 from fun q => q i0)]; rfl)
      have z0 : ((i : Int) = 0) = False := eq_false (by omega)
      by_cases d1 : l[i].toNat = 95
      · have y1 : (((l[i].toNat : Nat) : Int) = 95) = True := eq_true (by omega)
        simp (disch := omega) only [kB, kcx, kdm, kdn, kel, aop, resultsL, resultOf, Nat.reduceEqDiff, reduceCtorEq, eq1, apartOK, apart2, AObj.live, Int.reduceEq, Int.reduceLT, Int.reduceLE, Int.reduceAdd, Int.reduceSub, Int.reduceMul, Int.reduceToNat, cutCells, Nat.reduceAdd, Nat.reduceLeDiff, Nat.reduceLT, Nat.reduceMul, Nat.reduceSub, c0, hgm, x1, z0, y1, w2]
        exact next (by unfold okC; rw [decide_eq_true (show i ≠ 0 from i0), decide_eq_true d1]; simp) _ (by exact ex_env rfl)
      have y1 : (((l[i].toNat : Nat) : Int) = 95) = False := eq_false (by omega)
      by_cases d2 : l[i].toNat < 48
      · have y2 : ((l[i].toNat : Nat) : Int) < 48 := by omega
        simp (disch := omega) only [kB, kcx, kdm, kdn, kel, aop, resultsL, resultOf, Nat.reduceEqDiff, reduceCtorEq, eq1, apartOK, apart2, AObj.live, Int.reduceEq, Int.reduceLT, Int.reduceLE, Int.reduceAdd, Int.reduceSub, Int.reduceMul, Int.reduceToNat, cutCells, Nat.reduceAdd, Nat.reduceLeDiff, Nat.reduceLT, Nat.reduceMul, Nat.reduceSub, c0, hgm, x1, z0, y1, y2]
        exact bad (by unfold okC; rw [show smallC l[i].toNat = false from decide_eq_false (by omega), decide_eq_false d1, decide_eq_false (show ¬ (48 ≤ l[i].toNat ∧ l[i].toNat ≤ 57) by omega)]; simp)
      have y2 : ¬ ((l[i].toNat : Nat) : Int) < 48 := by omega
      by_cases d3 : 57 < l[i].toNat
      · have y3 : (57 : Int) < ((l[i].toNat : Nat) : Int) := by omega
        simp (disch := omega) only [kB, kcx, kdm, kdn, kel, aop, resultsL, resultOf, Nat.reduceEqDiff, reduceCtorEq, eq1, apartOK, apart2, AObj.live, Int.reduceEq, Int.reduceLT, Int.reduceLE, Int.reduceAdd, Int.reduceSub, Int.reduceMul, Int.reduceToNat, cutCells, Nat.reduceAdd, Nat.reduceLeDiff, Nat.reduceLT, Nat.reduceMul, Nat.reduceSub, c0, hgm, x1, z0, y1, y2, y3]
        exact bad (by unfold okC; rw [show smallC l[i].toNat = false from decide_eq_false (by omega), decide_eq_false d1, decide_eq_false (show ¬ (48 ≤ l[i].toNat ∧ l[i].toNat ≤ 57) by omega)]; simp)
      have y3 : ¬ (57 : Int) < ((l[i].toNat : Nat) : Int) := by omega
      simp (disch := omega) only [kB, kcx, kdm, kdn, kel, aop, resultsL, resultOf, Nat.reduceEqDiff, reduceCtorEq, eq1, apartOK, apart2, AObj.live, Int.reduceEq, Int.reduceLT, Int.reduceLE, Int.reduceAdd, Int.reduceSub, Int.reduceMul, Int.reduceToNat, cutCells, Nat.reduceAdd, Nat.reduceLeDiff, Nat.reduceLT, Nat.reduceMul, Nat.reduceSub, c0, hgm, x1, z0, y1, y2, y3, w2]
      exact next (by unfold okC; rw [decide_eq_true (show i ≠ 0 from i0), decide_eq_true (show 48 ≤ l[i].toNat ∧ l[i].toNat ≤ 57 by omega)]; simp) _ (by exact ex_env rfl)
  · have c0 : ¬ (i : Int) < (l.length : Int) := by omega
    have hall : okFrom 0 l = true := (okFrom_iff l 0).2 fun j c hc => by
      rw [Nat.zero_add]
      have := (List.getElem?_eq_some_iff.1 hc).1
      exact hok j c (by omega) hc
    have hc : isNm l = !hasSub (32 :: (l ++ [32])) resT := by
      unfold isNm
      rw [hlen, hall, sub_word h0 (ok_no32 hall)]
      rfl
    have hadd1 : binV .add (.string (bs [32])) (.string (bs l)) = some (.string (bs ([32] ++ l))) := bin_str_add (by simp; omega)
    have hadd2 : binV .add (.string (bs (32 :: l))) (.string (bs [32])) = some (.string (bs (32 :: (l ++ [32])))) := bin_str_add (by simp; omega)
    simp (disch := omega) only [kB, kcx, kdm, kdn, kel, aop, resultsL, resultOf, Nat.reduceEqDiff, reduceCtorEq, eq1, apartOK, apart2, AObj.live, Int.reduceEq, Int.reduceLT, Int.reduceLE, Int.reduceAdd, Int.reduceSub, Int.reduceMul, Int.reduceToNat, cutCells, Nat.reduceAdd, Nat.reduceLeDiff, Nat.reduceLT, Nat.reduceMul, Nat.reduceSub, c0, hadd1, hadd2]
    refine contains_s (by decide) (by simp; omega) ?_
    rw [res_eq]
    simp (disch := omega) only [kB, kcx, kdm, kdn, kel, aop, resultsL, resultOf, Nat.reduceEqDiff, reduceCtorEq, eq1, apartOK, apart2, AObj.live, Int.reduceEq, Int.reduceLT, Int.reduceLE, Int.reduceAdd, Int.reduceSub, Int.reduceMul, Int.reduceToNat, cutCells, Nat.reduceAdd, Nat.reduceLeDiff, Nat.reduceLT, Nat.reduceMul, Nat.reduceSub]
    obtain ⟨v, h1, h2, h3, h4⟩ := fin (!hasSub (32 :: (l ++ [32])) resT) hc
    exact ⟨_, rfl, ⟨_, rfl⟩, .closed rfl, by cases h1; exact h4⟩

end Go.Proofs.Ytpllhhaeclnngaa.Ev

/- The call that shows that the packages are awake; the law SchemaNumbers. -/
namespace Go.Proofs.Ytpllhhaeclnngaa.Ev
set_option maxRecDepth 100000
set_option linter.unusedSimpArgs false
set_option linter.unusedVariables false
variable {R : FRes → Heap → Prop} {H : Heap}

/-- IsName, known by what it answers. -/
def isNmL (args : List Value) (_ : Heap) : Option Value :=
  match args with
  | [.string s] => some (.bool (isNm s.data.toList))
  | _ => none
def Tab2 : Table := fun f => if f = 9 then some (.lib isNmL) else Tab f

theorem rel_nil {ρ : Nat → Place} {w : World} : Rel T.G ρ [] w :=
  ⟨fun b o h => (by simp at h), fun b c o u h => (by simp at h), fun g hg => (by have : T.G = 0 := (by unfold T; kernel_rfl); omega), (by have : T.G = 0 := (by unfold T; kernel_rfl); omega)⟩

theorem table_ok2 : TableOK T.P T.G Tab2 := by
  intro f af h
  unfold Tab2 at h
  by_cases hf : f = 9
  · rw [if_pos hf] at h
    cases h
    subst hf
    intro args H v hv
    unfold isNmL at hv
    split at hv
    case h_2 => cases hv
    rename_i s
    cases hv
    refine ⟨rfl, fun args' w => ?_, fun ρ w args' hr ha => ?_⟩
    · obtain ⟨_, _, hc, _⟩ := prepFn_inv t9
      exact hc.enter _ _
    · have hw : WD T 9 [.string s] [] (fun r _ => r = .ret (.bool (isNm s.data.toList))) := by
        have hs : Value.string s = .string (bs s.data.toList) := by simp [bs]
        rw [hs]
        exact isName_s rfl
      refine wd_true t9 hw rel_nil (args' := args') ⟨ha.1, fun i x y hx hy => (ha.2 i x y hx hy).narrow (.closed ?_)⟩ (by simp)
      have : x ∈ ([.string s] : List Value) := List.mem_of_getElem? hx
      simp at this
      subst this
      rfl
  · rw [if_neg hf] at h
    exact table_ok f af h

theorem shown_ev : isTrue (evalFn Tab2 100 8 [] []) = true := by kernel_rfl

theorem shown_s (h : R (.ret (.bool true)) H) : WD T 8 [] H R := by
  obtain ⟨H1, he⟩ := of_isTrue shown_ev
  exact WD.frameD (H0 := H0) ⟨H, rfl⟩ globs (fun o ho => by simp [H0] at ho) (by simp) .bool (WD.ev follows table_ok2 he rfl) h

/-- The law SchemaNumbers. -/
theorem numbers_w : WD T 3 [] H0 (fun r _ => r = .ret (.bool true)) := by
  refine WD.of follows t3 (by simp) ?_
  simp (disch := omega) only [kB, kcx, kdm, kdn, kel, aop, resultsL, resultOf, Nat.reduceEqDiff, reduceCtorEq, eq1, apartOK, apart2, AObj.live, Int.reduceEq, Int.reduceLT, Int.reduceLE, Int.reduceAdd, Int.reduceSub, Int.reduceMul, Int.reduceToNat, cutCells, Nat.reduceAdd, Nat.reduceLeDiff, Nat.reduceLT, Nat.reduceMul, Nat.reduceSub]
  refine shown_s ?_
  simp (disch := omega) only [kB, kcx, kdm, kdn, kel, aop, resultsL, resultOf, Nat.reduceEqDiff, reduceCtorEq, eq1, apartOK, apart2, AObj.live, Int.reduceEq, Int.reduceLT, Int.reduceLE, Int.reduceAdd, Int.reduceSub, Int.reduceMul, Int.reduceToNat, cutCells, Nat.reduceAdd, Nat.reduceLeDiff, Nat.reduceLT, Nat.reduceMul, Nat.reduceSub]

end Go.Proofs.Ytpllhhaeclnngaa.Ev

/- Stages in memory, and their list from above. -/
namespace Go.Proofs.Ytpllhhaeclnngaa.Ev
set_option maxRecDepth 100000
set_option linter.unusedSimpArgs false
set_option linter.unusedVariables false
variable {R : FRes → Heap → Prop} {H : Heap}

/-- A stage: kind, table, test (nine cells), the two lists below as values and as what they hold. -/
inductive St where
  | mk (kind : Int) (table : List UInt8) (test : List Value) (va vb : Value) (thn els : List St)

def St.kind : St → Int | .mk k _ _ _ _ _ _ => k
def St.table : St → List UInt8 | .mk _ t _ _ _ _ _ => t
/-- A stage's thirteen cells. -/
def St.cells : St → List Value | .mk k t c va vb _ _ => [.int .i64 k, .string (bs t)] ++ c ++ [va, vb]

mutual
/-- The stages from above, with how deep they stand. -/
def flat1 : Nat → St → List (Nat × St)
  | d, .mk k t c va vb a b => (d, .mk k t c va vb a b) :: (flatL (d + 1) a ++ flatL (d + 1) b)
def flatL : Nat → List St → List (Nat × St)
  | _, [] => []
  | d, s :: l => flat1 d s ++ flatL d l
end

def cellsL (l : List St) : List Value := (l.map St.cells).flatten

mutual
/-- A stage in memory. -/
def StOK (H : Heap) : St → Prop
  | .mk k t c va vb a b => c.length = 9 ∧ (∀ x ∈ c, closed1 x = true) ∧ StSl H a va ∧ StSl H b vb
/-- A list of stages in memory. -/
def StSl (H : Heap) : List St → Value → Prop
  | [], v => ∃ ad, v = .slice ad 0 0
  | s :: l, v => (∃ (b : Nat), v = .slice (some ⟨b, 0, none⟩) (l.length + 1) (l.length + 1) ∧ b < H.length ∧ hget H b = .row (cellsL (s :: l)) 0 false) ∧ StOK H s ∧ StOKs H l
def StOKs (H : Heap) : List St → Prop
  | [] => True
  | s :: l => StOK H s ∧ StOKs H l
end

/-- No list is longer than a number may be; so deep the tree is. -/
def SmallL : Nat → List St → Prop
  | 0, l => l = []
  | n + 1, l => l.length ≤ 4611686018427387904 ∧ ∀ s ∈ l, match s with | .mk _ _ _ _ _ a b => SmallL n a ∧ SmallL n b

theorem St.len {s : St} (h : StOK H s) : s.cells.length = 13 := by
  cases s with
  | mk k t c va vb a b =>
    simp only [StOK] at h
    simp [St.cells, h.1]

theorem one_closed1 {v : Value} (h : closed1 v = true) : oneCell v = true := by cases v <;> first | rfl | cases h
theorem StSl.one {l : List St} {v : Value} (h : StSl H l v) : oneCell v = true := by
  cases l with
  | nil => simp only [StSl] at h; obtain ⟨ad, rfl⟩ := h; rfl
  | cons x l => simp only [StSl] at h; obtain ⟨⟨b, rfl, _⟩, _⟩ := h; rfl
theorem StSl.sl {l : List St} {v : Value} (h : StSl H l v) : ∃ ad, v = .slice ad l.length l.length := by
  cases l with
  | nil => simp only [StSl] at h; exact h
  | cons x l => simp only [StSl] at h; obtain ⟨⟨b, rfl, _⟩, _⟩ := h; exact ⟨_, rfl⟩
theorem StSl.all {l : List St} {v : Value} (h : StSl H l v) : StOKs H l := by
  cases l with
  | nil => trivial
  | cons x l => simp only [StSl] at h; simp only [StOKs]; exact h.2
theorem StSl.row {l : List St} {ad : Option Addr} {n m : Nat} (h : StSl H l (.slice ad n m)) (hl : 0 < l.length) : ∃ b, ad = some ⟨b, 0, none⟩ ∧ b < H.length ∧ hget H b = .row (cellsL l) 0 false := by
  cases l with
  | nil => simp at hl
  | cons x l => simp only [StSl] at h; obtain ⟨⟨b, e, h1, h2⟩, _⟩ := h; injection e with e1; exact ⟨b, e1, h1, h2⟩
theorem StOK.one {s : St} (h : StOK H s) : s.cells.all oneCell = true := by
  cases s with
  | mk k t c va vb a b =>
    simp only [StOK] at h
    obtain ⟨hc, h1, h2, h3⟩ := h
    simp only [St.cells, List.all_append, List.all_cons, List.all_nil, Bool.and_true, Bool.and_eq_true]
    exact ⟨⟨⟨rfl, rfl⟩, List.all_eq_true.2 fun x hx => one_closed1 (h1 x hx)⟩, h2.one, h3.one⟩
theorem StOKs.get : ∀ {l : List St} {s : St}, StOKs H l → s ∈ l → StOK H s
  | [], s, _, hs => by cases hs
  | x :: l, s, h, hs => by
    simp only [StOKs] at h
    rcases List.mem_cons.1 hs with rfl | hs
    · exact h.1
    · exact h.2.get hs
theorem StOKs.len : ∀ {l : List St}, StOKs H l → ∀ cs ∈ l.map St.cells, cs.length = 13
  | [], _ => by intro cs h; cases h
  | x :: l, h => by
    simp only [StOKs] at h
    intro cs hc
    rcases List.mem_cons.1 hc with rfl | hc
    · exact St.len h.1
    · exact h.2.len cs hc

theorem flat_len_u {u : Nat} : ∀ {css : List (List Value)}, (∀ cs ∈ css, cs.length = u) → css.flatten.length = css.length * u
  | [], _ => by simp
  | cs :: css, h => by
    rw [List.flatten_cons, List.length_append, h cs (by simp), flat_len_u fun q hq => h q (by simp [hq]), List.length_cons, Nat.succ_mul, Nat.add_comm]
theorem flat_cut {u : Nat} : ∀ {css : List (List Value)} (i : Nat), (∀ cs ∈ css, cs.length = u) → (hi : i < css.length) → ((css.flatten).drop (i * u)).take u = css[i]
  | [], i, _, hi => by simp at hi
  | cs :: css, 0, h, _ => by
    have := h cs (by simp)
    simp [List.take_append, this]
    try rw [← this, List.take_length]
  | cs :: css, i + 1, h, hi => by
    have h1 := h cs (by simp)
    rw [List.flatten_cons, List.drop_append, List.drop_eq_nil_of_le (by rw [h1, Nat.succ_mul]; omega), h1, Nat.succ_mul, Nat.add_sub_cancel, List.nil_append]
    simpa using flat_cut i (fun q hq => h q (by simp [hq])) (by simpa using hi)

theorem cellsL_cut {l : List St} (h : StOKs H l) {i : Nat} (hi : i < l.length) : cutCells (cellsL l) (i * 13) 13 = l[i].cells := by
  have := flat_cut (u := 13) i h.len (by simpa using hi)
  rw [List.getElem_map] at this
  exact this
theorem cellsL_len {l : List St} (h : StOKs H l) : (cellsL l).length = l.length * 13 := by rw [cellsL, flat_len_u h.len, List.length_map]
theorem cellsL_at {l : List St} (h : StOKs H l) {i j : Nat} (hi : i < l.length) (hj : j < 13) : (cellsL l)[i * 13 + j]? = l[i].cells[j]? := by
  have := congrArg (fun q : List Value => q[j]?) (cellsL_cut h hi)
  simp only [cutCells, List.getElem?_take_of_lt hj, List.getElem?_drop] at this
  exact this

theorem St.c0 {s : St} : s.cells[0]? = some (.int .i64 s.kind) := by cases s; rfl
theorem St.c1 {s : St} : s.cells[1]? = some (.string (bs s.table)) := by cases s; rfl
/-- What stands below a stage. -/
def St.va : St → Value | .mk _ _ _ va _ _ _ => va
def St.vb : St → Value | .mk _ _ _ _ vb _ _ => vb
def St.thn : St → List St | .mk _ _ _ _ _ a _ => a
def St.els : St → List St | .mk _ _ _ _ _ _ b => b
theorem StOK.c11 {s : St} (h : StOK H s) : s.cells[11]? = some s.va := by
  cases s with
  | mk k t c va vb a b =>
    simp only [StOK] at h
    have h1 := h.1
    simp only [St.cells, St.va]
    rw [List.getElem?_append_right (by simp [h1])]
    simp [h1]
theorem StOK.c12 {s : St} (h : StOK H s) : s.cells[12]? = some s.vb := by
  cases s with
  | mk k t c va vb a b =>
    simp only [StOK] at h
    have h1 := h.1
    simp only [St.cells, St.vb]
    rw [List.getElem?_append_right (by simp [h1])]
    simp [h1]
theorem StOK.sa {s : St} (h : StOK H s) : StSl H s.thn s.va := by cases s; simp only [StOK] at h; exact h.2.2.1
theorem StOK.sb {s : St} (h : StOK H s) : StSl H s.els s.vb := by cases s; simp only [StOK] at h; exact h.2.2.2
theorem flat1_eq {d : Nat} {s : St} : flat1 d s = (d, s) :: (flatL (d + 1) s.thn ++ flatL (d + 1) s.els) := by cases s; rfl
theorem flatL_append {d : Nat} : ∀ {l m : List St}, flatL d (l ++ m) = flatL d l ++ flatL d m
  | [], m => rfl
  | x :: l, m => by simp only [List.cons_append, flatL, flatL_append, List.append_assoc]
theorem flatL_take {d : Nat} {l : List St} {i : Nat} (hi : i < l.length) : flatL d (l.take (i + 1)) = flatL d (l.take i) ++ flat1 d l[i] := by
  rw [List.take_add_one, List.getElem?_eq_getElem hi, flatL_append]
  simp [flatL]
theorem flatL_at {d : Nat} {l : List St} {i : Nat} (hi : i < l.length) : flatL d l = flatL d (l.take i) ++ (flat1 d l[i] ++ flatL d (l.drop (i + 1))) := by
  conv => lhs; rw [← List.take_append_drop i l, List.drop_eq_getElem_cons hi]
  rw [flatL_append]
  simp [flatL]
theorem SmallL.sub {n : Nat} {l : List St} (h : SmallL (n + 1) l) {s : St} (hs : s ∈ l) : SmallL n s.thn ∧ SmallL n s.els := by
  have := h.2 s hs
  cases s
  exact this

end Go.Proofs.Ytpllhhaeclnngaa.Ev

/- The walk over the stages, with a closure that may stop it. -/
namespace Go.Proofs.Ytpllhhaeclnngaa.Ev
set_option maxRecDepth 100000
set_option linter.unusedSimpArgs false
set_option linter.unusedVariables false
variable {R : FRes → Heap → Prop} {H : Heap}

/-- A fold that stops at the first refusal. -/
def foldS {σ α : Type} (step : σ → α → σ × Bool) : σ → List α → σ × Bool
  | s, [] => (s, true)
  | s, x :: l => if (step s x).2 = true then foldS step (step s x).1 l else ((step s x).1, false)

theorem foldS_append {σ α : Type} (step : σ → α → σ × Bool) : ∀ (l m : List α) (s : σ), foldS step s (l ++ m) = if (foldS step s l).2 = true then foldS step (foldS step s l).1 m else foldS step s l
  | [], m, s => by simp [foldS]
  | x :: l, m, s => by
    simp only [List.cons_append, foldS]
    split
    · exact foldS_append step l m _
    · simp

/-- What tall's closure counts. -/
def tallS : Nat × Bool → Nat × St → (Nat × Bool) × Bool := fun s x => ((s.1 + 1, s.2 || decide (8 < x.1)), decide (s.1 + 1 ≤ 128))

theorem tall_fold : ∀ (l : List (Nat × St)) (n : Nat) (b : Bool), n ≤ 128 → foldS tallS (n, b) l = if n + l.length ≤ 128 then ((n + l.length, b || l.any fun x => decide (8 < x.1)), true) else (foldS tallS (n, b) l).1 |> fun s => (s, false)
  | [], n, b, h => by simp [foldS, h]
  | x :: l, n, b, h => by
    by_cases h1 : n + 1 ≤ 128
    · have ih := tall_fold l (n + 1) (b || decide (8 < x.1)) h1
      have e : foldS tallS (n, b) (x :: l) = foldS tallS (n + 1, b || decide (8 < x.1)) l := by
        simp only [foldS, tallS, decide_eq_true h1, if_true]
      rw [e, ih]
      by_cases h2 : n + 1 + l.length ≤ 128
      · rw [if_pos h2, if_pos (by simp; omega)]
        simp [Bool.or_assoc]; omega
      · rw [if_neg h2, if_neg (by simp; omega)]
    · have e : foldS tallS (n, b) (x :: l) = ((n + 1, b || decide (8 < x.1)), false) := by
        simp only [foldS, tallS, decide_eq_false h1]
        rfl
      rw [e, if_neg (by simp; omega)]

end Go.Proofs.Ytpllhhaeclnngaa.Ev

/- The walk over the stages, with a closure that may stop it. -/
namespace Go.Proofs.Ytpllhhaeclnngaa.Ev
set_option maxRecDepth 100000
set_option linter.unusedSimpArgs false
set_option linter.unusedVariables false
variable {R : FRes → Heap → Prop} {H : Heap}

/-- What a closure's state asks of memory: what stood stays, new blocks do no harm; fp: the blocks that it turns. -/
structure StateOK {σ : Type} (H : Heap) (Q : σ → Heap → Prop) (fp : Heap → Nat → Prop) : Prop where
  old : ∀ {s K}, Q s K → H.length ≤ K.length ∧ ∀ b, b < H.length → hget K b = hget H b
  app : ∀ {s K} (g : Heap), Q s K → Q s (K ++ g)
  fin : ∀ {s K c}, Q s K → fp K c → c < K.length
  fpa : ∀ {s K c} (g : Heap), Q s K → fp (K ++ g) c → fp K c

/-- From one heap to another, but for the state's blocks. -/
def FrS (fp : Heap → Nat → Prop) (K K' : Heap) : Prop := K.length ≤ K'.length ∧ ∀ c, c < K.length → ¬ fp K c → hget K' c = hget K c ∧ ¬ fp K' c
theorem FrS.refl {fp : Heap → Nat → Prop} {K : Heap} : FrS fp K K := ⟨Nat.le_refl _, fun c _ h => ⟨rfl, h⟩⟩
theorem FrS.trans {fp : Heap → Nat → Prop} {K K' K2 : Heap} (h : FrS fp K K') (g : FrS fp K' K2) : FrS fp K K2 :=
  ⟨Nat.le_trans h.1 g.1, fun c hc hf => by
    obtain ⟨h1, h2⟩ := h.2 c hc hf
    obtain ⟨h3, h4⟩ := g.2 c (by have := h.1; omega) h2
    exact ⟨h3.trans h1, h4⟩⟩
theorem StateOK.fr {σ : Type} {Q : σ → Heap → Prop} {fp : Heap → Nat → Prop} (hQ : StateOK H Q fp) {s : σ} {K : Heap} (g : Heap) (h : Q s K) : FrS fp K (K ++ g) :=
  ⟨by simp, fun c hc hf => ⟨hget_old hc, fun q => hf (hQ.fpa g h q)⟩⟩

/-- A closure's call is its step. -/
def ClosureOK {σ : Type} (H : Heap) (Q : σ → Heap → Prop) (fp : Heap → Nat → Prop) (good : Nat × St → Prop) (Lv : Nat → σ → Prop) (step : σ → Nat × St → σ × Bool) (g : FuncId) (caps : List Value) : Prop :=
  ∀ (s : σ) (K : Heap) (d : Nat) (x : St) (R : FRes → Heap → Prop), Q s K → StOK H x → good (d, x) → Lv d s →
    (∀ K', Q (step s (d, x)).1 K' → FrS fp K K' → R (.ret (.bool (step s (d, x)).2)) K') → WD T g (.agg x.cells.toArray :: .int .i64 (d : Int) :: caps) K R

/-- How deep a walk may go. -/
structure LvOK {σ : Type} (good : Nat × St → Prop) (Lv : Nat → σ → Prop) (step : σ → Nat × St → σ × Bool) : Prop where
  fin : ∀ {d s}, Lv d s → d ≤ 4611686018427387904
  down : ∀ {d s}, Lv (d + 1) s → Lv d s
  step : ∀ {d s x}, good (d, x) → Lv d s → (step s (d, x)).2 = true → Lv (d + 1) (step s (d, x)).1

theorem LvOK.fold {σ : Type} {good : Nat × St → Prop} {Lv : Nat → σ → Prop} {step : σ → Nat × St → σ × Bool} (hL : LvOK good Lv step) :
    ∀ (n : Nat) (l : List St), SmallL n l → ∀ (d : Nat) (s : σ), Lv d s → (∀ y ∈ flatL d l, good y) → (foldS step s (flatL d l)).2 = true → Lv d (foldS step s (flatL d l)).1 := by
  intro n
  induction n with
  | zero =>
    intro l hl d s h _ _
    obtain rfl : l = [] := hl
    exact h
  | succ n ih =>
    intro l hl
    replace hl := hl.2
    have hsub : ∀ s ∈ l, SmallL n s.thn ∧ SmallL n s.els := fun s hs => by
      have := hl s hs
      cases s
      exact this
    clear hl
    induction l with
    | nil => intro d s h _ _; exact h
    | cons x l ihl =>
      intro d s h hg ht
      have hx := hsub x (by simp)
      simp only [flatL, flat1_eq, List.cons_append, foldS] at ht hg ⊢
      by_cases c1 : (step s (d, x)).2 = true
      · rw [if_pos c1] at ht ⊢
        simp only [foldS_append] at ht ⊢
        have g0 := hL.step (hg _ (by simp)) h c1
        by_cases c2 : (foldS step (step s (d, x)).1 (flatL (d + 1) x.thn)).2 = true
        · rw [if_pos c2] at ht ⊢
          have g1 := ih _ hx.1 (d + 1) _ g0 (fun y hy => hg y (by simp [hy])) c2
          by_cases c3 : (foldS step (foldS step (step s (d, x)).1 (flatL (d + 1) x.thn)).1 (flatL (d + 1) x.els)).2 = true
          · rw [if_pos c3] at ht ⊢
            have g2 := ih _ hx.2 (d + 1) _ g1 (fun y hy => hg y (by simp [hy])) c3
            exact ihl (fun y hy => hsub y (by simp [hy])) d _ (hL.down g2) (fun y hy => hg y (by simp [hy])) ht
          · rw [if_neg c3] at ht
            exact absurd ht c3
        · rw [if_neg c2, if_neg c2] at ht
          exact absurd ht c2
      · rw [if_neg c1] at ht
        cases ht

def wkI {σ : Type} (Q : σ → Heap → Prop) (fp : Heap → Nat → Prop) (Lv : Nat → σ → Prop) (step : σ → Nat × St → σ × Bool) (g : FuncId) (caps : List Value) (d : Nat) (l : List St) (v : Value) (s0 : σ) (K0 : Heap) : Nat → Env → Heap → Prop := fun z e K =>
  ∃ i : Nat, i ≤ l.length ∧ z = l.length - i ∧ (foldS step s0 (flatL d (l.take i))).2 = true ∧ Q (foldS step s0 (flatL d (l.take i))).1 K ∧ FrS fp K0 K ∧ Lv d (foldS step s0 (flatL d (l.take i))).1 ∧
    (∃ x : Nat → Value, e = [x 0, .int .i64 (d : Int), .func (.func g) #[] caps.toArray, x 3, x 4, x 5, x 6, x 7, x 8, v, .int .i64 (l.length : Int), .int .i64 (i : Int), x 12, x 13, x 14, x 15, x 16, x 17, x 18, x 19, x 20, x 21, x 22, x 23, x 24, x 25, x 26, x 27, x 28, x 29, x 30, x 31, x 32, x 33, x 34, x 35, x 36, x 37, x 38])

set_option maxHeartbeats 1000000 in
theorem walk_s {σ : Type} {Q : σ → Heap → Prop} {fp : Heap → Nat → Prop} {good : Nat × St → Prop} {Lv : Nat → σ → Prop} {step : σ → Nat × St → σ × Bool} {g : FuncId} {caps : List Value} (hQ : StateOK H Q fp) (hL : LvOK good Lv step) (hc : ClosureOK H Q fp good Lv step g caps) :
    ∀ (n : Nat) (l : List St), SmallL n l → ∀ (d : Nat) (s : σ) (K : Heap) (v : Value) (R : FRes → Heap → Prop), Lv d s → (∀ y ∈ flatL d l, good y) → Q s K → StSl H l v →
      (∀ K', Q (foldS step s (flatL d l)).1 K' → FrS fp K K' → R (.ret (.bool (foldS step s (flatL d l)).2)) K') → WD T 33 [v, .int .i64 (d : Int), .func (.func g) #[] caps.toArray] K R := by
  intro n
  induction n with
  | zero =>
    intro l hl d s K v R _ _ hs hv h
    obtain rfl : l = [] := hl
    simp only [StSl] at hv
    obtain ⟨ad, rfl⟩ := hv
    refine WD.of follows t33 (by simp) ?_
    simp (disch := omega) only [kB, kcx, kdm, kdn, kel, aop, resultsL, resultOf, Nat.reduceEqDiff, reduceCtorEq, eq1, apartOK, apart2, AObj.live, Int.reduceEq, Int.reduceLT, Int.reduceLE, Int.reduceAdd, Int.reduceSub, Int.reduceMul, Int.reduceToNat, cutCells, Nat.reduceAdd, Nat.reduceLeDiff, Nat.reduceLT, Nat.reduceMul, Nat.reduceSub]
    refine WLoop.inv (fun z e K' => K' = K ∧ (∃ x : Nat → Value, e = [x 0, x 1, x 2, x 3, x 4, x 5, x 6, x 7, x 8, x 9, .int .i64 0, .int .i64 0, x 12, x 13, x 14, x 15, x 16, x 17, x 18, x 19, x 20, x 21, x 22, x 23, x 24, x 25, x 26, x 27, x 28, x 29, x 30, x 31, x 32, x 33, x 34, x 35, x 36, x 37, x 38])) ?_ 0 _ _ ⟨rfl, by exact ex_env rfl⟩
    rintro z e K' ⟨rfl, ⟨x, rfl⟩⟩
    simp (disch := omega) only [kB, kcx, kdm, kdn, kel, aop, resultsL, resultOf, Nat.reduceEqDiff, reduceCtorEq, eq1, apartOK, apart2, AObj.live, Int.reduceEq, Int.reduceLT, Int.reduceLE, Int.reduceAdd, Int.reduceSub, Int.reduceMul, Int.reduceToNat, cutCells, Nat.reduceAdd, Nat.reduceLeDiff, Nat.reduceLT, Nat.reduceMul, Nat.reduceSub]
    exact h _ hs FrS.refl
  | succ n ih =>
    intro l hl d s K v R hd hgd hs hv h
    obtain ⟨hlen, hsub⟩ := hl
    obtain ⟨ad, rfl⟩ := hv.sl
    have hall := hv.all
    refine WD.of follows t33 (by simp) ?_
    simp (disch := omega) only [kB, kcx, kdm, kdn, kel, aop, resultsL, resultOf, Nat.reduceEqDiff, reduceCtorEq, eq1, apartOK, apart2, AObj.live, Int.reduceEq, Int.reduceLT, Int.reduceLE, Int.reduceAdd, Int.reduceSub, Int.reduceMul, Int.reduceToNat, cutCells, Nat.reduceAdd, Nat.reduceLeDiff, Nat.reduceLT, Nat.reduceMul, Nat.reduceSub]
    refine WLoop.inv (wkI Q fp Lv step g caps d l (.slice ad l.length l.length) s K) ?_ l.length _ _ ⟨0, Nat.zero_le _, by omega, rfl, by simpa [flatL, foldS] using hs, FrS.refl, by simpa [flatL, foldS] using hd, by exact ex_env rfl⟩
    rintro z e K' ⟨i, hi, rfl, ht, hq, hfr, hlv, ⟨x, rfl⟩⟩
    by_cases hlt : i < l.length
    · have c0 : (i : Int) < (l.length : Int) := by omega
      have hg : l[i]? = some l[i] := List.getElem?_eq_getElem hlt
      obtain ⟨ho1, ho2⟩ := hQ.old hq
      obtain ⟨b, rfl, hb, hrow⟩ := hv.row (by omega)
      have hsc : StOK H l[i] := hall.get (List.getElem_mem hlt)
      have hle : i * 13 + 13 ≤ (cellsL l).length := by rw [cellsL_len hall]; omega
      have hrow' : hget K' b = .row (cellsL l) 0 false := by rw [ho2 b hb]; exact hrow
      have w2 : IntKind.i64.wrap ((i : Int) + 1) = ((i + 1 : Nat) : Int) := by rw [show (i : Int) + 1 = ((i + 1 : Nat) : Int) by omega]; exact wr_i64 (by omega) (by omega)
      have hdm := hL.fin hlv
      have w3 : IntKind.i64.wrap ((d : Int) + 1) = ((d + 1 : Nat) : Int) := by rw [show (d : Int) + 1 = ((d + 1 : Nat) : Int) by omega]; exact wr_i64 (by omega) (by omega)
      have hcut := cellsL_cut hall hlt
      have hone := hsc.one
      have h11 := hsc.c11
      have h12 := hsc.c12
      have hsa := hsc.sa
      have hsb := hsc.sb
      have hgood : ∀ y ∈ flat1 d l[i], good y := fun y hy => hgd y (by rw [flatL_at hlt]; simp [hy])
      have htk := flatL_take (d := d) hlt
      have hat := flatL_at (d := d) hlt
      rw [flat1_eq] at htk hgood hat
      obtain ⟨hsma, hsmb⟩ : SmallL n l[i].thn ∧ SmallL n l[i].els := by
        have := hsub l[i] (List.getElem_mem hlt)
        generalize l[i] = x at this
        cases x
        exact this
      have hg13 := St.len hsc
      generalize l[i] = x at *
      obtain ⟨cs, hcs⟩ : ∃ cs, cs = x.cells := ⟨_, rfl⟩
      have hcut2 : ((cellsL l).drop (i * 13)).take 13 = cs := by rw [hcs]; exact hcut
      rw [← hcs] at hone h11 h12 hg13
      have hset : ∀ z : List Value, z.length = 13 → setL z 0 cs = cs := fun z hz => by
        refine List.ext_getElem? fun j => ?_
        rw [setL_get]
        by_cases hj : j < 13
        · rw [if_pos ⟨Nat.zero_le _, by omega, by omega⟩]; rfl
        · rw [if_neg (by omega), List.getElem?_eq_none (by omega), List.getElem?_eq_none (by omega)]
      have hset13 := hset [.int .i64 0, .string (bs []), .int .i64 0, .string (bs []), .string (bs []), .int .u64 0, .int .u64 0, .string (bs []), .string (bs []), .int .u64 0, .int .u64 0, .slice none 0 0, .slice none 0 0] rfl
      simp (disch := omega) only [kB, kcx, kdm, kdn, kel, aop, resultsL, resultOf, Nat.reduceEqDiff, reduceCtorEq, eq1, apartOK, apart2, AObj.live, Int.reduceEq, Int.reduceLT, Int.reduceLE, Int.reduceAdd, Int.reduceSub, Int.reduceMul, Int.reduceToNat, cutCells, Nat.reduceAdd, Nat.reduceLeDiff, Nat.reduceLT, Nat.reduceMul, Nat.reduceSub, c0, hrow', hle, hcut2, hg13, hone, hset13]
      rw [List.take_of_length_le (by omega)]
      rw [hcs]
      refine hc _ _ d x _ (hQ.app _ hq) hsc (hgood _ (by simp)) hlv ?_
      intro K2 hq2 hf2
      rw [← hcs]
      have hbx : ¬ fp (K' ++ [.row cs 0 true]) K'.length := fun q => by have := hQ.fin hq (hQ.fpa _ hq q); omega
      obtain ⟨hb2, hb2f⟩ := hf2.2 K'.length (by simp) (by rw [← hcs]; exact hbx)
      rw [← hcs, hget_last] at hb2
      rw [← hcs] at hf2
      have hall2 : foldS step s (flatL d l) = foldS step (foldS step s (flatL d (l.take i))).1 ((d, x) :: (flatL (d + 1) x.thn ++ flatL (d + 1) x.els) ++ flatL d (l.drop (i + 1))) := by rw [hat, foldS_append, if_pos ht]
      have hnxt : foldS step s (flatL d (l.take (i + 1))) = foldS step (foldS step s (flatL d (l.take i))).1 ((d, x) :: (flatL (d + 1) x.thn ++ flatL (d + 1) x.els)) := by rw [htk, foldS_append, if_pos ht]
      have hf1 : FrS fp K K2 := (hfr.trans (hQ.fr _ hq)).trans hf2
      have hgx := hgood _ (List.mem_cons_self ..)
      have hga : ∀ y ∈ flatL (d + 1) x.thn, good y := fun y hy => hgood y (by simp [hy])
      have hgb : ∀ y ∈ flatL (d + 1) x.els, good y := fun y hy => hgood y (by simp [hy])
      clear hat htk hgood
      generalize (foldS step s (flatL d (l.take i))).1 = s1 at *
      by_cases e1 : (step s1 (d, x)).2 = true
      · have hlv1 := hL.step hgx hlv e1
        rw [e1]
        simp (disch := omega) only [kB, kcx, kdm, kdn, kel, aop, resultsL, resultOf, Nat.reduceEqDiff, reduceCtorEq, eq1, apartOK, apart2, AObj.live, Int.reduceEq, Int.reduceLT, Int.reduceLE, Int.reduceAdd, Int.reduceSub, Int.reduceMul, Int.reduceToNat, cutCells, Nat.reduceAdd, Nat.reduceLeDiff, Nat.reduceLT, Nat.reduceMul, Nat.reduceSub, hb2, h11, w3]
        refine ih _ hsma (d + 1) _ _ _ _ hlv1 hga hq2 hsa ?_
        intro K3 hq3 hf3
        obtain ⟨hb3, hb3f⟩ := hf3.2 K'.length (by have := hf2.1; simp at this; omega) hb2f
        rw [hb2] at hb3
        by_cases e2 : (foldS step (step s1 (d, x)).1 (flatL (d + 1) x.thn)).2 = true
        · have hlv2 := hL.fold n _ hsma (d + 1) _ hlv1 hga e2
          rw [e2]
          simp (disch := omega) only [kB, kcx, kdm, kdn, kel, aop, resultsL, resultOf, Nat.reduceEqDiff, reduceCtorEq, eq1, apartOK, apart2, AObj.live, Int.reduceEq, Int.reduceLT, Int.reduceLE, Int.reduceAdd, Int.reduceSub, Int.reduceMul, Int.reduceToNat, cutCells, Nat.reduceAdd, Nat.reduceLeDiff, Nat.reduceLT, Nat.reduceMul, Nat.reduceSub, hb3, h12, w3]
          refine ih _ hsmb (d + 1) _ _ _ _ hlv2 hgb hq3 hsb ?_
          intro K4 hq4 hf4
          by_cases e3 : (foldS step (foldS step (step s1 (d, x)).1 (flatL (d + 1) x.thn)).1 (flatL (d + 1) x.els)).2 = true
          · have hlv3 := hL.fold n _ hsmb (d + 1) _ hlv2 hgb e3
            rw [e3]
            simp (disch := omega) only [kB, kcx, kdm, kdn, kel, aop, resultsL, resultOf, Nat.reduceEqDiff, reduceCtorEq, eq1, apartOK, apart2, AObj.live, Int.reduceEq, Int.reduceLT, Int.reduceLE, Int.reduceAdd, Int.reduceSub, Int.reduceMul, Int.reduceToNat, cutCells, Nat.reduceAdd, Nat.reduceLeDiff, Nat.reduceLT, Nat.reduceMul, Nat.reduceSub, w2]
            have e4 : foldS step s1 ((d, x) :: (flatL (d + 1) x.thn ++ flatL (d + 1) x.els)) = foldS step (foldS step (step s1 (d, x)).1 (flatL (d + 1) x.thn)).1 (flatL (d + 1) x.els) := by
              rw [foldS, if_pos e1, foldS_append, if_pos e2]
            rw [e4] at hnxt
            refine ⟨l.length - (i + 1), by omega, i + 1, by omega, rfl, by rw [hnxt]; exact e3, by rw [hnxt]; exact hq4, (hf1.trans hf3).trans hf4, by rw [hnxt]; exact hL.down hlv3, by exact ex_env rfl⟩
          · rw [List.cons_append, foldS, if_pos e1, foldS_append, foldS_append, if_pos e2, if_neg e3] at hall2
            have hh := h K4 (by rw [hall2]; exact hq4) ((hf1.trans hf3).trans hf4)
            rw [hall2] at hh
            rw [Bool.not_eq_true] at e3
            rw [e3] at hh ⊢
            simp (disch := omega) only [kB, kcx, kdm, kdn, kel, aop, resultsL, resultOf, Nat.reduceEqDiff, reduceCtorEq, eq1, apartOK, apart2, AObj.live, Int.reduceEq, Int.reduceLT, Int.reduceLE, Int.reduceAdd, Int.reduceSub, Int.reduceMul, Int.reduceToNat, cutCells, Nat.reduceAdd, Nat.reduceLeDiff, Nat.reduceLT, Nat.reduceMul, Nat.reduceSub]
            exact hh
        · rw [List.cons_append, foldS, if_pos e1, foldS_append, foldS_append, if_neg e2, if_neg e2] at hall2
          have hh := h K3 (by rw [hall2]; exact hq3) (hf1.trans hf3)
          rw [hall2] at hh
          rw [Bool.not_eq_true] at e2
          rw [e2] at hh ⊢
          simp (disch := omega) only [kB, kcx, kdm, kdn, kel, aop, resultsL, resultOf, Nat.reduceEqDiff, reduceCtorEq, eq1, apartOK, apart2, AObj.live, Int.reduceEq, Int.reduceLT, Int.reduceLE, Int.reduceAdd, Int.reduceSub, Int.reduceMul, Int.reduceToNat, cutCells, Nat.reduceAdd, Nat.reduceLeDiff, Nat.reduceLT, Nat.reduceMul, Nat.reduceSub]
          exact hh
      · rw [List.cons_append, foldS, if_neg e1] at hall2
        have hh := h K2 (by rw [hall2]; exact hq2) hf1
        rw [hall2] at hh
        rw [Bool.not_eq_true] at e1
        simp only [e1] at hh ⊢
        simp (disch := omega) only [kB, kcx, kdm, kdn, kel, aop, resultsL, resultOf, Nat.reduceEqDiff, reduceCtorEq, eq1, apartOK, apart2, AObj.live, Int.reduceEq, Int.reduceLT, Int.reduceLE, Int.reduceAdd, Int.reduceSub, Int.reduceMul, Int.reduceToNat, cutCells, Nat.reduceAdd, Nat.reduceLeDiff, Nat.reduceLT, Nat.reduceMul, Nat.reduceSub]
        exact hh
    · have c0 : ¬ (i : Int) < (l.length : Int) := by omega
      have hil : i = l.length := by omega
      rw [hil, List.take_length] at ht hq
      have hh := h _ hq hfr
      rw [ht] at hh
      simp (disch := omega) only [kB, kcx, kdm, kdn, kel, aop, resultsL, resultOf, Nat.reduceEqDiff, reduceCtorEq, eq1, apartOK, apart2, AObj.live, Int.reduceEq, Int.reduceLT, Int.reduceLE, Int.reduceAdd, Int.reduceSub, Int.reduceMul, Int.reduceToNat, cutCells, Nat.reduceAdd, Nat.reduceLeDiff, Nat.reduceLT, Nat.reduceMul, Nat.reduceSub, c0]
      exact hh

end Go.Proofs.Ytpllhhaeclnngaa.Ev

/- How tall a control is. -/
namespace Go.Proofs.Ytpllhhaeclnngaa.Ev
set_option maxRecDepth 100000
set_option linter.unusedSimpArgs false
set_option linter.unusedVariables false
variable {R : FRes → Heap → Prop} {H : Heap}

theorem ext_pre {H K : Heap} (h1 : H.length ≤ K.length) (h2 : ∀ c, c < H.length → K[c]? = H[c]?) : ∃ g, K = H ++ g := by
  refine ⟨K.drop H.length, List.ext_getElem? fun j => ?_⟩
  by_cases hj : j < H.length
  · rw [List.getElem?_append_left hj]; exact h2 j hj
  · rw [List.getElem?_append_right (by omega), List.getElem?_drop, Nat.add_sub_cancel' (by omega)]

mutual
theorem StOK.mono {H K : Heap} (hl : H.length ≤ K.length) (hk : ∀ c, c < H.length → hget K c = hget H c) : ∀ (s : St), StOK H s → StOK K s
  | .mk k t c va vb a b, h => by
    simp only [StOK] at h ⊢
    exact ⟨h.1, h.2.1, StSl.mono hl hk a va h.2.2.1, StSl.mono hl hk b vb h.2.2.2⟩
theorem StSl.mono {H K : Heap} (hl : H.length ≤ K.length) (hk : ∀ c, c < H.length → hget K c = hget H c) : ∀ (l : List St) (v : Value), StSl H l v → StSl K l v
  | [], v, h => by simp only [StSl] at h ⊢; exact h
  | s :: l, v, h => by
    simp only [StSl] at h ⊢
    obtain ⟨⟨b, e, h1, h2⟩, h3, h4⟩ := h
    exact ⟨⟨b, e, by omega, by rw [hk b h1]; exact h2⟩, StOK.mono hl hk s h3, StOKs.mono hl hk l h4⟩
theorem StOKs.mono {H K : Heap} (hl : H.length ≤ K.length) (hk : ∀ c, c < H.length → hget K c = hget H c) : ∀ (l : List St), StOKs H l → StOKs K l
  | [], h => by trivial
  | s :: l, h => by
    simp only [StOKs] at h ⊢
    exact ⟨StOK.mono hl hk s h.1, StOKs.mono hl hk l h.2⟩
end
theorem StSl.app {l : List St} {v : Value} (g : Heap) (h : StSl H l v) : StSl (H ++ g) l v := h.mono (by simp) (fun c hc => hget_old hc)

def tallQ (H : Heap) (s : Nat × Bool) (K : Heap) : Prop :=
  H.length + 2 ≤ K.length ∧ (∀ b, b < H.length → hget K b = hget H b) ∧ hget K H.length = .row [.int .i64 (s.1 : Int)] 0 true ∧ hget K (H.length + 1) = .row [.bool s.2] 0 true
def tallF (H : Heap) (K : Heap) (c : Nat) : Prop := c = H.length ∨ c = H.length + 1

theorem tallOK : StateOK H (tallQ H) (tallF H) where
  old := fun h => ⟨by have := h.1; omega, h.2.1⟩
  app := fun {s K} g h => by
    obtain ⟨h1, h2, h3, h4⟩ := h
    exact ⟨by simp; omega, fun b hb => by rw [hget_old (by omega)]; exact h2 b hb, by rw [hget_old (by omega)]; exact h3, by rw [hget_old (by omega)]; exact h4⟩
  fin := fun {s K c} h hf => by have := h.1; rcases hf with rfl | rfl <;> omega
  fpa := fun g h hf => hf

theorem tallC : ClosureOK H (tallQ H) (tallF H) (fun _ => True) (fun d s => d ≤ s.1 + 1 ∧ s.1 ≤ 128) tallS 76 [.pointer (some ⟨H.length, 0, none⟩), .pointer (some ⟨H.length + 1, 0, none⟩)] := by
  intro s K d x R hq hx _ hlv h
  obtain ⟨n, b⟩ := s
  obtain ⟨q1, q2, q3, q4⟩ := hq
  simp only [tallS] at h
  simp only at q3 q4 hlv
  have w2 : IntKind.i64.wrap ((n : Int) + 1) = ((n + 1 : Nat) : Int) := by rw [show (n : Int) + 1 = ((n + 1 : Nat) : Int) by omega]; exact wr_i64 (by omega) (by omega)
  have hp : H.length < K.length := by omega
  have hp1 : H.length + 1 < K.length := by omega
  have n1 : H.length ≠ H.length + 1 := by omega
  have n2 : H.length + 1 ≠ H.length := by omega
  have hone := hx.one
  have key : ∀ bb : Bool, bb = (b || decide (8 < d)) → R (.ret (.bool (decide (n + 1 ≤ 128)))) (((K.set H.length (AObj.row [.int .i64 ((n + 1 : Nat) : Int)] 0 true)).set (H.length + 1) (.row [.bool bb] 0 true)) ++ [AObj.row x.cells 0 true]) := by
    intro bb hbb
    refine h _ ⟨?_, ?_, ?_, ?_⟩ ⟨?_, ?_⟩
    · simp; omega
    · intro c hc
      rw [hget_old (by simp; omega), hget_ne (by omega), hget_ne (by omega)]
      exact q2 c hc
    · rw [hget_old (by simp; omega), hget_ne n2, hget_set' (by omega)]
    · rw [hget_old (by simp; omega), hget_set' (by simp; omega), hbb]
    · simp
    · intro c hc hf
      simp only [tallF, not_or] at hf
      refine ⟨?_, by simp only [tallF, not_or]; exact hf⟩
      rw [hget_old (by simp; omega), hget_ne (by omega), hget_ne (by omega)]
  refine WD.of follows t76 (by simp) ?_
  by_cases hb : b = true
  · subst hb
    have k2 := key true (by simp)
    by_cases c1 : n + 1 ≤ 128
    · have c2 : (((n + 1 : Nat)) : Int) ≤ 128 := by omega
      rw [decide_eq_true c1] at k2
      simp (disch := omega) only [kB, kcx, kdm, kdn, kel, aop, resultsL, resultOf, Nat.reduceEqDiff, reduceCtorEq, eq1, apartOK, apart2, AObj.live, Int.reduceEq, Int.reduceLT, Int.reduceLE, Int.reduceAdd, Int.reduceSub, Int.reduceMul, Int.reduceToNat, cutCells, Nat.reduceAdd, Nat.reduceLeDiff, Nat.reduceLT, Nat.reduceMul, Nat.reduceSub, q3, q4, w2, hone, c2, hget_ne n1, hget_ne n2]
      exact k2
    · have c2 : ¬ (((n + 1 : Nat)) : Int) ≤ 128 := by omega
      rw [decide_eq_false c1] at k2
      simp (disch := omega) only [kB, kcx, kdm, kdn, kel, aop, resultsL, resultOf, Nat.reduceEqDiff, reduceCtorEq, eq1, apartOK, apart2, AObj.live, Int.reduceEq, Int.reduceLT, Int.reduceLE, Int.reduceAdd, Int.reduceSub, Int.reduceMul, Int.reduceToNat, cutCells, Nat.reduceAdd, Nat.reduceLeDiff, Nat.reduceLT, Nat.reduceMul, Nat.reduceSub, q3, q4, w2, hone, c2, hget_ne n1, hget_ne n2]
      exact k2
  · rw [Bool.not_eq_true] at hb
    subst hb
    by_cases c3 : 8 < d
    · have c4 : (8 : Int) < (d : Int) := by omega
      have k2 := key true (by simp [c3])
      by_cases c1 : n + 1 ≤ 128
      · have c2 : (((n + 1 : Nat)) : Int) ≤ 128 := by omega
        rw [decide_eq_true c1] at k2
        simp (disch := omega) only [kB, kcx, kdm, kdn, kel, aop, resultsL, resultOf, Nat.reduceEqDiff, reduceCtorEq, eq1, apartOK, apart2, AObj.live, Int.reduceEq, Int.reduceLT, Int.reduceLE, Int.reduceAdd, Int.reduceSub, Int.reduceMul, Int.reduceToNat, cutCells, Nat.reduceAdd, Nat.reduceLeDiff, Nat.reduceLT, Nat.reduceMul, Nat.reduceSub, q3, q4, w2, hone, c2, c4, hget_ne n1, hget_ne n2]
        exact k2
      · have c2 : ¬ (((n + 1 : Nat)) : Int) ≤ 128 := by omega
        rw [decide_eq_false c1] at k2
        simp (disch := omega) only [kB, kcx, kdm, kdn, kel, aop, resultsL, resultOf, Nat.reduceEqDiff, reduceCtorEq, eq1, apartOK, apart2, AObj.live, Int.reduceEq, Int.reduceLT, Int.reduceLE, Int.reduceAdd, Int.reduceSub, Int.reduceMul, Int.reduceToNat, cutCells, Nat.reduceAdd, Nat.reduceLeDiff, Nat.reduceLT, Nat.reduceMul, Nat.reduceSub, q3, q4, w2, hone, c2, c4, hget_ne n1, hget_ne n2]
        exact k2
    · have c4 : ¬ (8 : Int) < (d : Int) := by omega
      have k2 := key false (by simp [c3])
      by_cases c1 : n + 1 ≤ 128
      · have c2 : (((n + 1 : Nat)) : Int) ≤ 128 := by omega
        rw [decide_eq_true c1] at k2
        simp (disch := omega) only [kB, kcx, kdm, kdn, kel, aop, resultsL, resultOf, Nat.reduceEqDiff, reduceCtorEq, eq1, apartOK, apart2, AObj.live, Int.reduceEq, Int.reduceLT, Int.reduceLE, Int.reduceAdd, Int.reduceSub, Int.reduceMul, Int.reduceToNat, cutCells, Nat.reduceAdd, Nat.reduceLeDiff, Nat.reduceLT, Nat.reduceMul, Nat.reduceSub, q3, q4, w2, hone, c2, c4, hget_ne n1, hget_ne n2]
        exact k2
      · have c2 : ¬ (((n + 1 : Nat)) : Int) ≤ 128 := by omega
        rw [decide_eq_false c1] at k2
        simp (disch := omega) only [kB, kcx, kdm, kdn, kel, aop, resultsL, resultOf, Nat.reduceEqDiff, reduceCtorEq, eq1, apartOK, apart2, AObj.live, Int.reduceEq, Int.reduceLT, Int.reduceLE, Int.reduceAdd, Int.reduceSub, Int.reduceMul, Int.reduceToNat, cutCells, Nat.reduceAdd, Nat.reduceLeDiff, Nat.reduceLT, Nat.reduceMul, Nat.reduceSub, q3, q4, w2, hone, c2, c4, hget_ne n1, hget_ne n2]
        exact k2

/-- The error of a control: too many stages, too deep, none. -/
def tallE (l : List St) : Nat := if 128 < (flatL 1 l).length then 74 else if (flatL 1 l).any (fun x => decide (8 < x.1)) = true then 77 else 0

theorem tallLv : LvOK (fun _ => True) (fun d s => d ≤ s.1 + 1 ∧ s.1 ≤ 128) tallS where
  fin := fun h => by omega
  down := fun h => by omega
  step := fun _ h ht => by simp only [tallS, decide_eq_true_eq] at ht ⊢; omega

theorem pre_of {H K : Heap} (h1 : H.length ≤ K.length) (h2 : ∀ c, c < H.length → hget K c = hget H c) (hl : ∀ c, c < H.length → (hget H c).live = true) : ∃ g, K = H ++ g :=
  ext_pre h1 fun c hc => by
    have e1 := hget_some rfl (hl c hc)
    have e2 := hget_some (h2 c hc) (hl c hc)
    rw [e1, e2]

set_option maxHeartbeats 1000000 in
theorem tall_s {n : Nat} {l : List St} (hl : SmallL n l) {s0 s1 s2 s3 s4 ct : Value} (hv : StSl H l ct) (hone : [s0, s1, s2, s3, s4, ct].all oneCell = true)
    (h : ∀ K, H.length ≤ K.length → (∀ c, c < H.length → hget K c = hget H c) → R (.ret (.int .i64 (tallE l : Int))) K) : WD T 32 [.agg #[s0, s1, s2, s3, s4, ct]] H R := by
  refine WD.of follows t32 (by simp) ?_
  simp only [List.all_cons, List.all_nil, Bool.and_true, Bool.and_eq_true] at hone
  obtain ⟨o0, o1, o2, o3, o4, o5⟩ := hone
  simp (disch := omega) only [kB, kcx, kdm, kdn, kel, aop, resultsL, resultOf, Nat.reduceEqDiff, reduceCtorEq, eq1, apartOK, apart2, AObj.live, Int.reduceEq, Int.reduceLT, Int.reduceLE, Int.reduceAdd, Int.reduceSub, Int.reduceMul, Int.reduceToNat, cutCells, Nat.reduceAdd, Nat.reduceLeDiff, Nat.reduceLT, Nat.reduceMul, Nat.reduceSub, o0, o1, o2, o3, o4, o5]
  have hv2 := hv.app [.row [s0, s1, s2, s3, s4, ct] 0 true]
  have q : tallQ (H ++ [.row [s0, s1, s2, s3, s4, ct] 0 true]) (0, false) (H ++ [.row [s0, s1, s2, s3, s4, ct] 0 true, .row [.int .i64 0] 0 true, .row [.bool false] 0 true]) := by
    refine ⟨by simp, fun b hb => ?_, ?_, ?_⟩
    · rw [show H ++ [AObj.row [s0, s1, s2, s3, s4, ct] 0 true, .row [.int .i64 0] 0 true, .row [.bool false] 0 true] = (H ++ [AObj.row [s0, s1, s2, s3, s4, ct] 0 true]) ++ [.row [.int .i64 0] 0 true, .row [.bool false] 0 true] by simp, hget_old hb]
    · rw [List.length_append, hget_base]; rfl
    · rw [List.length_append, Nat.add_assoc, hget_base]; rfl
  have hcl := tallC (H := H ++ [.row [s0, s1, s2, s3, s4, ct] 0 true])
  simp only [List.length_append, List.length_cons, List.length_nil, Nat.zero_add, Nat.add_assoc, Nat.reduceAdd] at hcl
  refine walk_s (tallOK (H := H ++ [.row [s0, s1, s2, s3, s4, ct] 0 true])) tallLv hcl n l hl 1 (0, false) _ ct _ ⟨by simp, by simp⟩ (fun _ _ => trivial) q hv2 ?_
  intro K hq _
  obtain ⟨q1, q2, q3, q4⟩ := hq
  rw [List.length_append, List.length_singleton] at q1 q2 q3 q4
  rw [Nat.add_assoc] at q4
  have hh := h K (by omega) (fun c hc => by rw [q2 c (by omega), hget_old hc])
  have hf := tall_fold (flatL 1 l) 0 false (by omega)
  by_cases c1 : (flatL 1 l).length ≤ 128
  · rw [if_pos (by omega)] at hf
    rw [hf] at q3 q4 ⊢
    simp only [Bool.false_or] at q4
    by_cases c2 : (flatL 1 l).any (fun x => decide (8 < x.1)) = true
    · have e : tallE l = 77 := by rw [tallE, if_neg (by omega), if_pos c2]
      rw [c2] at q4
      rw [e] at hh
      simp (disch := omega) only [kB, kcx, kdm, kdn, kel, aop, resultsL, resultOf, Nat.reduceEqDiff, reduceCtorEq, eq1, apartOK, apart2, AObj.live, Int.reduceEq, Int.reduceLT, Int.reduceLE, Int.reduceAdd, Int.reduceSub, Int.reduceMul, Int.reduceToNat, cutCells, Nat.reduceAdd, Nat.reduceLeDiff, Nat.reduceLT, Nat.reduceMul, Nat.reduceSub, q4]
      exact hh
    · have e : tallE l = 0 := by rw [tallE, if_neg (by omega), if_neg c2]
      rw [Bool.not_eq_true] at c2
      rw [c2] at q4
      rw [e] at hh
      simp (disch := omega) only [kB, kcx, kdm, kdn, kel, aop, resultsL, resultOf, Nat.reduceEqDiff, reduceCtorEq, eq1, apartOK, apart2, AObj.live, Int.reduceEq, Int.reduceLT, Int.reduceLE, Int.reduceAdd, Int.reduceSub, Int.reduceMul, Int.reduceToNat, cutCells, Nat.reduceAdd, Nat.reduceLeDiff, Nat.reduceLT, Nat.reduceMul, Nat.reduceSub, q4]
      exact hh
  · rw [if_neg (by omega)] at hf
    have e : tallE l = 74 := by rw [tallE, if_pos (by omega)]
    rw [e] at hh
    rw [hf]
    simp (disch := omega) only [kB, kcx, kdm, kdn, kel, aop, resultsL, resultOf, Nat.reduceEqDiff, reduceCtorEq, eq1, apartOK, apart2, AObj.live, Int.reduceEq, Int.reduceLT, Int.reduceLE, Int.reduceAdd, Int.reduceSub, Int.reduceMul, Int.reduceToNat, cutCells, Nat.reduceAdd, Nat.reduceLeDiff, Nat.reduceLT, Nat.reduceMul, Nat.reduceSub]
    exact hh

end Go.Proofs.Ytpllhhaeclnngaa.Ev

/- Slices that grow (the same laws as in the texts of the trie). -/
namespace Go.Proofs.Ytpllhhaeclnngaa.Ev
set_option maxRecDepth 100000
set_option linter.unusedSimpArgs false
set_option linter.unusedVariables false
variable {R : FRes → Heap → Prop} {H : Heap}

theorem append_one {K : Heap} {b bx l unit bytes u2 : Nat} {cells xs : List Value} {w2 : Bool} (hb : hget K b = .row cells unit true) (hl : cells.length = l * unit) (hx : hget K bx = .row xs u2 w2) (hxl : xs.length = unit) (hall : xs.all oneCell = true)
    (hr : (l + 1) * bytes ≤ roomMax ∧ l + 1 ≤ roomMax) :
    appendV K unit bytes (.slice (some ⟨b, 0, none⟩) l l) (.slice (some ⟨bx, 0, none⟩) 1 1) = .val (.slice (some ⟨K.length, 0, none⟩) (l + 1) (l + 1)) (K.set b .dead ++ [.row (cells ++ xs) unit true]) := by
  simp only [appendV, lenV, srcCells, hx, hb]
  rw [if_pos (by omega)]
  have e1 : List.take (1 * unit) (List.drop 0 xs) = xs := by rw [List.drop_zero, Nat.one_mul, ← hxl, List.take_length]
  have e2 : List.take (l * unit) (List.drop 0 cells) = cells := by rw [List.drop_zero, ← hl, List.take_length]
  simp only [e1]
  rw [if_neg (by omega)]
  simp only [hb, e2]
  rw [if_pos ⟨trivial, by omega, by omega, by omega⟩, if_neg (by omega), if_pos ⟨hr.1, hr.2, hall⟩]

theorem append_nil {K : Heap} {bx unit bytes u2 : Nat} {xs : List Value} {w2 : Bool} (hx : hget K bx = .row xs u2 w2) (hxl : xs.length = unit) (hr : 1 * bytes ≤ roomMax) :
    appendV K unit bytes (.slice none 0 0) (.slice (some ⟨bx, 0, none⟩) 1 1) = .val (.slice (some ⟨K.length, 0, none⟩) 1 1) (K ++ [.row xs unit true]) := by
  simp only [appendV, lenV, srcCells, hx]
  rw [if_pos (by omega)]
  have e1 : List.take (1 * unit) (List.drop 0 xs) = xs := by rw [List.drop_zero, Nat.one_mul, ← hxl, List.take_length]
  simp only [e1]
  rw [if_neg (by omega), if_pos ⟨hr, by decide⟩]

/-! ### Slices that grow -/

/-- A slice of elements of so many cells, in a block of its own. -/
def SLs (u n0 : Nat) (H : Heap) (sv : Value) (css : List (List Value)) : Prop :=
  (css = [] ∧ sv = .slice none 0 0) ∨ (css ≠ [] ∧ ∃ k, n0 ≤ k ∧ sv = .slice (some ⟨k, 0, none⟩) css.length css.length ∧ hget H k = .row css.flatten u true ∧ ∀ cs ∈ css, cs.length = u)
def blk : Value → Option Nat
  | .slice (some a) _ _ => some a.block
  | _ => none

theorem SLs.same {u n0 : Nat} {H K : Heap} {sv : Value} {css : List (List Value)} (h : SLs u n0 H sv css) (hs : ∀ c, blk sv = some c → hget K c = hget H c) : SLs u n0 K sv css := by
  rcases h with h | ⟨h1, k, k0, rfl, k2, k3⟩
  · exact .inl h
  · exact .inr ⟨h1, k, k0, rfl, by rw [hs k rfl]; exact k2, k3⟩
theorem SLs.lt {u n0 : Nat} {H : Heap} {sv : Value} {css : List (List Value)} (h : SLs u n0 H sv css) {c : Nat} (hc : blk sv = some c) : c < H.length ∧ n0 ≤ c := by
  rcases h with ⟨_, rfl⟩ | ⟨h1, k, k0, rfl, k2, k3⟩
  · cases hc
  · cases hc; exact ⟨hget_lt k2 rfl, k0⟩
theorem SLs.app {u n0 : Nat} {H G : Heap} {sv : Value} {css : List (List Value)} (h : SLs u n0 H sv css) : SLs u n0 (H ++ G) sv css := h.same fun c hc => hget_old (h.lt hc).1
theorem SLs.ne {u n0 : Nat} {H : Heap} {sv : Value} {css : List (List Value)} (h : SLs u n0 H sv css) {c u2 : Nat} {cs : List Value} {wr : Bool} (hc : hget H c = .row cs u2 wr) (hu : u ≠ u2) : blk sv ≠ some c := by
  intro e
  rcases h with ⟨_, rfl⟩ | ⟨h1, k, k0, rfl, k2, k3⟩
  · cases e
  · cases e
    rw [k2] at hc
    cases hc
    exact hu rfl
theorem SLs.len {u n0 : Nat} {H : Heap} {sv : Value} {css : List (List Value)} (h : SLs u n0 H sv css) : ∃ ad, sv = .slice ad css.length css.length := by
  rcases h with ⟨rfl, rfl⟩ | ⟨h1, k, k0, rfl, k2, k3⟩
  · exact ⟨_, rfl⟩
  · exact ⟨_, rfl⟩

theorem app_sl {u n0 bytes bx u2 : Nat} {K : Heap} {sv : Value} {css : List (List Value)} {xs : List Value} {w2 : Bool} (h : SLs u n0 K sv css) (hn : n0 ≤ K.length) (hx : hget K bx = .row xs u2 w2) (hl : xs.length = u) (hall : xs.all oneCell = true)
    (hr : (css.length + 1) * bytes ≤ roomMax ∧ css.length + 1 ≤ roomMax) : ∃ sv' K', appendV K u bytes sv (.slice (some ⟨bx, 0, none⟩) 1 1) = .val sv' K' ∧ SLs u n0 K' sv' (css ++ [xs]) ∧ K'.length = K.length + 1 ∧ blk sv' = some K.length ∧
      ∀ c, c < K.length → blk sv ≠ some c → hget K' c = hget K c := by
  rcases h with ⟨rfl, rfl⟩ | ⟨h1, k, k0, rfl, k2, k3⟩
  · refine ⟨_, _, append_nil hx hl (by simpa using hr.1), .inr ⟨by simp, K.length, hn, rfl, by simp [hget_last], by simpa using hl⟩, by simp, rfl, fun c hc _ => hget_old hc⟩
  · have lk := hget_lt k2 rfl
    refine ⟨_, _, append_one k2 (flat_len_u k3) hx hl hall hr, .inr ⟨by simp, K.length, hn, by simp, ?_, ?_⟩, by simp, rfl, fun c hc hb => ?_⟩
    · have e : (K.set k AObj.dead).length = K.length := List.length_set ..
      rw [← e, hget_last]
      simp
    · intro cs hcs
      rcases List.mem_append.1 hcs with q | q
      · exact k3 cs q
      · simp at q; rw [q]; exact hl
    · rw [hget_oldS hc, hget_ne (fun q => hb (by rw [q]; rfl))]

/-- A slice in a cell of its own grows. -/
theorem app_box {u n0 bytes p : Nat} {K : Heap} {sv : Value} {css : List (List Value)} {xs : List Value} (hp : hget K p = .row [sv] 0 true) (h : SLs u n0 K sv css) (hn : n0 ≤ K.length) (hu : 0 < u) (hl : xs.length = u) (hall : xs.all oneCell = true)
    (hr : (css.length + 1) * bytes ≤ roomMax ∧ css.length + 1 ≤ roomMax) : ∃ ad K', appendV (K ++ [.row xs u true]) u bytes sv (.slice (some ⟨K.length, 0, none⟩) 1 1) = .val (.slice ad (css.length + 1) (css.length + 1)) K' ∧ hget K' p = .row [sv] 0 true ∧
      SLs u n0 (K'.set p (.row [.slice ad (css.length + 1) (css.length + 1)] 0 true)) (.slice ad (css.length + 1) (css.length + 1)) (css ++ [xs]) ∧ K.length ≤ K'.length ∧ p < K'.length ∧
      (∀ c, blk (.slice ad (css.length + 1) (css.length + 1)) = some c → K.length ≤ c) ∧
      ∀ c, c < K.length → c ≠ p → blk sv ≠ some c → hget (K'.set p (.row [.slice ad (css.length + 1) (css.length + 1)] 0 true)) c = hget K c := by
  have lp := hget_lt hp rfl
  obtain ⟨sv', K', h1, h2, h3, h4, h5⟩ := app_sl (K := K ++ [.row xs u true]) (bytes := bytes) (bx := K.length) (xs := xs) (u2 := u) (w2 := true) h.app (by simp; omega) (by rw [hget_last]) hl hall hr
  simp only [List.length_append, List.length_cons, List.length_nil, Nat.zero_add] at h3 h4
  obtain ⟨ad, rfl⟩ := h2.len
  generalize hln : (css ++ [xs]).length = ln at h1 h2 h4
  have hln2 : ln = css.length + 1 := by rw [← hln]; simp
  subst hln2
  refine ⟨ad, K', h1, ?_, h2.same fun c hc => ?_, by omega, by omega, fun c hc => ?_, fun c h6 h7 h8 => ?_⟩
  · rw [h5 p (by simp; omega) (h.ne hp (by omega)), hget_old lp]
    exact hp
  · rw [h4] at hc
    cases hc
    rw [hget_ne (by omega)]
  · rw [h4] at hc
    cases hc
    omega
  · rw [hget_ne (Ne.symm h7), h5 c (by simp; omega) h8, hget_old h6]

/-- Many are put behind a slice's elements. -/
theorem app_many {u n0 bytes : Nat} {K : Heap} {sv x : Value} {css dss : List (List Value)} (h : SLs u n0 K sv css) (hn : n0 ≤ K.length) (hu : 0 < u) (hx : lenV x = some dss.length) (hs : srcCells K u dss.length x = some dss.flatten) (hd : ∀ cs ∈ dss, cs.length = u) (hall : dss.flatten.all oneCell = true)
    (hr : (css.length + dss.length) * bytes ≤ roomMax ∧ css.length + dss.length ≤ roomMax) : ∃ sv' K', appendV K u bytes sv x = .val sv' K' ∧ SLs u n0 K' sv' (css ++ dss) ∧ K.length ≤ K'.length ∧ (∀ c, blk sv' = some c → blk sv = some c ∨ K.length ≤ c) ∧
      ∀ c, c < K.length → blk sv ≠ some c → hget K' c = hget K c := by
  by_cases h0 : dss = []
  · subst h0
    rcases h with ⟨rfl, rfl⟩ | ⟨h1, k, k0, rfl, k2, k3⟩
    · refine ⟨.slice none 0 0, K, ?_, .inl ⟨rfl, rfl⟩, Nat.le_refl _, fun c q => .inl q, fun _ _ _ => rfl⟩
      simp only [List.length_nil, List.flatten_nil] at hx hs
      simp only [appendV, hx, hs, if_true]
    · refine ⟨.slice (some ⟨k, 0, none⟩) css.length css.length, K, ?_, .inr ⟨by simpa using h1, k, k0, by simp, by simpa using k2, by simpa using k3⟩, Nat.le_refl _, fun c q => .inl q, fun _ _ _ => rfl⟩
      simp only [List.length_nil, List.flatten_nil] at hx hs
      simp only [appendV, hx, hs, if_true]
  have hpos : 0 < dss.length := List.length_pos_iff.2 h0
  have hne : ¬ dss.length = 0 := by omega
  have hfl := flat_len_u hd
  rcases h with ⟨rfl, rfl⟩ | ⟨h1, k, k0, rfl, k2, k3⟩
  · refine ⟨.slice (some ⟨K.length, 0, none⟩) dss.length dss.length, K ++ [.row dss.flatten u true], ?_, .inr ⟨by simpa using h0, K.length, hn, by simp, by simp [hget_last], by simpa using hd⟩, by simp, fun c q => .inr (by cases q; exact Nat.le_refl _), fun c hc _ => hget_old hc⟩
    simp only [appendV, hx, hs]
    rw [if_neg hne, if_pos (by simpa using hr)]
  · have lk := hget_lt k2 rfl
    refine ⟨.slice (some ⟨K.length, 0, none⟩) (css.length + dss.length) (css.length + dss.length), (K.set k .dead) ++ [.row (css.flatten ++ dss.flatten) u true], ?_, .inr ⟨by simp [h0], K.length, hn, by simp, ?_, fun cs hcs => ?_⟩, by simp, fun c q => .inr (by cases q; exact Nat.le_refl _), fun c hc hb => ?_⟩
    · have e2 : List.take (css.length * u) (List.drop 0 css.flatten) = css.flatten := by rw [List.drop_zero, ← flat_len_u k3, List.take_length]
      simp only [appendV, hx, hs]
      rw [if_neg hne]
      simp only [k2, e2]
      rw [if_pos ⟨trivial, Nat.le_refl _, by rw [flat_len_u k3]; omega, hfl⟩, if_neg (by omega), if_pos ⟨hr.1, hr.2, hall⟩]
    · have e : (K.set k AObj.dead).length = K.length := List.length_set ..
      rw [← e, hget_last]
      simp
    · rcases List.mem_append.1 hcs with q | q
      · exact k3 cs q
      · exact hd cs q
    · rw [hget_oldS hc, hget_ne (fun q => hb (by rw [q]; rfl))]

end Go.Proofs.Ytpllhhaeclnngaa.Ev

/- How many tables a pass asks: the two ways of counting, without a program. -/
namespace Go.Proofs.Ytpllhhaeclnngaa.Ev
set_option maxRecDepth 100000
set_option linter.unusedSimpArgs false
set_option linter.unusedVariables false

/-- Behind a stage's parts: the count, what ended, whether it goes on. -/
def thrN (k n : Int) (e : List Int) (p q : Int × List Int) : Int × List Int × Bool :=
  if k = 3 then (-1, e ++ [n], false)
  else if k = 1 ∨ k = 2 then
    if max p.1 q.1 < 0 then (-1, e ++ (p.2 ++ q.2).map (fun x => (if k = 1 then n + 1 else n) + x), false)
    else ((if k = 1 then n + 1 else n) + max p.1 q.1, e ++ (p.2 ++ q.2).map (fun x => (if k = 1 then n + 1 else n) + x), true)
  else (n, e, true)
mutual
def thr1 : St → Int → List Int → Int × List Int × Bool
  | .mk k t c va vb a b, n, e => thrN k n e (thrL a 0 []) (thrL b 0 [])
def thrL : List St → Int → List Int → Int × List Int
  | [], n, e => (n, e)
  | s :: l, n, e => if (thr1 s n e).2.2 = true then thrL l (thr1 s n e).1 (thr1 s n e).2.1 else ((thr1 s n e).1, (thr1 s n e).2.1)
end

def mstN (k on en : Int) (p q : Int × Int) : Int × Int :=
  if k = 3 then (-1, max en on)
  else if k = 1 ∨ k = 2 then
    (if p.1 < 0 ∧ q.1 < 0 then -1 else (if k = 1 then on + 1 else on) + max p.1 q.1, if 0 ≤ p.2 ∨ 0 ≤ q.2 then max en ((if k = 1 then on + 1 else on) + max p.2 q.2) else en)
  else (on, en)
mutual
def mst1 : St → Int → Int → Int × Int
  | .mk k t c va vb a b, on, en => mstN k on en (mstL a 0 (-1)) (mstL b 0 (-1))
def mstL : List St → Int → Int → Int × Int
  | [], on, en => (on, en)
  | s :: l, on, en => if 0 ≤ on then mstL l (mst1 s on en).1 (mst1 s on en).2 else (on, en)
end

def maxs (e : List Int) (z : Int) : Int := e.foldl max z

theorem maxs_app (a b : List Int) (z : Int) : maxs (a ++ b) z = maxs b (maxs a z) := by simp [maxs, List.foldl_append]
theorem maxs_max : ∀ (e : List Int) (y z : Int), maxs e (max y z) = max y (maxs e z)
  | [], y, z => rfl
  | x :: e, y, z => by
    simp only [maxs, List.foldl_cons]
    have := maxs_max e y (max z x)
    simp only [maxs] at this
    rw [show max (max y z) x = max y (max z x) by omega]
    exact this
theorem maxs_ge (e : List Int) (z : Int) : z ≤ maxs e z := by
  have := maxs_max e z z
  rw [show max z z = z by omega] at this
  omega
theorem maxs_add : ∀ (e : List Int) (c z : Int), maxs (e.map fun x => c + x) (c + z) = c + maxs e z
  | [], c, z => rfl
  | x :: e, c, z => by
    simp only [maxs, List.map_cons, List.foldl_cons]
    have := maxs_add e c (max z x)
    simp only [maxs] at this
    rw [show max (c + z) (c + x) = c + max z x by omega]
    exact this
theorem maxs_none {e : List Int} (h : ∀ x ∈ e, 0 ≤ x) (hm : maxs e (-1) < 0) : e = [] := by
  cases e with
  | nil => rfl
  | cons x e =>
    have h1 := maxs_ge e (max (-1) x)
    have h2 := h x (by simp)
    simp only [maxs, List.foldl_cons] at hm h1
    omega

/-- What the two counts have to do with one another. -/
def Thr (n : Int) (e : List Int) (m : Nat) (N : Int) (E : List Int) : Prop := -1 ≤ N ∧ N ≤ n + m ∧ (∀ x ∈ E, 0 ≤ x ∧ (x ≤ n + m ∨ x ∈ e)) ∧ E.length ≤ e.length + m

theorem thr_one {k n : Int} {e : List Int} {p q : Int × List Int} {pm qm : Nat} (hn : 0 ≤ n) (he : ∀ x ∈ e, 0 ≤ x) (hp : Thr 0 [] pm p.1 p.2) (hq : Thr 0 [] qm q.1 q.2) :
    Thr n e (1 + (pm + qm)) (thrN k n e p q).1 (thrN k n e p q).2.1 ∧ mstN k n (maxs e (-1)) (p.1, maxs p.2 (-1)) (q.1, maxs q.2 (-1)) = ((thrN k n e p q).1, maxs (thrN k n e p q).2.1 (-1)) ∧ ((thrN k n e p q).2.2 = true ↔ 0 ≤ (thrN k n e p q).1) := by
  obtain ⟨p1, p2, p3, p4⟩ := hp
  obtain ⟨q1, q2, q3, q4⟩ := hq
  simp only [thrN, mstN]
  by_cases c1 : k = 3
  · simp only [if_pos c1]
    refine ⟨⟨by omega, by omega, fun x hx => ?_, by simp⟩, ?_, by simp⟩
    · rcases List.mem_append.1 hx with h | h
      · exact ⟨he x h, .inr h⟩
      · simp at h; subst h; exact ⟨hn, .inl (by omega)⟩
    · rw [maxs_app]; rfl
  · simp only [if_neg c1]
    by_cases c2 : k = 1 ∨ k = 2
    · simp only [if_pos c2]
      generalize hm : (if k = 1 then n + 1 else n) = m
      have m1 : n ≤ m ∧ m ≤ n + 1 := by subst hm; split <;> omega
      have hall : ∀ x ∈ p.2 ++ q.2, 0 ≤ x ∧ x ≤ pm + qm := fun x hx => by
        rcases List.mem_append.1 hx with h | h
        · obtain ⟨a1, a2 | a2⟩ := p3 x h
          · exact ⟨a1, by omega⟩
          · cases a2
        · obtain ⟨a1, a2 | a2⟩ := q3 x h
          · exact ⟨a1, by omega⟩
          · cases a2
      have hE : (∀ x ∈ e ++ (p.2 ++ q.2).map (fun x => m + x), 0 ≤ x ∧ (x ≤ n + ((1 + (pm + qm) : Nat) : Int) ∨ x ∈ e)) ∧ (e ++ (p.2 ++ q.2).map (fun x => m + x)).length ≤ e.length + (1 + (pm + qm)) := by
        refine ⟨fun x hx => ?_, ?_⟩
        · rcases List.mem_append.1 hx with h | h
          · exact ⟨he x h, .inr h⟩
          · obtain ⟨y, hy, rfl⟩ := List.mem_map.1 h
            obtain ⟨a1, a2⟩ := hall y hy
            exact ⟨by omega, .inl (by omega)⟩
        · simp only [List.length_nil] at p4 q4
          simp only [List.length_append, List.length_map]
          omega
      have hmx : maxs (e ++ (p.2 ++ q.2).map (fun x => m + x)) (-1) = if 0 ≤ maxs p.2 (-1) ∨ 0 ≤ maxs q.2 (-1) then max (maxs e (-1)) (m + max (maxs p.2 (-1)) (maxs q.2 (-1))) else maxs e (-1) := by
        rw [maxs_app]
        have g1 := maxs_ge e (-1)
        have h1 := maxs_max ((p.2 ++ q.2).map fun x => m + x) (maxs e (-1)) (m + -1)
        have h2 := maxs_add (p.2 ++ q.2) m (-1)
        rw [maxs_app] at h2
        have h3 : maxs q.2 (maxs p.2 (-1)) = max (maxs p.2 (-1)) (maxs q.2 (-1)) := by
          have := maxs_max q.2 (maxs p.2 (-1)) (-1)
          rw [show max (maxs p.2 (-1)) (-1) = maxs p.2 (-1) by have := maxs_ge p.2 (-1); omega] at this
          exact this
        by_cases c3 : 0 ≤ maxs p.2 (-1) ∨ 0 ≤ maxs q.2 (-1)
        · rw [if_pos c3]
          have hne : p.2 ++ q.2 ≠ [] := fun h => by
            obtain ⟨ha, hb⟩ := List.append_eq_nil_iff.1 h
            rw [ha, hb] at c3
            simp [maxs] at c3
          have : maxs ((p.2 ++ q.2).map fun x => m + x) (maxs e (-1)) = maxs ((p.2 ++ q.2).map fun x => m + x) (max (maxs e (-1)) (m + -1)) := by
            cases hpq : p.2 ++ q.2 with
            | nil => exact absurd hpq hne
            | cons y t =>
              have hy := (hall y (by rw [hpq]; simp)).1
              simp only [maxs, List.map_cons, List.foldl_cons]
              rw [show max (max (List.foldl max (-1) e) (m + -1)) (m + y) = max (List.foldl max (-1) e) (m + y) by omega]
          rw [this, h1, h2, h3]
        · rw [if_neg c3]
          have ha := maxs_none (fun x hx => (hall x (by simp [hx])).1) (show maxs p.2 (-1) < 0 by omega)
          have hb := maxs_none (fun x hx => (hall x (by simp [hx])).1) (show maxs q.2 (-1) < 0 by omega)
          rw [ha, hb]
          rfl
      by_cases c3 : max p.1 q.1 < 0
      · simp only [if_pos c3]
        refine ⟨⟨by simp, by omega, hE.1, hE.2⟩, ?_, by simp⟩
        rw [hmx, if_pos (by omega)]
      · simp only [if_neg c3]
        refine ⟨⟨by omega, by omega, hE.1, hE.2⟩, ?_, by simp; omega⟩
        rw [hmx, if_neg (by omega)]
    · simp only [if_neg c2]
      refine ⟨⟨by omega, by omega, fun x hx => ⟨he x hx, .inr hx⟩, by omega⟩, trivial, by simpa using hn⟩

theorem flat_len1 (d d' : Nat) (n : Nat) : ∀ (l : List St), SmallL n l → (flatL d l).length = (flatL d' l).length := by
  induction n generalizing d d' with
  | zero => intro l hl; obtain rfl : l = [] := hl; rfl
  | succ n ih =>
    intro l hl
    have hs : ∀ s ∈ l, SmallL n s.thn ∧ SmallL n s.els := fun s hs => hl.sub hs
    clear hl
    induction l with
    | nil => rfl
    | cons x l ihl =>
      obtain ⟨h1, h2⟩ := hs x (by simp)
      have := ihl fun s q => hs s (by simp [q])
      simp only [flatL, flat1_eq, List.length_append, List.length_cons, this, ih (d + 1) (d' + 1) _ h1, ih (d + 1) (d' + 1) _ h2]

theorem thr_law : ∀ (n : Nat) (l : List St), SmallL n l → ∀ (z : Int) (e : List Int), 0 ≤ z → (∀ x ∈ e, 0 ≤ x) →
    Thr z e (flatL 0 l).length (thrL l z e).1 (thrL l z e).2 ∧ mstL l z (maxs e (-1)) = ((thrL l z e).1, maxs (thrL l z e).2 (-1)) := by
  intro n
  induction n with
  | zero =>
    intro l hl z e hz he
    obtain rfl : l = [] := hl
    exact ⟨⟨by simp only [thrL]; omega, by simp only [thrL]; omega, fun x hx => ⟨he x hx, .inr hx⟩, by simp [thrL, flatL]⟩, rfl⟩
  | succ n ih =>
    intro l hl
    have hs : ∀ s ∈ l, SmallL n s.thn ∧ SmallL n s.els := fun s hs => hl.sub hs
    clear hl
    induction l with
    | nil =>
      intro z e hz he
      exact ⟨⟨by simp only [thrL]; omega, by simp only [thrL]; omega, fun x hx => ⟨he x hx, .inr hx⟩, by simp [thrL, flatL]⟩, rfl⟩
    | cons x l ihl =>
      intro z e hz he
      obtain ⟨h1, h2⟩ := hs x (by simp)
      obtain ⟨a1, a2⟩ := ih _ h1 0 [] (by omega) (by simp)
      obtain ⟨b1, b2⟩ := ih _ h2 0 [] (by omega) (by simp)
      obtain ⟨c1, c2, c3⟩ := thr_one (k := x.kind) hz he a1 b1
      have e1 : thr1 x z e = thrN x.kind z e (thrL x.thn 0 []) (thrL x.els 0 []) := by cases x; rfl
      have e2 : mst1 x z (maxs e (-1)) = mstN x.kind z (maxs e (-1)) (mstL x.thn 0 (-1)) (mstL x.els 0 (-1)) := by cases x; rfl
      have e3 : maxs [] (-1) = -1 := rfl
      rw [e3] at a2 b2
      rw [a2, b2, c2, ← e1] at e2
      rw [← e1] at c1 c3
      have hlen : (flatL 0 (x :: l)).length = 1 + ((flatL 0 x.thn).length + (flatL 0 x.els).length) + (flatL 0 l).length := by
        simp only [flatL, flat1_eq, List.length_append, List.length_cons, flat_len1 1 0 n _ h1, flat_len1 1 0 n _ h2]
        omega
      simp only [thrL, mstL, if_pos hz, e2]
      rw [hlen]
      obtain ⟨t1, t2, t3, t4⟩ := c1
      by_cases c4 : (thr1 x z e).2.2 = true
      · simp only [if_pos c4]
        obtain ⟨d1, d2⟩ := ihl (fun s q => hs s (by simp [q])) (thr1 x z e).1 (thr1 x z e).2.1 (c3.1 c4) (fun y hy => (t3 y hy).1)
        obtain ⟨s1, s2, s3, s4⟩ := d1
        refine ⟨⟨s1, by omega, fun y hy => ⟨(s3 y hy).1, ?_⟩, by omega⟩, d2⟩
        rcases (s3 y hy).2 with q | q
        · exact .inl (by omega)
        · rcases (t3 y q).2 with q | q
          · exact .inl (by omega)
          · exact .inr q
      · simp only [if_neg c4]
        refine ⟨⟨t1, by omega, fun y hy => ⟨(t3 y hy).1, ?_⟩, by omega⟩, ?_⟩
        · rcases (t3 y hy).2 with q | q
          · exact .inl (by omega)
          · exact .inr q
        · have : ¬ 0 ≤ (thr1 x z e).1 := fun q => c4 (c3.2 q)
          cases l with
          | nil => rfl
          | cons y l => simp only [mstL, if_neg this]

end Go.Proofs.Ytpllhhaeclnngaa.Ev

/- How many tables a pass asks: the program's count. -/
namespace Go.Proofs.Ytpllhhaeclnngaa.Ev
set_option maxRecDepth 100000
set_option linter.unusedSimpArgs false
set_option linter.unusedVariables false
variable {R : FRes → Heap → Prop} {H : Heap}

def inC (x : Int) : List Value := [.int .i64 x]
def InG (n0 : Nat) (H : Heap) (sv : Value) (E : List Int) : Prop := SLs 1 n0 H sv (E.map inC)
theorem InG.sl {n0 : Nat} {sv : Value} {L : List Int} (h : InG n0 H sv L) : ∃ ad, sv = .slice ad L.length L.length := by
  obtain ⟨ad, q⟩ := h.len
  exact ⟨ad, by simpa using q⟩
theorem in_flat (L : List Int) : (L.map inC).flatten = L.map fun t => Value.int .i64 t := by
  induction L with
  | nil => rfl
  | cons x L ih => rw [List.map_cons, List.flatten_cons, ih]; rfl
theorem InG.row {n0 n m : Nat} {ad : Option Addr} {L : List Int} (h : InG n0 H (.slice ad n m) L) (hL : 0 < L.length) : ∃ k, ad = some ⟨k, 0, none⟩ ∧ n0 ≤ k ∧ k < H.length ∧ hget H k = .row (L.map fun t => Value.int .i64 t) 1 true := by
  rcases h with ⟨h1, h2⟩ | ⟨h1, k, k0, h2, h3, h4⟩
  · simp at h1; subst h1; simp at hL
  · injection h2 with e
    rw [in_flat] at h3
    exact ⟨k, e, k0, hget_lt h3 rfl, h3⟩
theorem SLs.low {u n0 n1 : Nat} {sv : Value} {css : List (List Value)} (h : SLs u n0 H sv css) (hn : n1 ≤ n0) : SLs u n1 H sv css := by
  rcases h with q | ⟨q, k, r1, r2⟩
  · exact .inl q
  · exact .inr ⟨q, k, by omega, r2⟩
theorem SLs.src {u n0 : Nat} {sv : Value} {css : List (List Value)} (h : SLs u n0 H sv css) : lenV sv = some css.length ∧ srcCells H u css.length sv = some css.flatten := by
  rcases h with ⟨rfl, rfl⟩ | ⟨q, k, r1, rfl, r3, r4⟩
  · exact ⟨rfl, by simp [srcCells]⟩
  · refine ⟨rfl, ?_⟩
    have e := flat_len_u r4
    simp only [srcCells, r3]
    rw [if_pos (by omega), List.drop_zero, ← e, List.take_length]

theorem mm_max {k : IntKind} {a b : Int} : mmL true (.int k a) [.int k b] = some (.int k (max a b)) := by
  simp only [mmL, mm2, if_true]
  congr 2
  split <;> omega

/-- A call that counts a list of stages. -/
def ThC (H : Heap) (v : Value) (N : Int) (E : List Int) : Prop :=
  ∀ (K : Heap) (R : FRes → Heap → Prop), H.length ≤ K.length → (∀ c, c < H.length → hget K c = hget H c) →
    (∀ ad K', K.length ≤ K'.length → (∀ c, c < K.length → hget K' c = hget K c) → InG K.length K' (.slice ad E.length E.length) E → R (.ret (.tuple #[.int .i64 N, .slice ad E.length E.length])) K') → WD T 38 [v] K R

def toI (n0 : Nat) (K0 K : Heap) (m p q : Int) (v len i : Value) (ad3 : Option Addr) (e0 F : List Int) : Nat → Env → Heap → Prop := fun z e K' =>
  ∃ (j : Nat) (ad : Option Addr) (E : List Int), j ≤ F.length ∧ z = F.length - j ∧ E = e0 ++ (F.take j).map (fun x => m + x) ∧ K0.length ≤ K'.length ∧ (∀ c, c < n0 → hget K' c = hget K0 c) ∧ (∀ c, blk (.slice ad3 F.length F.length) = some c → blk (.slice ad E.length E.length) ≠ some c) ∧
    InG n0 K' (.slice ad E.length E.length) E ∧ InG n0 K' (.slice ad3 F.length F.length) F ∧
    (∃ x : Nat → Value, e = [x 0, x 1, x 2, x 3, .int .i64 m, .slice ad E.length E.length, x 6, x 7, .int .i64 p, x 9, .int .i64 q, x 11, x 12, x 13, v, len, i, x 17, x 18, x 19, x 20, x 21, x 22, x 23, x 24, x 25, x 26, x 27, x 28, x 29, x 30, x 31, x 32, x 33, x 34, x 35, x 36, x 37, x 38, x 39, x 40, x 41, x 42, x 43, x 44, x 45, x 46, x 47, .slice ad3 F.length F.length, .int .i64 (F.length : Int), .int .i64 (j : Int), x 51, x 52, x 53, x 54, x 55, x 56, x 57, x 58, x 59, x 60, x 61, x 62, x 63, x 64, x 65, x 66, x 67, x 68, x 69, x 70, x 71, x 72, x 73])

set_option maxHeartbeats 2000000 in
theorem th_tail {n0 bx : Nat} {K : Heap} {cs : List Value} {m p q : Int} {E1 E2 ee : List Int} {va vb v len i : Value} {ad : Option Addr} {e : Env} {Q : Post} {u : Nat} {wr : Bool} (hbx : hget K bx = .row cs u wr) (h11 : cs[11]? = some va) (h12 : cs[12]? = some vb)
    (hH : H.length ≤ n0) (hn0 : n0 ≤ bx) (hK : ∀ c, c < H.length → hget K c = hget H c) (hee : InG n0 K (.slice ad ee.length ee.length) ee) (ha : ThC H va p E1) (hb : ThC H vb q E2) (hm : 0 ≤ m ∧ m ≤ 200) (hp : -1 ≤ p ∧ p ≤ 200) (hq : -1 ≤ q ∧ q ≤ 200)
    (hE1 : ∀ x ∈ E1, 0 ≤ x ∧ x ≤ 200) (hE2 : ∀ x ∈ E2, 0 ≤ x ∧ x ≤ 200) (hl1 : E1.length ≤ 200) (hl2 : E2.length ≤ 200) (hle : ee.length ≤ 200) (hne : blk (.slice ad ee.length ee.length) ≠ some bx)
    (he : (∃ x : Nat → Value, e = [x 0, x 1, x 2, x 3, .int .i64 m, .slice ad ee.length ee.length, x 6, .pointer (some ⟨bx, 0, none⟩), x 8, x 9, x 10, x 11, x 12, x 13, v, len, i, x 17, x 18, x 19, x 20, x 21, x 22, x 23, x 24, x 25, x 26, x 27, x 28, x 29, x 30, x 31, x 32, x 33, x 34, x 35, x 36, x 37, x 38, x 39, x 40, x 41, x 42, x 43, x 44, x 45, x 46, x 47, x 48, x 49, x 50, x 51, x 52, x 53, x 54, x 55, x 56, x 57, x 58, x 59, x 60, x 61, x 62, x 63, x 64, x 65, x 66, x 67, x 68, x 69, x 70, x 71, x 72, x 73]))
    (hr : max p q < 0 → ∀ (x : Nat → Value) (ad2 : Option Addr) (E : List Int) (K3 : Heap), E = ee ++ (E1 ++ E2).map (fun y => m + y) → K.length ≤ K3.length → (∀ c, c < n0 → hget K3 c = hget K c) → InG n0 K3 (.slice ad2 E.length E.length) E →
      ∀ e, get e 2 = .int .i64 (-1) → get e 3 = .slice ad2 E.length E.length → Q .ret e K3)
    (hn : ¬ max p q < 0 → ∀ (ad2 : Option Addr) (E : List Int) (K3 : Heap), E = ee ++ (E1 ++ E2).map (fun y => m + y) → K.length ≤ K3.length → (∀ c, c < n0 → hget K3 c = hget K c) → InG n0 K3 (.slice ad2 E.length E.length) E →
      ∀ e, (∃ x : Nat → Value, e = [x 0, x 1, x 2, x 3, .int .i64 (m + max p q), .slice ad2 E.length E.length, x 6, x 7, x 8, x 9, x 10, x 11, x 12, x 13, v, len, i, x 17, x 18, x 19, x 20, x 21, x 22, x 23, x 24, x 25, x 26, x 27, x 28, x 29, x 30, x 31, x 32, x 33, x 34, x 35, x 36, x 37, x 38, x 39, x 40, x 41, x 42, x 43, x 44, x 45, x 46, x 47, x 48, x 49, x 50, x 51, x 52, x 53, x 54, x 55, x 56, x 57, x 58, x 59, x 60, x 61, x 62, x 63, x 64, x 65, x 66, x 67, x 68, x 69, x 70, x 71, x 72, x 73]) → Q .norm e K3) :
    WC T (g38.body.at [1,1,1,0,1,0,0,1,1,0,0,1,1]) e K Q := by
  obtain ⟨x, rfl⟩ := he
  simp only [AFunc.body, g38, ACode.at]
  have lbx := hget_lt hbx rfl
  simp (disch := omega) only [kB, kcx, kdm, kdn, kel, aop, resultsL, resultOf, Nat.reduceEqDiff, reduceCtorEq, eq1, apartOK, apart2, AObj.live, Int.reduceEq, Int.reduceLT, Int.reduceLE, Int.reduceAdd, Int.reduceSub, Int.reduceMul, Int.reduceToNat, cutCells, Nat.reduceAdd, Nat.reduceLeDiff, Nat.reduceLT, Nat.reduceMul, Nat.reduceSub, hbx, h11]
  refine ha K _ (by omega) hK ?_
  intro ad1 K2 a1 a2 a3
  have hbx2 : hget K2 bx = .row cs u wr := by rw [a2 _ lbx]; exact hbx
  simp (disch := omega) only [kB, kcx, kdm, kdn, kel, aop, resultsL, resultOf, Nat.reduceEqDiff, reduceCtorEq, eq1, apartOK, apart2, AObj.live, Int.reduceEq, Int.reduceLT, Int.reduceLE, Int.reduceAdd, Int.reduceSub, Int.reduceMul, Int.reduceToNat, cutCells, Nat.reduceAdd, Nat.reduceLeDiff, Nat.reduceLT, Nat.reduceMul, Nat.reduceSub, hbx2, h12]
  refine hb K2 _ (by omega) (fun c hc => by rw [a2 c (by omega)]; exact hK c hc) ?_
  intro ad2 K3 b1 b2 b3
  have a3' : InG K.length K3 (.slice ad1 E1.length E1.length) E1 := SLs.same a3 fun c hc => b2 c (SLs.lt a3 hc).1
  have hee2 : InG n0 K3 (.slice ad ee.length ee.length) ee := SLs.same hee fun c hc => by
    have := (SLs.lt hee hc).1
    rw [b2 c (by omega), a2 c this]
  obtain ⟨s1, s2⟩ := SLs.src b3
  obtain ⟨sv4, K4, c1, c2, c3, c4, c5⟩ := app_many (u := 1) (n0 := K.length) (bytes := 8) (x := .slice ad2 E2.length E2.length) (dss := E2.map inC) a3' (by omega) (by decide) s1 s2 (fun cs h => by obtain ⟨y, _, rfl⟩ := List.mem_map.1 h; rfl)
    (by rw [in_flat]; exact List.all_eq_true.2 fun y hy => by obtain ⟨z, _, rfl⟩ := List.mem_map.1 hy; rfl) (by simp only [roomMax, List.length_map]; omega)
  obtain ⟨F, hF⟩ : ∃ F, F = E1 ++ E2 := ⟨_, rfl⟩
  have c2' : InG K.length K4 sv4 F := by
    rw [InG, hF, List.map_append]
    exact c2
  have hFl : F.length ≤ 400 := by rw [hF]; simp; omega
  obtain ⟨ad4, rfl⟩ := c2'.sl
  have hFb : ∀ y ∈ F, 0 ≤ y ∧ y ≤ 200 := fun y hy => by
    rw [hF] at hy
    rcases List.mem_append.1 hy with h | h
    · exact hE1 y h
    · exact hE2 y h
  have hee4 : InG n0 K4 (.slice ad ee.length ee.length) ee := SLs.same hee2 fun c hc => c5 c (by have := (SLs.lt hee hc).1; omega) (fun q => by have := (SLs.lt a3' q).2; have := (SLs.lt hee hc).1; omega)
  have hK4 : ∀ c, c < n0 → hget K4 c = hget K c := fun c hc => by
    rw [c5 c (by omega) (fun q => by have := (SLs.lt a3' q).2; omega), b2 c (by omega), a2 c (by omega)]
  simp (disch := omega) only [kB, kcx, kdm, kdn, kel, aop, resultsL, resultOf, Nat.reduceEqDiff, reduceCtorEq, eq1, apartOK, apart2, AObj.live, Int.reduceEq, Int.reduceLT, Int.reduceLE, Int.reduceAdd, Int.reduceSub, Int.reduceMul, Int.reduceToNat, cutCells, Nat.reduceAdd, Nat.reduceLeDiff, Nat.reduceLT, Nat.reduceMul, Nat.reduceSub, c1]
  refine WLoop.inv (toI n0 K4 K4 m p q v len i ad4 ee F) ?_ F.length _ _ ⟨0, ad, ee, Nat.zero_le _, by omega, by simp, Nat.le_refl _, fun c _ => rfl, ?_, hee4, SLs.low c2' (by omega), by exact ex_env rfl⟩
  · rintro z e K' ⟨j, ad5, E, hj, rfl, hE, d1, d2, d3, d4, d5, ⟨x, rfl⟩⟩
    by_cases hlt : j < F.length
    · have q0 : (j : Int) < (F.length : Int) := by omega
      obtain ⟨k, rfl, k1, k2, hrow⟩ := d5.row (by omega)
      have hg : (F.map fun t => Value.int .i64 t)[j]? = some (.int .i64 F[j]) := by rw [List.getElem?_map, List.getElem?_eq_getElem hlt]; rfl
      have hfb := hFb F[j] (List.getElem_mem hlt)
      have w1 : IntKind.i64.wrap (m + F[j]) = m + F[j] := wr_i64 (by omega) (by omega)
      have w2 : IntKind.i64.wrap ((j : Int) + 1) = ((j + 1 : Nat) : Int) := by rw [show (j : Int) + 1 = ((j + 1 : Nat) : Int) by omega]; exact wr_i64 (by omega) (by omega)
      have hEl : E.length ≤ 600 := by rw [hE]; simp; omega
      obtain ⟨sv6, K6, f1, f2, f3, f4, f5⟩ := app_sl (u := 1) (n0 := n0) (bytes := 8) (K := K' ++ [AObj.row [Value.int .i64 (m + F[j])] 1 true]) (bx := K'.length) (xs := inC (m + F[j])) (u2 := 1) (w2 := true) (SLs.app d4) (by simp; omega) (by rw [hget_last]; rfl) rfl rfl (by simp only [roomMax, List.length_map]; omega)
      have f2' : InG n0 K6 sv6 (E ++ [m + F[j]]) := by
        rw [InG, List.map_append]
        exact f2
      obtain ⟨ad6, rfl⟩ := f2'.sl
      have hEn : E ++ [m + F[j]] = ee ++ (F.take (j + 1)).map (fun x => m + x) := by
        rw [hE, List.append_assoc, List.take_add_one, List.getElem?_eq_getElem hlt, List.map_append]
        rfl
      generalize E ++ [m + F[j]] = E' at *
      have hkk := hget_lt hrow rfl
      simp (disch := omega) only [kB, kcx, kdm, kdn, kel, aop, resultsL, resultOf, Nat.reduceEqDiff, reduceCtorEq, eq1, apartOK, apart2, AObj.live, Int.reduceEq, Int.reduceLT, Int.reduceLE, Int.reduceAdd, Int.reduceSub, Int.reduceMul, Int.reduceToNat, cutCells, Nat.reduceAdd, Nat.reduceLeDiff, Nat.reduceLT, Nat.reduceMul, Nat.reduceSub, q0, hrow, hg, w1, f1, w2]
      refine ⟨F.length - (j + 1), by omega, j + 1, ad6, E', by omega, rfl, hEn, by rw [f3]; simp; omega, fun c hc => ?_, fun c hc h2 => ?_, f2', ?_, by exact ex_env rfl⟩
      · rw [f5 c (by simp; omega) (fun q => by have := (SLs.lt d4 q).2; omega), hget_old (by omega)]
        exact d2 c hc
      · rw [f4] at h2
        have := (SLs.lt d5 hc).1
        cases h2
        simp at this
        omega
      · refine SLs.same (SLs.app (G := [AObj.row [Value.int .i64 (m + F[j])] 1 true]) d5) fun c hc => f5 c ?_ (d3 c hc)
        have := (SLs.lt d5 hc).1
        simp; omega
    · have q0 : ¬ (j : Int) < (F.length : Int) := by omega
      have hjl : j = F.length := by omega
      rw [hjl, List.take_length, hF] at hE
      have w3 : IntKind.i64.wrap (m + max p q) = m + max p q := wr_i64 (by omega) (by omega)
      have hKL : K.length ≤ K'.length := by omega
      have hK3 : ∀ c, c < n0 → hget K' c = hget K c := fun c hc => by rw [d2 c hc]; exact hK4 c hc
      by_cases q1 : max p q < 0
      · have hh := hr q1 x ad5 E K' hE hKL hK3 d4
        simp (disch := omega) only [kB, kcx, kdm, kdn, kel, aop, resultsL, resultOf, Nat.reduceEqDiff, reduceCtorEq, eq1, apartOK, apart2, AObj.live, Int.reduceEq, Int.reduceLT, Int.reduceLE, Int.reduceAdd, Int.reduceSub, Int.reduceMul, Int.reduceToNat, cutCells, Nat.reduceAdd, Nat.reduceLeDiff, Nat.reduceLT, Nat.reduceMul, Nat.reduceSub, q0, mm_max, q1]
        exact hh _ rfl rfl
      · have hh := hn q1 ad5 E K' hE hKL hK3 d4
        simp (disch := omega) only [kB, kcx, kdm, kdn, kel, aop, resultsL, resultOf, Nat.reduceEqDiff, reduceCtorEq, eq1, apartOK, apart2, AObj.live, Int.reduceEq, Int.reduceLT, Int.reduceLE, Int.reduceAdd, Int.reduceSub, Int.reduceMul, Int.reduceToNat, cutCells, Nat.reduceAdd, Nat.reduceLeDiff, Nat.reduceLT, Nat.reduceMul, Nat.reduceSub, q0, mm_max, q1, w3]
        exact hh _ (by exact ex_env rfl)
  · intro c hc h2
    have := (SLs.lt c2' hc).2
    have := (SLs.lt hee h2).1
    omega

def thI (K : Heap) (l : List St) (v : Value) : Nat → Env → Heap → Prop := fun z e K' =>
  ∃ (i nn : Nat) (ad : Option Addr) (ee : List Int), i ≤ l.length ∧ z = l.length - i ∧ K.length ≤ K'.length ∧ (∀ c, c < K.length → hget K' c = hget K c) ∧ thrL l 0 [] = thrL (l.drop i) (nn : Int) ee ∧
    nn + (flatL 0 (l.drop i)).length ≤ 128 ∧ (∀ x ∈ ee, 0 ≤ x ∧ x ≤ 128) ∧ ee.length + (flatL 0 (l.drop i)).length ≤ 128 ∧ InG K.length K' (.slice ad ee.length ee.length) ee ∧
    (∃ x : Nat → Value, e = [x 0, x 1, x 2, x 3, .int .i64 (nn : Int), .slice ad ee.length ee.length, x 6, x 7, x 8, x 9, x 10, x 11, x 12, x 13, v, .int .i64 (l.length : Int), .int .i64 (i : Int), x 17, x 18, x 19, x 20, x 21, x 22, x 23, x 24, x 25, x 26, x 27, x 28, x 29, x 30, x 31, x 32, x 33, x 34, x 35, x 36, x 37, x 38, x 39, x 40, x 41, x 42, x 43, x 44, x 45, x 46, x 47, x 48, x 49, x 50, x 51, x 52, x 53, x 54, x 55, x 56, x 57, x 58, x 59, x 60, x 61, x 62, x 63, x 64, x 65, x 66, x 67, x 68, x 69, x 70, x 71, x 72, x 73])

set_option maxHeartbeats 2000000 in
theorem through_s : ∀ (n : Nat) (l : List St), SmallL n l → (flatL 0 l).length ≤ 128 → ∀ (K : Heap) (v : Value) (R : FRes → Heap → Prop), StSl H l v → H.length ≤ K.length → (∀ c, c < H.length → hget K c = hget H c) →
    (∀ ad K', K.length ≤ K'.length → (∀ c, c < K.length → hget K' c = hget K c) → InG K.length K' (.slice ad (thrL l 0 []).2.length (thrL l 0 []).2.length) (thrL l 0 []).2 →
      R (.ret (.tuple #[.int .i64 (thrL l 0 []).1, .slice ad (thrL l 0 []).2.length (thrL l 0 []).2.length])) K') → WD T 38 [v] K R := by
  obtain ⟨Z, hZ⟩ : ∃ Z, Z = WC T (g38.body.at [1,1,1,0,1,0,0,1,1,0,0,1,1]) := ⟨_, rfl⟩
  have hZ' := hZ.symm
  simp only [AFunc.body, g38, ACode.at] at hZ'
  intro n
  induction n with
  | zero =>
    intro l hl _ K v R hv hn hk h
    obtain rfl : l = [] := hl
    simp only [StSl] at hv
    obtain ⟨ad, rfl⟩ := hv
    refine WD.of follows t38 (by simp) ?_
    simp (disch := omega) only [kB, kcx, kdm, kdn, kel, aop, resultsL, resultOf, Nat.reduceEqDiff, reduceCtorEq, eq1, apartOK, apart2, AObj.live, Int.reduceEq, Int.reduceLT, Int.reduceLE, Int.reduceAdd, Int.reduceSub, Int.reduceMul, Int.reduceToNat, cutCells, Nat.reduceAdd, Nat.reduceLeDiff, Nat.reduceLT, Nat.reduceMul, Nat.reduceSub]
    refine WLoop.inv (fun z e K' => K' = K ∧ (∃ x : Nat → Value, e = [x 0, x 1, x 2, x 3, .int .i64 0, .slice none 0 0, x 6, x 7, x 8, x 9, x 10, x 11, x 12, x 13, x 14, .int .i64 0, .int .i64 0, x 17, x 18, x 19, x 20, x 21, x 22, x 23, x 24, x 25, x 26, x 27, x 28, x 29, x 30, x 31, x 32, x 33, x 34, x 35, x 36, x 37, x 38, x 39, x 40, x 41, x 42, x 43, x 44, x 45, x 46, x 47, x 48, x 49, x 50, x 51, x 52, x 53, x 54, x 55, x 56, x 57, x 58, x 59, x 60, x 61, x 62, x 63, x 64, x 65, x 66, x 67, x 68, x 69, x 70, x 71, x 72, x 73])) ?_ 0 _ _ ⟨rfl, by exact ex_env rfl⟩
    rintro z e K' ⟨rfl, ⟨x, rfl⟩⟩
    have hh := h none K' (Nat.le_refl _) (fun c _ => rfl) (.inl ⟨rfl, rfl⟩)
    simp (disch := omega) only [kB, kcx, kdm, kdn, kel, aop, resultsL, resultOf, Nat.reduceEqDiff, reduceCtorEq, eq1, apartOK, apart2, AObj.live, Int.reduceEq, Int.reduceLT, Int.reduceLE, Int.reduceAdd, Int.reduceSub, Int.reduceMul, Int.reduceToNat, cutCells, Nat.reduceAdd, Nat.reduceLeDiff, Nat.reduceLT, Nat.reduceMul, Nat.reduceSub]
    exact hh
  | succ n ih =>
    intro l hl hW K v R hv hn hk h
    have hsub : ∀ s ∈ l, SmallL n s.thn ∧ SmallL n s.els := fun s hs => hl.sub hs
    have hlen := hl.1
    obtain ⟨ad, rfl⟩ := hv.sl
    have hall := hv.all
    refine WD.of follows t38 (by simp) ?_
    simp (disch := omega) only [kB, kcx, kdm, kdn, kel, aop, resultsL, resultOf, Nat.reduceEqDiff, reduceCtorEq, eq1, apartOK, apart2, AObj.live, Int.reduceEq, Int.reduceLT, Int.reduceLE, Int.reduceAdd, Int.reduceSub, Int.reduceMul, Int.reduceToNat, cutCells, Nat.reduceAdd, Nat.reduceLeDiff, Nat.reduceLT, Nat.reduceMul, Nat.reduceSub]
    refine WLoop.inv (thI K l (.slice ad l.length l.length)) ?_ l.length _ _ ⟨0, 0, none, [], Nat.zero_le _, by omega, Nat.le_refl _, fun c _ => rfl, rfl, by simpa using hW, by simp, by simpa using hW, .inl ⟨rfl, rfl⟩, by exact ex_env rfl⟩
    rintro z e K' ⟨i, nn, ad2, ee, hi, rfl, hk1, hk2, hT, hb1, hb2, hb3, hE, ⟨x, rfl⟩⟩
    by_cases hlt : i < l.length
    · have c0 : (i : Int) < (l.length : Int) := by omega
      obtain ⟨b, rfl, hb, hrow0⟩ := hv.row (by omega)
      have hsc : StOK H l[i] := hall.get (List.getElem_mem hlt)
      have hle : i * 13 + 13 ≤ (cellsL l).length := by rw [cellsL_len hall]; omega
      have hrow : hget K' b = .row (cellsL l) 0 false := by rw [hk2 b (by omega), hk b hb]; exact hrow0
      have w2 : IntKind.i64.wrap ((i : Int) + 1) = ((i + 1 : Nat) : Int) := by rw [show (i : Int) + 1 = ((i + 1 : Nat) : Int) by omega]; exact wr_i64 (by omega) (by omega)
      have hcut := cellsL_cut hall hlt
      have hone := hsc.one
      have h11 := hsc.c11
      have h12 := hsc.c12
      have hsa := hsc.sa
      have hsb := hsc.sb
      obtain ⟨hsma, hsmb⟩ := hsub l[i] (List.getElem_mem hlt)
      have hg13 := St.len hsc
      rw [List.drop_eq_getElem_cons hlt] at hT hb1 hb3
      generalize l[i] = x at *
      obtain ⟨cs, hcs⟩ : ∃ cs, cs = x.cells := ⟨_, rfl⟩
      have hcut2 : ((cellsL l).drop (i * 13)).take 13 = cs := by rw [hcs]; exact hcut
      have h0 : cs[0]? = some (.int .i64 x.kind) := by rw [hcs]; exact St.c0
      rw [← hcs] at hone h11 h12 hg13
      have hset : ∀ z : List Value, z.length = 13 → setL z 0 cs = cs := fun z hz => by
        refine List.ext_getElem? fun j => ?_
        rw [setL_get]
        by_cases hj : j < 13
        · rw [if_pos ⟨Nat.zero_le _, by omega, by omega⟩]; rfl
        · rw [if_neg (by omega), List.getElem?_eq_none (by omega), List.getElem?_eq_none (by omega)]
      have hset13 := hset [.int .i64 0, .string (bs []), .int .i64 0, .string (bs []), .string (bs []), .int .u64 0, .int .u64 0, .string (bs []), .string (bs []), .int .u64 0, .int .u64 0, .slice none 0 0, .slice none 0 0] rfl
      by_cases k3 : x.kind = 3
      · rw [k3] at h0
        simp (disch := omega) only [kB, kcx, kdm, kdn, kel, aop, resultsL, resultOf, Nat.reduceEqDiff, reduceCtorEq, eq1, apartOK, apart2, AObj.live, Int.reduceEq, Int.reduceLT, Int.reduceLE, Int.reduceAdd, Int.reduceSub, Int.reduceMul, Int.reduceToNat, cutCells, Nat.reduceAdd, Nat.reduceLeDiff, Nat.reduceLT, Nat.reduceMul, Nat.reduceSub, c0, hrow, hle, hcut2, hg13, hone, hset13, h0]
        obtain ⟨sv6, K6, f1, f2, f3, f4, f5⟩ := app_sl (u := 1) (n0 := K.length) (bytes := 8) (K := K' ++ [AObj.row cs 0 true, AObj.row [Value.int .i64 (nn : Int)] 1 true]) (bx := K'.length + 1) (xs := inC (nn : Int)) (u2 := 1) (w2 := true) (SLs.app hE) (by simp; omega) (by rw [hget_base]; rfl) rfl rfl (by simp only [roomMax, List.length_map]; omega)
        have f2' : InG K.length K6 sv6 (ee ++ [(nn : Int)]) := by
          rw [InG, List.map_append]
          exact f2
        obtain ⟨ad6, rfl⟩ := f2'.sl
        have e1 : thrL l 0 [] = (-1, ee ++ [(nn : Int)]) := by
          rw [hT]
          cases x
          simp only [St.kind] at k3
          simp [thrL, thr1, thrN, k3]
        rw [e1] at h
        have hh := h ad6 K6 (by rw [f3]; simp; omega) (fun c hc => by
          rw [f5 c (by simp; omega) (fun q => by have := (SLs.lt hE q).2; omega), hget_old (by omega)]
          exact hk2 c hc) f2'
        simp only at hh
        generalize ee ++ [(nn : Int)] = E' at *
        simp (disch := omega) only [kB, kcx, kdm, kdn, kel, aop, resultsL, resultOf, Nat.reduceEqDiff, reduceCtorEq, eq1, apartOK, apart2, AObj.live, Int.reduceEq, Int.reduceLT, Int.reduceLE, Int.reduceAdd, Int.reduceSub, Int.reduceMul, Int.reduceToNat, cutCells, Nat.reduceAdd, Nat.reduceLeDiff, Nat.reduceLT, Nat.reduceMul, Nat.reduceSub, f1]
        exact hh
      · have hfl : (flatL 0 (x :: l.drop (i + 1))).length = 1 + ((flatL 0 x.thn).length + (flatL 0 x.els).length) + (flatL 0 (l.drop (i + 1))).length := by
          simp only [flatL, flat1_eq, List.length_append, List.length_cons, flat_len1 1 0 n _ hsma, flat_len1 1 0 n _ hsmb]
          omega
        rw [hfl] at hb1 hb3
        by_cases k1 : x.kind = 1 ∨ x.kind = 2
        · have w1 : IntKind.i64.wrap ((nn : Int) + 1) = (nn : Int) + 1 := wr_i64 (by omega) (by omega)
          obtain ⟨⟨ta1, ta2, ta3, ta4⟩, _⟩ := thr_law n _ hsma 0 [] (by omega) (by simp)
          obtain ⟨⟨tb1, tb2, tb3, tb4⟩, _⟩ := thr_law n _ hsmb 0 [] (by omega) (by simp)
          simp only [List.length_nil] at ta4 tb4
          have ha3 : ∀ y ∈ (thrL x.thn 0 []).2, 0 ≤ y ∧ y ≤ 200 := fun y hy => by
            obtain ⟨q1, q2 | q2⟩ := ta3 y hy
            · exact ⟨q1, by omega⟩
            · cases q2
          have hb3' : ∀ y ∈ (thrL x.els 0 []).2, 0 ≤ y ∧ y ≤ 200 := fun y hy => by
            obtain ⟨q1, q2 | q2⟩ := tb3 y hy
            · exact ⟨q1, by omega⟩
            · cases q2
          have hca : ThC H x.va (thrL x.thn 0 []).1 (thrL x.thn 0 []).2 := fun K2 R2 z1 z2 z3 => ih _ hsma (by omega) K2 _ R2 hsa z1 z2 z3
          have hcb : ThC H x.vb (thrL x.els 0 []).1 (thrL x.els 0 []).2 := fun K2 R2 z1 z2 z3 => ih _ hsmb (by omega) K2 _ R2 hsb z1 z2 z3
          have e1 : thr1 x nn ee = if max (thrL x.thn 0 []).1 (thrL x.els 0 []).1 < 0 then (-1, ee ++ ((thrL x.thn 0 []).2 ++ (thrL x.els 0 []).2).map (fun y => (if x.kind = 1 then (nn : Int) + 1 else (nn : Int)) + y), false)
              else ((if x.kind = 1 then (nn : Int) + 1 else (nn : Int)) + max (thrL x.thn 0 []).1 (thrL x.els 0 []).1, ee ++ ((thrL x.thn 0 []).2 ++ (thrL x.els 0 []).2).map (fun y => (if x.kind = 1 then (nn : Int) + 1 else (nn : Int)) + y), true) := by
            have : thr1 x nn ee = thrN x.kind nn ee (thrL x.thn 0 []) (thrL x.els 0 []) := by cases x; rfl
            rw [this, thrN, if_neg k3, if_pos k1]
          have hbs : (∀ y ∈ ee ++ ((thrL x.thn 0 []).2 ++ (thrL x.els 0 []).2).map (fun y => (if x.kind = 1 then (nn : Int) + 1 else (nn : Int)) + y), 0 ≤ y ∧ y ≤ 128) ∧
              (ee ++ ((thrL x.thn 0 []).2 ++ (thrL x.els 0 []).2).map (fun y => (if x.kind = 1 then (nn : Int) + 1 else (nn : Int)) + y)).length + (flatL 0 (l.drop (i + 1))).length ≤ 128 := by
            refine ⟨fun y hy => ?_, by simp only [List.length_append, List.length_map]; omega⟩
            rcases List.mem_append.1 hy with hy | hy
            · exact hb2 y hy
            · obtain ⟨w, hw, rfl⟩ := List.mem_map.1 hy
              rcases List.mem_append.1 hw with hw | hw
              · obtain ⟨q1, q2 | q2⟩ := ta3 w hw
                · split <;> omega
                · cases q2
              · obtain ⟨q1, q2 | q2⟩ := tb3 w hw
                · split <;> omega
                · cases q2
          rcases k1 with k1 | k1
          · rw [k1] at h0
            have hm : ((nn : Int) + 1) = if x.kind = 1 then (nn : Int) + 1 else (nn : Int) := by rw [k1]; rfl
            rw [← hm] at e1 hbs
            simp (disch := omega) only [kB, kcx, kdm, kdn, kel, aop, resultsL, resultOf, Nat.reduceEqDiff, reduceCtorEq, eq1, apartOK, apart2, AObj.live, Int.reduceEq, Int.reduceLT, Int.reduceLE, Int.reduceAdd, Int.reduceSub, Int.reduceMul, Int.reduceToNat, cutCells, Nat.reduceAdd, Nat.reduceLeDiff, Nat.reduceLT, Nat.reduceMul, Nat.reduceSub, c0, hrow, hle, hcut2, hg13, hone, hset13, h0, hZ', w1]
            rw [hZ]
            refine th_tail (H := H) (n0 := K.length) (bx := K'.length) (ad := ad2) (ee := ee) (m := ((nn : Int) + 1)) (p := (thrL x.thn 0 []).1) (q := (thrL x.els 0 []).1) (E1 := (thrL x.thn 0 []).2) (E2 := (thrL x.els 0 []).2) (cs := cs) (va := x.va) (vb := x.vb) (u := 0) (wr := true)
              (by rw [hget_last]) h11 h12 hn hk1 (fun c hc => by rw [hget_old (by omega), hk2 c (by omega)]; exact hk c hc) (SLs.app hE) hca hcb (by omega) (by omega) (by omega) ha3 hb3' (by omega) (by omega) (by omega) (fun q => by have := (SLs.lt hE q).1; omega) (by exact ex_env rfl) ?_ ?_
            · intro hlt0 _ ad3 E K3 hEE g1 g2 g3 e' e2 e3
              rw [if_pos hlt0] at e1
              have e4 : thrL l 0 [] = (-1, E) := by
                rw [hT, thrL, e1, hEE]
                rfl
              rw [e4] at h
              have hh := h ad3 K3 (by simp at g1; omega) (fun c hc => by rw [g2 c hc, hget_old (by omega)]; exact hk2 c hc) g3
              simp (disch := omega) only [kB, kcx, kdm, kdn, kel, aop, resultsL, resultOf, Nat.reduceEqDiff, reduceCtorEq, eq1, apartOK, apart2, AObj.live, Int.reduceEq, Int.reduceLT, Int.reduceLE, Int.reduceAdd, Int.reduceSub, Int.reduceMul, Int.reduceToNat, cutCells, Nat.reduceAdd, Nat.reduceLeDiff, Nat.reduceLT, Nat.reduceMul, Nat.reduceSub, e2, e3]
              exact hh
            · intro hlt0 ad3 E K3 hEE g1 g2 g3 e' he'
              obtain ⟨x2, rfl⟩ := he'
              rw [if_neg hlt0] at e1
              rw [← hEE] at e1 hbs
              simp (disch := omega) only [kB, kcx, kdm, kdn, kel, aop, resultsL, resultOf, Nat.reduceEqDiff, reduceCtorEq, eq1, apartOK, apart2, AObj.live, Int.reduceEq, Int.reduceLT, Int.reduceLE, Int.reduceAdd, Int.reduceSub, Int.reduceMul, Int.reduceToNat, cutCells, Nat.reduceAdd, Nat.reduceLeDiff, Nat.reduceLT, Nat.reduceMul, Nat.reduceSub, w2]
              refine ⟨l.length - (i + 1), by omega, i + 1, (((nn : Int) + 1) + max (thrL x.thn 0 []).1 (thrL x.els 0 []).1).toNat, ad3, E, by omega, rfl, by simp at g1; omega, fun c hc => by rw [g2 c hc, hget_old (by omega)]; exact hk2 c hc, ?_, by omega, hbs.1, by omega, g3, ?_⟩
              · rw [hT, thrL, e1, Int.toNat_of_nonneg (by omega)]
                rfl
              · rw [Int.toNat_of_nonneg (by omega)]
                exact ex_env rfl
          · rw [k1] at h0
            have hm : (nn : Int) = if x.kind = 1 then (nn : Int) + 1 else (nn : Int) := by rw [k1]; rfl
            rw [← hm] at e1 hbs
            simp (disch := omega) only [kB, kcx, kdm, kdn, kel, aop, resultsL, resultOf, Nat.reduceEqDiff, reduceCtorEq, eq1, apartOK, apart2, AObj.live, Int.reduceEq, Int.reduceLT, Int.reduceLE, Int.reduceAdd, Int.reduceSub, Int.reduceMul, Int.reduceToNat, cutCells, Nat.reduceAdd, Nat.reduceLeDiff, Nat.reduceLT, Nat.reduceMul, Nat.reduceSub, c0, hrow, hle, hcut2, hg13, hone, hset13, h0, hZ', w1]
            rw [hZ]
            refine th_tail (H := H) (n0 := K.length) (bx := K'.length) (ad := ad2) (ee := ee) (m := (nn : Int)) (p := (thrL x.thn 0 []).1) (q := (thrL x.els 0 []).1) (E1 := (thrL x.thn 0 []).2) (E2 := (thrL x.els 0 []).2) (cs := cs) (va := x.va) (vb := x.vb) (u := 0) (wr := true)
              (by rw [hget_last]) h11 h12 hn hk1 (fun c hc => by rw [hget_old (by omega), hk2 c (by omega)]; exact hk c hc) (SLs.app hE) hca hcb (by omega) (by omega) (by omega) ha3 hb3' (by omega) (by omega) (by omega) (fun q => by have := (SLs.lt hE q).1; omega) (by exact ex_env rfl) ?_ ?_
            · intro hlt0 _ ad3 E K3 hEE g1 g2 g3 e' e2 e3
              rw [if_pos hlt0] at e1
              have e4 : thrL l 0 [] = (-1, E) := by
                rw [hT, thrL, e1, hEE]
                rfl
              rw [e4] at h
              have hh := h ad3 K3 (by simp at g1; omega) (fun c hc => by rw [g2 c hc, hget_old (by omega)]; exact hk2 c hc) g3
              simp (disch := omega) only [kB, kcx, kdm, kdn, kel, aop, resultsL, resultOf, Nat.reduceEqDiff, reduceCtorEq, eq1, apartOK, apart2, AObj.live, Int.reduceEq, Int.reduceLT, Int.reduceLE, Int.reduceAdd, Int.reduceSub, Int.reduceMul, Int.reduceToNat, cutCells, Nat.reduceAdd, Nat.reduceLeDiff, Nat.reduceLT, Nat.reduceMul, Nat.reduceSub, e2, e3]
              exact hh
            · intro hlt0 ad3 E K3 hEE g1 g2 g3 e' he'
              obtain ⟨x2, rfl⟩ := he'
              rw [if_neg hlt0] at e1
              rw [← hEE] at e1 hbs
              simp (disch := omega) only [kB, kcx, kdm, kdn, kel, aop, resultsL, resultOf, Nat.reduceEqDiff, reduceCtorEq, eq1, apartOK, apart2, AObj.live, Int.reduceEq, Int.reduceLT, Int.reduceLE, Int.reduceAdd, Int.reduceSub, Int.reduceMul, Int.reduceToNat, cutCells, Nat.reduceAdd, Nat.reduceLeDiff, Nat.reduceLT, Nat.reduceMul, Nat.reduceSub, w2]
              refine ⟨l.length - (i + 1), by omega, i + 1, ((nn : Int) + max (thrL x.thn 0 []).1 (thrL x.els 0 []).1).toNat, ad3, E, by omega, rfl, by simp at g1; omega, fun c hc => by rw [g2 c hc, hget_old (by omega)]; exact hk2 c hc, ?_, by omega, hbs.1, by omega, g3, ?_⟩
              · rw [hT, thrL, e1, Int.toNat_of_nonneg (by omega)]
                rfl
              · rw [Int.toNat_of_nonneg (by omega)]
                exact ex_env rfl
        · have k11 : ¬ x.kind = 1 := fun q => k1 (.inl q)
          have k12 : ¬ x.kind = 2 := fun q => k1 (.inr q)
          have e1 : thr1 x nn ee = ((nn : Int), ee, true) := by
            have : thr1 x nn ee = thrN x.kind nn ee (thrL x.thn 0 []) (thrL x.els 0 []) := by cases x; rfl
            rw [this, thrN, if_neg k3, if_neg k1]
          simp (disch := omega) only [kB, kcx, kdm, kdn, kel, aop, resultsL, resultOf, Nat.reduceEqDiff, reduceCtorEq, eq1, apartOK, apart2, AObj.live, Int.reduceEq, Int.reduceLT, Int.reduceLE, Int.reduceAdd, Int.reduceSub, Int.reduceMul, Int.reduceToNat, cutCells, Nat.reduceAdd, Nat.reduceLeDiff, Nat.reduceLT, Nat.reduceMul, Nat.reduceSub, c0, hrow, hle, hcut2, hg13, hone, hset13, h0, k3, k11, k12, w2]
          refine ⟨l.length - (i + 1), by omega, i + 1, nn, ad2, ee, by omega, rfl, by simp; omega, fun c hc => by rw [hget_old (by omega)]; exact hk2 c hc, ?_, by omega, hb2, by omega, SLs.app hE, by exact ex_env rfl⟩
          rw [hT, thrL, e1]
          rfl
    · have c0 : ¬ (i : Int) < (l.length : Int) := by omega
      have hil : i = l.length := by omega
      rw [hil, List.drop_length, thrL] at hT
      rw [hT] at h
      have hh := h ad2 K' hk1 hk2 hE
      simp (disch := omega) only [kB, kcx, kdm, kdn, kel, aop, resultsL, resultOf, Nat.reduceEqDiff, reduceCtorEq, eq1, apartOK, apart2, AObj.live, Int.reduceEq, Int.reduceLT, Int.reduceLE, Int.reduceAdd, Int.reduceSub, Int.reduceMul, Int.reduceToNat, cutCells, Nat.reduceAdd, Nat.reduceLeDiff, Nat.reduceLT, Nat.reduceMul, Nat.reduceSub, c0]
      exact hh

end Go.Proofs.Ytpllhhaeclnngaa.Ev
