/- Parts of the proof: EvTab2, EvTab3, EvTab, S0, Y1, Y10, Y11, Y12a, Y13a, Z1, Z3. Conditions: none. -/
import Derived.Test.YtpllhhaeclnngaaGreatCop2
import Derived.Test.YtpllhhaeclnngaaGreatProg
/- The functions of the program in the evaluator's form, as its own look-up lays them (part 2). Conditions: none; these are definitions. -/
namespace Go.Proofs.YtpllhhaeclnngaaGreat.Ev
set_option maxRecDepth 100000
def g81 : AFunc := (.code 59 (.seq (.ops [⟨(some 2), (.box (.tmp 0)), none, []⟩, ⟨(some 3), (.box (.tmp 1)), none, []⟩, ⟨(some 4), (.mov (.const (.bool false))), none, []⟩]) (.seq (.seq (.ops [⟨(some 6), (.fAddr 0 (.tmp 2)), none, []⟩, ⟨(some 7), (.load1 (.tmp 6)), none, []⟩, ⟨(some 8), (.fAddr 0 (.tmp 3)), none, []⟩, ⟨(some 9), (.load1 (.tmp 8)), none, []⟩, ⟨(some 10), (.bin .neq (.tmp 7) (.tmp 9)), none, []⟩, ⟨(some 11), (.mov (.tmp 10)), none, []⟩, ⟨(some 12), (.fAddr 1 (.tmp 2)), (some (11, false)), []⟩, ⟨(some 13), (.load1 (.tmp 12)), (some (11, false)), []⟩, ⟨(some 14), (.fAddr 1 (.tmp 3)), (some (11, false)), []⟩, ⟨(some 15), (.load1 (.tmp 14)), (some (11, false)), []⟩, ⟨(some 16), (.bin .neq (.tmp 13) (.tmp 15)), (some (11, false)), []⟩, ⟨(some 17), (.pick (.tmp 11) (.const (.bool true)) (.tmp 16)), none, []⟩, ⟨(some 18), (.mov (.tmp 17)), none, []⟩, ⟨(some 19), (.fAddr 2 (.tmp 2)), (some (18, false)), []⟩, ⟨(some 20), (.loadN 2 (.tmp 19)), (some (18, false)), []⟩, ⟨(some 21), (.fAddr 2 (.tmp 3)), (some (18, false)), []⟩, ⟨(some 22), (.loadN 2 (.tmp 21)), (some (18, false)), []⟩, ⟨(some 23), (.eqs true 2 [(0, 2), (1, 2)] (.tmp 20) (.tmp 22)), (some (18, false)), []⟩, ⟨(some 24), (.pick (.tmp 18) (.const (.bool true)) (.tmp 23)), none, []⟩, ⟨(some 25), (.mov (.tmp 24)), none, []⟩, ⟨(some 26), (.fAddr 5 (.tmp 2)), (some (25, false)), []⟩, ⟨(some 27), (.load1 (.tmp 26)), (some (25, false)), []⟩, ⟨(some 28), (.fAddr 5 (.tmp 3)), (some (25, false)), []⟩, ⟨(some 29), (.load1 (.tmp 28)), (some (25, false)), []⟩, ⟨(some 30), (.bin .neq (.tmp 27) (.tmp 29)), (some (25, false)), []⟩, ⟨(some 31), (.pick (.tmp 25) (.const (.bool true)) (.tmp 30)), none, []⟩, ⟨(some 32), (.mov (.tmp 31)), none, []⟩, ⟨(some 33), (.fAddr 4 (.tmp 2)), (some (32, false)), []⟩, ⟨(some 34), (.load1 (.tmp 33)), (some (32, false)), []⟩, ⟨(some 35), (.lenSl (.tmp 34)), (some (32, false)), []⟩, ⟨(some 36), (.fAddr 4 (.tmp 3)), (some (32, false)), []⟩, ⟨(some 37), (.load1 (.tmp 36)), (some (32, false)), []⟩, ⟨(some 38), (.lenSl (.tmp 37)), (some (32, false)), []⟩, ⟨(some 39), (.bin .neq (.tmp 35) (.tmp 38)), (some (32, false)), []⟩, ⟨(some 40), (.pick (.tmp 32) (.const (.bool true)) (.tmp 39)), none, []⟩]) (.cond (.tmp 40) (.seq (.ops [⟨(some 4), (.mov (.const (.bool false))), none, []⟩]) .ret) .skip)) (.seq (.seq (.ops [⟨(some 5), (.mov (.const (.int .i64 0))), none, []⟩]) (.block 0 (.loop (.seq (.seq (.ops [⟨(some 41), (.mov (.tmp 5)), none, []⟩, ⟨(some 42), (.fAddr 4 (.tmp 2)), none, []⟩, ⟨(some 43), (.load1 (.tmp 42)), none, []⟩, ⟨(some 44), (.lenSl (.tmp 43)), none, []⟩, ⟨(some 45), (.bin .lss (.tmp 41) (.tmp 44)), none, []⟩]) (.cond (.tmp 45) .skip (.exit 0))) (.seq (.block 1 (.seq (.ops [⟨(some 48), (.fAddr 4 (.tmp 2)), none, []⟩, ⟨(some 50), (.mov (.tmp 5)), none, []⟩, ⟨(some 53), (.fAddr 4 (.tmp 3)), none, []⟩, ⟨(some 55), (.mov (.tmp 5)), none, []⟩, ⟨(some 49), (.load1 (.tmp 48)), none, []⟩, ⟨(some 51), (.iAddrSl 5 (.tmp 49) (.tmp 50)), none, []⟩, ⟨(some 52), (.loadN 5 (.tmp 51)), none, []⟩, ⟨(some 54), (.load1 (.tmp 53)), none, []⟩, ⟨(some 56), (.iAddrSl 5 (.tmp 54) (.tmp 55)), none, []⟩, ⟨(some 57), (.loadN 5 (.tmp 56)), none, []⟩, ⟨(some 58), (.eqs true 5 [(0, 1), (1, 1), (2, 1), (3, 1), (4, 2)] (.tmp 52) (.tmp 57)), none, []⟩]) (.cond (.tmp 58) (.seq (.ops [⟨(some 4), (.mov (.const (.bool false))), none, []⟩]) .ret) .skip))) (.ops [⟨(some 46), (.mov (.tmp 5)), none, []⟩, ⟨(some 47), (.bin .add (.tmp 46) (.const (.int .i64 1))), none, []⟩, ⟨(some 5), (.mov (.tmp 47)), none, []⟩])))))) (.seq (.ops [⟨(some 4), (.mov (.const (.bool true))), none, []⟩]) .ret)))) [(.tmp 4)])
def g82 : AFunc := (.code 82 (.seq (.ops [⟨(some 4), (.mov (.const (.bool false))), none, []⟩]) (.seq (.seq (.ops [⟨(some 8), (.mov (.tmp 0)), none, []⟩, ⟨(some 9), (.lenSl (.tmp 8)), none, []⟩, ⟨(some 10), (.mov (.tmp 1)), none, []⟩, ⟨(some 11), (.lenSl (.tmp 10)), none, []⟩, ⟨(some 12), (.bin .neq (.tmp 9) (.tmp 11)), none, []⟩]) (.cond (.tmp 12) (.seq (.ops [⟨(some 4), (.mov (.const (.bool false))), none, []⟩]) .ret) .skip)) (.seq (.seq (.ops [⟨(some 5), (.mov (.const (.int .i64 0))), none, []⟩]) (.block 0 (.loop (.seq (.seq (.ops [⟨(some 13), (.mov (.tmp 5)), none, []⟩, ⟨(some 14), (.mov (.tmp 0)), none, []⟩, ⟨(some 15), (.lenSl (.tmp 14)), none, []⟩, ⟨(some 16), (.bin .lss (.tmp 13) (.tmp 15)), none, []⟩]) (.cond (.tmp 16) .skip (.exit 0))) (.seq (.block 1 (.seq (.seq (.ops [⟨(some 19), (.mov (.tmp 0)), none, []⟩, ⟨(some 20), (.mov (.tmp 5)), none, []⟩, ⟨(some 21), (.iAddrSl 13 (.tmp 19) (.tmp 20)), none, []⟩, ⟨(some 22), (.fAddr 0 (.tmp 21)), none, []⟩, ⟨(some 24), (.mov (.tmp 1)), none, []⟩, ⟨(some 25), (.mov (.tmp 5)), none, []⟩, ⟨(some 26), (.iAddrSl 13 (.tmp 24) (.tmp 25)), none, []⟩, ⟨(some 27), (.fAddr 0 (.tmp 26)), none, []⟩, ⟨(some 23), (.load1 (.tmp 22)), none, []⟩, ⟨(some 28), (.load1 (.tmp 27)), none, []⟩, ⟨(some 29), (.bin .neq (.tmp 23) (.tmp 28)), none, []⟩, ⟨(some 30), (.mov (.tmp 29)), none, []⟩, ⟨(some 31), (.mov (.tmp 0)), (some (30, false)), []⟩, ⟨(some 32), (.mov (.tmp 5)), (some (30, false)), []⟩, ⟨(some 33), (.iAddrSl 13 (.tmp 31) (.tmp 32)), (some (30, false)), []⟩, ⟨(some 34), (.fAddr 1 (.tmp 33)), (some (30, false)), []⟩, ⟨(some 36), (.mov (.tmp 1)), (some (30, false)), []⟩, ⟨(some 37), (.mov (.tmp 5)), (some (30, false)), []⟩, ⟨(some 38), (.iAddrSl 13 (.tmp 36) (.tmp 37)), (some (30, false)), []⟩, ⟨(some 39), (.fAddr 1 (.tmp 38)), (some (30, false)), []⟩, ⟨(some 35), (.load1 (.tmp 34)), (some (30, false)), []⟩, ⟨(some 40), (.load1 (.tmp 39)), (some (30, false)), []⟩, ⟨(some 41), (.bin .neq (.tmp 35) (.tmp 40)), (some (30, false)), []⟩, ⟨(some 42), (.pick (.tmp 30) (.const (.bool true)) (.tmp 41)), none, []⟩, ⟨(some 43), (.mov (.tmp 42)), none, []⟩, ⟨(some 44), (.mov (.tmp 0)), (some (43, false)), []⟩, ⟨(some 45), (.mov (.tmp 5)), (some (43, false)), []⟩, ⟨(some 46), (.iAddrSl 13 (.tmp 44) (.tmp 45)), (some (43, false)), []⟩, ⟨(some 47), (.fAddr 2 (.tmp 46)), (some (43, false)), []⟩, ⟨(some 49), (.mov (.tmp 1)), (some (43, false)), []⟩, ⟨(some 50), (.mov (.tmp 5)), (some (43, false)), []⟩, ⟨(some 51), (.iAddrSl 13 (.tmp 49) (.tmp 50)), (some (43, false)), []⟩, ⟨(some 52), (.fAddr 2 (.tmp 51)), (some (43, false)), []⟩, ⟨(some 48), (.loadN 9 (.tmp 47)), (some (43, false)), []⟩, ⟨(some 53), (.loadN 9 (.tmp 52)), (some (43, false)), []⟩, ⟨(some 54), (.eqs true 9 [(0, 1), (1, 2), (2, 2), (3, 1), (4, 1), (5, 2), (6, 2), (7, 1), (8, 1)] (.tmp 48) (.tmp 53)), (some (43, false)), []⟩, ⟨(some 55), (.pick (.tmp 43) (.const (.bool true)) (.tmp 54)), none, []⟩]) (.cond (.tmp 55) (.seq (.ops [⟨(some 4), (.mov (.const (.bool false))), none, []⟩]) .ret) .skip)) (.seq (.ops [⟨(some 56), (.mov (.tmp 0)), none, []⟩, ⟨(some 57), (.mov (.tmp 5)), none, []⟩, ⟨(some 58), (.iAddrSl 13 (.tmp 56) (.tmp 57)), none, []⟩, ⟨(some 59), (.fAddr 11 (.tmp 58)), none, []⟩, ⟨(some 61), (.mov (.tmp 1)), none, []⟩, ⟨(some 62), (.mov (.tmp 5)), none, []⟩, ⟨(some 63), (.iAddrSl 13 (.tmp 61) (.tmp 62)), none, []⟩, ⟨(some 64), (.fAddr 11 (.tmp 63)), none, []⟩, ⟨(some 60), (.load1 (.tmp 59)), none, []⟩, ⟨(some 65), (.load1 (.tmp 64)), none, []⟩, ⟨(some 66), (.callv (.func 82) [(.tmp 60), (.tmp 65)]), none, []⟩, ⟨(some 6), (.mov (.tmp 66)), none, []⟩]) (.seq (.seq (.ops [⟨(some 67), (.mov (.tmp 6)), none, []⟩, ⟨(some 68), (.un .not (.tmp 67)), none, []⟩]) (.cond (.tmp 68) (.seq (.ops [⟨(some 4), (.mov (.const (.bool false))), none, []⟩]) .ret) .skip)) (.seq (.ops [⟨(some 69), (.mov (.tmp 0)), none, []⟩, ⟨(some 70), (.mov (.tmp 5)), none, []⟩, ⟨(some 71), (.iAddrSl 13 (.tmp 69) (.tmp 70)), none, []⟩, ⟨(some 72), (.fAddr 12 (.tmp 71)), none, []⟩, ⟨(some 74), (.mov (.tmp 1)), none, []⟩, ⟨(some 75), (.mov (.tmp 5)), none, []⟩, ⟨(some 76), (.iAddrSl 13 (.tmp 74) (.tmp 75)), none, []⟩, ⟨(some 77), (.fAddr 12 (.tmp 76)), none, []⟩, ⟨(some 73), (.load1 (.tmp 72)), none, []⟩, ⟨(some 78), (.load1 (.tmp 77)), none, []⟩, ⟨(some 79), (.callv (.func 82) [(.tmp 73), (.tmp 78)]), none, []⟩, ⟨(some 7), (.mov (.tmp 79)), none, []⟩]) (.seq (.ops [⟨(some 80), (.mov (.tmp 7)), none, []⟩, ⟨(some 81), (.un .not (.tmp 80)), none, []⟩]) (.cond (.tmp 81) (.seq (.ops [⟨(some 4), (.mov (.const (.bool false))), none, []⟩]) .ret) .skip))))))) (.ops [⟨(some 17), (.mov (.tmp 5)), none, []⟩, ⟨(some 18), (.bin .add (.tmp 17) (.const (.int .i64 1))), none, []⟩, ⟨(some 5), (.mov (.tmp 18)), none, []⟩])))))) (.seq (.ops [⟨(some 4), (.mov (.const (.bool true))), none, []⟩]) .ret)))) [(.tmp 4)])
def g83 : AFunc := (.code 26 (.seq (.ops [⟨(some 4), (.mov (.const (.bool false))), none, []⟩]) (.seq (.seq (.ops [⟨(some 6), (.mov (.tmp 0)), none, []⟩, ⟨(some 7), (.lenSl (.tmp 6)), none, []⟩, ⟨(some 8), (.mov (.tmp 1)), none, []⟩, ⟨(some 9), (.lenSl (.tmp 8)), none, []⟩, ⟨(some 10), (.bin .neq (.tmp 7) (.tmp 9)), none, []⟩]) (.cond (.tmp 10) (.seq (.ops [⟨(some 4), (.mov (.const (.bool false))), none, []⟩]) .ret) .skip)) (.seq (.seq (.ops [⟨(some 11), (.mov (.tmp 0)), none, []⟩, ⟨(some 12), (.lenSl (.tmp 11)), none, []⟩, ⟨(some 13), (.mov (.const (.int .i64 0))), none, []⟩]) (.block 0 (.loop (.seq (.ops [⟨(some 14), (.bin .lss (.tmp 13) (.tmp 12)), none, []⟩]) (.seq (.cond (.tmp 14) .skip (.exit 0)) (.seq (.block 1 (.seq (.ops [⟨(some 15), (.mov (.tmp 13)), none, []⟩, ⟨(some 5), (.mov (.tmp 15)), none, []⟩]) (.seq (.ops [⟨(some 16), (.mov (.tmp 0)), none, []⟩, ⟨(some 17), (.mov (.tmp 5)), none, []⟩, ⟨(some 18), (.iAddrSl 2 (.tmp 16) (.tmp 17)), none, []⟩, ⟨(some 20), (.mov (.tmp 1)), none, []⟩, ⟨(some 21), (.mov (.tmp 5)), none, []⟩, ⟨(some 22), (.iAddrSl 2 (.tmp 20) (.tmp 21)), none, []⟩, ⟨(some 19), (.loadN 2 (.tmp 18)), none, []⟩, ⟨(some 23), (.loadN 2 (.tmp 22)), none, []⟩, ⟨(some 24), (.eqs true 2 [(0, 2), (1, 1)] (.tmp 19) (.tmp 23)), none, []⟩]) (.cond (.tmp 24) (.seq (.ops [⟨(some 4), (.mov (.const (.bool false))), none, []⟩]) .ret) .skip)))) (.ops [⟨(some 25), (.bin .add (.tmp 13) (.const (.int .i64 1))), none, []⟩, ⟨(some 13), (.mov (.tmp 25)), none, []⟩]))))))) (.seq (.ops [⟨(some 4), (.mov (.const (.bool true))), none, []⟩]) .ret)))) [(.tmp 4)])
def g84 : AFunc := (.code 32 (.seq (.ops [⟨(some 6), (.mov (.const (.bool false))), none, []⟩]) (.seq (.seq (.ops [⟨(some 10), (.mov (.tmp 0)), none, []⟩, ⟨(some 11), (.lenSl (.tmp 10)), none, []⟩, ⟨(some 12), (.mov (.tmp 1)), none, []⟩, ⟨(some 13), (.lenSl (.tmp 12)), none, []⟩, ⟨(some 14), (.bin .neq (.tmp 11) (.tmp 13)), none, []⟩]) (.cond (.tmp 14) (.seq (.ops [⟨(some 6), (.mov (.const (.bool false))), none, []⟩]) .ret) .skip)) (.seq (.seq (.ops [⟨(some 15), (.mov (.tmp 0)), none, []⟩, ⟨(some 16), (.lenSl (.tmp 15)), none, []⟩, ⟨(some 17), (.mov (.const (.int .i64 0))), none, []⟩]) (.block 0 (.loop (.seq (.ops [⟨(some 18), (.bin .lss (.tmp 17) (.tmp 16)), none, []⟩]) (.seq (.cond (.tmp 18) .skip (.exit 0)) (.seq (.block 1 (.seq (.ops [⟨(some 19), (.mov (.tmp 17)), none, []⟩, ⟨(some 20), (.iAddrSl 2 (.tmp 15) (.tmp 17)), none, []⟩, ⟨(some 21), (.loadN 2 (.tmp 20)), none, []⟩, ⟨(some 8), (.alloc [(.string (bs [])), (.slice none 0 0)]), none, []⟩, ⟨(some 7), (.mov (.tmp 19)), none, []⟩, ⟨none, (.store 2 (.tmp 8) (.tmp 21)), none, []⟩]) (.seq (.ops [⟨(some 22), (.mov (.tmp 1)), none, []⟩, ⟨(some 23), (.mov (.tmp 7)), none, []⟩, ⟨(some 24), (.iAddrSl 2 (.tmp 22) (.tmp 23)), none, []⟩, ⟨(some 25), (.loadN 2 (.tmp 24)), none, []⟩, ⟨(some 9), (.alloc [(.string (bs [])), (.slice none 0 0)]), none, []⟩, ⟨none, (.store 2 (.tmp 9) (.tmp 25)), none, []⟩]) (.seq (.ops [⟨(some 26), (.mov (.tmp 2)), none, []⟩, ⟨(some 27), (.loadN 2 (.tmp 8)), none, []⟩, ⟨(some 28), (.loadN 2 (.tmp 9)), none, []⟩, ⟨(some 29), (.callv (.tmp 26) [(.tmp 27), (.tmp 28)]), none, []⟩, ⟨(some 30), (.un .not (.tmp 29)), none, []⟩]) (.cond (.tmp 30) (.seq (.ops [⟨(some 6), (.mov (.const (.bool false))), none, []⟩]) .ret) .skip))))) (.ops [⟨(some 31), (.bin .add (.tmp 17) (.const (.int .i64 1))), none, []⟩, ⟨(some 17), (.mov (.tmp 31)), none, []⟩]))))))) (.seq (.ops [⟨(some 6), (.mov (.const (.bool true))), none, []⟩]) .ret)))) [(.tmp 6)])
def g85 : AFunc := (.code 17 (.seq (.ops [⟨(some 2), (.box (.tmp 0)), none, []⟩, ⟨(some 3), (.box (.tmp 1)), none, []⟩, ⟨(some 4), (.mov (.const (.bool false))), none, []⟩]) (.seq (.ops [⟨(some 5), (.fAddr 0 (.tmp 2)), none, []⟩, ⟨(some 6), (.load1 (.tmp 5)), none, []⟩, ⟨(some 7), (.fAddr 0 (.tmp 3)), none, []⟩, ⟨(some 8), (.load1 (.tmp 7)), none, []⟩, ⟨(some 9), (.bin .eql (.tmp 6) (.tmp 8)), none, []⟩, ⟨(some 10), (.mov (.tmp 9)), none, []⟩, ⟨(some 11), (.fAddr 1 (.tmp 2)), (some (10, true)), []⟩, ⟨(some 12), (.load1 (.tmp 11)), (some (10, true)), []⟩, ⟨(some 13), (.fAddr 1 (.tmp 3)), (some (10, true)), []⟩, ⟨(some 14), (.load1 (.tmp 13)), (some (10, true)), []⟩, ⟨(some 15), (.callv (.func 83) [(.tmp 12), (.tmp 14)]), (some (10, true)), []⟩, ⟨(some 16), (.pick (.tmp 10) (.tmp 15) (.const (.bool false))), none, []⟩, ⟨(some 4), (.mov (.tmp 16)), none, []⟩]) .ret)) [(.tmp 4)])
def g86 : AFunc := (.code 32 (.seq (.ops [⟨(some 6), (.mov (.const (.bool false))), none, []⟩]) (.seq (.seq (.ops [⟨(some 10), (.mov (.tmp 0)), none, []⟩, ⟨(some 11), (.lenSl (.tmp 10)), none, []⟩, ⟨(some 12), (.mov (.tmp 1)), none, []⟩, ⟨(some 13), (.lenSl (.tmp 12)), none, []⟩, ⟨(some 14), (.bin .neq (.tmp 11) (.tmp 13)), none, []⟩]) (.cond (.tmp 14) (.seq (.ops [⟨(some 6), (.mov (.const (.bool false))), none, []⟩]) .ret) .skip)) (.seq (.seq (.ops [⟨(some 15), (.mov (.tmp 0)), none, []⟩, ⟨(some 16), (.lenSl (.tmp 15)), none, []⟩, ⟨(some 17), (.mov (.const (.int .i64 0))), none, []⟩]) (.block 0 (.loop (.seq (.ops [⟨(some 18), (.bin .lss (.tmp 17) (.tmp 16)), none, []⟩]) (.seq (.cond (.tmp 18) .skip (.exit 0)) (.seq (.block 1 (.seq (.ops [⟨(some 19), (.mov (.tmp 17)), none, []⟩, ⟨(some 20), (.iAddrSl 6 (.tmp 15) (.tmp 17)), none, []⟩, ⟨(some 21), (.loadN 6 (.tmp 20)), none, []⟩, ⟨(some 8), (.alloc [(.string (bs [])), (.string (bs [])), (.string (bs [])), (.string (bs [])), (.slice none 0 0), (.string (bs []))]), none, []⟩, ⟨(some 7), (.mov (.tmp 19)), none, []⟩, ⟨none, (.store 6 (.tmp 8) (.tmp 21)), none, []⟩]) (.seq (.ops [⟨(some 22), (.mov (.tmp 1)), none, []⟩, ⟨(some 23), (.mov (.tmp 7)), none, []⟩, ⟨(some 24), (.iAddrSl 6 (.tmp 22) (.tmp 23)), none, []⟩, ⟨(some 25), (.loadN 6 (.tmp 24)), none, []⟩, ⟨(some 9), (.alloc [(.string (bs [])), (.string (bs [])), (.string (bs [])), (.string (bs [])), (.slice none 0 0), (.string (bs []))]), none, []⟩, ⟨none, (.store 6 (.tmp 9) (.tmp 25)), none, []⟩]) (.seq (.ops [⟨(some 26), (.mov (.tmp 2)), none, []⟩, ⟨(some 27), (.loadN 6 (.tmp 8)), none, []⟩, ⟨(some 28), (.loadN 6 (.tmp 9)), none, []⟩, ⟨(some 29), (.callv (.tmp 26) [(.tmp 27), (.tmp 28)]), none, []⟩, ⟨(some 30), (.un .not (.tmp 29)), none, []⟩]) (.cond (.tmp 30) (.seq (.ops [⟨(some 6), (.mov (.const (.bool false))), none, []⟩]) .ret) .skip))))) (.ops [⟨(some 31), (.bin .add (.tmp 17) (.const (.int .i64 1))), none, []⟩, ⟨(some 17), (.mov (.tmp 31)), none, []⟩]))))))) (.seq (.ops [⟨(some 6), (.mov (.const (.bool true))), none, []⟩]) .ret)))) [(.tmp 6)])
def g87 : AFunc := (.code 38 (.seq (.ops [⟨(some 2), (.box (.tmp 0)), none, []⟩, ⟨(some 3), (.box (.tmp 1)), none, []⟩, ⟨(some 4), (.mov (.const (.bool false))), none, []⟩]) (.seq (.ops [⟨(some 5), (.fAddr 0 (.tmp 2)), none, []⟩, ⟨(some 6), (.load1 (.tmp 5)), none, []⟩, ⟨(some 7), (.fAddr 0 (.tmp 3)), none, []⟩, ⟨(some 8), (.load1 (.tmp 7)), none, []⟩, ⟨(some 9), (.bin .eql (.tmp 6) (.tmp 8)), none, []⟩, ⟨(some 10), (.mov (.tmp 9)), none, []⟩, ⟨(some 11), (.fAddr 1 (.tmp 2)), (some (10, true)), []⟩, ⟨(some 12), (.load1 (.tmp 11)), (some (10, true)), []⟩, ⟨(some 13), (.fAddr 1 (.tmp 3)), (some (10, true)), []⟩, ⟨(some 14), (.load1 (.tmp 13)), (some (10, true)), []⟩, ⟨(some 15), (.bin .eql (.tmp 12) (.tmp 14)), (some (10, true)), []⟩, ⟨(some 16), (.pick (.tmp 10) (.tmp 15) (.const (.bool false))), none, []⟩, ⟨(some 17), (.mov (.tmp 16)), none, []⟩, ⟨(some 18), (.fAddr 2 (.tmp 2)), (some (17, true)), []⟩, ⟨(some 19), (.loadN 2 (.tmp 18)), (some (17, true)), []⟩, ⟨(some 20), (.fAddr 2 (.tmp 3)), (some (17, true)), []⟩, ⟨(some 21), (.loadN 2 (.tmp 20)), (some (17, true)), []⟩, ⟨(some 22), (.eqs false 2 [(0, 2), (1, 2)] (.tmp 19) (.tmp 21)), (some (17, true)), []⟩, ⟨(some 23), (.pick (.tmp 17) (.tmp 22) (.const (.bool false))), none, []⟩, ⟨(some 24), (.mov (.tmp 23)), none, []⟩, ⟨(some 25), (.fAddr 5 (.tmp 2)), (some (24, true)), []⟩, ⟨(some 26), (.load1 (.tmp 25)), (some (24, true)), []⟩, ⟨(some 27), (.fAddr 5 (.tmp 3)), (some (24, true)), []⟩, ⟨(some 28), (.load1 (.tmp 27)), (some (24, true)), []⟩, ⟨(some 29), (.bin .eql (.tmp 26) (.tmp 28)), (some (24, true)), []⟩, ⟨(some 30), (.pick (.tmp 24) (.tmp 29) (.const (.bool false))), none, []⟩, ⟨(some 31), (.mov (.tmp 30)), none, []⟩, ⟨(some 32), (.fAddr 4 (.tmp 2)), (some (31, true)), []⟩, ⟨(some 33), (.load1 (.tmp 32)), (some (31, true)), []⟩, ⟨(some 34), (.fAddr 4 (.tmp 3)), (some (31, true)), []⟩, ⟨(some 35), (.load1 (.tmp 34)), (some (31, true)), []⟩, ⟨(some 36), (.callv (.func 88) [(.tmp 33), (.tmp 35)]), (some (31, true)), []⟩, ⟨(some 37), (.pick (.tmp 31) (.tmp 36) (.const (.bool false))), none, []⟩, ⟨(some 4), (.mov (.tmp 37)), none, []⟩]) .ret)) [(.tmp 4)])
def g88 : AFunc := (.code 26 (.seq (.ops [⟨(some 4), (.mov (.const (.bool false))), none, []⟩]) (.seq (.seq (.ops [⟨(some 6), (.mov (.tmp 0)), none, []⟩, ⟨(some 7), (.lenSl (.tmp 6)), none, []⟩, ⟨(some 8), (.mov (.tmp 1)), none, []⟩, ⟨(some 9), (.lenSl (.tmp 8)), none, []⟩, ⟨(some 10), (.bin .neq (.tmp 7) (.tmp 9)), none, []⟩]) (.cond (.tmp 10) (.seq (.ops [⟨(some 4), (.mov (.const (.bool false))), none, []⟩]) .ret) .skip)) (.seq (.seq (.ops [⟨(some 11), (.mov (.tmp 0)), none, []⟩, ⟨(some 12), (.lenSl (.tmp 11)), none, []⟩, ⟨(some 13), (.mov (.const (.int .i64 0))), none, []⟩]) (.block 0 (.loop (.seq (.ops [⟨(some 14), (.bin .lss (.tmp 13) (.tmp 12)), none, []⟩]) (.seq (.cond (.tmp 14) .skip (.exit 0)) (.seq (.block 1 (.seq (.ops [⟨(some 15), (.mov (.tmp 13)), none, []⟩, ⟨(some 5), (.mov (.tmp 15)), none, []⟩]) (.seq (.ops [⟨(some 16), (.mov (.tmp 0)), none, []⟩, ⟨(some 17), (.mov (.tmp 5)), none, []⟩, ⟨(some 18), (.iAddrSl 5 (.tmp 16) (.tmp 17)), none, []⟩, ⟨(some 20), (.mov (.tmp 1)), none, []⟩, ⟨(some 21), (.mov (.tmp 5)), none, []⟩, ⟨(some 22), (.iAddrSl 5 (.tmp 20) (.tmp 21)), none, []⟩, ⟨(some 19), (.loadN 5 (.tmp 18)), none, []⟩, ⟨(some 23), (.loadN 5 (.tmp 22)), none, []⟩, ⟨(some 24), (.eqs true 5 [(0, 1), (1, 1), (2, 1), (3, 1), (4, 2)] (.tmp 19) (.tmp 23)), none, []⟩]) (.cond (.tmp 24) (.seq (.ops [⟨(some 4), (.mov (.const (.bool false))), none, []⟩]) .ret) .skip)))) (.ops [⟨(some 25), (.bin .add (.tmp 13) (.const (.int .i64 1))), none, []⟩, ⟨(some 13), (.mov (.tmp 25)), none, []⟩]))))))) (.seq (.ops [⟨(some 4), (.mov (.const (.bool true))), none, []⟩]) .ret)))) [(.tmp 4)])
def g89 : AFunc := (.code 32 (.seq (.ops [⟨(some 6), (.mov (.const (.bool false))), none, []⟩]) (.seq (.seq (.ops [⟨(some 10), (.mov (.tmp 0)), none, []⟩, ⟨(some 11), (.lenSl (.tmp 10)), none, []⟩, ⟨(some 12), (.mov (.tmp 1)), none, []⟩, ⟨(some 13), (.lenSl (.tmp 12)), none, []⟩, ⟨(some 14), (.bin .neq (.tmp 11) (.tmp 13)), none, []⟩]) (.cond (.tmp 14) (.seq (.ops [⟨(some 6), (.mov (.const (.bool false))), none, []⟩]) .ret) .skip)) (.seq (.seq (.ops [⟨(some 15), (.mov (.tmp 0)), none, []⟩, ⟨(some 16), (.lenSl (.tmp 15)), none, []⟩, ⟨(some 17), (.mov (.const (.int .i64 0))), none, []⟩]) (.block 0 (.loop (.seq (.ops [⟨(some 18), (.bin .lss (.tmp 17) (.tmp 16)), none, []⟩]) (.seq (.cond (.tmp 18) .skip (.exit 0)) (.seq (.block 1 (.seq (.ops [⟨(some 19), (.mov (.tmp 17)), none, []⟩, ⟨(some 20), (.iAddrSl 3 (.tmp 15) (.tmp 17)), none, []⟩, ⟨(some 21), (.loadN 3 (.tmp 20)), none, []⟩, ⟨(some 8), (.alloc [(.string (bs [])), (.slice none 0 0), (.slice none 0 0)]), none, []⟩, ⟨(some 7), (.mov (.tmp 19)), none, []⟩, ⟨none, (.store 3 (.tmp 8) (.tmp 21)), none, []⟩]) (.seq (.ops [⟨(some 22), (.mov (.tmp 1)), none, []⟩, ⟨(some 23), (.mov (.tmp 7)), none, []⟩, ⟨(some 24), (.iAddrSl 3 (.tmp 22) (.tmp 23)), none, []⟩, ⟨(some 25), (.loadN 3 (.tmp 24)), none, []⟩, ⟨(some 9), (.alloc [(.string (bs [])), (.slice none 0 0), (.slice none 0 0)]), none, []⟩, ⟨none, (.store 3 (.tmp 9) (.tmp 25)), none, []⟩]) (.seq (.ops [⟨(some 26), (.mov (.tmp 2)), none, []⟩, ⟨(some 27), (.loadN 3 (.tmp 8)), none, []⟩, ⟨(some 28), (.loadN 3 (.tmp 9)), none, []⟩, ⟨(some 29), (.callv (.tmp 26) [(.tmp 27), (.tmp 28)]), none, []⟩, ⟨(some 30), (.un .not (.tmp 29)), none, []⟩]) (.cond (.tmp 30) (.seq (.ops [⟨(some 6), (.mov (.const (.bool false))), none, []⟩]) .ret) .skip))))) (.ops [⟨(some 31), (.bin .add (.tmp 17) (.const (.int .i64 1))), none, []⟩, ⟨(some 17), (.mov (.tmp 31)), none, []⟩]))))))) (.seq (.ops [⟨(some 6), (.mov (.const (.bool true))), none, []⟩]) .ret)))) [(.tmp 6)])
def g90 : AFunc := (.code 24 (.seq (.ops [⟨(some 2), (.box (.tmp 0)), none, []⟩, ⟨(some 3), (.box (.tmp 1)), none, []⟩, ⟨(some 4), (.mov (.const (.bool false))), none, []⟩]) (.seq (.ops [⟨(some 5), (.fAddr 0 (.tmp 2)), none, []⟩, ⟨(some 6), (.load1 (.tmp 5)), none, []⟩, ⟨(some 7), (.fAddr 0 (.tmp 3)), none, []⟩, ⟨(some 8), (.load1 (.tmp 7)), none, []⟩, ⟨(some 9), (.bin .eql (.tmp 6) (.tmp 8)), none, []⟩, ⟨(some 10), (.mov (.tmp 9)), none, []⟩, ⟨(some 11), (.fAddr 1 (.tmp 2)), (some (10, true)), []⟩, ⟨(some 12), (.load1 (.tmp 11)), (some (10, true)), []⟩, ⟨(some 13), (.fAddr 1 (.tmp 3)), (some (10, true)), []⟩, ⟨(some 14), (.load1 (.tmp 13)), (some (10, true)), []⟩, ⟨(some 15), (.callv (.func 83) [(.tmp 12), (.tmp 14)]), (some (10, true)), []⟩, ⟨(some 16), (.pick (.tmp 10) (.tmp 15) (.const (.bool false))), none, []⟩, ⟨(some 17), (.mov (.tmp 16)), none, []⟩, ⟨(some 18), (.fAddr 2 (.tmp 2)), (some (17, true)), []⟩, ⟨(some 19), (.load1 (.tmp 18)), (some (17, true)), []⟩, ⟨(some 20), (.fAddr 2 (.tmp 3)), (some (17, true)), []⟩, ⟨(some 21), (.load1 (.tmp 20)), (some (17, true)), []⟩, ⟨(some 22), (.callv (.func 91) [(.tmp 19), (.tmp 21)]), (some (17, true)), []⟩, ⟨(some 23), (.pick (.tmp 17) (.tmp 22) (.const (.bool false))), none, []⟩, ⟨(some 4), (.mov (.tmp 23)), none, []⟩]) .ret)) [(.tmp 4)])
def g91 : AFunc := (.code 26 (.seq (.ops [⟨(some 4), (.mov (.const (.bool false))), none, []⟩]) (.seq (.seq (.ops [⟨(some 6), (.mov (.tmp 0)), none, []⟩, ⟨(some 7), (.lenSl (.tmp 6)), none, []⟩, ⟨(some 8), (.mov (.tmp 1)), none, []⟩, ⟨(some 9), (.lenSl (.tmp 8)), none, []⟩, ⟨(some 10), (.bin .neq (.tmp 7) (.tmp 9)), none, []⟩]) (.cond (.tmp 10) (.seq (.ops [⟨(some 4), (.mov (.const (.bool false))), none, []⟩]) .ret) .skip)) (.seq (.seq (.ops [⟨(some 11), (.mov (.tmp 0)), none, []⟩, ⟨(some 12), (.lenSl (.tmp 11)), none, []⟩, ⟨(some 13), (.mov (.const (.int .i64 0))), none, []⟩]) (.block 0 (.loop (.seq (.ops [⟨(some 14), (.bin .lss (.tmp 13) (.tmp 12)), none, []⟩]) (.seq (.cond (.tmp 14) .skip (.exit 0)) (.seq (.block 1 (.seq (.ops [⟨(some 15), (.mov (.tmp 13)), none, []⟩, ⟨(some 5), (.mov (.tmp 15)), none, []⟩]) (.seq (.ops [⟨(some 16), (.mov (.tmp 0)), none, []⟩, ⟨(some 17), (.mov (.tmp 5)), none, []⟩, ⟨(some 18), (.iAddrSl 12 (.tmp 16) (.tmp 17)), none, []⟩, ⟨(some 20), (.mov (.tmp 1)), none, []⟩, ⟨(some 21), (.mov (.tmp 5)), none, []⟩, ⟨(some 22), (.iAddrSl 12 (.tmp 20) (.tmp 21)), none, []⟩, ⟨(some 19), (.loadN 12 (.tmp 18)), none, []⟩, ⟨(some 23), (.loadN 12 (.tmp 22)), none, []⟩, ⟨(some 24), (.eqs true 12 [(0, 1), (1, 2), (2, 2), (3, 1), (4, 2), (5, 2), (6, 1), (7, 1), (8, 2), (9, 2), (10, 1), (11, 1)] (.tmp 19) (.tmp 23)), none, []⟩]) (.cond (.tmp 24) (.seq (.ops [⟨(some 4), (.mov (.const (.bool false))), none, []⟩]) .ret) .skip)))) (.ops [⟨(some 25), (.bin .add (.tmp 13) (.const (.int .i64 1))), none, []⟩, ⟨(some 13), (.mov (.tmp 25)), none, []⟩]))))))) (.seq (.ops [⟨(some 4), (.mov (.const (.bool true))), none, []⟩]) .ret)))) [(.tmp 4)])
def g92 : AFunc := (.code 32 (.seq (.ops [⟨(some 6), (.mov (.const (.bool false))), none, []⟩]) (.seq (.seq (.ops [⟨(some 10), (.mov (.tmp 0)), none, []⟩, ⟨(some 11), (.lenSl (.tmp 10)), none, []⟩, ⟨(some 12), (.mov (.tmp 1)), none, []⟩, ⟨(some 13), (.lenSl (.tmp 12)), none, []⟩, ⟨(some 14), (.bin .neq (.tmp 11) (.tmp 13)), none, []⟩]) (.cond (.tmp 14) (.seq (.ops [⟨(some 6), (.mov (.const (.bool false))), none, []⟩]) .ret) .skip)) (.seq (.seq (.ops [⟨(some 15), (.mov (.tmp 0)), none, []⟩, ⟨(some 16), (.lenSl (.tmp 15)), none, []⟩, ⟨(some 17), (.mov (.const (.int .i64 0))), none, []⟩]) (.block 0 (.loop (.seq (.ops [⟨(some 18), (.bin .lss (.tmp 17) (.tmp 16)), none, []⟩]) (.seq (.cond (.tmp 18) .skip (.exit 0)) (.seq (.block 1 (.seq (.ops [⟨(some 19), (.mov (.tmp 17)), none, []⟩, ⟨(some 20), (.iAddrSl 7 (.tmp 15) (.tmp 17)), none, []⟩, ⟨(some 21), (.loadN 7 (.tmp 20)), none, []⟩, ⟨(some 8), (.alloc [(.string (bs [])), (.slice none 0 0), (.slice none 0 0), (.int .i64 0), (.string (bs [])), (.slice none 0 0), (.bool false)]), none, []⟩, ⟨(some 7), (.mov (.tmp 19)), none, []⟩, ⟨none, (.store 7 (.tmp 8) (.tmp 21)), none, []⟩]) (.seq (.ops [⟨(some 22), (.mov (.tmp 1)), none, []⟩, ⟨(some 23), (.mov (.tmp 7)), none, []⟩, ⟨(some 24), (.iAddrSl 7 (.tmp 22) (.tmp 23)), none, []⟩, ⟨(some 25), (.loadN 7 (.tmp 24)), none, []⟩, ⟨(some 9), (.alloc [(.string (bs [])), (.slice none 0 0), (.slice none 0 0), (.int .i64 0), (.string (bs [])), (.slice none 0 0), (.bool false)]), none, []⟩, ⟨none, (.store 7 (.tmp 9) (.tmp 25)), none, []⟩]) (.seq (.ops [⟨(some 26), (.mov (.tmp 2)), none, []⟩, ⟨(some 27), (.loadN 7 (.tmp 8)), none, []⟩, ⟨(some 28), (.loadN 7 (.tmp 9)), none, []⟩, ⟨(some 29), (.callv (.tmp 26) [(.tmp 27), (.tmp 28)]), none, []⟩, ⟨(some 30), (.un .not (.tmp 29)), none, []⟩]) (.cond (.tmp 30) (.seq (.ops [⟨(some 6), (.mov (.const (.bool false))), none, []⟩]) .ret) .skip))))) (.ops [⟨(some 31), (.bin .add (.tmp 17) (.const (.int .i64 1))), none, []⟩, ⟨(some 17), (.mov (.tmp 31)), none, []⟩]))))))) (.seq (.ops [⟨(some 6), (.mov (.const (.bool true))), none, []⟩]) .ret)))) [(.tmp 6)])
def g93 : AFunc := (.code 56 (.seq (.ops [⟨(some 2), (.box (.tmp 0)), none, []⟩, ⟨(some 3), (.box (.tmp 1)), none, []⟩, ⟨(some 4), (.mov (.const (.bool false))), none, []⟩]) (.seq (.ops [⟨(some 5), (.fAddr 0 (.tmp 2)), none, []⟩, ⟨(some 6), (.load1 (.tmp 5)), none, []⟩, ⟨(some 7), (.fAddr 0 (.tmp 3)), none, []⟩, ⟨(some 8), (.load1 (.tmp 7)), none, []⟩, ⟨(some 9), (.bin .eql (.tmp 6) (.tmp 8)), none, []⟩, ⟨(some 10), (.mov (.tmp 9)), none, []⟩, ⟨(some 11), (.fAddr 3 (.tmp 2)), (some (10, true)), []⟩, ⟨(some 12), (.load1 (.tmp 11)), (some (10, true)), []⟩, ⟨(some 13), (.fAddr 3 (.tmp 3)), (some (10, true)), []⟩, ⟨(some 14), (.load1 (.tmp 13)), (some (10, true)), []⟩, ⟨(some 15), (.bin .eql (.tmp 12) (.tmp 14)), (some (10, true)), []⟩, ⟨(some 16), (.pick (.tmp 10) (.tmp 15) (.const (.bool false))), none, []⟩, ⟨(some 17), (.mov (.tmp 16)), none, []⟩, ⟨(some 18), (.fAddr 6 (.tmp 2)), (some (17, true)), []⟩, ⟨(some 19), (.load1 (.tmp 18)), (some (17, true)), []⟩, ⟨(some 20), (.fAddr 6 (.tmp 3)), (some (17, true)), []⟩, ⟨(some 21), (.load1 (.tmp 20)), (some (17, true)), []⟩, ⟨(some 22), (.eqb false (.tmp 19) (.tmp 21)), (some (17, true)), []⟩, ⟨(some 23), (.pick (.tmp 17) (.tmp 22) (.const (.bool false))), none, []⟩, ⟨(some 24), (.mov (.tmp 23)), none, []⟩, ⟨(some 25), (.fAddr 4 (.tmp 2)), (some (24, true)), []⟩, ⟨(some 26), (.fAddr 0 (.tmp 25)), (some (24, true)), []⟩, ⟨(some 27), (.load1 (.tmp 26)), (some (24, true)), []⟩, ⟨(some 28), (.fAddr 4 (.tmp 3)), (some (24, true)), []⟩, ⟨(some 29), (.fAddr 0 (.tmp 28)), (some (24, true)), []⟩, ⟨(some 30), (.load1 (.tmp 29)), (some (24, true)), []⟩, ⟨(some 31), (.bin .eql (.tmp 27) (.tmp 30)), (some (24, true)), []⟩, ⟨(some 32), (.pick (.tmp 24) (.tmp 31) (.const (.bool false))), none, []⟩, ⟨(some 33), (.mov (.tmp 32)), none, []⟩, ⟨(some 34), (.fAddr 1 (.tmp 2)), (some (33, true)), []⟩, ⟨(some 35), (.load1 (.tmp 34)), (some (33, true)), []⟩, ⟨(some 36), (.fAddr 1 (.tmp 3)), (some (33, true)), []⟩, ⟨(some 37), (.load1 (.tmp 36)), (some (33, true)), []⟩, ⟨(some 38), (.callv (.func 149) [(.tmp 35), (.tmp 37)]), (some (33, true)), []⟩, ⟨(some 39), (.pick (.tmp 33) (.tmp 38) (.const (.bool false))), none, []⟩, ⟨(some 40), (.mov (.tmp 39)), none, []⟩, ⟨(some 41), (.fAddr 2 (.tmp 2)), (some (40, true)), []⟩, ⟨(some 42), (.load1 (.tmp 41)), (some (40, true)), []⟩, ⟨(some 43), (.fAddr 2 (.tmp 3)), (some (40, true)), []⟩, ⟨(some 44), (.load1 (.tmp 43)), (some (40, true)), []⟩, ⟨(some 45), (.callv (.func 150) [(.tmp 42), (.tmp 44)]), (some (40, true)), []⟩, ⟨(some 46), (.pick (.tmp 40) (.tmp 45) (.const (.bool false))), none, []⟩, ⟨(some 47), (.mov (.tmp 46)), none, []⟩, ⟨(some 48), (.fAddr 4 (.tmp 2)), (some (47, true)), []⟩, ⟨(some 49), (.fAddr 1 (.tmp 48)), (some (47, true)), []⟩, ⟨(some 50), (.load1 (.tmp 49)), (some (47, true)), []⟩, ⟨(some 51), (.fAddr 4 (.tmp 3)), (some (47, true)), []⟩, ⟨(some 52), (.fAddr 1 (.tmp 51)), (some (47, true)), []⟩, ⟨(some 53), (.load1 (.tmp 52)), (some (47, true)), []⟩, ⟨(some 54), (.callv (.func 151) [(.tmp 50), (.tmp 53)]), (some (47, true)), []⟩, ⟨(some 55), (.pick (.tmp 47) (.tmp 54) (.const (.bool false))), none, []⟩, ⟨(some 4), (.mov (.tmp 55)), none, []⟩]) .ret)) [(.tmp 4)])
def g94 : AFunc := (.code 8 (.seq (.ops [⟨(some 4), (.mov (.const (.bool false))), none, []⟩]) (.seq (.ops [⟨(some 5), (.mov (.tmp 0)), none, []⟩, ⟨(some 6), (.mov (.tmp 1)), none, []⟩, ⟨(some 7), (.callv (.func 152) [(.tmp 5), (.tmp 6), (.func 153)]), none, []⟩, ⟨(some 4), (.mov (.tmp 7)), none, []⟩]) .ret)) [(.tmp 4)])
def g99 : AFunc := (.code 21 (.seq (.ops [⟨(some 3), (.box (.tmp 0)), none, []⟩, ⟨(some 5), (.mov (.const (.bool false))), none, []⟩]) (.seq (.seq (.ops [⟨(some 6), (.fAddr 0 (.tmp 3)), none, []⟩, ⟨(some 7), (.load1 (.tmp 6)), none, []⟩, ⟨(some 8), (.bin .eql (.tmp 7) (.const (.int .i64 1))), none, []⟩, ⟨(some 9), (.mov (.tmp 8)), none, []⟩, ⟨(some 10), (.load1 (.tmp 2)), (some (9, true)), []⟩, ⟨(some 11), (.fAddr 1 (.tmp 3)), (some (9, true)), []⟩, ⟨(some 12), (.load1 (.tmp 11)), (some (9, true)), []⟩, ⟨(some 13), (.callv (.func 100) [(.tmp 10), (.tmp 12)]), (some (9, true)), []⟩, ⟨(some 14), (.un .not (.tmp 13)), (some (9, true)), []⟩, ⟨(some 15), (.pick (.tmp 9) (.tmp 14) (.const (.bool false))), none, []⟩]) (.cond (.tmp 15) (.ops [⟨(some 16), (.load1 (.tmp 2)), none, []⟩, ⟨(some 17), (.fAddr 1 (.tmp 3)), none, []⟩, ⟨(some 18), (.load1 (.tmp 17)), none, []⟩, ⟨(some 19), (.buildSlice 1 1 [(.string (bs []))] [(0, (1, (.tmp 18)))]), none, []⟩, ⟨(some 20), (.append 1 16 (.tmp 16) (.tmp 19)), none, []⟩, ⟨none, (.store 1 (.tmp 2) (.tmp 20)), none, []⟩]) .skip)) (.seq (.ops [⟨(some 5), (.mov (.const (.bool true))), none, []⟩]) .ret))) [(.tmp 5)])
def g100 : AFunc := (.code 9 (.seq (.ops [⟨(some 4), (.mov (.const (.bool false))), none, []⟩]) (.seq (.ops [⟨(some 5), (.mov (.tmp 0)), none, []⟩, ⟨(some 6), (.mov (.tmp 1)), none, []⟩, ⟨(some 7), (.callv (.func 154) [(.tmp 5), (.tmp 6)]), none, []⟩, ⟨(some 8), (.bin .geq (.tmp 7) (.const (.int .i64 0))), none, []⟩, ⟨(some 4), (.mov (.tmp 8)), none, []⟩]) .ret)) [(.tmp 4)])
def g101 : AFunc := (.code 74 (.seq (.ops [⟨(some 2), (.mov (.const (.int .i64 0))), none, []⟩, ⟨(some 3), (.mov (.const (.slice none 0 0))), none, []⟩]) (.seq (.ops [⟨(some 4), (.mov (.const (.int .i64 0))), none, []⟩]) (.seq (.ops [⟨(some 5), (.mov (.const (.slice none 0 0))), none, []⟩]) (.seq (.seq (.ops [⟨(some 14), (.mov (.tmp 0)), none, []⟩, ⟨(some 15), (.lenSl (.tmp 14)), none, []⟩, ⟨(some 16), (.mov (.const (.int .i64 0))), none, []⟩]) (.block 0 (.loop (.seq (.ops [⟨(some 17), (.bin .lss (.tmp 16) (.tmp 15)), none, []⟩]) (.seq (.cond (.tmp 17) .skip (.exit 0)) (.seq (.block 1 (.seq (.ops [⟨(some 18), (.iAddrSl 13 (.tmp 14) (.tmp 16)), none, []⟩, ⟨(some 19), (.loadN 13 (.tmp 18)), none, []⟩, ⟨(some 7), (.alloc [(.int .i64 0), (.string (bs [])), (.int .i64 0), (.string (bs [])), (.string (bs [])), (.int .u64 0), (.int .u64 0), (.string (bs [])), (.string (bs [])), (.int .u64 0), (.int .u64 0), (.slice none 0 0), (.slice none 0 0)]), none, []⟩, ⟨none, (.store 13 (.tmp 7) (.tmp 19)), none, []⟩]) (.seq (.seq (.ops [⟨(some 20), (.fAddr 0 (.tmp 7)), none, []⟩, ⟨(some 21), (.load1 (.tmp 20)), none, []⟩]) (.block 2 (.seq (.ops [⟨(some 23), (.bin .eql (.tmp 21) (.const (.int .i64 3))), none, []⟩, ⟨(some 22), (.mov (.tmp 23)), none, []⟩]) (.cond (.tmp 22) (.seq (.ops [⟨(some 24), (.mov (.tmp 5)), none, []⟩, ⟨(some 25), (.mov (.tmp 4)), none, []⟩, ⟨(some 26), (.buildSlice 1 1 [(.int .i64 0)] [(0, (1, (.tmp 25)))]), none, []⟩, ⟨(some 27), (.append 1 8 (.tmp 24) (.tmp 26)), none, []⟩, ⟨(some 2), (.mov (.const (.int .i64 (-1)))), none, []⟩, ⟨(some 3), (.mov (.tmp 27)), none, []⟩]) .ret) (.seq (.ops [⟨(some 29), (.bin .eql (.tmp 21) (.const (.int .i64 1))), none, []⟩, ⟨(some 28), (.mov (.tmp 29)), none, []⟩]) (.cond (.tmp 28) (.ops [⟨(some 30), (.mov (.tmp 4)), none, []⟩, ⟨(some 31), (.bin .add (.tmp 30) (.const (.int .i64 1))), none, []⟩, ⟨(some 4), (.mov (.tmp 31)), none, []⟩]) (.seq (.ops [⟨(some 33), (.bin .eql (.tmp 21) (.const (.int .i64 2))), none, []⟩, ⟨(some 32), (.mov (.tmp 33)), none, []⟩]) (.cond (.tmp 32) .skip (.exit 1))))))))) (.seq (.ops [⟨(some 35), (.fAddr 11 (.tmp 7)), none, []⟩, ⟨(some 36), (.load1 (.tmp 35)), none, []⟩, ⟨(some 37), (.callv (.func 101) [(.tmp 36)]), none, []⟩, ⟨(some 34), (.mov (.tmp 37)), none, []⟩, ⟨(some 38), (.extract (.tmp 34) 0), none, []⟩, ⟨(some 39), (.extract (.tmp 34) 1), none, []⟩, ⟨(some 8), (.mov (.tmp 38)), none, []⟩, ⟨(some 9), (.mov (.tmp 39)), none, []⟩]) (.seq (.ops [⟨(some 41), (.fAddr 12 (.tmp 7)), none, []⟩, ⟨(some 42), (.load1 (.tmp 41)), none, []⟩, ⟨(some 43), (.callv (.func 101) [(.tmp 42)]), none, []⟩, ⟨(some 40), (.mov (.tmp 43)), none, []⟩, ⟨(some 44), (.extract (.tmp 40) 0), none, []⟩, ⟨(some 45), (.extract (.tmp 40) 1), none, []⟩, ⟨(some 10), (.mov (.tmp 44)), none, []⟩, ⟨(some 11), (.mov (.tmp 45)), none, []⟩]) (.seq (.seq (.ops [⟨(some 46), (.mov (.tmp 9)), none, []⟩, ⟨(some 47), (.mov (.tmp 11)), none, []⟩, ⟨(some 48), (.append 1 8 (.tmp 46) (.tmp 47)), none, []⟩, ⟨(some 49), (.lenSl (.tmp 48)), none, []⟩, ⟨(some 50), (.mov (.const (.int .i64 0))), none, []⟩]) (.block 3 (.loop (.seq (.ops [⟨(some 51), (.bin .lss (.tmp 50) (.tmp 49)), none, []⟩]) (.seq (.cond (.tmp 51) .skip (.exit 3)) (.seq (.block 4 (.seq (.ops [⟨(some 52), (.iAddrSl 1 (.tmp 48) (.tmp 50)), none, []⟩, ⟨(some 53), (.load1 (.tmp 52)), none, []⟩, ⟨(some 13), (.mov (.tmp 53)), none, []⟩]) (.ops [⟨(some 54), (.mov (.tmp 5)), none, []⟩, ⟨(some 55), (.mov (.tmp 4)), none, []⟩, ⟨(some 56), (.mov (.tmp 13)), none, []⟩, ⟨(some 57), (.bin .add (.tmp 55) (.tmp 56)), none, []⟩, ⟨(some 58), (.buildSlice 1 1 [(.int .i64 0)] [(0, (1, (.tmp 57)))]), none, []⟩, ⟨(some 59), (.append 1 8 (.tmp 54) (.tmp 58)), none, []⟩, ⟨(some 5), (.mov (.tmp 59)), none, []⟩]))) (.ops [⟨(some 60), (.bin .add (.tmp 50) (.const (.int .i64 1))), none, []⟩, ⟨(some 50), (.mov (.tmp 60)), none, []⟩]))))))) (.seq (.seq (.ops [⟨(some 61), (.mov (.tmp 8)), none, []⟩, ⟨(some 62), (.mov (.tmp 10)), none, []⟩, ⟨(some 63), (.mm true [(.tmp 61), (.tmp 62)]), none, []⟩, ⟨(some 64), (.bin .lss (.tmp 63) (.const (.int .i64 0))), none, []⟩]) (.cond (.tmp 64) (.seq (.ops [⟨(some 65), (.mov (.tmp 5)), none, []⟩, ⟨(some 2), (.mov (.const (.int .i64 (-1)))), none, []⟩, ⟨(some 3), (.mov (.tmp 65)), none, []⟩]) .ret) .skip)) (.ops [⟨(some 66), (.mov (.tmp 4)), none, []⟩, ⟨(some 67), (.mov (.tmp 8)), none, []⟩, ⟨(some 68), (.mov (.tmp 10)), none, []⟩, ⟨(some 69), (.mm true [(.tmp 67), (.tmp 68)]), none, []⟩, ⟨(some 70), (.bin .add (.tmp 66) (.tmp 69)), none, []⟩, ⟨(some 4), (.mov (.tmp 70)), none, []⟩])))))))) (.ops [⟨(some 71), (.bin .add (.tmp 16) (.const (.int .i64 1))), none, []⟩, ⟨(some 16), (.mov (.tmp 71)), none, []⟩]))))))) (.seq (.ops [⟨(some 72), (.mov (.tmp 4)), none, []⟩, ⟨(some 73), (.mov (.tmp 5)), none, []⟩, ⟨(some 2), (.mov (.tmp 72)), none, []⟩, ⟨(some 3), (.mov (.tmp 73)), none, []⟩]) .ret))))) [(.tmp 2), (.tmp 3)])
def g103 : AFunc := (.code 70 (.seq (.ops [⟨(some 3), (.box (.tmp 0)), none, []⟩, ⟨(some 5), (.box (.tmp 2)), none, []⟩, ⟨(some 6), (.mov (.const (.int .i64 0))), none, []⟩]) (.seq (.ops [⟨(some 12), (.mov (.tmp 1)), none, []⟩, ⟨(some 15), (.fAddr 0 (.tmp 5)), none, []⟩, ⟨(some 11), (.loadN 6 (.tmp 3)), none, []⟩, ⟨(some 14), (.loadN 6 (.tmp 3)), none, []⟩, ⟨(some 16), (.load1 (.tmp 15)), none, []⟩, ⟨(some 13), (.callv (.func 113) [(.tmp 11), (.tmp 12)]), none, [(3, 1), (15, 1)]⟩, ⟨(some 17), (.callv (.func 112) [(.tmp 14), (.tmp 16)]), none, []⟩, ⟨(some 7), (.mov (.tmp 13)), none, []⟩, ⟨(some 8), (.mov (.tmp 17)), none, []⟩]) (.seq (.block 0 (.seq (.ops [⟨(some 19), (.mov (.tmp 7)), none, []⟩, ⟨(some 20), (.bin .lss (.tmp 19) (.const (.int .i64 0))), none, []⟩, ⟨(some 18), (.mov (.tmp 20)), none, []⟩]) (.cond (.tmp 18) (.seq (.ops [⟨(some 6), (.mov (.const (.int .i64 110))), none, []⟩]) .ret) (.seq (.ops [⟨(some 22), (.mov (.tmp 8)), none, []⟩, ⟨(some 23), (.bin .lss (.tmp 22) (.const (.int .i64 0))), none, []⟩, ⟨(some 24), (.mov (.tmp 23)), none, []⟩, ⟨(some 25), (.fAddr 4 (.tmp 3)), (some (24, false)), []⟩, ⟨(some 27), (.mov (.tmp 7)), (some (24, false)), []⟩, ⟨(some 31), (.fAddr 0 (.tmp 5)), (some (24, false)), []⟩, ⟨(some 26), (.load1 (.tmp 25)), (some (24, false)), []⟩, ⟨(some 28), (.iAddrSl 7 (.tmp 26) (.tmp 27)), (some (24, false)), []⟩, ⟨(some 29), (.fAddr 2 (.tmp 28)), (some (24, false)), []⟩, ⟨(some 30), (.load1 (.tmp 29)), (some (24, false)), []⟩, ⟨(some 32), (.load1 (.tmp 31)), (some (24, false)), []⟩, ⟨(some 33), (.callv (.func 100) [(.tmp 30), (.tmp 32)]), (some (24, false)), []⟩, ⟨(some 34), (.un .not (.tmp 33)), (some (24, false)), []⟩, ⟨(some 35), (.pick (.tmp 24) (.const (.bool true)) (.tmp 34)), none, []⟩, ⟨(some 21), (.mov (.tmp 35)), none, []⟩]) (.cond (.tmp 21) (.seq (.ops [⟨(some 6), (.mov (.const (.int .i64 113))), none, []⟩]) .ret) (.seq (.ops [⟨(some 37), (.fAddr 3 (.tmp 3)), none, []⟩, ⟨(some 39), (.mov (.tmp 8)), none, []⟩, ⟨(some 44), (.fAddr 1 (.tmp 5)), none, []⟩, ⟨(some 38), (.load1 (.tmp 37)), none, []⟩, ⟨(some 40), (.iAddrSl 3 (.tmp 38) (.tmp 39)), none, []⟩, ⟨(some 41), (.fAddr 1 (.tmp 40)), none, []⟩, ⟨(some 42), (.load1 (.tmp 41)), none, []⟩, ⟨(some 43), (.lenSl (.tmp 42)), none, []⟩, ⟨(some 45), (.load1 (.tmp 44)), none, []⟩, ⟨(some 46), (.lenSl (.tmp 45)), none, []⟩, ⟨(some 47), (.bin .neq (.tmp 43) (.tmp 46)), none, []⟩, ⟨(some 36), (.mov (.tmp 47)), none, []⟩]) (.cond (.tmp 36) (.seq (.ops [⟨(some 6), (.mov (.const (.int .i64 76))), none, []⟩]) .ret) .skip))))))) (.seq (.seq (.ops [⟨(some 48), (.fAddr 3 (.tmp 3)), none, []⟩, ⟨(some 49), (.load1 (.tmp 48)), none, []⟩, ⟨(some 50), (.mov (.tmp 8)), none, []⟩, ⟨(some 51), (.iAddrSl 3 (.tmp 49) (.tmp 50)), none, []⟩, ⟨(some 52), (.fAddr 1 (.tmp 51)), none, []⟩, ⟨(some 53), (.load1 (.tmp 52)), none, []⟩, ⟨(some 54), (.lenSl (.tmp 53)), none, []⟩, ⟨(some 55), (.mov (.const (.int .i64 0))), none, []⟩]) (.block 1 (.loop (.seq (.ops [⟨(some 56), (.bin .lss (.tmp 55) (.tmp 54)), none, []⟩]) (.seq (.cond (.tmp 56) .skip (.exit 1)) (.seq (.block 2 (.seq (.ops [⟨(some 57), (.mov (.tmp 55)), none, []⟩, ⟨(some 58), (.iAddrSl 2 (.tmp 53) (.tmp 55)), none, []⟩, ⟨(some 59), (.loadN 2 (.tmp 58)), none, []⟩, ⟨(some 10), (.alloc [(.string (bs [])), (.int .i64 0)]), none, []⟩, ⟨(some 9), (.mov (.tmp 57)), none, []⟩, ⟨none, (.store 2 (.tmp 10) (.tmp 59)), none, []⟩]) (.seq (.ops [⟨(some 60), (.fAddr 1 (.tmp 5)), none, []⟩, ⟨(some 62), (.mov (.tmp 9)), none, []⟩, ⟨(some 65), (.fAddr 1 (.tmp 10)), none, []⟩, ⟨(some 61), (.load1 (.tmp 60)), none, []⟩, ⟨(some 63), (.iAddrSl 2 (.tmp 61) (.tmp 62)), none, []⟩, ⟨(some 64), (.loadN 2 (.tmp 63)), none, []⟩, ⟨(some 66), (.load1 (.tmp 65)), none, []⟩, ⟨(some 67), (.callv (.func 128) [(.tmp 64), (.tmp 66)]), none, []⟩, ⟨(some 68), (.un .not (.tmp 67)), none, []⟩]) (.cond (.tmp 68) (.seq (.ops [⟨(some 6), (.mov (.const (.int .i64 76))), none, []⟩]) .ret) .skip)))) (.ops [⟨(some 69), (.bin .add (.tmp 55) (.const (.int .i64 1))), none, []⟩, ⟨(some 55), (.mov (.tmp 69)), none, []⟩]))))))) (.seq (.ops [⟨(some 6), (.mov (.const (.int .i64 0))), none, []⟩]) .ret))))) [(.tmp 6)])
def g105 : AFunc := (.code 8 (.seq (.ops [⟨(some 2), (.box (.tmp 0)), none, []⟩, ⟨(some 3), (.mov (.const (.bool false))), none, []⟩]) (.seq (.ops [⟨(some 4), (.fAddr 1 (.tmp 1)), none, []⟩, ⟨(some 5), (.load1 (.tmp 4)), none, []⟩, ⟨(some 6), (.mkFunc 107 [] [(.tmp 2)]), none, []⟩, ⟨(some 7), (.callv (.func 106) [(.tmp 5), (.tmp 6)]), none, []⟩, ⟨(some 3), (.mov (.tmp 7)), none, []⟩]) .ret)) [(.tmp 3)])
def g106 : AFunc := (.code 9 (.seq (.ops [⟨(some 4), (.mov (.const (.bool false))), none, []⟩]) (.seq (.ops [⟨(some 5), (.mov (.tmp 0)), none, []⟩, ⟨(some 6), (.mov (.tmp 1)), none, []⟩, ⟨(some 7), (.callv (.func 157) [(.tmp 5), (.tmp 6)]), none, []⟩, ⟨(some 8), (.bin .geq (.tmp 7) (.const (.int .i64 0))), none, []⟩, ⟨(some 4), (.mov (.tmp 8)), none, []⟩]) .ret)) [(.tmp 4)])
def g107 : AFunc := (.code 8 (.seq (.ops [⟨(some 2), (.box (.tmp 0)), none, []⟩, ⟨(some 3), (.mov (.const (.bool false))), none, []⟩]) (.seq (.ops [⟨(some 4), (.fAddr 2 (.tmp 2)), none, []⟩, ⟨(some 5), (.load1 (.tmp 4)), none, []⟩, ⟨(some 6), (.load1 (.tmp 1)), none, []⟩, ⟨(some 7), (.bin .eql (.tmp 5) (.tmp 6)), none, []⟩, ⟨(some 3), (.mov (.tmp 7)), none, []⟩]) .ret)) [(.tmp 3)])
def g111 : AFunc := (.code 9 (.seq (.ops [⟨(some 2), (.box (.tmp 0)), none, []⟩, ⟨(some 3), (.box (.tmp 1)), none, []⟩, ⟨(some 4), (.mov (.const (.int .i64 0))), none, []⟩]) (.seq (.ops [⟨(some 5), (.fAddr 0 (.tmp 2)), none, []⟩, ⟨(some 6), (.load1 (.tmp 5)), none, []⟩, ⟨(some 7), (.mkFunc 159 [] [(.tmp 3)]), none, []⟩, ⟨(some 8), (.callv (.func 158) [(.tmp 6), (.tmp 7)]), none, []⟩, ⟨(some 4), (.mov (.tmp 8)), none, []⟩]) .ret)) [(.tmp 4)])
def g112 : AFunc := (.code 9 (.seq (.ops [⟨(some 2), (.box (.tmp 0)), none, []⟩, ⟨(some 3), (.box (.tmp 1)), none, []⟩, ⟨(some 4), (.mov (.const (.int .i64 0))), none, []⟩]) (.seq (.ops [⟨(some 5), (.fAddr 3 (.tmp 2)), none, []⟩, ⟨(some 6), (.load1 (.tmp 5)), none, []⟩, ⟨(some 7), (.mkFunc 161 [] [(.tmp 3)]), none, []⟩, ⟨(some 8), (.callv (.func 160) [(.tmp 6), (.tmp 7)]), none, []⟩, ⟨(some 4), (.mov (.tmp 8)), none, []⟩]) .ret)) [(.tmp 4)])
def g113 : AFunc := (.code 9 (.seq (.ops [⟨(some 2), (.box (.tmp 0)), none, []⟩, ⟨(some 3), (.box (.tmp 1)), none, []⟩, ⟨(some 4), (.mov (.const (.int .i64 0))), none, []⟩]) (.seq (.ops [⟨(some 5), (.fAddr 4 (.tmp 2)), none, []⟩, ⟨(some 6), (.load1 (.tmp 5)), none, []⟩, ⟨(some 7), (.mkFunc 163 [] [(.tmp 3)]), none, []⟩, ⟨(some 8), (.callv (.func 162) [(.tmp 6), (.tmp 7)]), none, []⟩, ⟨(some 4), (.mov (.tmp 8)), none, []⟩]) .ret)) [(.tmp 4)])
def g119 : AFunc := (.code 19 (.seq (.ops [⟨(some 2), (.box (.tmp 0)), none, []⟩, ⟨(some 3), (.box (.tmp 1)), none, []⟩, ⟨(some 4), (.mov (.const (.bool false))), none, []⟩]) (.seq (.ops [⟨(some 6), (.fAddr 1 (.tmp 2)), none, []⟩, ⟨(some 7), (.load1 (.tmp 6)), none, []⟩, ⟨(some 8), (.fAddr 1 (.tmp 3)), none, []⟩, ⟨(some 9), (.load1 (.tmp 8)), none, []⟩, ⟨(some 10), (.callv (.func 164) [(.tmp 7), (.tmp 9)]), none, []⟩, ⟨(some 5), (.mov (.tmp 10)), none, []⟩]) (.seq (.ops [⟨(some 11), (.fAddr 0 (.tmp 2)), none, []⟩, ⟨(some 12), (.load1 (.tmp 11)), none, []⟩, ⟨(some 13), (.fAddr 0 (.tmp 3)), none, []⟩, ⟨(some 14), (.load1 (.tmp 13)), none, []⟩, ⟨(some 15), (.bin .eql (.tmp 12) (.tmp 14)), none, []⟩, ⟨(some 16), (.mov (.tmp 15)), none, []⟩, ⟨(some 17), (.mov (.tmp 5)), (some (16, true)), []⟩, ⟨(some 18), (.pick (.tmp 16) (.tmp 17) (.const (.bool false))), none, []⟩, ⟨(some 4), (.mov (.tmp 18)), none, []⟩]) .ret))) [(.tmp 4)])
def g122 : AFunc := (.code 8 (.seq (.ops [⟨(some 2), (.mov (.const (.slice none 0 0))), none, []⟩]) (.seq (.ops [⟨(some 3), (.mov (.const (.slice none 0 0))), none, []⟩]) (.seq (.ops [⟨(some 4), (.mov (.tmp 3)), none, []⟩, ⟨(some 5), (.mov (.tmp 0)), none, []⟩, ⟨(some 6), (.append 2 24 (.tmp 4) (.tmp 5)), none, []⟩, ⟨(some 3), (.mov (.tmp 6)), none, []⟩]) (.seq (.ops [⟨(some 7), (.mov (.tmp 3)), none, []⟩, ⟨(some 2), (.mov (.tmp 7)), none, []⟩]) .ret)))) [(.tmp 2)])
def g125 : AFunc := (.code 24 (.seq (.ops [⟨(some 4), (.mov (.const (.bool false))), none, []⟩]) (.seq (.seq (.ops [⟨(some 5), (.mov (.const (.int .i64 0))), none, []⟩]) (.block 0 (.loop (.seq (.seq (.ops [⟨(some 6), (.mov (.tmp 5)), none, []⟩, ⟨(some 7), (.mov (.tmp 1)), none, []⟩, ⟨(some 8), (.lenStr (.tmp 7)), none, []⟩, ⟨(some 9), (.bin .add (.tmp 6) (.tmp 8)), none, []⟩, ⟨(some 10), (.mov (.tmp 0)), none, []⟩, ⟨(some 11), (.lenStr (.tmp 10)), none, []⟩, ⟨(some 12), (.bin .leq (.tmp 9) (.tmp 11)), none, []⟩]) (.cond (.tmp 12) .skip (.exit 0))) (.seq (.block 1 (.seq (.ops [⟨(some 15), (.mov (.tmp 0)), none, []⟩, ⟨(some 16), (.mov (.tmp 5)), none, []⟩, ⟨(some 17), (.mov (.tmp 5)), none, []⟩, ⟨(some 18), (.mov (.tmp 1)), none, []⟩, ⟨(some 19), (.lenStr (.tmp 18)), none, []⟩, ⟨(some 20), (.bin .add (.tmp 17) (.tmp 19)), none, []⟩, ⟨(some 21), (.slStr (.tmp 15) (some (.tmp 16)) (some (.tmp 20))), none, []⟩, ⟨(some 22), (.mov (.tmp 1)), none, []⟩, ⟨(some 23), (.bin .eql (.tmp 21) (.tmp 22)), none, []⟩]) (.cond (.tmp 23) (.seq (.ops [⟨(some 4), (.mov (.const (.bool true))), none, []⟩]) .ret) .skip))) (.ops [⟨(some 13), (.mov (.tmp 5)), none, []⟩, ⟨(some 14), (.bin .add (.tmp 13) (.const (.int .i64 1))), none, []⟩, ⟨(some 5), (.mov (.tmp 14)), none, []⟩])))))) (.seq (.ops [⟨(some 4), (.mov (.const (.bool false))), none, []⟩]) .ret))) [(.tmp 4)])
def g126 : AFunc := (.code 42 (.seq (.ops [⟨(some 2), (.box (.tmp 0)), none, []⟩, ⟨(some 3), (.box (.tmp 1)), none, []⟩, ⟨(some 4), (.alloc [(.string (bs [])), (.int .i64 0)]), none, []⟩, ⟨(some 5), (.mov (.const (.bool false))), none, []⟩]) (.seq (.ops [⟨(some 9), (.fAddr 1 (.tmp 2)), none, []⟩, ⟨(some 10), (.load1 (.tmp 9)), none, []⟩, ⟨(some 6), (.mov (.tmp 10)), none, []⟩]) (.seq (.seq (.ops [⟨(some 11), (.fAddr 0 (.tmp 3)), none, []⟩, ⟨(some 12), (.load1 (.tmp 11)), none, []⟩]) (.block 0 (.seq (.ops [⟨(some 27), (.bin .eql (.tmp 12) (.const (.string (bs [])))), none, []⟩, ⟨(some 26), (.mov (.tmp 27)), none, []⟩]) (.cond (.tmp 26) (.seq (.ops [⟨(some 28), (.build [(.string (bs [])), (.int .i64 0)] []), none, []⟩, ⟨none, (.store 2 (.tmp 4) (.tmp 28)), none, []⟩, ⟨(some 5), (.mov (.const (.bool false))), none, []⟩]) .ret) (.seq (.ops [⟨(some 30), (.bin .eql (.tmp 12) (.const (.string (bs [109, 101, 116, 97])))), none, []⟩, ⟨(some 29), (.mov (.tmp 30)), none, []⟩]) (.cond (.tmp 29) .skip (.seq (.ops [⟨(some 13), (.loadN 6 (.tmp 2)), none, []⟩, ⟨(some 14), (.fAddr 0 (.tmp 3)), none, []⟩, ⟨(some 15), (.load1 (.tmp 14)), none, []⟩, ⟨(some 16), (.callv (.func 111) [(.tmp 13), (.tmp 15)]), none, []⟩, ⟨(some 7), (.mov (.tmp 16)), none, []⟩]) (.seq (.seq (.ops [⟨(some 17), (.mov (.tmp 7)), none, []⟩, ⟨(some 18), (.bin .lss (.tmp 17) (.const (.int .i64 0))), none, []⟩]) (.cond (.tmp 18) (.seq (.ops [⟨(some 19), (.build [(.string (bs [])), (.int .i64 0)] []), none, []⟩, ⟨none, (.store 2 (.tmp 4) (.tmp 19)), none, []⟩, ⟨(some 5), (.mov (.const (.bool false))), none, []⟩]) .ret) .skip)) (.ops [⟨(some 20), (.fAddr 0 (.tmp 2)), none, []⟩, ⟨(some 21), (.load1 (.tmp 20)), none, []⟩, ⟨(some 22), (.mov (.tmp 7)), none, []⟩, ⟨(some 23), (.iAddrSl 2 (.tmp 21) (.tmp 22)), none, []⟩, ⟨(some 24), (.fAddr 1 (.tmp 23)), none, []⟩, ⟨(some 25), (.load1 (.tmp 24)), none, []⟩, ⟨(some 6), (.mov (.tmp 25)), none, []⟩]))))))))) (.seq (.seq (.ops [⟨(some 31), (.mov (.tmp 6)), none, []⟩, ⟨(some 32), (.fAddr 1 (.tmp 3)), none, []⟩, ⟨(some 33), (.load1 (.tmp 32)), none, []⟩, ⟨(some 34), (.callv (.func 167) [(.tmp 31), (.tmp 33)]), none, []⟩, ⟨(some 8), (.mov (.tmp 34)), none, []⟩]) (.seq (.ops [⟨(some 35), (.mov (.tmp 8)), none, []⟩, ⟨(some 36), (.bin .geq (.tmp 35) (.const (.int .i64 0))), none, []⟩]) (.cond (.tmp 36) (.seq (.ops [⟨(some 37), (.mov (.tmp 6)), none, []⟩, ⟨(some 38), (.mov (.tmp 8)), none, []⟩, ⟨(some 39), (.iAddrSl 2 (.tmp 37) (.tmp 38)), none, []⟩, ⟨(some 40), (.loadN 2 (.tmp 39)), none, []⟩, ⟨none, (.store 2 (.tmp 4) (.tmp 40)), none, []⟩, ⟨(some 5), (.mov (.const (.bool true))), none, []⟩]) .ret) .skip))) (.seq (.ops [⟨(some 41), (.build [(.string (bs [])), (.int .i64 0)] []), none, []⟩, ⟨none, (.store 2 (.tmp 4) (.tmp 41)), none, []⟩, ⟨(some 5), (.mov (.const (.bool false))), none, []⟩]) .ret))))) [(.cellN 4 2), (.tmp 5)])
def g127 : AFunc := (.code 18 (.seq (.ops [⟨(some 6), (.mov (.tmp 0)), none, []⟩, ⟨(some 7), (.mov (.tmp 1)), none, []⟩, ⟨(some 8), (.callv (.func 48) [(.tmp 7)]), none, []⟩, ⟨(some 9), (.callv (.func 53) [(.tmp 6), (.tmp 8), (.const (.int .i64 70))]), none, []⟩]) (.seq (.ops [⟨(some 10), (.mov (.tmp 0)), none, []⟩, ⟨(some 11), (.mov (.tmp 2)), none, []⟩, ⟨(some 12), (.mov (.tmp 1)), none, []⟩, ⟨(some 13), (.lookup (.prim 2) (.int .i64 0) false (.tmp 11) (.tmp 12)), none, []⟩, ⟨(some 14), (.bin .eql (.tmp 13) (.const (.int .i64 0))), none, []⟩, ⟨(some 15), (.callv (.func 53) [(.tmp 10), (.tmp 14), (.const (.int .i64 71))]), none, []⟩]) (.ops [⟨(some 16), (.mov (.tmp 2)), none, []⟩, ⟨(some 17), (.mov (.tmp 1)), none, []⟩, ⟨none, (.mapUpd (.prim 2) (.tmp 16) (.tmp 17) (.const (.int .i64 1))), none, []⟩]))) [])
def g128 : AFunc := (.code 37 (.seq (.ops [⟨(some 2), (.box (.tmp 0)), none, []⟩, ⟨(some 4), (.mov (.const (.bool false))), none, []⟩]) (.seq (.seq (.ops [⟨(some 5), (.mov (.tmp 1)), none, []⟩, ⟨(some 6), (.bin .lss (.tmp 5) (.const (.int .i64 1))), none, []⟩, ⟨(some 7), (.mov (.tmp 6)), none, []⟩, ⟨(some 8), (.mov (.tmp 1)), (some (7, false)), []⟩, ⟨(some 9), (.bin .gtr (.tmp 8) (.const (.int .i64 128))), (some (7, false)), []⟩, ⟨(some 10), (.pick (.tmp 7) (.const (.bool true)) (.tmp 9)), none, []⟩]) (.cond (.tmp 10) (.seq (.ops [⟨(some 4), (.mov (.const (.bool false))), none, []⟩]) .ret) .skip)) (.seq (.seq (.ops [⟨(some 11), (.mov (.tmp 1)), none, []⟩, ⟨(some 12), (.bin .gtr (.tmp 11) (.const (.int .i64 64))), none, []⟩]) (.cond (.tmp 12) (.seq (.ops [⟨(some 13), (.mov (.tmp 1)), none, []⟩, ⟨(some 14), (.bin .eql (.tmp 13) (.const (.int .i64 128))), none, []⟩, ⟨(some 15), (.mov (.tmp 14)), none, []⟩, ⟨(some 16), (.fAddr 0 (.tmp 2)), (some (15, false)), []⟩, ⟨(some 18), (.mov (.tmp 1)), (some (15, false)), []⟩, ⟨(some 19), (.bin .sub (.tmp 18) (.const (.int .i64 64))), (some (15, false)), []⟩, ⟨(some 20), (.bin .shl (.const (.int .u64 1)) (.tmp 19)), (some (15, false)), []⟩, ⟨(some 17), (.load1 (.tmp 16)), (some (15, false)), []⟩, ⟨(some 21), (.bin .lss (.tmp 17) (.tmp 20)), (some (15, false)), []⟩, ⟨(some 22), (.pick (.tmp 15) (.const (.bool true)) (.tmp 21)), none, []⟩, ⟨(some 4), (.mov (.tmp 22)), none, []⟩]) .ret) .skip)) (.seq (.ops [⟨(some 23), (.fAddr 0 (.tmp 2)), none, []⟩, ⟨(some 24), (.load1 (.tmp 23)), none, []⟩, ⟨(some 25), (.bin .eql (.tmp 24) (.const (.int .u64 0))), none, []⟩, ⟨(some 26), (.mov (.tmp 25)), none, []⟩, ⟨(some 27), (.mov (.tmp 1)), (some (26, true)), []⟩, ⟨(some 28), (.bin .eql (.tmp 27) (.const (.int .i64 64))), (some (26, true)), []⟩, ⟨(some 29), (.mov (.tmp 28)), (some (26, true)), []⟩, ⟨(some 30), (.fAddr 1 (.tmp 2)), (some (29, false)), []⟩, ⟨(some 32), (.mov (.tmp 1)), (some (29, false)), []⟩, ⟨(some 33), (.bin .shl (.const (.int .u64 1)) (.tmp 32)), (some (29, false)), []⟩, ⟨(some 31), (.load1 (.tmp 30)), (some (29, false)), []⟩, ⟨(some 34), (.bin .lss (.tmp 31) (.tmp 33)), (some (29, false)), []⟩, ⟨(some 35), (.pick (.tmp 29) (.const (.bool true)) (.tmp 34)), (some (26, true)), []⟩, ⟨(some 36), (.pick (.tmp 26) (.tmp 35) (.const (.bool false))), none, []⟩, ⟨(some 4), (.mov (.tmp 36)), none, []⟩]) .ret)))) [(.tmp 4)])
def g129 : AFunc := (.code 130 (.seq (.ops [⟨(some 16), .mkMap, none, []⟩, ⟨(some 2), (.mov (.tmp 16)), none, []⟩]) (.seq (.seq (.ops [⟨(some 17), (.mov (.tmp 0)), none, []⟩, ⟨(some 18), (.nilChk (.tmp 17)), none, []⟩, ⟨(some 19), (.fAddr 0 (.tmp 18)), none, []⟩, ⟨(some 20), (.fAddr 2 (.tmp 19)), none, []⟩, ⟨(some 21), (.load1 (.tmp 20)), none, []⟩, ⟨(some 22), (.lenSl (.tmp 21)), none, []⟩, ⟨(some 23), (.mov (.const (.int .i64 0))), none, []⟩]) (.block 0 (.loop (.seq (.ops [⟨(some 24), (.bin .lss (.tmp 23) (.tmp 22)), none, []⟩]) (.seq (.cond (.tmp 24) .skip (.exit 0)) (.seq (.block 1 (.seq (.ops [⟨(some 25), (.mov (.tmp 23)), none, []⟩, ⟨(some 26), (.iAddrSl 6 (.tmp 21) (.tmp 23)), none, []⟩, ⟨(some 27), (.loadN 6 (.tmp 26)), none, []⟩, ⟨(some 4), (.alloc [(.string (bs [])), (.string (bs [])), (.string (bs [])), (.string (bs [])), (.slice none 0 0), (.string (bs []))]), none, []⟩, ⟨(some 3), (.mov (.tmp 25)), none, []⟩, ⟨none, (.store 6 (.tmp 4) (.tmp 27)), none, []⟩]) (.ops [⟨(some 28), (.mov (.tmp 2)), none, []⟩, ⟨(some 29), (.fAddr 0 (.tmp 4)), none, []⟩, ⟨(some 30), (.load1 (.tmp 29)), none, []⟩, ⟨(some 31), (.mov (.tmp 3)), none, []⟩, ⟨(some 32), (.bin .add (.tmp 31) (.const (.int .i64 1))), none, []⟩, ⟨none, (.mapUpd (.prim 2) (.tmp 28) (.tmp 30) (.tmp 32)), none, []⟩]))) (.ops [⟨(some 33), (.bin .add (.tmp 23) (.const (.int .i64 1))), none, []⟩, ⟨(some 23), (.mov (.tmp 33)), none, []⟩]))))))) (.seq (.ops [⟨(some 34), (.mov (.tmp 0)), none, []⟩, ⟨(some 35), (.nilChk (.tmp 34)), none, []⟩, ⟨(some 36), (.fAddr 0 (.tmp 35)), none, []⟩, ⟨(some 37), (.fAddr 2 (.tmp 36)), none, []⟩, ⟨(some 38), (.load1 (.tmp 37)), none, []⟩, ⟨(some 39), (.lenSl (.tmp 38)), none, []⟩, ⟨(some 40), (.mov (.const (.int .i64 0))), none, []⟩]) (.block 2 (.loop (.seq (.ops [⟨(some 41), (.bin .lss (.tmp 40) (.tmp 39)), none, []⟩]) (.seq (.cond (.tmp 41) .skip (.exit 2)) (.seq (.block 3 (.seq (.ops [⟨(some 42), (.mov (.tmp 40)), none, []⟩, ⟨(some 43), (.iAddrSl 6 (.tmp 38) (.tmp 40)), none, []⟩, ⟨(some 44), (.loadN 6 (.tmp 43)), none, []⟩, ⟨(some 6), (.alloc [(.string (bs [])), (.string (bs [])), (.string (bs [])), (.string (bs [])), (.slice none 0 0), (.string (bs []))]), none, []⟩, ⟨(some 5), (.mov (.tmp 42)), none, []⟩, ⟨none, (.store 6 (.tmp 6) (.tmp 44)), none, []⟩]) (.seq (.ops [⟨(some 45), (.mov (.tmp 0)), none, []⟩, ⟨(some 46), (.fAddr 0 (.tmp 6)), none, []⟩, ⟨(some 47), (.load1 (.tmp 46)), none, []⟩, ⟨(some 48), (.bin .add (.const (.string (bs [115, 116, 97, 116, 101, 32]))) (.tmp 47)), none, []⟩, ⟨(some 49), (.nilChk (.tmp 45)), none, []⟩, ⟨(some 50), (.fAddr 6 (.tmp 49)), none, []⟩, ⟨none, (.store 1 (.tmp 50) (.tmp 48)), none, []⟩]) (.seq (.ops [⟨(some 51), (.mov (.tmp 0)), none, []⟩, ⟨(some 52), (.nilChk (.tmp 51)), none, []⟩, ⟨(some 53), (.fAddr 0 (.tmp 52)), none, []⟩, ⟨(some 54), (.fAddr 2 (.tmp 53)), none, []⟩, ⟨(some 55), (.load1 (.tmp 54)), none, []⟩, ⟨(some 56), (.lenSl (.tmp 55)), none, []⟩, ⟨(some 57), (.mkSlice 1 1 [(.bool false)] (.tmp 56) (.tmp 56)), none, []⟩, ⟨(some 7), (.mov (.tmp 57)), none, []⟩]) (.seq (.ops [⟨(some 58), (.mov (.tmp 5)), none, []⟩, ⟨(some 59), (.buildSlice 1 1 [(.int .i64 0)] [(0, (1, (.tmp 58)))]), none, []⟩, ⟨(some 8), (.mov (.tmp 59)), none, []⟩]) (.block 4 (.loop (.seq (.seq (.ops [⟨(some 60), (.mov (.tmp 8)), none, []⟩, ⟨(some 61), (.lenSl (.tmp 60)), none, []⟩, ⟨(some 62), (.bin .gtr (.tmp 61) (.const (.int .i64 0))), none, []⟩]) (.cond (.tmp 62) .skip (.exit 4))) (.block 5 (.seq (.ops [⟨(some 63), (.mov (.tmp 0)), none, []⟩, ⟨(some 64), (.nilChk (.tmp 63)), none, []⟩, ⟨(some 65), (.fAddr 0 (.tmp 64)), none, []⟩, ⟨(some 66), (.fAddr 2 (.tmp 65)), none, []⟩, ⟨(some 68), (.mov (.tmp 8)), none, []⟩, ⟨(some 69), (.mov (.tmp 8)), none, []⟩, ⟨(some 70), (.lenSl (.tmp 69)), none, []⟩, ⟨(some 71), (.bin .sub (.tmp 70) (.const (.int .i64 1))), none, []⟩, ⟨(some 72), (.iAddrSl 1 (.tmp 68) (.tmp 71)), none, []⟩, ⟨(some 67), (.load1 (.tmp 66)), none, []⟩, ⟨(some 73), (.load1 (.tmp 72)), none, []⟩, ⟨(some 74), (.iAddrSl 6 (.tmp 67) (.tmp 73)), none, []⟩, ⟨(some 75), (.loadN 6 (.tmp 74)), none, []⟩, ⟨(some 9), (.alloc [(.string (bs [])), (.string (bs [])), (.string (bs [])), (.string (bs [])), (.slice none 0 0), (.string (bs []))]), none, []⟩, ⟨none, (.store 6 (.tmp 9) (.tmp 75)), none, []⟩]) (.seq (.ops [⟨(some 76), (.mov (.tmp 8)), none, []⟩, ⟨(some 77), (.mov (.tmp 8)), none, []⟩, ⟨(some 78), (.lenSl (.tmp 77)), none, []⟩, ⟨(some 79), (.bin .sub (.tmp 78) (.const (.int .i64 1))), none, []⟩, ⟨(some 80), (.slSl 1 (.tmp 76) none (some (.tmp 79))), none, []⟩, ⟨(some 8), (.mov (.tmp 80)), none, []⟩]) (.seq (.ops [⟨(some 81), (.fAddr 5 (.tmp 9)), none, []⟩, ⟨(some 82), (.load1 (.tmp 81)), none, []⟩, ⟨(some 83), (.buildSlice 1 1 [(.string (bs []))] [(0, (1, (.tmp 82)))]), none, []⟩, ⟨(some 10), (.mov (.tmp 83)), none, []⟩]) (.seq (.seq (.ops [⟨(some 84), (.fAddr 4 (.tmp 9)), none, []⟩, ⟨(some 85), (.load1 (.tmp 84)), none, []⟩, ⟨(some 86), (.lenSl (.tmp 85)), none, []⟩, ⟨(some 87), (.mov (.const (.int .i64 0))), none, []⟩]) (.block 6 (.loop (.seq (.ops [⟨(some 88), (.bin .lss (.tmp 87) (.tmp 86)), none, []⟩]) (.seq (.cond (.tmp 88) .skip (.exit 6)) (.seq (.block 7 (.seq (.ops [⟨(some 89), (.iAddrSl 5 (.tmp 85) (.tmp 87)), none, []⟩, ⟨(some 90), (.loadN 5 (.tmp 89)), none, []⟩, ⟨(some 12), (.alloc [(.int .u64 0), (.int .u64 0), (.int .u64 0), (.int .u64 0), (.string (bs []))]), none, []⟩, ⟨none, (.store 5 (.tmp 12) (.tmp 90)), none, []⟩]) (.ops [⟨(some 91), (.mov (.tmp 10)), none, []⟩, ⟨(some 92), (.fAddr 4 (.tmp 12)), none, []⟩, ⟨(some 93), (.load1 (.tmp 92)), none, []⟩, ⟨(some 94), (.buildSlice 1 1 [(.string (bs []))] [(0, (1, (.tmp 93)))]), none, []⟩, ⟨(some 95), (.append 1 16 (.tmp 91) (.tmp 94)), none, []⟩, ⟨(some 10), (.mov (.tmp 95)), none, []⟩]))) (.ops [⟨(some 96), (.bin .add (.tmp 87) (.const (.int .i64 1))), none, []⟩, ⟨(some 87), (.mov (.tmp 96)), none, []⟩]))))))) (.seq (.ops [⟨(some 97), (.mov (.tmp 10)), none, []⟩, ⟨(some 98), (.lenSl (.tmp 97)), none, []⟩, ⟨(some 99), (.mov (.const (.int .i64 0))), none, []⟩]) (.block 8 (.loop (.seq (.ops [⟨(some 100), (.bin .lss (.tmp 99) (.tmp 98)), none, []⟩]) (.seq (.cond (.tmp 100) .skip (.exit 8)) (.seq (.block 9 (.seq (.ops [⟨(some 101), (.iAddrSl 1 (.tmp 97) (.tmp 99)), none, []⟩, ⟨(some 102), (.load1 (.tmp 101)), none, []⟩, ⟨(some 14), (.mov (.tmp 102)), none, []⟩]) (.seq (.ops [⟨(some 103), (.mov (.tmp 2)), none, []⟩, ⟨(some 104), (.mov (.tmp 14)), none, []⟩, ⟨(some 105), (.lookup (.prim 2) (.int .i64 0) false (.tmp 103) (.tmp 104)), none, []⟩, ⟨(some 106), (.bin .sub (.tmp 105) (.const (.int .i64 1))), none, []⟩, ⟨(some 15), (.mov (.tmp 106)), none, []⟩]) (.seq (.ops [⟨(some 107), (.mov (.tmp 0)), none, []⟩, ⟨(some 108), (.mov (.tmp 15)), none, []⟩, ⟨(some 109), (.mov (.tmp 5)), none, []⟩, ⟨(some 110), (.bin .neq (.tmp 108) (.tmp 109)), none, []⟩, ⟨(some 111), (.callv (.func 53) [(.tmp 107), (.tmp 110), (.const (.int .i64 78))]), none, []⟩]) (.seq (.ops [⟨(some 112), (.mov (.tmp 15)), none, []⟩, ⟨(some 113), (.bin .geq (.tmp 112) (.const (.int .i64 0))), none, []⟩, ⟨(some 114), (.mov (.tmp 113)), none, []⟩, ⟨(some 115), (.mov (.tmp 7)), (some (114, true)), []⟩, ⟨(some 116), (.mov (.tmp 15)), (some (114, true)), []⟩, ⟨(some 117), (.iAddrSl 1 (.tmp 115) (.tmp 116)), (some (114, true)), []⟩, ⟨(some 118), (.load1 (.tmp 117)), (some (114, true)), []⟩, ⟨(some 119), (.un .not (.tmp 118)), (some (114, true)), []⟩, ⟨(some 120), (.pick (.tmp 114) (.tmp 119) (.const (.bool false))), none, []⟩]) (.cond (.tmp 120) (.seq (.ops [⟨(some 121), (.mov (.tmp 7)), none, []⟩, ⟨(some 122), (.mov (.tmp 15)), none, []⟩, ⟨(some 123), (.iAddrSl 1 (.tmp 121) (.tmp 122)), none, []⟩, ⟨none, (.store 1 (.tmp 123) (.const (.bool true))), none, []⟩]) (.ops [⟨(some 124), (.mov (.tmp 8)), none, []⟩, ⟨(some 125), (.mov (.tmp 15)), none, []⟩, ⟨(some 126), (.buildSlice 1 1 [(.int .i64 0)] [(0, (1, (.tmp 125)))]), none, []⟩, ⟨(some 127), (.append 1 8 (.tmp 124) (.tmp 126)), none, []⟩, ⟨(some 8), (.mov (.tmp 127)), none, []⟩])) .skip)))))) (.ops [⟨(some 128), (.bin .add (.tmp 99) (.const (.int .i64 1))), none, []⟩, ⟨(some 99), (.mov (.tmp 128)), none, []⟩])))))))))))))))))))) (.ops [⟨(some 129), (.bin .add (.tmp 40) (.const (.int .i64 1))), none, []⟩, ⟨(some 40), (.mov (.tmp 129)), none, []⟩]))))))))) [])
def g130 : AFunc := (.code 158 (.seq (.ops [⟨(some 5), (.box (.tmp 2)), none, []⟩]) (.seq (.ops [⟨(some 6), (.mov (.const (.bool false))), none, []⟩]) (.seq (.ops [⟨(some 7), (.alloc [(.string (bs [])), (.string (bs [])), (.int .u64 0), (.int .u64 0)]), none, []⟩]) (.seq (.seq (.ops [⟨(some 14), (.fAddr 0 (.tmp 5)), none, []⟩, ⟨(some 15), (.load1 (.tmp 14)), none, []⟩]) (.block 0 (.seq (.ops [⟨(some 17), (.bin .eql (.tmp 15) (.const (.int .i64 1))), none, []⟩, ⟨(some 16), (.mov (.tmp 17)), none, []⟩]) (.cond (.tmp 16) (.ops [⟨(some 18), (.fAddr 3 (.tmp 5)), none, []⟩, ⟨(some 19), (.load1 (.tmp 18)), none, []⟩, ⟨(some 20), (.bin .geq (.tmp 19) (.const (.int .i64 0))), none, []⟩, ⟨(some 21), (.mov (.tmp 20)), none, []⟩, ⟨(some 22), (.fAddr 3 (.tmp 5)), (some (21, true)), []⟩, ⟨(some 23), (.load1 (.tmp 22)), (some (21, true)), []⟩, ⟨(some 24), (.bin .leq (.tmp 23) (.const (.int .i64 5))), (some (21, true)), []⟩, ⟨(some 25), (.pick (.tmp 21) (.tmp 24) (.const (.bool false))), none, []⟩, ⟨(some 26), (.mov (.tmp 25)), none, []⟩, ⟨(some 27), (.fAddr 4 (.tmp 5)), (some (26, true)), []⟩, ⟨(some 28), (.loadN 4 (.tmp 27)), (some (26, true)), []⟩, ⟨(some 29), (.callv (.func 168) [(.tmp 28)]), (some (26, true)), []⟩, ⟨(some 30), (.pick (.tmp 26) (.tmp 29) (.const (.bool false))), none, []⟩, ⟨(some 31), (.mov (.tmp 30)), none, []⟩, ⟨(some 32), (.fAddr 8 (.tmp 5)), (some (31, true)), []⟩, ⟨(some 33), (.loadN 4 (.tmp 32)), (some (31, true)), []⟩, ⟨(some 34), (.callv (.func 168) [(.tmp 33)]), (some (31, true)), []⟩, ⟨(some 35), (.pick (.tmp 31) (.tmp 34) (.const (.bool false))), none, []⟩, ⟨(some 36), (.mov (.tmp 35)), none, []⟩, ⟨(some 37), (.fAddr 3 (.tmp 5)), (some (36, true)), []⟩, ⟨(some 38), (.load1 (.tmp 37)), (some (36, true)), []⟩, ⟨(some 39), (.bin .neq (.tmp 38) (.const (.int .i64 0))), (some (36, true)), []⟩, ⟨(some 40), (.mov (.tmp 39)), (some (36, true)), []⟩, ⟨(some 41), (.fAddr 8 (.tmp 5)), (some (40, false)), []⟩, ⟨(some 42), (.loadN 4 (.tmp 41)), (some (40, false)), []⟩, ⟨(some 43), (.loadN 4 (.tmp 7)), (some (40, false)), []⟩, ⟨(some 44), (.eqs false 4 [(0, 2), (1, 2), (2, 1), (3, 1)] (.tmp 42) (.tmp 43)), (some (40, false)), []⟩, ⟨(some 45), (.pick (.tmp 40) (.const (.bool true)) (.tmp 44)), (some (36, true)), []⟩, ⟨(some 46), (.pick (.tmp 36) (.tmp 45) (.const (.bool false))), none, []⟩, ⟨(some 6), (.mov (.tmp 46)), none, []⟩]) (.seq (.seq (.ops [⟨(some 48), (.bin .eql (.tmp 15) (.const (.int .i64 2))), none, []⟩, ⟨(some 47), (.mov (.tmp 48)), none, []⟩]) (.cond (.tmp 47) .skip (.ops [⟨(some 49), (.bin .eql (.tmp 15) (.const (.int .i64 6))), none, []⟩, ⟨(some 47), (.mov (.tmp 49)), none, []⟩]))) (.cond (.tmp 47) (.ops [⟨(some 50), (.loadN 12 (.tmp 5)), none, []⟩, ⟨(some 51), (.fAddr 0 (.tmp 5)), none, []⟩, ⟨(some 52), (.load1 (.tmp 51)), none, []⟩, ⟨(some 53), (.build [(.int .i64 0), (.string (bs [])), (.string (bs [])), (.int .i64 0), (.string (bs [])), (.string (bs [])), (.int .u64 0), (.int .u64 0), (.string (bs [])), (.string (bs [])), (.int .u64 0), (.int .u64 0)] [(0, (1, (.tmp 52)))]), none, []⟩, ⟨(some 54), (.eqs false 12 [(0, 1), (1, 2), (2, 2), (3, 1), (4, 2), (5, 2), (6, 1), (7, 1), (8, 2), (9, 2), (10, 1), (11, 1)] (.tmp 50) (.tmp 53)), none, []⟩, ⟨(some 6), (.mov (.tmp 54)), none, []⟩]) (.seq (.seq (.ops [⟨(some 56), (.bin .eql (.tmp 15) (.const (.int .i64 3))), none, []⟩, ⟨(some 55), (.mov (.tmp 56)), none, []⟩]) (.cond (.tmp 55) .skip (.ops [⟨(some 57), (.bin .eql (.tmp 15) (.const (.int .i64 4))), none, []⟩, ⟨(some 55), (.mov (.tmp 57)), none, []⟩]))) (.cond (.tmp 55) (.ops [⟨(some 58), (.loadN 12 (.tmp 5)), none, []⟩, ⟨(some 59), (.fAddr 0 (.tmp 5)), none, []⟩, ⟨(some 60), (.load1 (.tmp 59)), none, []⟩, ⟨(some 61), (.fAddr 1 (.tmp 5)), none, []⟩, ⟨(some 62), (.fAddr 0 (.tmp 61)), none, []⟩, ⟨(some 63), (.load1 (.tmp 62)), none, []⟩, ⟨(some 64), (.build [(.string (bs [])), (.string (bs []))] [(0, (1, (.tmp 63)))]), none, []⟩, ⟨(some 65), (.build [(.int .i64 0), (.string (bs [])), (.string (bs [])), (.int .i64 0), (.string (bs [])), (.string (bs [])), (.int .u64 0), (.int .u64 0), (.string (bs [])), (.string (bs [])), (.int .u64 0), (.int .u64 0)] [(0, (1, (.tmp 60))), (1, (2, (.tmp 64)))]), none, []⟩, ⟨(some 66), (.eqs false 12 [(0, 1), (1, 2), (2, 2), (3, 1), (4, 2), (5, 2), (6, 1), (7, 1), (8, 2), (9, 2), (10, 1), (11, 1)] (.tmp 58) (.tmp 65)), none, []⟩, ⟨(some 6), (.mov (.tmp 66)), none, []⟩]) (.seq (.ops [⟨(some 68), (.bin .eql (.tmp 15) (.const (.int .i64 5))), none, []⟩, ⟨(some 67), (.mov (.tmp 68)), none, []⟩]) (.cond (.tmp 67) (.ops [⟨(some 69), (.loadN 12 (.tmp 5)), none, []⟩, ⟨(some 70), (.fAddr 0 (.tmp 5)), none, []⟩, ⟨(some 71), (.load1 (.tmp 70)), none, []⟩, ⟨(some 72), (.fAddr 1 (.tmp 5)), none, []⟩, ⟨(some 73), (.loadN 2 (.tmp 72)), none, []⟩, ⟨(some 74), (.build [(.int .i64 0), (.string (bs [])), (.string (bs [])), (.int .i64 0), (.string (bs [])), (.string (bs [])), (.int .u64 0), (.int .u64 0), (.string (bs [])), (.string (bs [])), (.int .u64 0), (.int .u64 0)] [(0, (1, (.tmp 71))), (1, (2, (.tmp 73)))]), none, []⟩, ⟨(some 75), (.eqs false 12 [(0, 1), (1, 2), (2, 2), (3, 1), (4, 2), (5, 2), (6, 1), (7, 1), (8, 2), (9, 2), (10, 1), (11, 1)] (.tmp 69) (.tmp 74)), none, []⟩, ⟨(some 6), (.mov (.tmp 75)), none, []⟩]) .skip)))))))))) (.seq (.ops [⟨(some 76), (.mov (.tmp 0)), none, []⟩, ⟨(some 77), (.mov (.tmp 6)), none, []⟩, ⟨(some 78), (.callv (.func 53) [(.tmp 76), (.tmp 77), (.const (.int .i64 75))]), none, []⟩]) (.seq (.ops [⟨(some 79), (.fAddr 0 (.tmp 5)), none, []⟩, ⟨(some 80), (.load1 (.tmp 79)), none, []⟩]) (.block 1 (.seq (.ops [⟨(some 82), (.bin .eql (.tmp 80) (.const (.int .i64 1))), none, []⟩, ⟨(some 81), (.mov (.tmp 82)), none, []⟩]) (.cond (.tmp 81) (.seq (.ops [⟨(some 84), (.mov (.tmp 0)), none, []⟩, ⟨(some 85), (.nilChk (.tmp 84)), none, []⟩, ⟨(some 86), (.fAddr 0 (.tmp 85)), none, []⟩, ⟨(some 88), (.fAddr 1 (.tmp 5)), none, []⟩, ⟨(some 87), (.loadN 6 (.tmp 86)), none, []⟩, ⟨(some 89), (.loadN 2 (.tmp 88)), none, []⟩, ⟨(some 90), (.callv (.func 126) [(.tmp 87), (.tmp 89)]), none, []⟩, ⟨(some 83), (.mov (.tmp 90)), none, []⟩, ⟨(some 91), (.extract (.tmp 83) 0), none, []⟩, ⟨(some 92), (.extract (.tmp 83) 1), none, []⟩, ⟨(some 8), (.alloc [(.string (bs [])), (.int .i64 0)]), none, []⟩, ⟨none, (.store 2 (.tmp 8) (.tmp 91)), none, []⟩, ⟨(some 9), (.mov (.tmp 92)), none, []⟩]) (.seq (.ops [⟨(some 93), (.mov (.tmp 0)), none, []⟩, ⟨(some 94), (.mov (.tmp 9)), none, []⟩, ⟨(some 95), (.callv (.func 53) [(.tmp 93), (.tmp 94), (.const (.int .i64 72))]), none, []⟩]) (.seq (.ops [⟨(some 96), (.mov (.tmp 0)), none, []⟩, ⟨(some 97), (.mov (.tmp 1)), none, []⟩, ⟨(some 98), (.fAddr 4 (.tmp 5)), none, []⟩, ⟨(some 99), (.loadN 4 (.tmp 98)), none, []⟩, ⟨(some 100), (.callv (.func 169) [(.tmp 96), (.tmp 97), (.tmp 99)]), none, []⟩, ⟨(some 10), (.mov (.tmp 100)), none, []⟩]) (.seq (.ops [⟨(some 101), (.mov (.tmp 0)), none, []⟩, ⟨(some 102), (.mov (.tmp 1)), none, []⟩, ⟨(some 103), (.fAddr 8 (.tmp 5)), none, []⟩, ⟨(some 104), (.loadN 4 (.tmp 103)), none, []⟩, ⟨(some 105), (.callv (.func 169) [(.tmp 101), (.tmp 102), (.tmp 104)]), none, []⟩, ⟨(some 11), (.mov (.tmp 105)), none, []⟩]) (.seq (.ops [⟨(some 106), (.mov (.tmp 0)), none, []⟩, ⟨(some 107), (.mov (.tmp 10)), none, []⟩, ⟨(some 108), (.fAddr 1 (.tmp 8)), none, []⟩, ⟨(some 109), (.load1 (.tmp 108)), none, []⟩, ⟨(some 110), (.callv (.tmp 107) [(.tmp 109)]), none, []⟩, ⟨(some 111), (.callv (.func 53) [(.tmp 106), (.tmp 110), (.const (.int .i64 73))]), none, []⟩]) (.ops [⟨(some 112), (.mov (.tmp 0)), none, []⟩, ⟨(some 113), (.mov (.tmp 11)), none, []⟩, ⟨(some 114), (.fAddr 1 (.tmp 8)), none, []⟩, ⟨(some 115), (.load1 (.tmp 114)), none, []⟩, ⟨(some 116), (.callv (.tmp 113) [(.tmp 115)]), none, []⟩, ⟨(some 117), (.callv (.func 53) [(.tmp 112), (.tmp 116), (.const (.int .i64 73))]), none, []⟩])))))) (.seq (.seq (.ops [⟨(some 119), (.bin .eql (.tmp 80) (.const (.int .i64 3))), none, []⟩, ⟨(some 118), (.mov (.tmp 119)), none, []⟩]) (.cond (.tmp 118) .skip (.ops [⟨(some 120), (.bin .eql (.tmp 80) (.const (.int .i64 4))), none, []⟩, ⟨(some 118), (.mov (.tmp 120)), none, []⟩]))) (.cond (.tmp 118) (.ops [⟨(some 121), (.mov (.tmp 0)), none, []⟩, ⟨(some 122), (.mov (.tmp 0)), none, []⟩, ⟨(some 123), (.nilChk (.tmp 122)), none, []⟩, ⟨(some 124), (.fAddr 0 (.tmp 123)), none, []⟩, ⟨(some 126), (.fAddr 1 (.tmp 5)), none, []⟩, ⟨(some 127), (.fAddr 0 (.tmp 126)), none, []⟩, ⟨(some 125), (.loadN 6 (.tmp 124)), none, []⟩, ⟨(some 128), (.load1 (.tmp 127)), none, []⟩, ⟨(some 129), (.callv (.func 111) [(.tmp 125), (.tmp 128)]), none, []⟩, ⟨(some 130), (.bin .geq (.tmp 129) (.const (.int .i64 0))), none, []⟩, ⟨(some 131), (.callv (.func 53) [(.tmp 121), (.tmp 130), (.const (.int .i64 72))]), none, []⟩]) (.seq (.ops [⟨(some 133), (.bin .eql (.tmp 80) (.const (.int .i64 5))), none, []⟩, ⟨(some 132), (.mov (.tmp 133)), none, []⟩]) (.cond (.tmp 132) (.seq (.ops [⟨(some 135), (.mov (.tmp 0)), none, []⟩, ⟨(some 136), (.nilChk (.tmp 135)), none, []⟩, ⟨(some 137), (.fAddr 0 (.tmp 136)), none, []⟩, ⟨(some 139), (.fAddr 1 (.tmp 5)), none, []⟩, ⟨(some 138), (.loadN 6 (.tmp 137)), none, []⟩, ⟨(some 140), (.loadN 2 (.tmp 139)), none, []⟩, ⟨(some 141), (.callv (.func 126) [(.tmp 138), (.tmp 140)]), none, []⟩, ⟨(some 134), (.mov (.tmp 141)), none, []⟩, ⟨(some 142), (.extract (.tmp 134) 0), none, []⟩, ⟨(some 143), (.extract (.tmp 134) 1), none, []⟩, ⟨(some 12), (.alloc [(.string (bs [])), (.int .i64 0)]), none, []⟩, ⟨none, (.store 2 (.tmp 12) (.tmp 142)), none, []⟩, ⟨(some 13), (.mov (.tmp 143)), none, []⟩]) (.seq (.ops [⟨(some 144), (.mov (.tmp 0)), none, []⟩, ⟨(some 145), (.mov (.tmp 13)), none, []⟩, ⟨(some 146), (.mov (.tmp 145)), none, []⟩, ⟨(some 147), (.fAddr 1 (.tmp 5)), (some (146, true)), []⟩, ⟨(some 148), (.fAddr 0 (.tmp 147)), (some (146, true)), []⟩, ⟨(some 149), (.load1 (.tmp 148)), (some (146, true)), []⟩, ⟨(some 150), (.bin .neq (.tmp 149) (.const (.string (bs [109, 101, 116, 97])))), (some (146, true)), []⟩, ⟨(some 151), (.pick (.tmp 146) (.tmp 150) (.const (.bool false))), none, []⟩, ⟨(some 152), (.callv (.func 53) [(.tmp 144), (.tmp 151), (.const (.int .i64 72))]), none, []⟩]) (.ops [⟨(some 153), (.mov (.tmp 0)), none, []⟩, ⟨(some 154), (.fAddr 1 (.tmp 12)), none, []⟩, ⟨(some 155), (.load1 (.tmp 154)), none, []⟩, ⟨(some 156), (.bin .eql (.tmp 155) (.const (.int .i64 16))), none, []⟩, ⟨(some 157), (.callv (.func 53) [(.tmp 153), (.tmp 156), (.const (.int .i64 73))]), none, []⟩]))) .skip))))))))))))) [])
def g131 : AFunc := (.code 16 (.seq (.ops [⟨(some 4), (.box (.tmp 0)), none, []⟩, ⟨(some 6), (.mov (.const (.bool false))), none, []⟩]) (.seq (.ops [⟨(some 7), (.load1 (.tmp 2)), none, []⟩, ⟨(some 8), (.bin .add (.tmp 7) (.const (.int .i64 1))), none, []⟩, ⟨none, (.store 1 (.tmp 2) (.tmp 8)), none, []⟩]) (.seq (.ops [⟨(some 9), (.load1 (.tmp 3)), none, []⟩, ⟨(some 10), (.mov (.tmp 9)), none, []⟩, ⟨(some 11), (.mov (.tmp 1)), (some (10, false)), []⟩, ⟨(some 12), (.bin .gtr (.tmp 11) (.const (.int .i64 8))), (some (10, false)), []⟩, ⟨(some 13), (.pick (.tmp 10) (.const (.bool true)) (.tmp 12)), none, []⟩, ⟨none, (.store 1 (.tmp 3) (.tmp 13)), none, []⟩]) (.seq (.ops [⟨(some 14), (.load1 (.tmp 2)), none, []⟩, ⟨(some 15), (.bin .leq (.tmp 14) (.const (.int .i64 128))), none, []⟩, ⟨(some 6), (.mov (.tmp 15)), none, []⟩]) .ret)))) [(.tmp 6)])
def g132 : AFunc := (.code 106 (.seq (.ops [⟨(some 3), (.box (.tmp 1)), none, []⟩]) (.seq (.seq (.ops [⟨(some 10), (.fAddr 0 (.tmp 3)), none, []⟩, ⟨(some 11), (.load1 (.tmp 10)), none, []⟩, ⟨(some 12), (.bin .eql (.tmp 11) (.const (.int .i64 1))), none, []⟩]) (.cond (.tmp 12) (.seq (.ops [⟨(some 13), (.mov (.tmp 0)), none, []⟩, ⟨(some 14), (.loadN 9 (.tmp 3)), none, []⟩, ⟨(some 15), (.fAddr 0 (.tmp 3)), none, []⟩, ⟨(some 16), (.load1 (.tmp 15)), none, []⟩, ⟨(some 17), (.fAddr 1 (.tmp 3)), none, []⟩, ⟨(some 18), (.fAddr 0 (.tmp 17)), none, []⟩, ⟨(some 19), (.fAddr 0 (.tmp 18)), none, []⟩, ⟨(some 20), (.load1 (.tmp 19)), none, []⟩, ⟨(some 21), (.build [(.string (bs [])), (.string (bs []))] [(0, (1, (.tmp 20)))]), none, []⟩, ⟨(some 22), (.build [(.string (bs [])), (.string (bs [])), (.int .u64 0), (.int .u64 0)] [(0, (2, (.tmp 21)))]), none, []⟩, ⟨(some 23), (.build [(.int .i64 0), (.string (bs [])), (.string (bs [])), (.int .u64 0), (.int .u64 0), (.string (bs [])), (.string (bs [])), (.int .u64 0), (.int .u64 0)] [(0, (1, (.tmp 16))), (1, (4, (.tmp 22)))]), none, []⟩, ⟨(some 24), (.eqs false 9 [(0, 1), (1, 2), (2, 2), (3, 1), (4, 1), (5, 2), (6, 2), (7, 1), (8, 1)] (.tmp 14) (.tmp 23)), none, []⟩, ⟨(some 25), (.callv (.func 53) [(.tmp 13), (.tmp 24), (.const (.int .i64 75))]), none, []⟩]) (.seq (.ops [⟨(some 26), (.mov (.tmp 0)), none, []⟩, ⟨(some 27), (.mov (.tmp 0)), none, []⟩, ⟨(some 28), (.nilChk (.tmp 27)), none, []⟩, ⟨(some 29), (.fAddr 0 (.tmp 28)), none, []⟩, ⟨(some 31), (.fAddr 1 (.tmp 3)), none, []⟩, ⟨(some 32), (.fAddr 0 (.tmp 31)), none, []⟩, ⟨(some 33), (.fAddr 0 (.tmp 32)), none, []⟩, ⟨(some 30), (.loadN 6 (.tmp 29)), none, []⟩, ⟨(some 34), (.load1 (.tmp 33)), none, []⟩, ⟨(some 35), (.callv (.func 111) [(.tmp 30), (.tmp 34)]), none, []⟩, ⟨(some 36), (.bin .geq (.tmp 35) (.const (.int .i64 0))), none, []⟩, ⟨(some 37), (.callv (.func 53) [(.tmp 26), (.tmp 36), (.const (.int .i64 72))]), none, []⟩]) .ret)) .skip)) (.seq (.ops [⟨(some 38), (.mov (.tmp 0)), none, []⟩, ⟨(some 39), (.fAddr 0 (.tmp 3)), none, []⟩, ⟨(some 40), (.load1 (.tmp 39)), none, []⟩, ⟨(some 41), (.bin .geq (.tmp 40) (.const (.int .i64 2))), none, []⟩, ⟨(some 42), (.mov (.tmp 41)), none, []⟩, ⟨(some 43), (.fAddr 0 (.tmp 3)), (some (42, true)), []⟩, ⟨(some 44), (.load1 (.tmp 43)), (some (42, true)), []⟩, ⟨(some 45), (.bin .leq (.tmp 44) (.const (.int .i64 5))), (some (42, true)), []⟩, ⟨(some 46), (.pick (.tmp 42) (.tmp 45) (.const (.bool false))), none, []⟩, ⟨(some 47), (.mov (.tmp 46)), none, []⟩, ⟨(some 48), (.fAddr 1 (.tmp 3)), (some (47, true)), []⟩, ⟨(some 49), (.loadN 4 (.tmp 48)), (some (47, true)), []⟩, ⟨(some 50), (.callv (.func 168) [(.tmp 49)]), (some (47, true)), []⟩, ⟨(some 51), (.pick (.tmp 47) (.tmp 50) (.const (.bool false))), none, []⟩, ⟨(some 52), (.mov (.tmp 51)), none, []⟩, ⟨(some 53), (.fAddr 5 (.tmp 3)), (some (52, true)), []⟩, ⟨(some 54), (.loadN 4 (.tmp 53)), (some (52, true)), []⟩, ⟨(some 55), (.callv (.func 168) [(.tmp 54)]), (some (52, true)), []⟩, ⟨(some 56), (.pick (.tmp 52) (.tmp 55) (.const (.bool false))), none, []⟩, ⟨(some 57), (.callv (.func 53) [(.tmp 38), (.tmp 56), (.const (.int .i64 75))]), none, []⟩]) (.seq (.ops [⟨(some 58), (.mov (.tmp 0)), none, []⟩, ⟨(some 59), (.fAddr 1 (.tmp 3)), none, []⟩, ⟨(some 60), (.loadN 4 (.tmp 59)), none, []⟩, ⟨(some 61), (.callv (.func 169) [(.tmp 58), (.const (.slice none 0 0)), (.tmp 60)]), none, []⟩, ⟨(some 4), (.mov (.tmp 61)), none, []⟩]) (.seq (.ops [⟨(some 62), (.mov (.tmp 0)), none, []⟩, ⟨(some 63), (.fAddr 5 (.tmp 3)), none, []⟩, ⟨(some 64), (.loadN 4 (.tmp 63)), none, []⟩, ⟨(some 65), (.callv (.func 169) [(.tmp 62), (.const (.slice none 0 0)), (.tmp 64)]), none, []⟩, ⟨(some 5), (.mov (.tmp 65)), none, []⟩]) (.seq (.ops [⟨(some 67), (.mov (.tmp 0)), none, []⟩, ⟨(some 68), (.nilChk (.tmp 67)), none, []⟩, ⟨(some 69), (.fAddr 0 (.tmp 68)), none, []⟩, ⟨(some 71), (.fAddr 1 (.tmp 3)), none, []⟩, ⟨(some 72), (.fAddr 0 (.tmp 71)), none, []⟩, ⟨(some 70), (.loadN 6 (.tmp 69)), none, []⟩, ⟨(some 73), (.loadN 2 (.tmp 72)), none, []⟩, ⟨(some 74), (.callv (.func 126) [(.tmp 70), (.tmp 73)]), none, []⟩, ⟨(some 66), (.mov (.tmp 74)), none, []⟩, ⟨(some 75), (.extract (.tmp 66) 0), none, []⟩, ⟨(some 76), (.extract (.tmp 66) 1), none, []⟩, ⟨(some 6), (.alloc [(.string (bs [])), (.int .i64 0)]), none, []⟩, ⟨none, (.store 2 (.tmp 6) (.tmp 75)), none, []⟩, ⟨(some 7), (.mov (.tmp 76)), none, []⟩]) (.seq (.ops [⟨(some 78), (.mov (.tmp 0)), none, []⟩, ⟨(some 79), (.nilChk (.tmp 78)), none, []⟩, ⟨(some 80), (.fAddr 0 (.tmp 79)), none, []⟩, ⟨(some 82), (.fAddr 5 (.tmp 3)), none, []⟩, ⟨(some 83), (.fAddr 0 (.tmp 82)), none, []⟩, ⟨(some 81), (.loadN 6 (.tmp 80)), none, []⟩, ⟨(some 84), (.loadN 2 (.tmp 83)), none, []⟩, ⟨(some 85), (.callv (.func 126) [(.tmp 81), (.tmp 84)]), none, []⟩, ⟨(some 77), (.mov (.tmp 85)), none, []⟩, ⟨(some 86), (.extract (.tmp 77) 0), none, []⟩, ⟨(some 87), (.extract (.tmp 77) 1), none, []⟩, ⟨(some 8), (.alloc [(.string (bs [])), (.int .i64 0)]), none, []⟩, ⟨none, (.store 2 (.tmp 8) (.tmp 86)), none, []⟩, ⟨(some 9), (.mov (.tmp 87)), none, []⟩]) (.block 0 (.seq (.ops [⟨(some 91), (.mov (.tmp 7)), none, []⟩, ⟨(some 90), (.mov (.tmp 91)), none, []⟩]) (.cond (.tmp 90) (.ops [⟨(some 92), (.mov (.tmp 0)), none, []⟩, ⟨(some 93), (.mov (.tmp 5)), none, []⟩, ⟨(some 94), (.fAddr 1 (.tmp 6)), none, []⟩, ⟨(some 95), (.load1 (.tmp 94)), none, []⟩, ⟨(some 96), (.callv (.tmp 93) [(.tmp 95)]), none, []⟩, ⟨(some 97), (.callv (.func 53) [(.tmp 92), (.tmp 96), (.const (.int .i64 73))]), none, []⟩]) (.seq (.ops [⟨(some 99), (.mov (.tmp 9)), none, []⟩, ⟨(some 98), (.mov (.tmp 99)), none, []⟩]) (.cond (.tmp 98) (.ops [⟨(some 100), (.mov (.tmp 0)), none, []⟩, ⟨(some 101), (.mov (.tmp 4)), none, []⟩, ⟨(some 102), (.fAddr 1 (.tmp 8)), none, []⟩, ⟨(some 103), (.load1 (.tmp 102)), none, []⟩, ⟨(some 104), (.callv (.tmp 101) [(.tmp 103)]), none, []⟩, ⟨(some 105), (.callv (.func 53) [(.tmp 100), (.tmp 104), (.const (.int .i64 73))]), none, []⟩]) (.ops [⟨(some 88), (.mov (.tmp 0)), none, []⟩, ⟨(some 89), (.callv (.func 53) [(.tmp 88), (.const (.bool false)), (.const (.int .i64 73))]), none, []⟩]))))))))))))) [])
end Go.Proofs.YtpllhhaeclnngaaGreat.Ev

/- The functions of the program in the evaluator's form, as its own look-up lays them (part 3). Conditions: none; these are definitions. -/
namespace Go.Proofs.YtpllhhaeclnngaaGreat.Ev
set_option maxRecDepth 100000
def g142 : AFunc := (.code 24 (.seq (.ops [⟨(some 4), (.mov (.const (.bool false))), none, []⟩]) (.seq (.seq (.ops [⟨(some 5), (.mov (.tmp 0)), none, []⟩, ⟨(some 6), (.nilChk (.tmp 5)), none, []⟩, ⟨(some 7), (.fAddr 0 (.tmp 6)), none, []⟩, ⟨(some 8), (.load1 (.tmp 7)), none, []⟩, ⟨(some 9), (.bin .geq (.tmp 8) (.const (.int .i64 0))), none, []⟩]) (.cond (.tmp 9) (.ops [⟨(some 10), (.mov (.tmp 0)), none, []⟩, ⟨(some 11), (.mov (.tmp 0)), none, []⟩, ⟨(some 12), (.nilChk (.tmp 11)), none, []⟩, ⟨(some 13), (.fAddr 0 (.tmp 12)), none, []⟩, ⟨(some 14), (.load1 (.tmp 13)), none, []⟩, ⟨(some 15), (.mov (.tmp 1)), none, []⟩, ⟨(some 16), (.bin .sub (.tmp 14) (.tmp 15)), none, []⟩, ⟨(some 17), (.nilChk (.tmp 10)), none, []⟩, ⟨(some 18), (.fAddr 0 (.tmp 17)), none, []⟩, ⟨none, (.store 1 (.tmp 18) (.tmp 16)), none, []⟩]) .skip)) (.seq (.ops [⟨(some 19), (.mov (.tmp 0)), none, []⟩, ⟨(some 20), (.nilChk (.tmp 19)), none, []⟩, ⟨(some 21), (.fAddr 0 (.tmp 20)), none, []⟩, ⟨(some 22), (.load1 (.tmp 21)), none, []⟩, ⟨(some 23), (.bin .geq (.tmp 22) (.const (.int .i64 0))), none, []⟩, ⟨(some 4), (.mov (.tmp 23)), none, []⟩]) .ret))) [(.tmp 4)])
def g143 : AFunc := (.code 29 (.seq (.ops [⟨(some 4), (.mov (.const (.int .i64 0))), none, []⟩]) (.block 0 (.loop (.seq (.seq (.ops [⟨(some 5), (.mov (.tmp 4)), none, []⟩, ⟨(some 6), (.mov (.tmp 1)), none, []⟩, ⟨(some 7), (.lenSl (.tmp 6)), none, []⟩, ⟨(some 8), (.bin .lss (.tmp 5) (.tmp 7)), none, []⟩, ⟨(some 9), (.mov (.tmp 8)), none, []⟩, ⟨(some 10), (.mov (.tmp 0)), (some (9, true)), []⟩, ⟨(some 11), (.callv (.func 142) [(.tmp 10), (.const (.int .i64 1))]), (some (9, true)), []⟩, ⟨(some 12), (.pick (.tmp 9) (.tmp 11) (.const (.bool false))), none, []⟩]) (.cond (.tmp 12) .skip (.exit 0))) (.seq (.block 1 (.seq (.ops [⟨(some 15), (.mov (.tmp 0)), none, []⟩, ⟨(some 16), (.mov (.tmp 1)), none, []⟩, ⟨(some 17), (.mov (.tmp 4)), none, []⟩, ⟨(some 18), (.iAddrSl 13 (.tmp 16) (.tmp 17)), none, []⟩, ⟨(some 19), (.fAddr 11 (.tmp 18)), none, []⟩, ⟨(some 20), (.load1 (.tmp 19)), none, []⟩, ⟨(some 21), (.callv (.func 143) [(.tmp 15), (.tmp 20)]), none, []⟩]) (.ops [⟨(some 22), (.mov (.tmp 0)), none, []⟩, ⟨(some 23), (.mov (.tmp 1)), none, []⟩, ⟨(some 24), (.mov (.tmp 4)), none, []⟩, ⟨(some 25), (.iAddrSl 13 (.tmp 23) (.tmp 24)), none, []⟩, ⟨(some 26), (.fAddr 12 (.tmp 25)), none, []⟩, ⟨(some 27), (.load1 (.tmp 26)), none, []⟩, ⟨(some 28), (.callv (.func 143) [(.tmp 22), (.tmp 27)]), none, []⟩]))) (.ops [⟨(some 13), (.mov (.tmp 4)), none, []⟩, ⟨(some 14), (.bin .add (.tmp 13) (.const (.int .i64 1))), none, []⟩, ⟨(some 4), (.mov (.tmp 14)), none, []⟩])))))) [])
def g144 : AFunc := (.code 8 (.seq (.ops [⟨(some 2), (.mov (.const (.slice none 0 0))), none, []⟩]) (.seq (.seq (.ops [⟨(some 3), (.mov (.tmp 0)), none, []⟩, ⟨(some 4), (.eqp 1 false (.tmp 3) (.const (.slice none 0 0))), none, []⟩]) (.cond (.tmp 4) (.seq (.ops [⟨(some 2), (.mov (.const (.slice none 0 0))), none, []⟩]) .ret) .skip)) (.seq (.ops [⟨(some 5), (.buildSlice 12 0 [] []), none, []⟩, ⟨(some 6), (.mov (.tmp 0)), none, []⟩, ⟨(some 7), (.append 12 144 (.tmp 5) (.tmp 6)), none, []⟩, ⟨(some 2), (.mov (.tmp 7)), none, []⟩]) .ret))) [(.tmp 2)])
def g145 : AFunc := (.code 8 (.seq (.ops [⟨(some 2), (.mov (.const (.slice none 0 0))), none, []⟩]) (.seq (.seq (.ops [⟨(some 3), (.mov (.tmp 0)), none, []⟩, ⟨(some 4), (.eqp 1 false (.tmp 3) (.const (.slice none 0 0))), none, []⟩]) (.cond (.tmp 4) (.seq (.ops [⟨(some 2), (.mov (.const (.slice none 0 0))), none, []⟩]) .ret) .skip)) (.seq (.ops [⟨(some 5), (.buildSlice 3 0 [] []), none, []⟩, ⟨(some 6), (.mov (.tmp 0)), none, []⟩, ⟨(some 7), (.append 3 40 (.tmp 5) (.tmp 6)), none, []⟩, ⟨(some 2), (.mov (.tmp 7)), none, []⟩]) .ret))) [(.tmp 2)])
def g146 : AFunc := (.code 8 (.seq (.ops [⟨(some 2), (.mov (.const (.slice none 0 0))), none, []⟩]) (.seq (.seq (.ops [⟨(some 3), (.mov (.tmp 0)), none, []⟩, ⟨(some 4), (.eqp 1 false (.tmp 3) (.const (.slice none 0 0))), none, []⟩]) (.cond (.tmp 4) (.seq (.ops [⟨(some 2), (.mov (.const (.slice none 0 0))), none, []⟩]) .ret) .skip)) (.seq (.ops [⟨(some 5), (.buildSlice 1 0 [] []), none, []⟩, ⟨(some 6), (.mov (.tmp 0)), none, []⟩, ⟨(some 7), (.append 1 16 (.tmp 5) (.tmp 6)), none, []⟩, ⟨(some 2), (.mov (.tmp 7)), none, []⟩]) .ret))) [(.tmp 2)])
def g147 : AFunc := (.code 8 (.seq (.ops [⟨(some 2), (.mov (.const (.slice none 0 0))), none, []⟩]) (.seq (.seq (.ops [⟨(some 3), (.mov (.tmp 0)), none, []⟩, ⟨(some 4), (.eqp 1 false (.tmp 3) (.const (.slice none 0 0))), none, []⟩]) (.cond (.tmp 4) (.seq (.ops [⟨(some 2), (.mov (.const (.slice none 0 0))), none, []⟩]) .ret) .skip)) (.seq (.ops [⟨(some 5), (.buildSlice 2 0 [] []), none, []⟩, ⟨(some 6), (.mov (.tmp 0)), none, []⟩, ⟨(some 7), (.append 2 16 (.tmp 5) (.tmp 6)), none, []⟩, ⟨(some 2), (.mov (.tmp 7)), none, []⟩]) .ret))) [(.tmp 2)])
def g148 : AFunc := (.code 8 (.seq (.ops [⟨(some 2), (.mov (.const (.slice none 0 0))), none, []⟩]) (.seq (.seq (.ops [⟨(some 3), (.mov (.tmp 0)), none, []⟩, ⟨(some 4), (.eqp 1 false (.tmp 3) (.const (.slice none 0 0))), none, []⟩]) (.cond (.tmp 4) (.seq (.ops [⟨(some 2), (.mov (.const (.slice none 0 0))), none, []⟩]) .ret) .skip)) (.seq (.ops [⟨(some 5), (.buildSlice 13 0 [] []), none, []⟩, ⟨(some 6), (.mov (.tmp 0)), none, []⟩, ⟨(some 7), (.append 13 176 (.tmp 5) (.tmp 6)), none, []⟩, ⟨(some 2), (.mov (.tmp 7)), none, []⟩]) .ret))) [(.tmp 2)])
def g149 : AFunc := (.code 26 (.seq (.ops [⟨(some 4), (.mov (.const (.bool false))), none, []⟩]) (.seq (.seq (.ops [⟨(some 6), (.mov (.tmp 0)), none, []⟩, ⟨(some 7), (.lenSl (.tmp 6)), none, []⟩, ⟨(some 8), (.mov (.tmp 1)), none, []⟩, ⟨(some 9), (.lenSl (.tmp 8)), none, []⟩, ⟨(some 10), (.bin .neq (.tmp 7) (.tmp 9)), none, []⟩]) (.cond (.tmp 10) (.seq (.ops [⟨(some 4), (.mov (.const (.bool false))), none, []⟩]) .ret) .skip)) (.seq (.seq (.ops [⟨(some 11), (.mov (.tmp 0)), none, []⟩, ⟨(some 12), (.lenSl (.tmp 11)), none, []⟩, ⟨(some 13), (.mov (.const (.int .i64 0))), none, []⟩]) (.block 0 (.loop (.seq (.ops [⟨(some 14), (.bin .lss (.tmp 13) (.tmp 12)), none, []⟩]) (.seq (.cond (.tmp 14) .skip (.exit 0)) (.seq (.block 1 (.seq (.ops [⟨(some 15), (.mov (.tmp 13)), none, []⟩, ⟨(some 5), (.mov (.tmp 15)), none, []⟩]) (.seq (.ops [⟨(some 16), (.mov (.tmp 0)), none, []⟩, ⟨(some 17), (.mov (.tmp 5)), none, []⟩, ⟨(some 18), (.iAddrSl 3 (.tmp 16) (.tmp 17)), none, []⟩, ⟨(some 20), (.mov (.tmp 1)), none, []⟩, ⟨(some 21), (.mov (.tmp 5)), none, []⟩, ⟨(some 22), (.iAddrSl 3 (.tmp 20) (.tmp 21)), none, []⟩, ⟨(some 19), (.loadN 3 (.tmp 18)), none, []⟩, ⟨(some 23), (.loadN 3 (.tmp 22)), none, []⟩, ⟨(some 24), (.eqs true 3 [(0, 2), (1, 2), (2, 1)] (.tmp 19) (.tmp 23)), none, []⟩]) (.cond (.tmp 24) (.seq (.ops [⟨(some 4), (.mov (.const (.bool false))), none, []⟩]) .ret) .skip)))) (.ops [⟨(some 25), (.bin .add (.tmp 13) (.const (.int .i64 1))), none, []⟩, ⟨(some 13), (.mov (.tmp 25)), none, []⟩]))))))) (.seq (.ops [⟨(some 4), (.mov (.const (.bool true))), none, []⟩]) .ret)))) [(.tmp 4)])
def g150 : AFunc := (.code 26 (.seq (.ops [⟨(some 4), (.mov (.const (.bool false))), none, []⟩]) (.seq (.seq (.ops [⟨(some 6), (.mov (.tmp 0)), none, []⟩, ⟨(some 7), (.lenSl (.tmp 6)), none, []⟩, ⟨(some 8), (.mov (.tmp 1)), none, []⟩, ⟨(some 9), (.lenSl (.tmp 8)), none, []⟩, ⟨(some 10), (.bin .neq (.tmp 7) (.tmp 9)), none, []⟩]) (.cond (.tmp 10) (.seq (.ops [⟨(some 4), (.mov (.const (.bool false))), none, []⟩]) .ret) .skip)) (.seq (.seq (.ops [⟨(some 11), (.mov (.tmp 0)), none, []⟩, ⟨(some 12), (.lenSl (.tmp 11)), none, []⟩, ⟨(some 13), (.mov (.const (.int .i64 0))), none, []⟩]) (.block 0 (.loop (.seq (.ops [⟨(some 14), (.bin .lss (.tmp 13) (.tmp 12)), none, []⟩]) (.seq (.cond (.tmp 14) .skip (.exit 0)) (.seq (.block 1 (.seq (.ops [⟨(some 15), (.mov (.tmp 13)), none, []⟩, ⟨(some 5), (.mov (.tmp 15)), none, []⟩]) (.seq (.ops [⟨(some 16), (.mov (.tmp 0)), none, []⟩, ⟨(some 17), (.mov (.tmp 5)), none, []⟩, ⟨(some 18), (.iAddrSl 1 (.tmp 16) (.tmp 17)), none, []⟩, ⟨(some 20), (.mov (.tmp 1)), none, []⟩, ⟨(some 21), (.mov (.tmp 5)), none, []⟩, ⟨(some 22), (.iAddrSl 1 (.tmp 20) (.tmp 21)), none, []⟩, ⟨(some 19), (.load1 (.tmp 18)), none, []⟩, ⟨(some 23), (.load1 (.tmp 22)), none, []⟩, ⟨(some 24), (.bin .neq (.tmp 19) (.tmp 23)), none, []⟩]) (.cond (.tmp 24) (.seq (.ops [⟨(some 4), (.mov (.const (.bool false))), none, []⟩]) .ret) .skip)))) (.ops [⟨(some 25), (.bin .add (.tmp 13) (.const (.int .i64 1))), none, []⟩, ⟨(some 13), (.mov (.tmp 25)), none, []⟩]))))))) (.seq (.ops [⟨(some 4), (.mov (.const (.bool true))), none, []⟩]) .ret)))) [(.tmp 4)])
def g151 : AFunc := (.code 26 (.seq (.ops [⟨(some 4), (.mov (.const (.bool false))), none, []⟩]) (.seq (.seq (.ops [⟨(some 6), (.mov (.tmp 0)), none, []⟩, ⟨(some 7), (.lenSl (.tmp 6)), none, []⟩, ⟨(some 8), (.mov (.tmp 1)), none, []⟩, ⟨(some 9), (.lenSl (.tmp 8)), none, []⟩, ⟨(some 10), (.bin .neq (.tmp 7) (.tmp 9)), none, []⟩]) (.cond (.tmp 10) (.seq (.ops [⟨(some 4), (.mov (.const (.bool false))), none, []⟩]) .ret) .skip)) (.seq (.seq (.ops [⟨(some 11), (.mov (.tmp 0)), none, []⟩, ⟨(some 12), (.lenSl (.tmp 11)), none, []⟩, ⟨(some 13), (.mov (.const (.int .i64 0))), none, []⟩]) (.block 0 (.loop (.seq (.ops [⟨(some 14), (.bin .lss (.tmp 13) (.tmp 12)), none, []⟩]) (.seq (.cond (.tmp 14) .skip (.exit 0)) (.seq (.block 1 (.seq (.ops [⟨(some 15), (.mov (.tmp 13)), none, []⟩, ⟨(some 5), (.mov (.tmp 15)), none, []⟩]) (.seq (.ops [⟨(some 16), (.mov (.tmp 0)), none, []⟩, ⟨(some 17), (.mov (.tmp 5)), none, []⟩, ⟨(some 18), (.iAddrSl 2 (.tmp 16) (.tmp 17)), none, []⟩, ⟨(some 20), (.mov (.tmp 1)), none, []⟩, ⟨(some 21), (.mov (.tmp 5)), none, []⟩, ⟨(some 22), (.iAddrSl 2 (.tmp 20) (.tmp 21)), none, []⟩, ⟨(some 19), (.loadN 2 (.tmp 18)), none, []⟩, ⟨(some 23), (.loadN 2 (.tmp 22)), none, []⟩, ⟨(some 24), (.eqs true 2 [(0, 1), (1, 1)] (.tmp 19) (.tmp 23)), none, []⟩]) (.cond (.tmp 24) (.seq (.ops [⟨(some 4), (.mov (.const (.bool false))), none, []⟩]) .ret) .skip)))) (.ops [⟨(some 25), (.bin .add (.tmp 13) (.const (.int .i64 1))), none, []⟩, ⟨(some 13), (.mov (.tmp 25)), none, []⟩]))))))) (.seq (.ops [⟨(some 4), (.mov (.const (.bool true))), none, []⟩]) .ret)))) [(.tmp 4)])
def g152 : AFunc := (.code 32 (.seq (.ops [⟨(some 6), (.mov (.const (.bool false))), none, []⟩]) (.seq (.seq (.ops [⟨(some 10), (.mov (.tmp 0)), none, []⟩, ⟨(some 11), (.lenSl (.tmp 10)), none, []⟩, ⟨(some 12), (.mov (.tmp 1)), none, []⟩, ⟨(some 13), (.lenSl (.tmp 12)), none, []⟩, ⟨(some 14), (.bin .neq (.tmp 11) (.tmp 13)), none, []⟩]) (.cond (.tmp 14) (.seq (.ops [⟨(some 6), (.mov (.const (.bool false))), none, []⟩]) .ret) .skip)) (.seq (.seq (.ops [⟨(some 15), (.mov (.tmp 0)), none, []⟩, ⟨(some 16), (.lenSl (.tmp 15)), none, []⟩, ⟨(some 17), (.mov (.const (.int .i64 0))), none, []⟩]) (.block 0 (.loop (.seq (.ops [⟨(some 18), (.bin .lss (.tmp 17) (.tmp 16)), none, []⟩]) (.seq (.cond (.tmp 18) .skip (.exit 0)) (.seq (.block 1 (.seq (.ops [⟨(some 19), (.mov (.tmp 17)), none, []⟩, ⟨(some 20), (.iAddrSl 13 (.tmp 15) (.tmp 17)), none, []⟩, ⟨(some 21), (.loadN 13 (.tmp 20)), none, []⟩, ⟨(some 8), (.alloc [(.int .i64 0), (.string (bs [])), (.int .i64 0), (.string (bs [])), (.string (bs [])), (.int .u64 0), (.int .u64 0), (.string (bs [])), (.string (bs [])), (.int .u64 0), (.int .u64 0), (.slice none 0 0), (.slice none 0 0)]), none, []⟩, ⟨(some 7), (.mov (.tmp 19)), none, []⟩, ⟨none, (.store 13 (.tmp 8) (.tmp 21)), none, []⟩]) (.seq (.ops [⟨(some 22), (.mov (.tmp 1)), none, []⟩, ⟨(some 23), (.mov (.tmp 7)), none, []⟩, ⟨(some 24), (.iAddrSl 13 (.tmp 22) (.tmp 23)), none, []⟩, ⟨(some 25), (.loadN 13 (.tmp 24)), none, []⟩, ⟨(some 9), (.alloc [(.int .i64 0), (.string (bs [])), (.int .i64 0), (.string (bs [])), (.string (bs [])), (.int .u64 0), (.int .u64 0), (.string (bs [])), (.string (bs [])), (.int .u64 0), (.int .u64 0), (.slice none 0 0), (.slice none 0 0)]), none, []⟩, ⟨none, (.store 13 (.tmp 9) (.tmp 25)), none, []⟩]) (.seq (.ops [⟨(some 26), (.mov (.tmp 2)), none, []⟩, ⟨(some 27), (.loadN 13 (.tmp 8)), none, []⟩, ⟨(some 28), (.loadN 13 (.tmp 9)), none, []⟩, ⟨(some 29), (.callv (.tmp 26) [(.tmp 27), (.tmp 28)]), none, []⟩, ⟨(some 30), (.un .not (.tmp 29)), none, []⟩]) (.cond (.tmp 30) (.seq (.ops [⟨(some 6), (.mov (.const (.bool false))), none, []⟩]) .ret) .skip))))) (.ops [⟨(some 31), (.bin .add (.tmp 17) (.const (.int .i64 1))), none, []⟩, ⟨(some 17), (.mov (.tmp 31)), none, []⟩]))))))) (.seq (.ops [⟨(some 6), (.mov (.const (.bool true))), none, []⟩]) .ret)))) [(.tmp 6)])
def g153 : AFunc := (.code 38 (.seq (.ops [⟨(some 2), (.box (.tmp 0)), none, []⟩, ⟨(some 3), (.box (.tmp 1)), none, []⟩, ⟨(some 4), (.mov (.const (.bool false))), none, []⟩]) (.seq (.ops [⟨(some 5), (.fAddr 0 (.tmp 2)), none, []⟩, ⟨(some 6), (.load1 (.tmp 5)), none, []⟩, ⟨(some 7), (.fAddr 0 (.tmp 3)), none, []⟩, ⟨(some 8), (.load1 (.tmp 7)), none, []⟩, ⟨(some 9), (.bin .eql (.tmp 6) (.tmp 8)), none, []⟩, ⟨(some 10), (.mov (.tmp 9)), none, []⟩, ⟨(some 11), (.fAddr 1 (.tmp 2)), (some (10, true)), []⟩, ⟨(some 12), (.load1 (.tmp 11)), (some (10, true)), []⟩, ⟨(some 13), (.fAddr 1 (.tmp 3)), (some (10, true)), []⟩, ⟨(some 14), (.load1 (.tmp 13)), (some (10, true)), []⟩, ⟨(some 15), (.bin .eql (.tmp 12) (.tmp 14)), (some (10, true)), []⟩, ⟨(some 16), (.pick (.tmp 10) (.tmp 15) (.const (.bool false))), none, []⟩, ⟨(some 17), (.mov (.tmp 16)), none, []⟩, ⟨(some 18), (.fAddr 2 (.tmp 2)), (some (17, true)), []⟩, ⟨(some 19), (.loadN 9 (.tmp 18)), (some (17, true)), []⟩, ⟨(some 20), (.fAddr 2 (.tmp 3)), (some (17, true)), []⟩, ⟨(some 21), (.loadN 9 (.tmp 20)), (some (17, true)), []⟩, ⟨(some 22), (.eqs false 9 [(0, 1), (1, 2), (2, 2), (3, 1), (4, 1), (5, 2), (6, 2), (7, 1), (8, 1)] (.tmp 19) (.tmp 21)), (some (17, true)), []⟩, ⟨(some 23), (.pick (.tmp 17) (.tmp 22) (.const (.bool false))), none, []⟩, ⟨(some 24), (.mov (.tmp 23)), none, []⟩, ⟨(some 25), (.fAddr 11 (.tmp 2)), (some (24, true)), []⟩, ⟨(some 26), (.load1 (.tmp 25)), (some (24, true)), []⟩, ⟨(some 27), (.fAddr 11 (.tmp 3)), (some (24, true)), []⟩, ⟨(some 28), (.load1 (.tmp 27)), (some (24, true)), []⟩, ⟨(some 29), (.callv (.func 94) [(.tmp 26), (.tmp 28)]), (some (24, true)), []⟩, ⟨(some 30), (.pick (.tmp 24) (.tmp 29) (.const (.bool false))), none, []⟩, ⟨(some 31), (.mov (.tmp 30)), none, []⟩, ⟨(some 32), (.fAddr 12 (.tmp 2)), (some (31, true)), []⟩, ⟨(some 33), (.load1 (.tmp 32)), (some (31, true)), []⟩, ⟨(some 34), (.fAddr 12 (.tmp 3)), (some (31, true)), []⟩, ⟨(some 35), (.load1 (.tmp 34)), (some (31, true)), []⟩, ⟨(some 36), (.callv (.func 94) [(.tmp 33), (.tmp 35)]), (some (31, true)), []⟩, ⟨(some 37), (.pick (.tmp 31) (.tmp 36) (.const (.bool false))), none, []⟩, ⟨(some 4), (.mov (.tmp 37)), none, []⟩]) .ret)) [(.tmp 4)])
def g154 : AFunc := (.code 19 (.seq (.ops [⟨(some 4), (.mov (.const (.int .i64 0))), none, []⟩]) (.seq (.seq (.ops [⟨(some 6), (.mov (.tmp 0)), none, []⟩, ⟨(some 7), (.lenSl (.tmp 6)), none, []⟩, ⟨(some 8), (.mov (.const (.int .i64 0))), none, []⟩]) (.block 0 (.loop (.seq (.ops [⟨(some 9), (.bin .lss (.tmp 8) (.tmp 7)), none, []⟩]) (.seq (.cond (.tmp 9) .skip (.exit 0)) (.seq (.block 1 (.seq (.ops [⟨(some 10), (.mov (.tmp 8)), none, []⟩, ⟨(some 5), (.mov (.tmp 10)), none, []⟩]) (.seq (.ops [⟨(some 11), (.mov (.tmp 1)), none, []⟩, ⟨(some 12), (.mov (.tmp 0)), none, []⟩, ⟨(some 13), (.mov (.tmp 5)), none, []⟩, ⟨(some 14), (.iAddrSl 1 (.tmp 12) (.tmp 13)), none, []⟩, ⟨(some 15), (.load1 (.tmp 14)), none, []⟩, ⟨(some 16), (.bin .eql (.tmp 11) (.tmp 15)), none, []⟩]) (.cond (.tmp 16) (.seq (.ops [⟨(some 17), (.mov (.tmp 5)), none, []⟩, ⟨(some 4), (.mov (.tmp 17)), none, []⟩]) .ret) .skip)))) (.ops [⟨(some 18), (.bin .add (.tmp 8) (.const (.int .i64 1))), none, []⟩, ⟨(some 8), (.mov (.tmp 18)), none, []⟩]))))))) (.seq (.ops [⟨(some 4), (.mov (.const (.int .i64 (-1)))), none, []⟩]) .ret))) [(.tmp 4)])
def g157 : AFunc := (.code 19 (.seq (.ops [⟨(some 4), (.mov (.const (.int .i64 0))), none, []⟩]) (.seq (.seq (.ops [⟨(some 6), (.mov (.tmp 0)), none, []⟩, ⟨(some 7), (.lenSl (.tmp 6)), none, []⟩, ⟨(some 8), (.mov (.const (.int .i64 0))), none, []⟩]) (.block 0 (.loop (.seq (.ops [⟨(some 9), (.bin .lss (.tmp 8) (.tmp 7)), none, []⟩]) (.seq (.cond (.tmp 9) .skip (.exit 0)) (.seq (.block 1 (.seq (.ops [⟨(some 10), (.mov (.tmp 8)), none, []⟩, ⟨(some 5), (.mov (.tmp 10)), none, []⟩]) (.seq (.ops [⟨(some 11), (.mov (.tmp 1)), none, []⟩, ⟨(some 12), (.mov (.tmp 0)), none, []⟩, ⟨(some 13), (.mov (.tmp 5)), none, []⟩, ⟨(some 14), (.iAddrSl 3 (.tmp 12) (.tmp 13)), none, []⟩, ⟨(some 15), (.loadN 3 (.tmp 14)), none, []⟩, ⟨(some 16), (.callv (.tmp 11) [(.tmp 15)]), none, []⟩]) (.cond (.tmp 16) (.seq (.ops [⟨(some 17), (.mov (.tmp 5)), none, []⟩, ⟨(some 4), (.mov (.tmp 17)), none, []⟩]) .ret) .skip)))) (.ops [⟨(some 18), (.bin .add (.tmp 8) (.const (.int .i64 1))), none, []⟩, ⟨(some 8), (.mov (.tmp 18)), none, []⟩]))))))) (.seq (.ops [⟨(some 4), (.mov (.const (.int .i64 (-1)))), none, []⟩]) .ret))) [(.tmp 4)])
def g158 : AFunc := (.code 8 (.seq (.ops [⟨(some 4), (.mov (.const (.int .i64 0))), none, []⟩]) (.seq (.ops [⟨(some 5), (.mov (.tmp 0)), none, []⟩, ⟨(some 6), (.mov (.tmp 1)), none, []⟩, ⟨(some 7), (.callv (.func 184) [(.tmp 5), (.tmp 6)]), none, []⟩, ⟨(some 4), (.mov (.tmp 7)), none, []⟩]) .ret)) [(.tmp 4)])
def g159 : AFunc := (.code 8 (.seq (.ops [⟨(some 2), (.box (.tmp 0)), none, []⟩, ⟨(some 3), (.mov (.const (.bool false))), none, []⟩]) (.seq (.ops [⟨(some 4), (.fAddr 0 (.tmp 2)), none, []⟩, ⟨(some 5), (.load1 (.tmp 4)), none, []⟩, ⟨(some 6), (.load1 (.tmp 1)), none, []⟩, ⟨(some 7), (.bin .eql (.tmp 5) (.tmp 6)), none, []⟩, ⟨(some 3), (.mov (.tmp 7)), none, []⟩]) .ret)) [(.tmp 3)])
def g160 : AFunc := (.code 8 (.seq (.ops [⟨(some 4), (.mov (.const (.int .i64 0))), none, []⟩]) (.seq (.ops [⟨(some 5), (.mov (.tmp 0)), none, []⟩, ⟨(some 6), (.mov (.tmp 1)), none, []⟩, ⟨(some 7), (.callv (.func 185) [(.tmp 5), (.tmp 6)]), none, []⟩, ⟨(some 4), (.mov (.tmp 7)), none, []⟩]) .ret)) [(.tmp 4)])
def g161 : AFunc := (.code 8 (.seq (.ops [⟨(some 2), (.box (.tmp 0)), none, []⟩, ⟨(some 3), (.mov (.const (.bool false))), none, []⟩]) (.seq (.ops [⟨(some 4), (.fAddr 0 (.tmp 2)), none, []⟩, ⟨(some 5), (.load1 (.tmp 4)), none, []⟩, ⟨(some 6), (.load1 (.tmp 1)), none, []⟩, ⟨(some 7), (.bin .eql (.tmp 5) (.tmp 6)), none, []⟩, ⟨(some 3), (.mov (.tmp 7)), none, []⟩]) .ret)) [(.tmp 3)])
def g162 : AFunc := (.code 8 (.seq (.ops [⟨(some 4), (.mov (.const (.int .i64 0))), none, []⟩]) (.seq (.ops [⟨(some 5), (.mov (.tmp 0)), none, []⟩, ⟨(some 6), (.mov (.tmp 1)), none, []⟩, ⟨(some 7), (.callv (.func 186) [(.tmp 5), (.tmp 6)]), none, []⟩, ⟨(some 4), (.mov (.tmp 7)), none, []⟩]) .ret)) [(.tmp 4)])
def g163 : AFunc := (.code 8 (.seq (.ops [⟨(some 2), (.box (.tmp 0)), none, []⟩, ⟨(some 3), (.mov (.const (.bool false))), none, []⟩]) (.seq (.ops [⟨(some 4), (.fAddr 0 (.tmp 2)), none, []⟩, ⟨(some 5), (.load1 (.tmp 4)), none, []⟩, ⟨(some 6), (.load1 (.tmp 1)), none, []⟩, ⟨(some 7), (.bin .eql (.tmp 5) (.tmp 6)), none, []⟩, ⟨(some 3), (.mov (.tmp 7)), none, []⟩]) .ret)) [(.tmp 3)])
def g164 : AFunc := (.code 26 (.seq (.ops [⟨(some 4), (.mov (.const (.bool false))), none, []⟩]) (.seq (.seq (.ops [⟨(some 6), (.mov (.tmp 0)), none, []⟩, ⟨(some 7), (.lenSl (.tmp 6)), none, []⟩, ⟨(some 8), (.mov (.tmp 1)), none, []⟩, ⟨(some 9), (.lenSl (.tmp 8)), none, []⟩, ⟨(some 10), (.bin .neq (.tmp 7) (.tmp 9)), none, []⟩]) (.cond (.tmp 10) (.seq (.ops [⟨(some 4), (.mov (.const (.bool false))), none, []⟩]) .ret) .skip)) (.seq (.seq (.ops [⟨(some 5), (.mov (.const (.int .i64 0))), none, []⟩]) (.block 0 (.loop (.seq (.seq (.ops [⟨(some 11), (.mov (.tmp 5)), none, []⟩, ⟨(some 12), (.mov (.tmp 0)), none, []⟩, ⟨(some 13), (.lenSl (.tmp 12)), none, []⟩, ⟨(some 14), (.bin .lss (.tmp 11) (.tmp 13)), none, []⟩]) (.cond (.tmp 14) .skip (.exit 0))) (.seq (.block 1 (.seq (.ops [⟨(some 17), (.mov (.tmp 0)), none, []⟩, ⟨(some 18), (.mov (.tmp 5)), none, []⟩, ⟨(some 19), (.iAddrSl 2 (.tmp 17) (.tmp 18)), none, []⟩, ⟨(some 21), (.mov (.tmp 1)), none, []⟩, ⟨(some 22), (.mov (.tmp 5)), none, []⟩, ⟨(some 23), (.iAddrSl 2 (.tmp 21) (.tmp 22)), none, []⟩, ⟨(some 20), (.loadN 2 (.tmp 19)), none, []⟩, ⟨(some 24), (.loadN 2 (.tmp 23)), none, []⟩, ⟨(some 25), (.eqs true 2 [(0, 1), (1, 1)] (.tmp 20) (.tmp 24)), none, []⟩]) (.cond (.tmp 25) (.seq (.ops [⟨(some 4), (.mov (.const (.bool false))), none, []⟩]) .ret) .skip))) (.ops [⟨(some 15), (.mov (.tmp 5)), none, []⟩, ⟨(some 16), (.bin .add (.tmp 15) (.const (.int .i64 1))), none, []⟩, ⟨(some 5), (.mov (.tmp 16)), none, []⟩])))))) (.seq (.ops [⟨(some 4), (.mov (.const (.bool true))), none, []⟩]) .ret)))) [(.tmp 4)])
def g167 : AFunc := (.code 8 (.seq (.ops [⟨(some 3), (.box (.tmp 1)), none, []⟩, ⟨(some 4), (.mov (.const (.int .i64 0))), none, []⟩]) (.seq (.ops [⟨(some 5), (.mov (.tmp 0)), none, []⟩, ⟨(some 6), (.mkFunc 189 [] [(.tmp 3)]), none, []⟩, ⟨(some 7), (.callv (.func 188) [(.tmp 5), (.tmp 6)]), none, []⟩, ⟨(some 4), (.mov (.tmp 7)), none, []⟩]) .ret)) [(.tmp 4)])
def g168 : AFunc := (.code 13 (.seq (.ops [⟨(some 1), (.box (.tmp 0)), none, []⟩, ⟨(some 2), (.mov (.const (.bool false))), none, []⟩]) (.seq (.ops [⟨(some 3), (.fAddr 0 (.tmp 1)), none, []⟩, ⟨(some 4), (.loadN 2 (.tmp 3)), none, []⟩, ⟨(some 5), (.build [(.string (bs [])), (.string (bs []))] []), none, []⟩, ⟨(some 6), (.eqs false 2 [(0, 2), (1, 2)] (.tmp 4) (.tmp 5)), none, []⟩, ⟨(some 7), (.mov (.tmp 6)), none, []⟩, ⟨(some 8), (.fAddr 2 (.tmp 1)), (some (7, false)), []⟩, ⟨(some 9), (.loadN 2 (.tmp 8)), (some (7, false)), []⟩, ⟨(some 10), (.build [(.int .u64 0), (.int .u64 0)] []), (some (7, false)), []⟩, ⟨(some 11), (.eqs false 2 [(0, 1), (1, 1)] (.tmp 9) (.tmp 10)), (some (7, false)), []⟩, ⟨(some 12), (.pick (.tmp 7) (.const (.bool true)) (.tmp 11)), none, []⟩, ⟨(some 2), (.mov (.tmp 12)), none, []⟩]) .ret)) [(.tmp 2)])
def g169 : AFunc := (.code 44 (.seq (.ops [⟨(some 5), (.box (.tmp 2)), none, []⟩, ⟨(some 6), (.mov (.const .nilFunc)), none, []⟩]) (.seq (.seq (.ops [⟨(some 10), (.fAddr 0 (.tmp 5)), none, []⟩, ⟨(some 11), (.loadN 2 (.tmp 10)), none, []⟩, ⟨(some 12), (.build [(.string (bs [])), (.string (bs []))] []), none, []⟩, ⟨(some 13), (.eqs false 2 [(0, 2), (1, 2)] (.tmp 11) (.tmp 12)), none, []⟩]) (.cond (.tmp 13) (.seq (.ops [⟨(some 14), (.mkFunc 190 [] [(.tmp 5)]), none, []⟩, ⟨(some 6), (.mov (.tmp 14)), none, []⟩]) .ret) .skip)) (.seq (.ops [⟨(some 16), (.mov (.tmp 0)), none, []⟩, ⟨(some 17), (.nilChk (.tmp 16)), none, []⟩, ⟨(some 18), (.fAddr 0 (.tmp 17)), none, []⟩, ⟨(some 20), (.fAddr 0 (.tmp 5)), none, []⟩, ⟨(some 19), (.loadN 6 (.tmp 18)), none, []⟩, ⟨(some 21), (.loadN 2 (.tmp 20)), none, []⟩, ⟨(some 22), (.callv (.func 126) [(.tmp 19), (.tmp 21)]), none, []⟩, ⟨(some 15), (.mov (.tmp 22)), none, []⟩, ⟨(some 23), (.extract (.tmp 15) 0), none, []⟩, ⟨(some 24), (.extract (.tmp 15) 1), none, []⟩, ⟨(some 7), (.alloc [(.string (bs [])), (.int .i64 0)]), none, []⟩, ⟨none, (.store 2 (.tmp 7) (.tmp 23)), none, []⟩, ⟨(some 8), (.mov (.tmp 24)), none, []⟩]) (.seq (.seq (.ops [⟨(some 25), (.fAddr 0 (.tmp 5)), none, []⟩, ⟨(some 26), (.fAddr 0 (.tmp 25)), none, []⟩, ⟨(some 27), (.load1 (.tmp 26)), none, []⟩, ⟨(some 28), (.bin .eql (.tmp 27) (.const (.string (bs [])))), none, []⟩]) (.cond (.tmp 28) (.seq (.ops [⟨(some 29), (.mov (.tmp 1)), none, []⟩, ⟨(some 30), (.fAddr 0 (.tmp 5)), none, []⟩, ⟨(some 31), (.fAddr 1 (.tmp 30)), none, []⟩, ⟨(some 32), (.load1 (.tmp 31)), none, []⟩, ⟨(some 33), (.callv (.func 167) [(.tmp 29), (.tmp 32)]), none, []⟩, ⟨(some 9), (.mov (.tmp 33)), none, []⟩]) (.seq (.ops [⟨(some 34), (.mov (.tmp 9)), none, []⟩, ⟨(some 35), (.bin .geq (.tmp 34) (.const (.int .i64 0))), none, []⟩]) (.cond (.tmp 35) (.ops [⟨(some 36), (.mov (.tmp 1)), none, []⟩, ⟨(some 37), (.mov (.tmp 9)), none, []⟩, ⟨(some 38), (.iAddrSl 2 (.tmp 36) (.tmp 37)), none, []⟩, ⟨(some 39), (.loadN 2 (.tmp 38)), none, []⟩, ⟨none, (.store 2 (.tmp 7) (.tmp 39)), none, []⟩, ⟨(some 8), (.mov (.const (.bool true))), none, []⟩]) .skip))) .skip)) (.seq (.ops [⟨(some 40), (.mov (.tmp 0)), none, []⟩, ⟨(some 41), (.mov (.tmp 8)), none, []⟩, ⟨(some 42), (.callv (.func 53) [(.tmp 40), (.tmp 41), (.const (.int .i64 72))]), none, []⟩]) (.seq (.ops [⟨(some 43), (.mkFunc 191 [] [(.tmp 7)]), none, []⟩, ⟨(some 6), (.mov (.tmp 43)), none, []⟩]) .ret)))))) [(.tmp 6)])
def g184 : AFunc := (.code 19 (.seq (.ops [⟨(some 4), (.mov (.const (.int .i64 0))), none, []⟩]) (.seq (.seq (.ops [⟨(some 6), (.mov (.tmp 0)), none, []⟩, ⟨(some 7), (.lenSl (.tmp 6)), none, []⟩, ⟨(some 8), (.mov (.const (.int .i64 0))), none, []⟩]) (.block 0 (.loop (.seq (.ops [⟨(some 9), (.bin .lss (.tmp 8) (.tmp 7)), none, []⟩]) (.seq (.cond (.tmp 9) .skip (.exit 0)) (.seq (.block 1 (.seq (.ops [⟨(some 10), (.mov (.tmp 8)), none, []⟩, ⟨(some 5), (.mov (.tmp 10)), none, []⟩]) (.seq (.ops [⟨(some 11), (.mov (.tmp 1)), none, []⟩, ⟨(some 12), (.mov (.tmp 0)), none, []⟩, ⟨(some 13), (.mov (.tmp 5)), none, []⟩, ⟨(some 14), (.iAddrSl 2 (.tmp 12) (.tmp 13)), none, []⟩, ⟨(some 15), (.loadN 2 (.tmp 14)), none, []⟩, ⟨(some 16), (.callv (.tmp 11) [(.tmp 15)]), none, []⟩]) (.cond (.tmp 16) (.seq (.ops [⟨(some 17), (.mov (.tmp 5)), none, []⟩, ⟨(some 4), (.mov (.tmp 17)), none, []⟩]) .ret) .skip)))) (.ops [⟨(some 18), (.bin .add (.tmp 8) (.const (.int .i64 1))), none, []⟩, ⟨(some 8), (.mov (.tmp 18)), none, []⟩]))))))) (.seq (.ops [⟨(some 4), (.mov (.const (.int .i64 (-1)))), none, []⟩]) .ret))) [(.tmp 4)])
def g185 : AFunc := (.code 19 (.seq (.ops [⟨(some 4), (.mov (.const (.int .i64 0))), none, []⟩]) (.seq (.seq (.ops [⟨(some 6), (.mov (.tmp 0)), none, []⟩, ⟨(some 7), (.lenSl (.tmp 6)), none, []⟩, ⟨(some 8), (.mov (.const (.int .i64 0))), none, []⟩]) (.block 0 (.loop (.seq (.ops [⟨(some 9), (.bin .lss (.tmp 8) (.tmp 7)), none, []⟩]) (.seq (.cond (.tmp 9) .skip (.exit 0)) (.seq (.block 1 (.seq (.ops [⟨(some 10), (.mov (.tmp 8)), none, []⟩, ⟨(some 5), (.mov (.tmp 10)), none, []⟩]) (.seq (.ops [⟨(some 11), (.mov (.tmp 1)), none, []⟩, ⟨(some 12), (.mov (.tmp 0)), none, []⟩, ⟨(some 13), (.mov (.tmp 5)), none, []⟩, ⟨(some 14), (.iAddrSl 3 (.tmp 12) (.tmp 13)), none, []⟩, ⟨(some 15), (.loadN 3 (.tmp 14)), none, []⟩, ⟨(some 16), (.callv (.tmp 11) [(.tmp 15)]), none, []⟩]) (.cond (.tmp 16) (.seq (.ops [⟨(some 17), (.mov (.tmp 5)), none, []⟩, ⟨(some 4), (.mov (.tmp 17)), none, []⟩]) .ret) .skip)))) (.ops [⟨(some 18), (.bin .add (.tmp 8) (.const (.int .i64 1))), none, []⟩, ⟨(some 8), (.mov (.tmp 18)), none, []⟩]))))))) (.seq (.ops [⟨(some 4), (.mov (.const (.int .i64 (-1)))), none, []⟩]) .ret))) [(.tmp 4)])
def g186 : AFunc := (.code 19 (.seq (.ops [⟨(some 4), (.mov (.const (.int .i64 0))), none, []⟩]) (.seq (.seq (.ops [⟨(some 6), (.mov (.tmp 0)), none, []⟩, ⟨(some 7), (.lenSl (.tmp 6)), none, []⟩, ⟨(some 8), (.mov (.const (.int .i64 0))), none, []⟩]) (.block 0 (.loop (.seq (.ops [⟨(some 9), (.bin .lss (.tmp 8) (.tmp 7)), none, []⟩]) (.seq (.cond (.tmp 9) .skip (.exit 0)) (.seq (.block 1 (.seq (.ops [⟨(some 10), (.mov (.tmp 8)), none, []⟩, ⟨(some 5), (.mov (.tmp 10)), none, []⟩]) (.seq (.ops [⟨(some 11), (.mov (.tmp 1)), none, []⟩, ⟨(some 12), (.mov (.tmp 0)), none, []⟩, ⟨(some 13), (.mov (.tmp 5)), none, []⟩, ⟨(some 14), (.iAddrSl 7 (.tmp 12) (.tmp 13)), none, []⟩, ⟨(some 15), (.loadN 7 (.tmp 14)), none, []⟩, ⟨(some 16), (.callv (.tmp 11) [(.tmp 15)]), none, []⟩]) (.cond (.tmp 16) (.seq (.ops [⟨(some 17), (.mov (.tmp 5)), none, []⟩, ⟨(some 4), (.mov (.tmp 17)), none, []⟩]) .ret) .skip)))) (.ops [⟨(some 18), (.bin .add (.tmp 8) (.const (.int .i64 1))), none, []⟩, ⟨(some 8), (.mov (.tmp 18)), none, []⟩]))))))) (.seq (.ops [⟨(some 4), (.mov (.const (.int .i64 (-1)))), none, []⟩]) .ret))) [(.tmp 4)])
def g187 : AFunc := (.code 8 (.seq (.ops [⟨(some 2), (.mov (.const (.slice none 0 0))), none, []⟩]) (.seq (.ops [⟨(some 3), (.mov (.const (.slice none 0 0))), none, []⟩]) (.seq (.ops [⟨(some 4), (.mov (.tmp 3)), none, []⟩, ⟨(some 5), (.mov (.tmp 0)), none, []⟩, ⟨(some 6), (.append 2 16 (.tmp 4) (.tmp 5)), none, []⟩, ⟨(some 3), (.mov (.tmp 6)), none, []⟩]) (.seq (.ops [⟨(some 7), (.mov (.tmp 3)), none, []⟩, ⟨(some 2), (.mov (.tmp 7)), none, []⟩]) .ret)))) [(.tmp 2)])
def g188 : AFunc := (.code 8 (.seq (.ops [⟨(some 4), (.mov (.const (.int .i64 0))), none, []⟩]) (.seq (.ops [⟨(some 5), (.mov (.tmp 0)), none, []⟩, ⟨(some 6), (.mov (.tmp 1)), none, []⟩, ⟨(some 7), (.callv (.func 195) [(.tmp 5), (.tmp 6)]), none, []⟩, ⟨(some 4), (.mov (.tmp 7)), none, []⟩]) .ret)) [(.tmp 4)])
def g189 : AFunc := (.code 8 (.seq (.ops [⟨(some 2), (.box (.tmp 0)), none, []⟩, ⟨(some 3), (.mov (.const (.bool false))), none, []⟩]) (.seq (.ops [⟨(some 4), (.fAddr 0 (.tmp 2)), none, []⟩, ⟨(some 5), (.load1 (.tmp 4)), none, []⟩, ⟨(some 6), (.load1 (.tmp 1)), none, []⟩, ⟨(some 7), (.bin .eql (.tmp 5) (.tmp 6)), none, []⟩, ⟨(some 3), (.mov (.tmp 7)), none, []⟩]) .ret)) [(.tmp 3)])
def g190 : AFunc := (.code 8 (.seq (.ops [⟨(some 3), (.mov (.const (.bool false))), none, []⟩]) (.seq (.ops [⟨(some 4), (.fAddr 2 (.tmp 1)), none, []⟩, ⟨(some 5), (.loadN 2 (.tmp 4)), none, []⟩, ⟨(some 6), (.mov (.tmp 0)), none, []⟩, ⟨(some 7), (.callv (.func 128) [(.tmp 5), (.tmp 6)]), none, []⟩, ⟨(some 3), (.mov (.tmp 7)), none, []⟩]) .ret)) [(.tmp 3)])
def g191 : AFunc := (.code 8 (.seq (.ops [⟨(some 3), (.mov (.const (.bool false))), none, []⟩]) (.seq (.ops [⟨(some 4), (.fAddr 1 (.tmp 1)), none, []⟩, ⟨(some 5), (.load1 (.tmp 4)), none, []⟩, ⟨(some 6), (.mov (.tmp 0)), none, []⟩, ⟨(some 7), (.bin .eql (.tmp 5) (.tmp 6)), none, []⟩, ⟨(some 3), (.mov (.tmp 7)), none, []⟩]) .ret)) [(.tmp 3)])
def g195 : AFunc := (.code 19 (.seq (.ops [⟨(some 4), (.mov (.const (.int .i64 0))), none, []⟩]) (.seq (.seq (.ops [⟨(some 6), (.mov (.tmp 0)), none, []⟩, ⟨(some 7), (.lenSl (.tmp 6)), none, []⟩, ⟨(some 8), (.mov (.const (.int .i64 0))), none, []⟩]) (.block 0 (.loop (.seq (.ops [⟨(some 9), (.bin .lss (.tmp 8) (.tmp 7)), none, []⟩]) (.seq (.cond (.tmp 9) .skip (.exit 0)) (.seq (.block 1 (.seq (.ops [⟨(some 10), (.mov (.tmp 8)), none, []⟩, ⟨(some 5), (.mov (.tmp 10)), none, []⟩]) (.seq (.ops [⟨(some 11), (.mov (.tmp 1)), none, []⟩, ⟨(some 12), (.mov (.tmp 0)), none, []⟩, ⟨(some 13), (.mov (.tmp 5)), none, []⟩, ⟨(some 14), (.iAddrSl 2 (.tmp 12) (.tmp 13)), none, []⟩, ⟨(some 15), (.loadN 2 (.tmp 14)), none, []⟩, ⟨(some 16), (.callv (.tmp 11) [(.tmp 15)]), none, []⟩]) (.cond (.tmp 16) (.seq (.ops [⟨(some 17), (.mov (.tmp 5)), none, []⟩, ⟨(some 4), (.mov (.tmp 17)), none, []⟩]) .ret) .skip)))) (.ops [⟨(some 18), (.bin .add (.tmp 8) (.const (.int .i64 1))), none, []⟩, ⟨(some 8), (.mov (.tmp 18)), none, []⟩]))))))) (.seq (.ops [⟨(some 4), (.mov (.const (.int .i64 (-1)))), none, []⟩]) .ret))) [(.tmp 4)])
end Go.Proofs.YtpllhhaeclnngaaGreat.Ev

/- The table of the evaluator's functions; each is what the program's own function is laid as. Conditions: none. -/
namespace Go.Proofs.YtpllhhaeclnngaaGreat.Ev
set_option maxRecDepth 100000
noncomputable def T : Pg := ⟨Tryz.prog, Tryz.prog.globals.size⟩
theorem follows : T.P.follows .mixedOrders = true := by kernel_rfl
theorem t4 : Laid T 4 g4 := ⟨Tryz.f4, Tryz.func4, by kernel_rfl⟩
theorem t9 : Laid T 9 g9 := ⟨Tryz.f9, Tryz.func9, by kernel_rfl⟩
theorem t10 : Laid T 10 g10 := ⟨Tryz.f10, Tryz.func10, by kernel_rfl⟩
theorem t12 : Laid T 12 g12 := ⟨Tryz.f12, Tryz.func12, by kernel_rfl⟩
theorem t13 : Laid T 13 g13 := ⟨Tryz.f13, Tryz.func13, by kernel_rfl⟩
theorem t14 : Laid T 14 g14 := ⟨Tryz.f14, Tryz.func14, by kernel_rfl⟩
theorem t15 : Laid T 15 g15 := ⟨Tryz.f15, Tryz.func15, by kernel_rfl⟩
theorem t19 : Laid T 19 g19 := ⟨Tryz.f19, Tryz.func19, by kernel_rfl⟩
theorem t20 : Laid T 20 g20 := ⟨Tryz.f20, Tryz.func20, by kernel_rfl⟩
theorem t22 : Laid T 22 g22 := ⟨Tryz.f22, Tryz.func22, by kernel_rfl⟩
theorem t27 : Laid T 27 g27 := ⟨Tryz.f27, Tryz.func27, by kernel_rfl⟩
theorem t28 : Laid T 28 g28 := ⟨Tryz.f28, Tryz.func28, by kernel_rfl⟩
theorem t38 : Laid T 38 g38 := ⟨Tryz.f38, Tryz.func38, by kernel_rfl⟩
theorem t39 : Laid T 39 g39 := ⟨Tryz.f39, Tryz.func39, by kernel_rfl⟩
theorem t40 : Laid T 40 g40 := ⟨Tryz.f40, Tryz.func40, by kernel_rfl⟩
theorem t41 : Laid T 41 g41 := ⟨Tryz.f41, Tryz.func41, by kernel_rfl⟩
theorem t42 : Laid T 42 g42 := ⟨Tryz.f42, Tryz.func42, by kernel_rfl⟩
theorem t48 : Laid T 48 g48 := ⟨Tryz.f48, Tryz.func48, by kernel_rfl⟩
theorem t49 : Laid T 49 g49 := ⟨Tryz.f49, Tryz.func49, by kernel_rfl⟩
theorem t50 : Laid T 50 g50 := ⟨Tryz.f50, Tryz.func50, by kernel_rfl⟩
theorem t51 : Laid T 51 g51 := ⟨Tryz.f51, Tryz.func51, by kernel_rfl⟩
theorem t52 : Laid T 52 g52 := ⟨Tryz.f52, Tryz.func52, by kernel_rfl⟩
theorem t53 : Laid T 53 g53 := ⟨Tryz.f53, Tryz.func53, by kernel_rfl⟩
theorem t54 : Laid T 54 g54 := ⟨Tryz.f54, Tryz.func54, by kernel_rfl⟩
theorem t55 : Laid T 55 g55 := ⟨Tryz.f55, Tryz.func55, by kernel_rfl⟩
theorem t56 : Laid T 56 g56 := ⟨Tryz.f56, Tryz.func56, by kernel_rfl⟩
theorem t57 : Laid T 57 g57 := ⟨Tryz.f57, Tryz.func57, by kernel_rfl⟩
theorem t58 : Laid T 58 g58 := ⟨Tryz.f58, Tryz.func58, by kernel_rfl⟩
theorem t59 : Laid T 59 g59 := ⟨Tryz.f59, Tryz.func59, by kernel_rfl⟩
theorem t60 : Laid T 60 g60 := ⟨Tryz.f60, Tryz.func60, by kernel_rfl⟩
theorem t61 : Laid T 61 g61 := ⟨Tryz.f61, Tryz.func61, by kernel_rfl⟩
theorem t68 : Laid T 68 g68 := ⟨Tryz.f68, Tryz.func68, by kernel_rfl⟩
theorem t69 : Laid T 69 g69 := ⟨Tryz.f69, Tryz.func69, by kernel_rfl⟩
theorem t70 : Laid T 70 g70 := ⟨Tryz.f70, Tryz.func70, by kernel_rfl⟩
theorem t71 : Laid T 71 g71 := ⟨Tryz.f71, Tryz.func71, by kernel_rfl⟩
theorem t72 : Laid T 72 g72 := ⟨Tryz.f72, Tryz.func72, by kernel_rfl⟩
theorem t73 : Laid T 73 g73 := ⟨Tryz.f73, Tryz.func73, by kernel_rfl⟩
theorem t74 : Laid T 74 g74 := ⟨Tryz.f74, Tryz.func74, by kernel_rfl⟩
theorem t75 : Laid T 75 g75 := ⟨Tryz.f75, Tryz.func75, by kernel_rfl⟩
theorem t76 : Laid T 76 g76 := ⟨Tryz.f76, Tryz.func76, by kernel_rfl⟩
theorem t77 : Laid T 77 g77 := ⟨Tryz.f77, Tryz.func77, by kernel_rfl⟩
theorem t78 : Laid T 78 g78 := ⟨Tryz.f78, Tryz.func78, by kernel_rfl⟩
theorem t79 : Laid T 79 g79 := ⟨Tryz.f79, Tryz.func79, by kernel_rfl⟩
theorem t80 : Laid T 80 g80 := ⟨Tryz.f80, Tryz.func80, by kernel_rfl⟩
theorem t81 : Laid T 81 g81 := ⟨Tryz.f81, Tryz.func81, by kernel_rfl⟩
theorem t82 : Laid T 82 g82 := ⟨Tryz.f82, Tryz.func82, by kernel_rfl⟩
theorem t83 : Laid T 83 g83 := ⟨Tryz.f83, Tryz.func83, by kernel_rfl⟩
theorem t84 : Laid T 84 g84 := ⟨Tryz.f84, Tryz.func84, by kernel_rfl⟩
theorem t85 : Laid T 85 g85 := ⟨Tryz.f85, Tryz.func85, by kernel_rfl⟩
theorem t86 : Laid T 86 g86 := ⟨Tryz.f86, Tryz.func86, by kernel_rfl⟩
theorem t87 : Laid T 87 g87 := ⟨Tryz.f87, Tryz.func87, by kernel_rfl⟩
theorem t88 : Laid T 88 g88 := ⟨Tryz.f88, Tryz.func88, by kernel_rfl⟩
theorem t89 : Laid T 89 g89 := ⟨Tryz.f89, Tryz.func89, by kernel_rfl⟩
theorem t90 : Laid T 90 g90 := ⟨Tryz.f90, Tryz.func90, by kernel_rfl⟩
theorem t91 : Laid T 91 g91 := ⟨Tryz.f91, Tryz.func91, by kernel_rfl⟩
theorem t92 : Laid T 92 g92 := ⟨Tryz.f92, Tryz.func92, by kernel_rfl⟩
theorem t93 : Laid T 93 g93 := ⟨Tryz.f93, Tryz.func93, by kernel_rfl⟩
theorem t94 : Laid T 94 g94 := ⟨Tryz.f94, Tryz.func94, by kernel_rfl⟩
theorem t99 : Laid T 99 g99 := ⟨Tryz.f99, Tryz.func99, by kernel_rfl⟩
theorem t100 : Laid T 100 g100 := ⟨Tryz.f100, Tryz.func100, by kernel_rfl⟩
theorem t101 : Laid T 101 g101 := ⟨Tryz.f101, Tryz.func101, by kernel_rfl⟩
theorem t103 : Laid T 103 g103 := ⟨Tryz.f103, Tryz.func103, by kernel_rfl⟩
theorem t105 : Laid T 105 g105 := ⟨Tryz.f105, Tryz.func105, by kernel_rfl⟩
theorem t106 : Laid T 106 g106 := ⟨Tryz.f106, Tryz.func106, by kernel_rfl⟩
theorem t107 : Laid T 107 g107 := ⟨Tryz.f107, Tryz.func107, by kernel_rfl⟩
theorem t111 : Laid T 111 g111 := ⟨Tryz.f111, Tryz.func111, by kernel_rfl⟩
theorem t112 : Laid T 112 g112 := ⟨Tryz.f112, Tryz.func112, by kernel_rfl⟩
theorem t113 : Laid T 113 g113 := ⟨Tryz.f113, Tryz.func113, by kernel_rfl⟩
theorem t119 : Laid T 119 g119 := ⟨Tryz.f119, Tryz.func119, by kernel_rfl⟩
theorem t122 : Laid T 122 g122 := ⟨Tryz.f122, Tryz.func122, by kernel_rfl⟩
theorem t125 : Laid T 125 g125 := ⟨Tryz.f125, Tryz.func125, by kernel_rfl⟩
theorem t126 : Laid T 126 g126 := ⟨Tryz.f126, Tryz.func126, by kernel_rfl⟩
theorem t127 : Laid T 127 g127 := ⟨Tryz.f127, Tryz.func127, by kernel_rfl⟩
theorem t128 : Laid T 128 g128 := ⟨Tryz.f128, Tryz.func128, by kernel_rfl⟩
theorem t129 : Laid T 129 g129 := ⟨Tryz.f129, Tryz.func129, by kernel_rfl⟩
theorem t130 : Laid T 130 g130 := ⟨Tryz.f130, Tryz.func130, by kernel_rfl⟩
theorem t131 : Laid T 131 g131 := ⟨Tryz.f131, Tryz.func131, by kernel_rfl⟩
theorem t132 : Laid T 132 g132 := ⟨Tryz.f132, Tryz.func132, by kernel_rfl⟩
theorem t142 : Laid T 142 g142 := ⟨Tryz.f142, Tryz.func142, by kernel_rfl⟩
theorem t143 : Laid T 143 g143 := ⟨Tryz.f143, Tryz.func143, by kernel_rfl⟩
theorem t144 : Laid T 144 g144 := ⟨Tryz.f144, Tryz.func144, by kernel_rfl⟩
theorem t145 : Laid T 145 g145 := ⟨Tryz.f145, Tryz.func145, by kernel_rfl⟩
theorem t146 : Laid T 146 g146 := ⟨Tryz.f146, Tryz.func146, by kernel_rfl⟩
theorem t147 : Laid T 147 g147 := ⟨Tryz.f147, Tryz.func147, by kernel_rfl⟩
theorem t148 : Laid T 148 g148 := ⟨Tryz.f148, Tryz.func148, by kernel_rfl⟩
theorem t149 : Laid T 149 g149 := ⟨Tryz.f149, Tryz.func149, by kernel_rfl⟩
theorem t150 : Laid T 150 g150 := ⟨Tryz.f150, Tryz.func150, by kernel_rfl⟩
theorem t151 : Laid T 151 g151 := ⟨Tryz.f151, Tryz.func151, by kernel_rfl⟩
theorem t152 : Laid T 152 g152 := ⟨Tryz.f152, Tryz.func152, by kernel_rfl⟩
theorem t153 : Laid T 153 g153 := ⟨Tryz.f153, Tryz.func153, by kernel_rfl⟩
theorem t154 : Laid T 154 g154 := ⟨Tryz.f154, Tryz.func154, by kernel_rfl⟩
theorem t157 : Laid T 157 g157 := ⟨Tryz.f157, Tryz.func157, by kernel_rfl⟩
theorem t158 : Laid T 158 g158 := ⟨Tryz.f158, Tryz.func158, by kernel_rfl⟩
theorem t159 : Laid T 159 g159 := ⟨Tryz.f159, Tryz.func159, by kernel_rfl⟩
theorem t160 : Laid T 160 g160 := ⟨Tryz.f160, Tryz.func160, by kernel_rfl⟩
theorem t161 : Laid T 161 g161 := ⟨Tryz.f161, Tryz.func161, by kernel_rfl⟩
theorem t162 : Laid T 162 g162 := ⟨Tryz.f162, Tryz.func162, by kernel_rfl⟩
theorem t163 : Laid T 163 g163 := ⟨Tryz.f163, Tryz.func163, by kernel_rfl⟩
theorem t164 : Laid T 164 g164 := ⟨Tryz.f164, Tryz.func164, by kernel_rfl⟩
theorem t167 : Laid T 167 g167 := ⟨Tryz.f167, Tryz.func167, by kernel_rfl⟩
theorem t168 : Laid T 168 g168 := ⟨Tryz.f168, Tryz.func168, by kernel_rfl⟩
theorem t169 : Laid T 169 g169 := ⟨Tryz.f169, Tryz.func169, by kernel_rfl⟩
theorem t184 : Laid T 184 g184 := ⟨Tryz.f184, Tryz.func184, by kernel_rfl⟩
theorem t185 : Laid T 185 g185 := ⟨Tryz.f185, Tryz.func185, by kernel_rfl⟩
theorem t186 : Laid T 186 g186 := ⟨Tryz.f186, Tryz.func186, by kernel_rfl⟩
theorem t187 : Laid T 187 g187 := ⟨Tryz.f187, Tryz.func187, by kernel_rfl⟩
theorem t188 : Laid T 188 g188 := ⟨Tryz.f188, Tryz.func188, by kernel_rfl⟩
theorem t189 : Laid T 189 g189 := ⟨Tryz.f189, Tryz.func189, by kernel_rfl⟩
theorem t190 : Laid T 190 g190 := ⟨Tryz.f190, Tryz.func190, by kernel_rfl⟩
theorem t191 : Laid T 191 g191 := ⟨Tryz.f191, Tryz.func191, by kernel_rfl⟩
theorem t195 : Laid T 195 g195 := ⟨Tryz.f195, Tryz.func195, by kernel_rfl⟩
def Tab0p : Table := fun f =>
  match f with
  | 4 => some g4
  | 9 => some g9
  | 10 => some g10
  | 12 => some g12
  | 13 => some g13
  | 14 => some g14
  | 15 => some g15
  | 19 => some g19
  | 20 => some g20
  | 22 => some g22
  | 27 => some g27
  | 28 => some g28
  | 38 => some g38
  | 39 => some g39
  | 40 => some g40
  | 41 => some g41
  | 42 => some g42
  | 48 => some g48
  | 49 => some g49
  | 50 => some g50
  | 51 => some g51
  | _ => none
theorem table_ok0 : TableOK T.P T.G Tab0p := by
  intro f af h
  unfold Tab0p at h
  split at h
  · cases h; exact t4
  · cases h; exact t9
  · cases h; exact t10
  · cases h; exact t12
  · cases h; exact t13
  · cases h; exact t14
  · cases h; exact t15
  · cases h; exact t19
  · cases h; exact t20
  · cases h; exact t22
  · cases h; exact t27
  · cases h; exact t28
  · cases h; exact t38
  · cases h; exact t39
  · cases h; exact t40
  · cases h; exact t41
  · cases h; exact t42
  · cases h; exact t48
  · cases h; exact t49
  · cases h; exact t50
  · cases h; exact t51
  · cases h
def Tab1p : Table := fun f =>
  match f with
  | 52 => some g52
  | 53 => some g53
  | 54 => some g54
  | 55 => some g55
  | 56 => some g56
  | 57 => some g57
  | 58 => some g58
  | 59 => some g59
  | 60 => some g60
  | 61 => some g61
  | 68 => some g68
  | 69 => some g69
  | 70 => some g70
  | 71 => some g71
  | 72 => some g72
  | 73 => some g73
  | 74 => some g74
  | 75 => some g75
  | 76 => some g76
  | 77 => some g77
  | 78 => some g78
  | 79 => some g79
  | 80 => some g80
  | 81 => some g81
  | 82 => some g82
  | 83 => some g83
  | 84 => some g84
  | 85 => some g85
  | 86 => some g86
  | 87 => some g87
  | 88 => some g88
  | 89 => some g89
  | 90 => some g90
  | 91 => some g91
  | 92 => some g92
  | 93 => some g93
  | 94 => some g94
  | 99 => some g99
  | _ => none
theorem table_ok1 : TableOK T.P T.G Tab1p := by
  intro f af h
  unfold Tab1p at h
  split at h
  · cases h; exact t52
  · cases h; exact t53
  · cases h; exact t54
  · cases h; exact t55
  · cases h; exact t56
  · cases h; exact t57
  · cases h; exact t58
  · cases h; exact t59
  · cases h; exact t60
  · cases h; exact t61
  · cases h; exact t68
  · cases h; exact t69
  · cases h; exact t70
  · cases h; exact t71
  · cases h; exact t72
  · cases h; exact t73
  · cases h; exact t74
  · cases h; exact t75
  · cases h; exact t76
  · cases h; exact t77
  · cases h; exact t78
  · cases h; exact t79
  · cases h; exact t80
  · cases h; exact t81
  · cases h; exact t82
  · cases h; exact t83
  · cases h; exact t84
  · cases h; exact t85
  · cases h; exact t86
  · cases h; exact t87
  · cases h; exact t88
  · cases h; exact t89
  · cases h; exact t90
  · cases h; exact t91
  · cases h; exact t92
  · cases h; exact t93
  · cases h; exact t94
  · cases h; exact t99
  · cases h
def Tab2p : Table := fun f =>
  match f with
  | 100 => some g100
  | 101 => some g101
  | 103 => some g103
  | 105 => some g105
  | 106 => some g106
  | 107 => some g107
  | 111 => some g111
  | 112 => some g112
  | 113 => some g113
  | 119 => some g119
  | 122 => some g122
  | 125 => some g125
  | 126 => some g126
  | 127 => some g127
  | 128 => some g128
  | 129 => some g129
  | 130 => some g130
  | 131 => some g131
  | 132 => some g132
  | 142 => some g142
  | 143 => some g143
  | 144 => some g144
  | 145 => some g145
  | 146 => some g146
  | 147 => some g147
  | _ => none
theorem table_ok2 : TableOK T.P T.G Tab2p := by
  intro f af h
  unfold Tab2p at h
  split at h
  · cases h; exact t100
  · cases h; exact t101
  · cases h; exact t103
  · cases h; exact t105
  · cases h; exact t106
  · cases h; exact t107
  · cases h; exact t111
  · cases h; exact t112
  · cases h; exact t113
  · cases h; exact t119
  · cases h; exact t122
  · cases h; exact t125
  · cases h; exact t126
  · cases h; exact t127
  · cases h; exact t128
  · cases h; exact t129
  · cases h; exact t130
  · cases h; exact t131
  · cases h; exact t132
  · cases h; exact t142
  · cases h; exact t143
  · cases h; exact t144
  · cases h; exact t145
  · cases h; exact t146
  · cases h; exact t147
  · cases h
def Tab3p : Table := fun f =>
  match f with
  | 148 => some g148
  | 149 => some g149
  | 150 => some g150
  | 151 => some g151
  | 152 => some g152
  | 153 => some g153
  | 154 => some g154
  | 157 => some g157
  | 158 => some g158
  | 159 => some g159
  | 160 => some g160
  | 161 => some g161
  | 162 => some g162
  | 163 => some g163
  | 164 => some g164
  | 167 => some g167
  | 168 => some g168
  | 169 => some g169
  | 184 => some g184
  | 185 => some g185
  | 186 => some g186
  | 187 => some g187
  | 188 => some g188
  | 189 => some g189
  | 190 => some g190
  | 191 => some g191
  | 195 => some g195
  | _ => none
theorem table_ok3 : TableOK T.P T.G Tab3p := by
  intro f af h
  unfold Tab3p at h
  split at h
  · cases h; exact t148
  · cases h; exact t149
  · cases h; exact t150
  · cases h; exact t151
  · cases h; exact t152
  · cases h; exact t153
  · cases h; exact t154
  · cases h; exact t157
  · cases h; exact t158
  · cases h; exact t159
  · cases h; exact t160
  · cases h; exact t161
  · cases h; exact t162
  · cases h; exact t163
  · cases h; exact t164
  · cases h; exact t167
  · cases h; exact t168
  · cases h; exact t169
  · cases h; exact t184
  · cases h; exact t185
  · cases h; exact t186
  · cases h; exact t187
  · cases h; exact t188
  · cases h; exact t189
  · cases h; exact t190
  · cases h; exact t191
  · cases h; exact t195
  · cases h
def Tab : Table := fun f => if (Tab0p f).isSome then Tab0p f else if (Tab1p f).isSome then Tab1p f else if (Tab2p f).isSome then Tab2p f else if (Tab3p f).isSome then Tab3p f else match f with
  | _ => none
theorem table_ok : TableOK T.P T.G Tab := by
  intro f af h
  unfold Tab at h
  by_cases h0 : (Tab0p f).isSome = true
  · rw [if_pos h0] at h; exact table_ok0 f af h
  rw [if_neg h0] at h
  by_cases h1 : (Tab1p f).isSome = true
  · rw [if_pos h1] at h; exact table_ok1 f af h
  rw [if_neg h1] at h
  by_cases h2 : (Tab2p f).isSome = true
  · rw [if_pos h2] at h; exact table_ok2 f af h
  rw [if_neg h2] at h
  by_cases h3 : (Tab3p f).isSome = true
  · rw [if_pos h3] at h; exact table_ok3 f af h
  rw [if_neg h3] at h
  · cases h
end Go.Proofs.YtpllhhaeclnngaaGreat.Ev

/- A call that is evaluated over nothing. -/
namespace Go.Proofs.YtpllhhaeclnngaaGreat.Ev
set_option maxRecDepth 100000
set_option linter.unusedSimpArgs false
set_option linter.unusedVariables false
variable {R : FRes → Heap → Prop} {H : Heap}

def isTrue : Option (FRes × Heap) → Bool
  | some (.ret (.bool true), _) => true
  | _ => false
theorem of_isTrue {x : Option (FRes × Heap)} (h : isTrue x = true) : ∃ H1, x = some (.ret (.bool true), H1) := by
  unfold isTrue at h
  split at h
  · exact ⟨_, rfl⟩
  · cases h

def H0 : Heap := []
theorem globs : T.G ≤ H0.length := by
  have : T.G = 0 := by unfold T; kernel_rfl
  rw [this]
  exact Nat.le_refl _

/-- A call that is evaluated over nothing. -/
theorem WD.frameD {f : FuncId} {args : List Value} {H0 H : Heap} {v : Value} (hp : ∃ g, H = H0 ++ g) (hG : T.G ≤ H0.length) (hro : ∀ o ∈ H0, o = .dead)
    (hargs : ∀ a ∈ args, closedV a = true) (hv : Scoped T.G v) (h : WD T f args H0 (fun r _ => r = .ret v)) {R : FRes → Heap → Prop} (hR : R (.ret v) H) : WD T f args H R := by
  obtain ⟨g, rfl⟩ := hp
  intro ρ w args' hr ha
  have hr0 : Rel T.G ρ H0 w := by
    refine ⟨fun b o ho => ?_, fun b c o u hb hc hne hw hl => ?_, hr.glob, hG⟩
    · obtain rfl := hro o (List.mem_of_getElem? ho)
      exact trivial
    · obtain rfl := hro o (List.mem_of_getElem? hb)
      cases hw
  have ha0 : VL H0.length ρ args args'.toList := ⟨ha.1, fun i x y hx hy => (ha.2 i x y hx hy).narrow (.closed (hargs x (List.mem_of_getElem? hx)))⟩
  have nofoot : ∀ c, ¬ Foot ρ H0 c := by
    rintro c ⟨b, o, hb, hw, _⟩
    obtain rfl := hro o (List.mem_of_getElem? hb)
    cases hw
  have hkk : ∀ en w1, (∃ r H1, r = .ret v ∧ RetOK T.G ρ H0 w r H1 en w1) → ∃ r H1, R r H1 ∧ RetOK T.G ρ (H0 ++ g) w r H1 en w1 := by
    rintro en w1 ⟨r, H1, rfl, ρ1, hs, v', rfl, hvr⟩
    have hold : ∀ c, c < w.heap.size → w1.heap[c]? = w.heap[c]? := fun c hc => hs.frame c hc (nofoot c)
    refine ⟨_, _, hR, ρ, ⟨⟨fun b o ho => ?_, hr.inj, hr.glob, hr.many⟩, Nat.le_refl _, fun _ _ => rfl, hs.os, hs.tape, hs.output, hs.size, fun c hc _ => hold c hc, fun c hc => .inl hc, hs.loops, fun c u hu hl => .inl ⟨u, hu, hl⟩⟩, v', rfl, ?_⟩
    · exact (hr.obj b o ho).mono (Nat.le_refl _) rfl (fun _ _ => rfl) (fun hl => hold _ (lt_of_live (hr.obj b o ho) hl))
    · have h1 : VR T.G ρ1 v v' := hvr.narrow hv
      refine (h1.mono (Nat.le_refl _) fun b hb => ?_).mono (by have := hr.many; omega) fun _ _ => rfl
      exact (hr.glob b hb).trans (hs.rel.glob b hb).symm
  rcases h ρ w args' hr0 ha0 with ⟨v', h1, h2⟩ | ⟨h1, h2⟩
  · exact .inl ⟨v', h1, hkk _ _ h2⟩
  · exact .inr ⟨h1, h2.mono hkk⟩


end Go.Proofs.YtpllhhaeclnngaaGreat.Ev

/- A schema in memory. -/
namespace Go.Proofs.YtpllhhaeclnngaaGreat.Ev
set_option maxRecDepth 100000
set_option linter.unusedSimpArgs false
set_option linter.unusedVariables false
variable {R : FRes → Heap → Prop} {H : Heap}

/-! ### Lists that nobody writes -/

def RoSl (H : Heap) (v : Value) (css : List (List Value)) : Prop :=
  (css = [] ∧ (v = .slice none 0 0 ∨ ∃ b o k, v = .slice (some ⟨b, o, some k⟩) 0 0)) ∨ (∃ b, v = .slice (some ⟨b, 0, none⟩) css.length css.length ∧ b < H.length ∧ ∃ (u : Nat) (wr : Bool), hget H b = .row css.flatten u wr)

/-- What stood stays. -/
def Base (H K : Heap) : Prop := H.length ≤ K.length ∧ ∀ c, c < H.length → hget K c = hget H c
theorem Base.refl : Base H H := ⟨Nat.le_refl _, fun _ _ => rfl⟩
theorem Base.trans {K L : Heap} (h : Base H K) (g : Base K L) : Base H L := ⟨Nat.le_trans h.1 g.1, fun c hc => (g.2 c (Nat.lt_of_lt_of_le hc h.1)).trans (h.2 c hc)⟩
theorem Base.app {K : Heap} (h : Base H K) (g : Heap) : Base H (K ++ g) := ⟨by have := h.1; simp; omega, fun c hc => (hget_old (Nat.lt_of_lt_of_le hc h.1)).trans (h.2 c hc)⟩
theorem Base.app0 (g : Heap) : Base H (H ++ g) := Base.refl.app g
theorem Base.set {K : Heap} (h : Base H K) {b : Nat} {o : AObj} (hb : H.length ≤ b) : Base H (K.set b o) := ⟨by have := h.1; simp; omega, fun c hc => by rw [hget_ne (by omega)]; exact h.2 c hc⟩
theorem Base.ext {K : Heap} (h : Base H K) : ∃ g, K = H ++ g := by
  obtain ⟨h1, h2⟩ := h
  refine ⟨K.drop H.length, List.ext_getElem? fun j => ?_⟩
  by_cases hj : j < H.length
  · rw [List.getElem?_append_left hj]
    have := h2 j hj
    simp only [hget, List.getElem?_eq_getElem hj, List.getElem?_eq_getElem (Nat.lt_of_lt_of_le hj h1)] at this ⊢
    simpa using this
  · rw [List.getElem?_append_right (by omega), List.getElem?_drop, Nat.add_sub_cancel' (by omega)]

theorem RoSl.base {K : Heap} {v : Value} {css : List (List Value)} (h : RoSl H v css) (hb : Base H K) : RoSl K v css := by
  rcases h with h | ⟨b, h2, h3, u, wr, h4⟩
  · exact .inl h
  · exact .inr ⟨b, h2, Nat.lt_of_lt_of_le h3 hb.1, u, wr, by rw [hb.2 b h3]; exact h4⟩
theorem RoSl.sl {v : Value} {css : List (List Value)} (h : RoSl H v css) : ∃ ad, v = .slice ad css.length css.length := by
  rcases h with ⟨rfl, rfl | ⟨b, o, k, rfl⟩⟩ | ⟨b, rfl, _⟩
  · exact ⟨_, rfl⟩
  · exact ⟨_, rfl⟩
  · exact ⟨_, rfl⟩
theorem RoSl.one {v : Value} {css : List (List Value)} (h : RoSl H v css) : oneCell v = true := by
  obtain ⟨ad, rfl⟩ := h.sl
  rfl

theorem flat_len_u {u : Nat} : ∀ {css : List (List Value)}, (∀ cs ∈ css, cs.length = u) → css.flatten.length = css.length * u
  | [], _ => by simp
  | cs :: css, h => by
    rw [List.flatten_cons, List.length_append, h cs (by simp), flat_len_u fun q hq => h q (by simp [hq]), List.length_cons, Nat.succ_mul, Nat.add_comm]
theorem flat_cut {u : Nat} : ∀ {css : List (List Value)} (i : Nat), (∀ cs ∈ css, cs.length = u) → (hi : i < css.length) → ((css.flatten).drop (i * u)).take u = css[i]
  | [], i, _, hi => by simp at hi
  | cs :: css, 0, h, _ => by
    have := h cs (by simp)
    simp [List.take_append, this]
    try rw [← this, List.take_length]
  | cs :: css, i + 1, h, hi => by
    have h1 := h cs (by simp)
    rw [List.flatten_cons, List.drop_append, List.drop_eq_nil_of_le (by rw [h1, Nat.succ_mul]; omega), h1, Nat.succ_mul, Nat.add_sub_cancel, List.nil_append]
    simpa using flat_cut i (fun q hq => h q (by simp [hq])) (by simpa using hi)

/-- One element of such a list. -/
theorem RoSl.at {α : Type} {u : Nat} {n m : Nat} {ad : Option Addr} {f : α → List Value} {l : List α} (h : RoSl H (.slice ad n m) (l.map f)) (hu : ∀ x, (f x).length = u) {i : Nat} (hi : i < l.length) :
    ∃ (b u0 : Nat) (w0 : Bool), ad = some ⟨b, 0, none⟩ ∧ b < H.length ∧ hget H b = .row (l.map f).flatten u0 w0 ∧ (((l.map f).flatten).drop (i * u)).take u = f l[i] ∧ i * u + u ≤ ((l.map f).flatten).length ∧ ∀ j, j < u → ((l.map f).flatten)[i * u + j]? = (f l[i])[j]? := by
  have hu2 : ∀ cs ∈ l.map f, cs.length = u := fun cs hc => by obtain ⟨x, _, rfl⟩ := List.mem_map.1 hc; exact hu x
  rcases h with ⟨h1, _⟩ | ⟨b, h2, h3, u0, w0, h4⟩
  · rw [List.map_eq_nil_iff] at h1; subst h1; simp at hi
  · injection h2 with e
    have hc := flat_cut (u := u) i hu2 (by simpa using hi)
    rw [List.getElem_map] at hc
    refine ⟨b, u0, w0, e, h3, h4, hc, ?_, fun j hj => ?_⟩
    · rw [flat_len_u hu2, List.length_map]
      have : (i + 1) * u ≤ l.length * u := Nat.mul_le_mul_right _ hi
      rw [Nat.succ_mul] at this
      exact this
    · have := congrArg (fun q : List Value => q[j]?) hc
      simp only [List.getElem?_take_of_lt hj, List.getElem?_drop] at this
      exact this

/-! ### The things of a schema, and their cells -/

structure Fld where (name : List UInt8) (width : Int)
structure Hdr where (name : List UInt8) (fv : Value) (fields : List Fld)
structure Rf where (head name : List UInt8)
structure Bt where (hi lo : Nat)
structure Cas where (value mask : Bt) (next : List UInt8)
structure Sta where (name header : List UInt8) (on : Rf) (cv : Value) (cases : List Cas) (next : List UInt8)
structure Opd where (ref : Rf) (const : Bt)
structure Stp where (kind : Int) (to : Rf) (op : Int) (a b : Opd)
structure Act where (name : List UInt8) (pv : Value) (params : List Fld) (sv : Value) (steps : List Stp)
structure Ky where (ref : Rf) (kind : Int)
structure Tbl where (name : List UInt8) (kv : Value) (keys : List Ky) (av : Value) (actions : List (List UInt8)) (size : Int) (dact : List UInt8) (dv : Value) (dargs : List Bt) (fixed : Bool)
structure Tst where (kind : Int) (a b : Opd)
inductive St where
  | mk (kind : Int) (table : List UInt8) (test : Tst) (va vb : Value) (thn els : List St)
structure Sch where (hv mv sv av tv cv : Value) (headers : List Hdr) (mets : List Fld) (states : List Sta) (actions : List Act) (tables : List Tbl) (control : List St)

instance : DecidableEq Fld := fun ⟨a0, a1⟩ ⟨b0, b1⟩ => if h : a0 = b0 ∧ a1 = b1 then Decidable.isTrue (by obtain ⟨rfl, rfl⟩ := h; rfl) else Decidable.isFalse fun e => h (by cases e; exact ⟨rfl, rfl⟩)
instance : DecidableEq Rf := fun ⟨a0, a1⟩ ⟨b0, b1⟩ => if h : a0 = b0 ∧ a1 = b1 then Decidable.isTrue (by obtain ⟨rfl, rfl⟩ := h; rfl) else Decidable.isFalse fun e => h (by cases e; exact ⟨rfl, rfl⟩)
instance : DecidableEq Bt := fun ⟨a0, a1⟩ ⟨b0, b1⟩ => if h : a0 = b0 ∧ a1 = b1 then Decidable.isTrue (by obtain ⟨rfl, rfl⟩ := h; rfl) else Decidable.isFalse fun e => h (by cases e; exact ⟨rfl, rfl⟩)
instance : DecidableEq Cas := fun ⟨a0, a1, a2⟩ ⟨b0, b1, b2⟩ => if h : a0 = b0 ∧ a1 = b1 ∧ a2 = b2 then Decidable.isTrue (by obtain ⟨rfl, rfl, rfl⟩ := h; rfl) else Decidable.isFalse fun e => h (by cases e; exact ⟨rfl, rfl, rfl⟩)
instance : DecidableEq Opd := fun ⟨a0, a1⟩ ⟨b0, b1⟩ => if h : a0 = b0 ∧ a1 = b1 then Decidable.isTrue (by obtain ⟨rfl, rfl⟩ := h; rfl) else Decidable.isFalse fun e => h (by cases e; exact ⟨rfl, rfl⟩)
instance : DecidableEq Stp := fun ⟨a0, a1, a2, a3, a4⟩ ⟨b0, b1, b2, b3, b4⟩ => if h : a0 = b0 ∧ a1 = b1 ∧ a2 = b2 ∧ a3 = b3 ∧ a4 = b4 then Decidable.isTrue (by obtain ⟨rfl, rfl, rfl, rfl, rfl⟩ := h; rfl) else Decidable.isFalse fun e => h (by cases e; exact ⟨rfl, rfl, rfl, rfl, rfl⟩)
instance : DecidableEq Ky := fun ⟨a0, a1⟩ ⟨b0, b1⟩ => if h : a0 = b0 ∧ a1 = b1 then Decidable.isTrue (by obtain ⟨rfl, rfl⟩ := h; rfl) else Decidable.isFalse fun e => h (by cases e; exact ⟨rfl, rfl⟩)
instance : DecidableEq Tst := fun ⟨a0, a1, a2⟩ ⟨b0, b1, b2⟩ => if h : a0 = b0 ∧ a1 = b1 ∧ a2 = b2 then Decidable.isTrue (by obtain ⟨rfl, rfl, rfl⟩ := h; rfl) else Decidable.isFalse fun e => h (by cases e; exact ⟨rfl, rfl, rfl⟩)

def txC (t : List UInt8) : List Value := [.string (bs t)]
def Fld.cells (x : Fld) : List Value := [.string (bs x.name), .int .i64 x.width]
def Hdr.cells (x : Hdr) : List Value := [.string (bs x.name), x.fv]
def Rf.cells (x : Rf) : List Value := [.string (bs x.head), .string (bs x.name)]
def Bt.cells (x : Bt) : List Value := [.int .u64 (x.hi : Int), .int .u64 (x.lo : Int)]
def Cas.cells (x : Cas) : List Value := [.int .u64 (x.value.hi : Int), .int .u64 (x.value.lo : Int), .int .u64 (x.mask.hi : Int), .int .u64 (x.mask.lo : Int), .string (bs x.next)]
def Sta.cells (x : Sta) : List Value := [.string (bs x.name), .string (bs x.header), .string (bs x.on.head), .string (bs x.on.name), x.cv, .string (bs x.next)]
def Opd.cells (x : Opd) : List Value := [.string (bs x.ref.head), .string (bs x.ref.name), .int .u64 (x.const.hi : Int), .int .u64 (x.const.lo : Int)]
def Stp.cells (x : Stp) : List Value := [.int .i64 x.kind, .string (bs x.to.head), .string (bs x.to.name), .int .i64 x.op, .string (bs x.a.ref.head), .string (bs x.a.ref.name), .int .u64 (x.a.const.hi : Int), .int .u64 (x.a.const.lo : Int), .string (bs x.b.ref.head), .string (bs x.b.ref.name), .int .u64 (x.b.const.hi : Int), .int .u64 (x.b.const.lo : Int)]
def Act.cells (x : Act) : List Value := [.string (bs x.name), x.pv, x.sv]
def Ky.cells (x : Ky) : List Value := [.string (bs x.ref.head), .string (bs x.ref.name), .int .i64 x.kind]
def Tbl.cells (x : Tbl) : List Value := [.string (bs x.name), x.kv, x.av, .int .i64 x.size, .string (bs x.dact), x.dv, .bool x.fixed]
def Tst.cells (x : Tst) : List Value := [.int .i64 x.kind, .string (bs x.a.ref.head), .string (bs x.a.ref.name), .int .u64 (x.a.const.hi : Int), .int .u64 (x.a.const.lo : Int), .string (bs x.b.ref.head), .string (bs x.b.ref.name), .int .u64 (x.b.const.hi : Int), .int .u64 (x.b.const.lo : Int)]
def St.cells : St → List Value | .mk k t c va vb _ _ => [.int .i64 k, .string (bs t)] ++ c.cells ++ [va, vb]
def Sch.cells (x : Sch) : List Value := [x.hv, x.mv, x.sv, x.av, x.tv, x.cv]

/-! ### In memory, and of the size that numbers have -/

def I64 (n : Int) : Prop := -9223372036854775808 ≤ n ∧ n < 9223372036854775808
def U64 (n : Nat) : Prop := n < 18446744073709551616
/-- So many of so many bytes have room. -/
def few (b n : Nat) : Prop := n * b ≤ 140737488355328

def Fld.OK (x : Fld) : Prop := I64 x.width
def Bt.OK (x : Bt) : Prop := U64 x.hi ∧ U64 x.lo
def Opd.OK (x : Opd) : Prop := x.const.OK
def FldL (H : Heap) (v : Value) (l : List Fld) : Prop := RoSl H v (l.map Fld.cells) ∧ few 24 l.length ∧ ∀ x ∈ l, x.OK
def BtL (H : Heap) (v : Value) (l : List Bt) : Prop := RoSl H v (l.map Bt.cells) ∧ few 16 l.length ∧ ∀ x ∈ l, x.OK
def TxL (H : Heap) (v : Value) (l : List (List UInt8)) : Prop := RoSl H v (l.map txC) ∧ few 16 l.length
def Hdr.OK (H : Heap) (x : Hdr) : Prop := FldL H x.fv x.fields
def Cas.OK (x : Cas) : Prop := x.value.OK ∧ x.mask.OK
def Sta.OK (H : Heap) (x : Sta) : Prop := RoSl H x.cv (x.cases.map Cas.cells) ∧ few 48 x.cases.length ∧ ∀ y ∈ x.cases, y.OK
def Stp.OK (x : Stp) : Prop := I64 x.kind ∧ I64 x.op ∧ x.a.OK ∧ x.b.OK
def Act.OK (H : Heap) (x : Act) : Prop := FldL H x.pv x.params ∧ RoSl H x.sv (x.steps.map Stp.cells) ∧ few 144 x.steps.length ∧ ∀ y ∈ x.steps, y.OK
def Ky.OK (x : Ky) : Prop := I64 x.kind
def Tbl.OK (H : Heap) (x : Tbl) : Prop := (RoSl H x.kv (x.keys.map Ky.cells) ∧ few 40 x.keys.length ∧ ∀ y ∈ x.keys, y.OK) ∧ TxL H x.av x.actions ∧ I64 x.size ∧ BtL H x.dv x.dargs
mutual
def StOK (H : Heap) : St → Prop
  | .mk k t c va vb a b => (I64 k ∧ I64 c.kind ∧ c.a.OK ∧ c.b.OK) ∧ StSl H a va ∧ StSl H b vb
def StSl (H : Heap) : List St → Value → Prop
  | [], v => RoSl H v []
  | s :: l, v => (∃ (b : Nat), v = .slice (some ⟨b, 0, none⟩) (l.length + 1) (l.length + 1) ∧ b < H.length ∧ ∃ (u : Nat) (wr : Bool), hget H b = .row ((s :: l).map St.cells).flatten u wr) ∧ few 176 (l.length + 1) ∧ StOK H s ∧ StOKs H l
def StOKs (H : Heap) : List St → Prop
  | [] => True
  | s :: l => StOK H s ∧ StOKs H l
end
structure Sch.OK (H : Heap) (x : Sch) : Prop where
  hs : RoSl H x.hv (x.headers.map Hdr.cells) ∧ few 40 x.headers.length ∧ ∀ y ∈ x.headers, y.OK H
  ms : FldL H x.mv x.mets
  ss : RoSl H x.sv (x.states.map Sta.cells) ∧ few 104 x.states.length ∧ ∀ y ∈ x.states, y.OK H
  acs : RoSl H x.av (x.actions.map Act.cells) ∧ few 64 x.actions.length ∧ ∀ y ∈ x.actions, y.OK H
  ts : RoSl H x.tv (x.tables.map Tbl.cells) ∧ few 120 x.tables.length ∧ ∀ y ∈ x.tables, y.OK H
  cs : StSl H x.control x.cv

theorem Fld.len (x : Fld) : x.cells.length = 2 := rfl
theorem Hdr.len (x : Hdr) : x.cells.length = 2 := rfl
theorem Act.len (x : Act) : x.cells.length = 3 := rfl
theorem Tbl.len (x : Tbl) : x.cells.length = 7 := rfl
theorem Sta.len (x : Sta) : x.cells.length = 6 := rfl
theorem Cas.len (x : Cas) : x.cells.length = 5 := rfl
theorem Stp.len (x : Stp) : x.cells.length = 12 := rfl
theorem Ky.len (x : Ky) : x.cells.length = 3 := rfl
theorem Bt.len (x : Bt) : x.cells.length = 2 := rfl
theorem txC_len (t : List UInt8) : (txC t).length = 1 := rfl
theorem St.len (x : St) : x.cells.length = 13 := by cases x; rfl

theorem StSl.one {l : List St} {v : Value} (h : StSl H l v) : oneCell v = true := by
  cases l with
  | nil => simp only [StSl] at h; exact h.one
  | cons x l => simp only [StSl] at h; obtain ⟨⟨b, rfl, _⟩, _⟩ := h; rfl
theorem Sch.OK.one {s : Sch} (h : s.OK H) : oneCell s.hv = true ∧ oneCell s.mv = true ∧ oneCell s.sv = true ∧ oneCell s.av = true ∧ oneCell s.tv = true ∧ oneCell s.cv = true :=
  ⟨h.hs.1.one, h.ms.1.one, h.ss.1.one, h.acs.1.one, h.ts.1.one, h.cs.one⟩
theorem Hdr.OK.one {x : Hdr} (h : x.OK H) : oneCell x.fv = true := h.1.one
theorem Act.OK.one {x : Act} (h : x.OK H) : oneCell x.pv = true ∧ oneCell x.sv = true := ⟨h.1.1.one, h.2.1.one⟩
theorem Tbl.OK.one {x : Tbl} (h : x.OK H) : oneCell x.kv = true ∧ oneCell x.av = true ∧ oneCell x.dv = true := ⟨h.1.1.one, h.2.1.1.one, h.2.2.2.1.one⟩
theorem Sta.OK.one {x : Sta} (h : x.OK H) : oneCell x.cv = true := h.1.one

/-- At which place a text stands first; -1: it does not. -/
def ixT (t : List UInt8) : List (List UInt8) → Nat → Int
  | [], _ => -1
  | x :: l, i => if x = t then (i : Int) else ixT t l (i + 1)
theorem ixT_drop {t : List UInt8} {l : List (List UInt8)} {i : Nat} (hi : i < l.length) : ixT t (l.drop i) i = if l[i] = t then (i : Int) else ixT t (l.drop (i + 1)) (i + 1) := by
  rw [List.drop_eq_getElem_cons hi, ixT]
theorem ixT_end {t : List UInt8} {l : List (List UInt8)} {i : Nat} (hi : l.length ≤ i) : ixT t (l.drop i) i = -1 := by
  rw [List.drop_eq_nil_of_le hi, ixT]
theorem ixT_get : ∀ (t : List UInt8) (l : List (List UInt8)) (i : Nat), (ixT t l i = -1 ∧ ¬ t ∈ l) ∨ ∃ j, ∃ h : j < l.length, ixT t l i = ((i + j : Nat) : Int) ∧ l[j] = t
  | t, [], i => .inl ⟨rfl, by simp⟩
  | t, x :: l, i => by
    by_cases h : x = t
    · exact .inr ⟨0, by simp, by rw [ixT, if_pos h]; rfl, h⟩
    · rcases ixT_get t l (i + 1) with ⟨e, hn⟩ | ⟨j, hj, e, hg⟩
      · exact .inl ⟨by rw [ixT, if_neg h]; exact e, by simp [hn]; exact fun q => h q.symm⟩
      · exact .inr ⟨j + 1, by simpa using hj, by rw [ixT, if_neg h, e]; congr 1; omega, by simpa using hg⟩

end Go.Proofs.YtpllhhaeclnngaaGreat.Ev

/- Lists that are copied: slices.Clone, the document's appends onto nothing. Printed by gen_y10.py. -/
namespace Go.Proofs.YtpllhhaeclnngaaGreat.Ev
set_option maxRecDepth 100000
set_option linter.unusedSimpArgs false
set_option linter.unusedVariables false
variable {R : FRes → Heap → Prop} {H K : Heap}

theorem hget_frz_nin {c : Nat} : ∀ {bs : List Nat} {H : Heap}, c ∉ bs → hget (frz H bs) c = hget H c
  | [], H, _ => rfl
  | b :: bs, H, h => by
    simp only [List.mem_cons, not_or] at h
    rw [frz, hget_frz_nin h.2]
    simp only [frz1]
    split
    · rw [hget_ne (Ne.symm h.1)]
    · rfl
theorem Base.frz {bs : List Nat} (hb : Base H K) (h : ∀ b ∈ bs, H.length ≤ b) : Base H (Ev.frz K bs) :=
  ⟨by rw [frz_length]; exact hb.1, fun c hc => by rw [hget_frz_nin fun q => by have := h c q; omega]; exact hb.2 c hc⟩

theorem eqL_nn (H : Heap) (a b c d : Nat) : eqP H 1 (.slice none a b) (.slice none c d) = some true := rfl
theorem eqL_sn (H : Heap) (x : Addr) (a b c d : Nat) : eqP H 1 (.slice (some x) a b) (.slice none c d) = some false := rfl

theorem RoSl.src {u : Nat} {v : Value} {css : List (List Value)} (h : RoSl K v css) (hu : ∀ cs ∈ css, cs.length = u) : lenV v = some css.length ∧ srcCells K u css.length v = some css.flatten := by
  rcases h with ⟨rfl, rfl | ⟨b, o, k, rfl⟩⟩ | ⟨b, rfl, h3, u0, w0, h4⟩
  · exact ⟨rfl, rfl⟩
  · exact ⟨rfl, rfl⟩
  · refine ⟨rfl, ?_⟩
    have e := flat_len_u hu
    simp only [srcCells, h4]
    rw [if_pos (by omega), List.drop_zero, ← e, List.take_length]

def blk : Value → Option Nat
  | .slice (some ⟨b, _, none⟩) _ _ => some b
  | _ => none
theorem RoSl.same {v : Value} {css : List (List Value)} (h : RoSl H v css) (hs : ∀ c, blk v = some c → c < K.length ∧ hget K c = hget H c) : RoSl K v css := by
  rcases h with q | ⟨b, rfl, h1, u, w, h2⟩
  · exact .inl q
  · obtain ⟨e1, e2⟩ := hs b rfl
    exact .inr ⟨b, rfl, e1, u, w, e2.trans h2⟩
theorem RoSl.lt {v : Value} {css : List (List Value)} (h : RoSl H v css) {c : Nat} (hc : blk v = some c) : c < H.length := by
  rcases h with ⟨_, rfl | ⟨b, o, k, rfl⟩⟩ | ⟨b, rfl, h1, _⟩
  · cases hc
  · cases hc
  · cases hc; exact h1
/-- A list in a block that was not there. -/
def New (n : Nat) (v : Value) : Prop := ∀ c, blk v = some c → n ≤ c

/-- A list is put behind an empty one. -/
theorem app_new {u bys : Nat} {v : Value} {css : List (List Value)} (hr : RoSl K v css) (hu : ∀ cs ∈ css, cs.length = u) (hone : ∀ cs ∈ css, cs.all oneCell = true) (hroom : css.length * bys ≤ 140737488355328 ∧ css.length ≤ 140737488355328) :
    ∃ v' K', appendV (K ++ [.row [] u true]) u bys (.slice (some ⟨K.length, 0, none⟩) 0 0) v = .val v' K' ∧ Base K K' ∧ RoSl K' v' css ∧ New K.length v' := by
  obtain ⟨s1, s2⟩ := (hr.base (Base.app0 [.row [] u true])).src hu
  by_cases h0 : css = []
  · subst h0
    refine ⟨_, _, ?_, Base.app0 [.row [] u true], .inr ⟨K.length, rfl, by simp, u, true, by rw [hget_last]; rfl⟩, fun c hc => by cases hc; exact Nat.le_refl _⟩
    simp only [List.length_nil] at s1 s2
    simp only [appendV, s1, s2, if_true, List.length_nil]
  · have hp : 0 < css.length := List.length_pos_iff.2 h0
    have hf := flat_len_u hu
    have hall : css.flatten.all oneCell = true := List.all_eq_true.2 fun x hx => by
      obtain ⟨cs, h1, h2⟩ := List.mem_flatten.1 hx
      exact List.all_eq_true.1 (hone cs h1) x h2
    refine ⟨.slice (some ⟨K.length + 1, 0, none⟩) css.length css.length, (K ++ [AObj.row [] u true]).set K.length .dead ++ [.row css.flatten u true], ?_, ⟨by simp, fun c hc => ?_⟩, .inr ⟨K.length + 1, rfl, by simp, u, true, ?_⟩, fun c hc => by cases hc; omega⟩
    · simp only [appendV, s1, s2, hget_last, Nat.zero_add, Nat.zero_mul, List.length_nil]
      rw [if_neg (by omega), if_pos ⟨trivial, Nat.le_refl _, Nat.le_refl _, hf⟩, if_neg (by omega), if_pos ⟨by simp only [roomMax]; omega, by simp only [roomMax]; omega, hall⟩]
      simp
    · rw [hget_old (by simp; omega), hget_ne (by omega), hget_old hc]
    · have e : ((K ++ [AObj.row [] u true]).set K.length .dead).length = K.length + 1 := by simp
      rw [← e, hget_last]
theorem app_nil0 {u bys : Nat} {v : Value} {css : List (List Value)} (hr : RoSl K v css) (hu : ∀ cs ∈ css, cs.length = u) (hroom : css.length * bys ≤ 140737488355328 ∧ css.length ≤ 140737488355328) :
    ∃ v' K', appendV K u bys (.slice none 0 0) v = .val v' K' ∧ Base K K' ∧ RoSl K' v' css ∧ New K.length v' := by
  obtain ⟨s1, s2⟩ := hr.src hu
  by_cases h0 : css = []
  · subst h0
    refine ⟨.slice none 0 0, K, ?_, Base.refl, .inl ⟨rfl, .inl rfl⟩, fun c hc => by cases hc⟩
    simp only [List.length_nil] at s1 s2
    simp only [appendV, s1, s2, if_true, List.length_nil]
  · have hp : 0 < css.length := List.length_pos_iff.2 h0
    refine ⟨.slice (some ⟨K.length, 0, none⟩) css.length css.length, K ++ [.row css.flatten u true], ?_, Base.app0 _, .inr ⟨K.length, rfl, by simp, u, true, by rw [hget_last]⟩, fun c hc => by cases hc; exact Nat.le_refl _⟩
    simp only [appendV, s1, s2]
    rw [if_neg (by omega), if_pos ⟨by simp only [roomMax]; omega, by simp only [roomMax]; omega⟩]

theorem cloneF_s {v : Value} {l : List (Fld)} (hr0 : RoSl H v (l.map Fld.cells)) (hn : few 24 l.length) (hb : Base H K) (h : ∀ v' K', Base K K' → RoSl K' v' (l.map Fld.cells) → New K.length v' → R (.ret v') K') : WD T 72 [v] K R := by
  unfold few at hn
  have hr := hr0.base hb
  obtain ⟨ad, rfl⟩ := hr.sl
  refine WD.of follows t72 (by simp) ?_
  obtain ⟨v', K', e1, e2, e3, e4⟩ := app_new (u := 2) (bys := 24) hr (fun cs hc => by obtain ⟨x, _, rfl⟩ := List.mem_map.1 hc; exact Fld.len x) (fun cs hc => by obtain ⟨x, _, rfl⟩ := List.mem_map.1 hc; rfl) (by rw [List.length_map]; omega)
  match ad with
  | none =>
    have hh := h (.slice none 0 0) K Base.refl (by
      rcases hr with q | ⟨b, q2, _⟩
      · exact .inl ⟨q.1, .inl rfl⟩
      · cases q2) (fun c hc => by cases hc)
    simp (disch := omega) only [kB, kcx, kdm, kdn, kel, aop, resultsL, resultOf, Nat.reduceEqDiff, reduceCtorEq, eq1, apartOK, apart2, AObj.live, Int.reduceEq, Int.reduceLT, Int.reduceLE, Int.reduceAdd, Int.reduceSub, Int.reduceMul, Int.reduceToNat, cutCells, Nat.reduceAdd, Nat.reduceLeDiff, Nat.reduceLT, Nat.reduceMul, Nat.reduceSub, eqL_sn, eqL_nn]
    exact hh
  | some a =>
    have hh := h v' K' e2 e3 e4
    simp (disch := omega) only [kB, kcx, kdm, kdn, kel, aop, resultsL, resultOf, Nat.reduceEqDiff, reduceCtorEq, eq1, apartOK, apart2, AObj.live, Int.reduceEq, Int.reduceLT, Int.reduceLE, Int.reduceAdd, Int.reduceSub, Int.reduceMul, Int.reduceToNat, cutCells, Nat.reduceAdd, Nat.reduceLeDiff, Nat.reduceLT, Nat.reduceMul, Nat.reduceSub, eqL_sn, eqL_nn, e1]
    exact hh

theorem cloneS_s {v : Value} {l : List (Stp)} (hr0 : RoSl H v (l.map Stp.cells)) (hn : few 144 l.length) (hb : Base H K) (h : ∀ v' K', Base K K' → RoSl K' v' (l.map Stp.cells) → New K.length v' → R (.ret v') K') : WD T 144 [v] K R := by
  unfold few at hn
  have hr := hr0.base hb
  obtain ⟨ad, rfl⟩ := hr.sl
  refine WD.of follows t144 (by simp) ?_
  obtain ⟨v', K', e1, e2, e3, e4⟩ := app_new (u := 12) (bys := 144) hr (fun cs hc => by obtain ⟨x, _, rfl⟩ := List.mem_map.1 hc; exact Stp.len x) (fun cs hc => by obtain ⟨x, _, rfl⟩ := List.mem_map.1 hc; rfl) (by rw [List.length_map]; omega)
  match ad with
  | none =>
    have hh := h (.slice none 0 0) K Base.refl (by
      rcases hr with q | ⟨b, q2, _⟩
      · exact .inl ⟨q.1, .inl rfl⟩
      · cases q2) (fun c hc => by cases hc)
    simp (disch := omega) only [kB, kcx, kdm, kdn, kel, aop, resultsL, resultOf, Nat.reduceEqDiff, reduceCtorEq, eq1, apartOK, apart2, AObj.live, Int.reduceEq, Int.reduceLT, Int.reduceLE, Int.reduceAdd, Int.reduceSub, Int.reduceMul, Int.reduceToNat, cutCells, Nat.reduceAdd, Nat.reduceLeDiff, Nat.reduceLT, Nat.reduceMul, Nat.reduceSub, eqL_sn, eqL_nn]
    exact hh
  | some a =>
    have hh := h v' K' e2 e3 e4
    simp (disch := omega) only [kB, kcx, kdm, kdn, kel, aop, resultsL, resultOf, Nat.reduceEqDiff, reduceCtorEq, eq1, apartOK, apart2, AObj.live, Int.reduceEq, Int.reduceLT, Int.reduceLE, Int.reduceAdd, Int.reduceSub, Int.reduceMul, Int.reduceToNat, cutCells, Nat.reduceAdd, Nat.reduceLeDiff, Nat.reduceLT, Nat.reduceMul, Nat.reduceSub, eqL_sn, eqL_nn, e1]
    exact hh

theorem cloneK_s {v : Value} {l : List (Ky)} (hr0 : RoSl H v (l.map Ky.cells)) (hn : few 40 l.length) (hb : Base H K) (h : ∀ v' K', Base K K' → RoSl K' v' (l.map Ky.cells) → New K.length v' → R (.ret v') K') : WD T 145 [v] K R := by
  unfold few at hn
  have hr := hr0.base hb
  obtain ⟨ad, rfl⟩ := hr.sl
  refine WD.of follows t145 (by simp) ?_
  obtain ⟨v', K', e1, e2, e3, e4⟩ := app_new (u := 3) (bys := 40) hr (fun cs hc => by obtain ⟨x, _, rfl⟩ := List.mem_map.1 hc; exact Ky.len x) (fun cs hc => by obtain ⟨x, _, rfl⟩ := List.mem_map.1 hc; rfl) (by rw [List.length_map]; omega)
  match ad with
  | none =>
    have hh := h (.slice none 0 0) K Base.refl (by
      rcases hr with q | ⟨b, q2, _⟩
      · exact .inl ⟨q.1, .inl rfl⟩
      · cases q2) (fun c hc => by cases hc)
    simp (disch := omega) only [kB, kcx, kdm, kdn, kel, aop, resultsL, resultOf, Nat.reduceEqDiff, reduceCtorEq, eq1, apartOK, apart2, AObj.live, Int.reduceEq, Int.reduceLT, Int.reduceLE, Int.reduceAdd, Int.reduceSub, Int.reduceMul, Int.reduceToNat, cutCells, Nat.reduceAdd, Nat.reduceLeDiff, Nat.reduceLT, Nat.reduceMul, Nat.reduceSub, eqL_sn, eqL_nn]
    exact hh
  | some a =>
    have hh := h v' K' e2 e3 e4
    simp (disch := omega) only [kB, kcx, kdm, kdn, kel, aop, resultsL, resultOf, Nat.reduceEqDiff, reduceCtorEq, eq1, apartOK, apart2, AObj.live, Int.reduceEq, Int.reduceLT, Int.reduceLE, Int.reduceAdd, Int.reduceSub, Int.reduceMul, Int.reduceToNat, cutCells, Nat.reduceAdd, Nat.reduceLeDiff, Nat.reduceLT, Nat.reduceMul, Nat.reduceSub, eqL_sn, eqL_nn, e1]
    exact hh

theorem cloneT_s {v : Value} {l : List (List UInt8)} (hr0 : RoSl H v (l.map txC)) (hn : few 16 l.length) (hb : Base H K) (h : ∀ v' K', Base K K' → RoSl K' v' (l.map txC) → New K.length v' → R (.ret v') K') : WD T 146 [v] K R := by
  unfold few at hn
  have hr := hr0.base hb
  obtain ⟨ad, rfl⟩ := hr.sl
  refine WD.of follows t146 (by simp) ?_
  obtain ⟨v', K', e1, e2, e3, e4⟩ := app_new (u := 1) (bys := 16) hr (fun cs hc => by obtain ⟨x, _, rfl⟩ := List.mem_map.1 hc; exact txC_len x) (fun cs hc => by obtain ⟨x, _, rfl⟩ := List.mem_map.1 hc; rfl) (by rw [List.length_map]; omega)
  match ad with
  | none =>
    have hh := h (.slice none 0 0) K Base.refl (by
      rcases hr with q | ⟨b, q2, _⟩
      · exact .inl ⟨q.1, .inl rfl⟩
      · cases q2) (fun c hc => by cases hc)
    simp (disch := omega) only [kB, kcx, kdm, kdn, kel, aop, resultsL, resultOf, Nat.reduceEqDiff, reduceCtorEq, eq1, apartOK, apart2, AObj.live, Int.reduceEq, Int.reduceLT, Int.reduceLE, Int.reduceAdd, Int.reduceSub, Int.reduceMul, Int.reduceToNat, cutCells, Nat.reduceAdd, Nat.reduceLeDiff, Nat.reduceLT, Nat.reduceMul, Nat.reduceSub, eqL_sn, eqL_nn]
    exact hh
  | some a =>
    have hh := h v' K' e2 e3 e4
    simp (disch := omega) only [kB, kcx, kdm, kdn, kel, aop, resultsL, resultOf, Nat.reduceEqDiff, reduceCtorEq, eq1, apartOK, apart2, AObj.live, Int.reduceEq, Int.reduceLT, Int.reduceLE, Int.reduceAdd, Int.reduceSub, Int.reduceMul, Int.reduceToNat, cutCells, Nat.reduceAdd, Nat.reduceLeDiff, Nat.reduceLT, Nat.reduceMul, Nat.reduceSub, eqL_sn, eqL_nn, e1]
    exact hh

theorem cloneB_s {v : Value} {l : List (Bt)} (hr0 : RoSl H v (l.map Bt.cells)) (hn : few 16 l.length) (hb : Base H K) (h : ∀ v' K', Base K K' → RoSl K' v' (l.map Bt.cells) → New K.length v' → R (.ret v') K') : WD T 147 [v] K R := by
  unfold few at hn
  have hr := hr0.base hb
  obtain ⟨ad, rfl⟩ := hr.sl
  refine WD.of follows t147 (by simp) ?_
  obtain ⟨v', K', e1, e2, e3, e4⟩ := app_new (u := 2) (bys := 16) hr (fun cs hc => by obtain ⟨x, _, rfl⟩ := List.mem_map.1 hc; exact Bt.len x) (fun cs hc => by obtain ⟨x, _, rfl⟩ := List.mem_map.1 hc; rfl) (by rw [List.length_map]; omega)
  match ad with
  | none =>
    have hh := h (.slice none 0 0) K Base.refl (by
      rcases hr with q | ⟨b, q2, _⟩
      · exact .inl ⟨q.1, .inl rfl⟩
      · cases q2) (fun c hc => by cases hc)
    simp (disch := omega) only [kB, kcx, kdm, kdn, kel, aop, resultsL, resultOf, Nat.reduceEqDiff, reduceCtorEq, eq1, apartOK, apart2, AObj.live, Int.reduceEq, Int.reduceLT, Int.reduceLE, Int.reduceAdd, Int.reduceSub, Int.reduceMul, Int.reduceToNat, cutCells, Nat.reduceAdd, Nat.reduceLeDiff, Nat.reduceLT, Nat.reduceMul, Nat.reduceSub, eqL_sn, eqL_nn]
    exact hh
  | some a =>
    have hh := h v' K' e2 e3 e4
    simp (disch := omega) only [kB, kcx, kdm, kdn, kel, aop, resultsL, resultOf, Nat.reduceEqDiff, reduceCtorEq, eq1, apartOK, apart2, AObj.live, Int.reduceEq, Int.reduceLT, Int.reduceLE, Int.reduceAdd, Int.reduceSub, Int.reduceMul, Int.reduceToNat, cutCells, Nat.reduceAdd, Nat.reduceLeDiff, Nat.reduceLT, Nat.reduceMul, Nat.reduceSub, eqL_sn, eqL_nn, e1]
    exact hh

theorem fieldsOf_s {v : Value} {l : List (Fld)} (hr0 : RoSl H v (l.map Fld.cells)) (hn : few 24 l.length) (hb : Base H K) (h : ∀ v' K', Base K K' → RoSl K' v' (l.map Fld.cells) → New K.length v' → R (.ret v') K') : WD T 122 [v] K R := by
  unfold few at hn
  have hr := hr0.base hb
  refine WD.of follows t122 (by simp) ?_
  obtain ⟨v', K', e1, e2, e3, e4⟩ := app_nil0 (u := 2) (bys := 24) hr (fun cs hc => by obtain ⟨x, _, rfl⟩ := List.mem_map.1 hc; exact Fld.len x) (by rw [List.length_map]; omega)
  have hh := h v' K' e2 e3 e4
  simp (disch := omega) only [kB, kcx, kdm, kdn, kel, aop, resultsL, resultOf, Nat.reduceEqDiff, reduceCtorEq, eq1, apartOK, apart2, AObj.live, Int.reduceEq, Int.reduceLT, Int.reduceLE, Int.reduceAdd, Int.reduceSub, Int.reduceMul, Int.reduceToNat, cutCells, Nat.reduceAdd, Nat.reduceLeDiff, Nat.reduceLT, Nat.reduceMul, Nat.reduceSub, e1]
  exact hh

theorem bitsOf_s {v : Value} {l : List (Bt)} (hr0 : RoSl H v (l.map Bt.cells)) (hn : few 16 l.length) (hb : Base H K) (h : ∀ v' K', Base K K' → RoSl K' v' (l.map Bt.cells) → New K.length v' → R (.ret v') K') : WD T 187 [v] K R := by
  unfold few at hn
  have hr := hr0.base hb
  refine WD.of follows t187 (by simp) ?_
  obtain ⟨v', K', e1, e2, e3, e4⟩ := app_nil0 (u := 2) (bys := 16) hr (fun cs hc => by obtain ⟨x, _, rfl⟩ := List.mem_map.1 hc; exact Bt.len x) (by rw [List.length_map]; omega)
  have hh := h v' K' e2 e3 e4
  simp (disch := omega) only [kB, kcx, kdm, kdn, kel, aop, resultsL, resultOf, Nat.reduceEqDiff, reduceCtorEq, eq1, apartOK, apart2, AObj.live, Int.reduceEq, Int.reduceLT, Int.reduceLE, Int.reduceAdd, Int.reduceSub, Int.reduceMul, Int.reduceToNat, cutCells, Nat.reduceAdd, Nat.reduceLeDiff, Nat.reduceLT, Nat.reduceMul, Nat.reduceSub, e1]
  exact hh

end Go.Proofs.YtpllhhaeclnngaaGreat.Ev

/- Lists that are compared by the document. Printed by gen_y11.py. -/
namespace Go.Proofs.YtpllhhaeclnngaaGreat.Ev
set_option maxRecDepth 100000
set_option linter.unusedSimpArgs false
set_option linter.unusedVariables false
variable {R : FRes → Heap → Prop} {H K : Heap}

theorem eqT_s (a b : List UInt8) : eqT1 2 (.string (bs a)) (.string (bs b)) = some (decide (a = b)) := by
  simp only [eqT1, bs]
  congr 1
  rw [Bool.eq_iff_iff]
  simp
theorem eqT_i (k : IntKind) (a b : Int) : eqT1 1 (.int k a) (.int k b) = some (decide (a = b)) := by
  simp only [eqT1, if_true]
  congr 1
theorem eqL_c (t : Nat) (x y : Value) (l : List (Nat × Value × Value)) (b : Bool) (h : eqT1 t x y = some b) (c : Bool) (hl : eqL l = some c) : eqL ((t, x, y) :: l) = some (b && c) := by
  rw [eqL, h]
  cases b
  · rfl
  · exact hl
theorem eqL_n : eqL [] = some true := rfl
theorem nat_dec (a b : Nat) : decide ((a : Int) = (b : Int)) = decide (a = b) := by
  congr 1
  exact propext (by omega)

theorem Fld.eqs (x y : Fld) : eqL [(2, .string (bs x.name), .string (bs y.name)), (1, .int .i64 x.width, .int .i64 y.width)] = some (decide (x = y)) := by
  rw [eqL_c _ _ _ _ _ (eqT_s _ _) _ (eqL_c _ _ _ _ _ (eqT_i _ _ _) _ eqL_n), Bool.and_true]
  congr 1
  cases x; cases y
  rw [Bool.eq_iff_iff]
  simp
theorem Bt.eqs (x y : Bt) : eqL [(1, .int .u64 (x.hi : Int), .int .u64 (y.hi : Int)), (1, .int .u64 (x.lo : Int), .int .u64 (y.lo : Int))] = some (decide (x = y)) := by
  rw [eqL_c _ _ _ _ _ (eqT_i _ _ _) _ (eqL_c _ _ _ _ _ (eqT_i _ _ _) _ eqL_n), Bool.and_true, nat_dec, nat_dec]
  congr 1
  cases x; cases y
  rw [Bool.eq_iff_iff]
  simp
theorem Ky.eqs (x y : Ky) : eqL [(2, .string (bs x.ref.head), .string (bs y.ref.head)), (2, .string (bs x.ref.name), .string (bs y.ref.name)), (1, .int .i64 x.kind, .int .i64 y.kind)] = some (decide (x = y)) := by
  rw [eqL_c _ _ _ _ _ (eqT_s _ _) _ (eqL_c _ _ _ _ _ (eqT_s _ _) _ (eqL_c _ _ _ _ _ (eqT_i _ _ _) _ eqL_n)), Bool.and_true]
  congr 1
  obtain ⟨⟨a, b⟩, c⟩ := x
  obtain ⟨⟨a2, b2⟩, c2⟩ := y
  rw [Bool.eq_iff_iff]
  simp [and_assoc]
theorem Stp.eqs (x y : Stp) : eqL [(1, .int .i64 x.kind, .int .i64 y.kind), (2, .string (bs x.to.head), .string (bs y.to.head)), (2, .string (bs x.to.name), .string (bs y.to.name)), (1, .int .i64 x.op, .int .i64 y.op),
    (2, .string (bs x.a.ref.head), .string (bs y.a.ref.head)), (2, .string (bs x.a.ref.name), .string (bs y.a.ref.name)), (1, .int .u64 (x.a.const.hi : Int), .int .u64 (y.a.const.hi : Int)), (1, .int .u64 (x.a.const.lo : Int), .int .u64 (y.a.const.lo : Int)),
    (2, .string (bs x.b.ref.head), .string (bs y.b.ref.head)), (2, .string (bs x.b.ref.name), .string (bs y.b.ref.name)), (1, .int .u64 (x.b.const.hi : Int), .int .u64 (y.b.const.hi : Int)), (1, .int .u64 (x.b.const.lo : Int), .int .u64 (y.b.const.lo : Int))] = some (decide (x = y)) := by
  rw [eqL_c _ _ _ _ _ (eqT_i _ _ _) _ (eqL_c _ _ _ _ _ (eqT_s _ _) _ (eqL_c _ _ _ _ _ (eqT_s _ _) _ (eqL_c _ _ _ _ _ (eqT_i _ _ _) _ (eqL_c _ _ _ _ _ (eqT_s _ _) _ (eqL_c _ _ _ _ _ (eqT_s _ _) _ (eqL_c _ _ _ _ _ (eqT_i _ _ _) _ (eqL_c _ _ _ _ _ (eqT_i _ _ _) _
    (eqL_c _ _ _ _ _ (eqT_s _ _) _ (eqL_c _ _ _ _ _ (eqT_s _ _) _ (eqL_c _ _ _ _ _ (eqT_i _ _ _) _ (eqL_c _ _ _ _ _ (eqT_i _ _ _) _ eqL_n)))))))))))]
  simp only [nat_dec, Bool.and_true]
  congr 1
  obtain ⟨k, ⟨a, b⟩, o, ⟨⟨c, d⟩, ⟨e, f⟩⟩, ⟨⟨g, h⟩, ⟨i, j⟩⟩⟩ := x
  obtain ⟨k2, ⟨a2, b2⟩, o2, ⟨⟨c2, d2⟩, ⟨e2, f2⟩⟩, ⟨⟨g2, h2⟩, ⟨i2, j2⟩⟩⟩ := y
  rw [Bool.eq_iff_iff]
  simp [and_assoc]

def eqFieldsI (K : Heap) (v1 v2 : Value) (l1 l2 : List (Fld)) : Nat → Env → Heap → Prop := fun z e K' =>
  ∃ i : Nat, i ≤ l1.length ∧ z = l1.length - i ∧ K' = K ∧ (∀ j (h1 : j < l1.length) (h2 : j < l2.length), j < i → l1[j] = l2[j]) ∧ (∃ x : Nat → Value, e = [v1, v2, x 2, x 3, x 4, .int .i64 (i : Int), x 6, x 7, x 8, x 9, x 10, x 11, x 12, x 13, x 14, x 15, x 16, x 17, x 18, x 19, x 20, x 21, x 22, x 23, x 24, x 25])

theorem eqFields_s {v1 v2 : Value} {l1 l2 : List (Fld)} (h1 : RoSl K v1 (l1.map Fld.cells)) (n1 : few 24 l1.length) (h2 : RoSl K v2 (l2.map Fld.cells)) (h : R (.ret (.bool (decide (l1 = l2)))) K) : WD T 80 [v1, v2] K R := by
  unfold few at n1
  obtain ⟨ad1, rfl⟩ := h1.sl
  obtain ⟨ad2, rfl⟩ := h2.sl
  rw [List.length_map] at h1 h2 ⊢
  rw [List.length_map]
  refine WD.of follows t80 (by simp) ?_
  by_cases hn : l1.length = l2.length
  · have c0 : (l1.length : Int) = (l2.length : Int) := by omega
    simp (disch := omega) only [kB, kcx, kdm, kdn, kel, aop, resultsL, resultOf, Nat.reduceEqDiff, reduceCtorEq, eq1, apartOK, apart2, AObj.live, Int.reduceEq, Int.reduceLT, Int.reduceLE, Int.reduceAdd, Int.reduceSub, Int.reduceMul, Int.reduceToNat, cutCells, Nat.reduceAdd, Nat.reduceLeDiff, Nat.reduceLT, Nat.reduceMul, Nat.reduceSub, c0]
    refine WLoop.inv (eqFieldsI K (.slice ad1 l1.length l1.length) (.slice ad2 l2.length l2.length) l1 l2) ?_ l1.length _ _ ⟨0, Nat.zero_le _, by omega, rfl, fun j _ _ h0 => by omega, by exact ex_env rfl⟩
    rintro z e K' ⟨i, hi, rfl, rfl, hq, ⟨x, rfl⟩⟩
    by_cases hlt : i < l1.length
    · have c1 : (i : Int) < (l1.length : Int) := by omega
      have c2 : (i : Int) < (l2.length : Int) := by omega
      obtain ⟨b, u0, w0, rfl, p1, p2, p3, p4, p5⟩ := h1.at (u := 2) Fld.len hlt
      obtain ⟨b2, u2, w2', rfl, q1, q2, q3, q4, q5⟩ := h2.at (u := 2) Fld.len (show i < l2.length by omega)
      have w2 : IntKind.i64.wrap ((i : Int) + 1) = ((i + 1 : Nat) : Int) := by rw [show (i : Int) + 1 = ((i + 1 : Nat) : Int) by omega]; exact wr_i64 (by omega) (by omega)
      have hne : l1[i] ≠ l2[i] → ¬ l1 = l2 := fun hd e => hd (by simp only [e])
      have hq2 : l1[i] = l2[i] → ∀ j (h1 : j < l1.length) (h2 : j < l2.length), j < i + 1 → l1[j] = l2[j] := fun he j a b hj => by
        by_cases q : j = i
        · subst q; exact he
        · exact hq j a b (by omega)
      skip
      generalize l1[i] = x at *
      generalize l2[i] = y at *
      simp only [Fld.cells] at p3 q3
      have heq := Fld.eqs x y
      by_cases he : x = y
      · simp (disch := omega) only [kB, kcx, kdm, kdn, kel, aop, resultsL, resultOf, Nat.reduceEqDiff, reduceCtorEq, eq1, apartOK, apart2, AObj.live, Int.reduceEq, Int.reduceLT, Int.reduceLE, Int.reduceAdd, Int.reduceSub, Int.reduceMul, Int.reduceToNat, cutCells, Nat.reduceAdd, Nat.reduceLeDiff, Nat.reduceLT, Nat.reduceMul, Nat.reduceSub, c1, c2, p2, q2, p3, p4, q3, q4, heq, decide_eq_true he, w2]
        exact ⟨l1.length - (i + 1), by omega, i + 1, by omega, rfl, rfl, hq2 he, by exact ex_env rfl⟩
      · rw [decide_eq_false (hne he)] at h
        simp (disch := omega) only [kB, kcx, kdm, kdn, kel, aop, resultsL, resultOf, Nat.reduceEqDiff, reduceCtorEq, eq1, apartOK, apart2, AObj.live, Int.reduceEq, Int.reduceLT, Int.reduceLE, Int.reduceAdd, Int.reduceSub, Int.reduceMul, Int.reduceToNat, cutCells, Nat.reduceAdd, Nat.reduceLeDiff, Nat.reduceLT, Nat.reduceMul, Nat.reduceSub, c1, c2, p2, q2, p3, p4, q3, q4, heq, decide_eq_false he, w2]
        exact h
    · have c1 : ¬ (i : Int) < (l1.length : Int) := by omega
      have he : l1 = l2 := List.ext_getElem hn fun j a b => hq j a b (by omega)
      rw [decide_eq_true he] at h
      simp (disch := omega) only [kB, kcx, kdm, kdn, kel, aop, resultsL, resultOf, Nat.reduceEqDiff, reduceCtorEq, eq1, apartOK, apart2, AObj.live, Int.reduceEq, Int.reduceLT, Int.reduceLE, Int.reduceAdd, Int.reduceSub, Int.reduceMul, Int.reduceToNat, cutCells, Nat.reduceAdd, Nat.reduceLeDiff, Nat.reduceLT, Nat.reduceMul, Nat.reduceSub, c1]
      exact h
  · have c0 : ¬ (l1.length : Int) = (l2.length : Int) := by omega
    rw [decide_eq_false (fun e => hn (by rw [e]))] at h
    simp (disch := omega) only [kB, kcx, kdm, kdn, kel, aop, resultsL, resultOf, Nat.reduceEqDiff, reduceCtorEq, eq1, apartOK, apart2, AObj.live, Int.reduceEq, Int.reduceLT, Int.reduceLE, Int.reduceAdd, Int.reduceSub, Int.reduceMul, Int.reduceToNat, cutCells, Nat.reduceAdd, Nat.reduceLeDiff, Nat.reduceLT, Nat.reduceMul, Nat.reduceSub, c0]
    exact h

def eqBitsI (K : Heap) (v1 v2 : Value) (l1 l2 : List (Bt)) : Nat → Env → Heap → Prop := fun z e K' =>
  ∃ i : Nat, i ≤ l1.length ∧ z = l1.length - i ∧ K' = K ∧ (∀ j (h1 : j < l1.length) (h2 : j < l2.length), j < i → l1[j] = l2[j]) ∧ (∃ x : Nat → Value, e = [v1, v2, x 2, x 3, x 4, .int .i64 (i : Int), x 6, x 7, x 8, x 9, x 10, x 11, x 12, x 13, x 14, x 15, x 16, x 17, x 18, x 19, x 20, x 21, x 22, x 23, x 24, x 25])

theorem eqBits_s {v1 v2 : Value} {l1 l2 : List (Bt)} (h1 : RoSl K v1 (l1.map Bt.cells)) (n1 : few 16 l1.length) (h2 : RoSl K v2 (l2.map Bt.cells)) (h : R (.ret (.bool (decide (l1 = l2)))) K) : WD T 164 [v1, v2] K R := by
  unfold few at n1
  obtain ⟨ad1, rfl⟩ := h1.sl
  obtain ⟨ad2, rfl⟩ := h2.sl
  rw [List.length_map] at h1 h2 ⊢
  rw [List.length_map]
  refine WD.of follows t164 (by simp) ?_
  by_cases hn : l1.length = l2.length
  · have c0 : (l1.length : Int) = (l2.length : Int) := by omega
    simp (disch := omega) only [kB, kcx, kdm, kdn, kel, aop, resultsL, resultOf, Nat.reduceEqDiff, reduceCtorEq, eq1, apartOK, apart2, AObj.live, Int.reduceEq, Int.reduceLT, Int.reduceLE, Int.reduceAdd, Int.reduceSub, Int.reduceMul, Int.reduceToNat, cutCells, Nat.reduceAdd, Nat.reduceLeDiff, Nat.reduceLT, Nat.reduceMul, Nat.reduceSub, c0]
    refine WLoop.inv (eqBitsI K (.slice ad1 l1.length l1.length) (.slice ad2 l2.length l2.length) l1 l2) ?_ l1.length _ _ ⟨0, Nat.zero_le _, by omega, rfl, fun j _ _ h0 => by omega, by exact ex_env rfl⟩
    rintro z e K' ⟨i, hi, rfl, rfl, hq, ⟨x, rfl⟩⟩
    by_cases hlt : i < l1.length
    · have c1 : (i : Int) < (l1.length : Int) := by omega
      have c2 : (i : Int) < (l2.length : Int) := by omega
      obtain ⟨b, u0, w0, rfl, p1, p2, p3, p4, p5⟩ := h1.at (u := 2) Bt.len hlt
      obtain ⟨b2, u2, w2', rfl, q1, q2, q3, q4, q5⟩ := h2.at (u := 2) Bt.len (show i < l2.length by omega)
      have w2 : IntKind.i64.wrap ((i : Int) + 1) = ((i + 1 : Nat) : Int) := by rw [show (i : Int) + 1 = ((i + 1 : Nat) : Int) by omega]; exact wr_i64 (by omega) (by omega)
      have hne : l1[i] ≠ l2[i] → ¬ l1 = l2 := fun hd e => hd (by simp only [e])
      have hq2 : l1[i] = l2[i] → ∀ j (h1 : j < l1.length) (h2 : j < l2.length), j < i + 1 → l1[j] = l2[j] := fun he j a b hj => by
        by_cases q : j = i
        · subst q; exact he
        · exact hq j a b (by omega)
      skip
      generalize l1[i] = x at *
      generalize l2[i] = y at *
      simp only [Bt.cells] at p3 q3
      have heq := Bt.eqs x y
      by_cases he : x = y
      · simp (disch := omega) only [kB, kcx, kdm, kdn, kel, aop, resultsL, resultOf, Nat.reduceEqDiff, reduceCtorEq, eq1, apartOK, apart2, AObj.live, Int.reduceEq, Int.reduceLT, Int.reduceLE, Int.reduceAdd, Int.reduceSub, Int.reduceMul, Int.reduceToNat, cutCells, Nat.reduceAdd, Nat.reduceLeDiff, Nat.reduceLT, Nat.reduceMul, Nat.reduceSub, c1, c2, p2, q2, p3, p4, q3, q4, heq, decide_eq_true he, w2]
        exact ⟨l1.length - (i + 1), by omega, i + 1, by omega, rfl, rfl, hq2 he, by exact ex_env rfl⟩
      · rw [decide_eq_false (hne he)] at h
        simp (disch := omega) only [kB, kcx, kdm, kdn, kel, aop, resultsL, resultOf, Nat.reduceEqDiff, reduceCtorEq, eq1, apartOK, apart2, AObj.live, Int.reduceEq, Int.reduceLT, Int.reduceLE, Int.reduceAdd, Int.reduceSub, Int.reduceMul, Int.reduceToNat, cutCells, Nat.reduceAdd, Nat.reduceLeDiff, Nat.reduceLT, Nat.reduceMul, Nat.reduceSub, c1, c2, p2, q2, p3, p4, q3, q4, heq, decide_eq_false he, w2]
        exact h
    · have c1 : ¬ (i : Int) < (l1.length : Int) := by omega
      have he : l1 = l2 := List.ext_getElem hn fun j a b => hq j a b (by omega)
      rw [decide_eq_true he] at h
      simp (disch := omega) only [kB, kcx, kdm, kdn, kel, aop, resultsL, resultOf, Nat.reduceEqDiff, reduceCtorEq, eq1, apartOK, apart2, AObj.live, Int.reduceEq, Int.reduceLT, Int.reduceLE, Int.reduceAdd, Int.reduceSub, Int.reduceMul, Int.reduceToNat, cutCells, Nat.reduceAdd, Nat.reduceLeDiff, Nat.reduceLT, Nat.reduceMul, Nat.reduceSub, c1]
      exact h
  · have c0 : ¬ (l1.length : Int) = (l2.length : Int) := by omega
    rw [decide_eq_false (fun e => hn (by rw [e]))] at h
    simp (disch := omega) only [kB, kcx, kdm, kdn, kel, aop, resultsL, resultOf, Nat.reduceEqDiff, reduceCtorEq, eq1, apartOK, apart2, AObj.live, Int.reduceEq, Int.reduceLT, Int.reduceLE, Int.reduceAdd, Int.reduceSub, Int.reduceMul, Int.reduceToNat, cutCells, Nat.reduceAdd, Nat.reduceLeDiff, Nat.reduceLT, Nat.reduceMul, Nat.reduceSub, c0]
    exact h

def eqTextsI (K : Heap) (v1 v2 : Value) (l1 l2 : List (List UInt8)) : Nat → Env → Heap → Prop := fun z e K' =>
  ∃ i : Nat, i ≤ l1.length ∧ z = l1.length - i ∧ K' = K ∧ (∀ j (h1 : j < l1.length) (h2 : j < l2.length), j < i → l1[j] = l2[j]) ∧ (∃ x : Nat → Value, e = [v1, v2, x 2, x 3, x 4, .int .i64 (i : Int), x 6, x 7, x 8, x 9, x 10, x 11, x 12, x 13, x 14, x 15, x 16, x 17, x 18, x 19, x 20, x 21, x 22, x 23, x 24, x 25])

theorem eqTexts_s {v1 v2 : Value} {l1 l2 : List (List UInt8)} (h1 : RoSl K v1 (l1.map txC)) (n1 : few 16 l1.length) (h2 : RoSl K v2 (l2.map txC)) (h : R (.ret (.bool (decide (l1 = l2)))) K) : WD T 42 [v1, v2] K R := by
  unfold few at n1
  obtain ⟨ad1, rfl⟩ := h1.sl
  obtain ⟨ad2, rfl⟩ := h2.sl
  rw [List.length_map] at h1 h2 ⊢
  rw [List.length_map]
  refine WD.of follows t42 (by simp) ?_
  by_cases hn : l1.length = l2.length
  · have c0 : (l1.length : Int) = (l2.length : Int) := by omega
    simp (disch := omega) only [kB, kcx, kdm, kdn, kel, aop, resultsL, resultOf, Nat.reduceEqDiff, reduceCtorEq, eq1, apartOK, apart2, AObj.live, Int.reduceEq, Int.reduceLT, Int.reduceLE, Int.reduceAdd, Int.reduceSub, Int.reduceMul, Int.reduceToNat, cutCells, Nat.reduceAdd, Nat.reduceLeDiff, Nat.reduceLT, Nat.reduceMul, Nat.reduceSub, c0]
    refine WLoop.inv (eqTextsI K (.slice ad1 l1.length l1.length) (.slice ad2 l2.length l2.length) l1 l2) ?_ l1.length _ _ ⟨0, Nat.zero_le _, by omega, rfl, fun j _ _ h0 => by omega, by exact ex_env rfl⟩
    rintro z e K' ⟨i, hi, rfl, rfl, hq, ⟨x, rfl⟩⟩
    by_cases hlt : i < l1.length
    · have c1 : (i : Int) < (l1.length : Int) := by omega
      have c2 : (i : Int) < (l2.length : Int) := by omega
      obtain ⟨b, u0, w0, rfl, p1, p2, p3, p4, p5⟩ := h1.at (u := 1) txC_len hlt
      obtain ⟨b2, u2, w2', rfl, q1, q2, q3, q4, q5⟩ := h2.at (u := 1) txC_len (show i < l2.length by omega)
      have w2 : IntKind.i64.wrap ((i : Int) + 1) = ((i + 1 : Nat) : Int) := by rw [show (i : Int) + 1 = ((i + 1 : Nat) : Int) by omega]; exact wr_i64 (by omega) (by omega)
      have hne : l1[i] ≠ l2[i] → ¬ l1 = l2 := fun hd e => hd (by simp only [e])
      have hq2 : l1[i] = l2[i] → ∀ j (h1 : j < l1.length) (h2 : j < l2.length), j < i + 1 → l1[j] = l2[j] := fun he j a b hj => by
        by_cases q : j = i
        · subst q; exact he
        · exact hq j a b (by omega)
      have p6 := p5 0 (by decide)
      have q6 := q5 0 (by decide)
      generalize l1[i] = x at *
      generalize l2[i] = y at *
      simp only [txC, List.getElem?_cons_zero, Nat.mul_one, Nat.add_zero] at p6 q6
      by_cases he : x = y
      · simp (disch := omega) only [kB, kcx, kdm, kdn, kel, aop, resultsL, resultOf, Nat.reduceEqDiff, reduceCtorEq, eq1, apartOK, apart2, AObj.live, Int.reduceEq, Int.reduceLT, Int.reduceLE, Int.reduceAdd, Int.reduceSub, Int.reduceMul, Int.reduceToNat, cutCells, Nat.reduceAdd, Nat.reduceLeDiff, Nat.reduceLT, Nat.reduceMul, Nat.reduceSub, c1, c2, p2, q2, p6, q6, he, bne_self_eq_false, w2]
        exact ⟨l1.length - (i + 1), by omega, i + 1, by omega, rfl, rfl, hq2 he, by exact ex_env rfl⟩
      · rw [decide_eq_false (hne he)] at h
        simp (disch := omega) only [kB, kcx, kdm, kdn, kel, aop, resultsL, resultOf, Nat.reduceEqDiff, reduceCtorEq, eq1, apartOK, apart2, AObj.live, Int.reduceEq, Int.reduceLT, Int.reduceLE, Int.reduceAdd, Int.reduceSub, Int.reduceMul, Int.reduceToNat, cutCells, Nat.reduceAdd, Nat.reduceLeDiff, Nat.reduceLT, Nat.reduceMul, Nat.reduceSub, c1, c2, p2, q2, p6, q6, decide_eq_false he, w2]
        exact h
    · have c1 : ¬ (i : Int) < (l1.length : Int) := by omega
      have he : l1 = l2 := List.ext_getElem hn fun j a b => hq j a b (by omega)
      rw [decide_eq_true he] at h
      simp (disch := omega) only [kB, kcx, kdm, kdn, kel, aop, resultsL, resultOf, Nat.reduceEqDiff, reduceCtorEq, eq1, apartOK, apart2, AObj.live, Int.reduceEq, Int.reduceLT, Int.reduceLE, Int.reduceAdd, Int.reduceSub, Int.reduceMul, Int.reduceToNat, cutCells, Nat.reduceAdd, Nat.reduceLeDiff, Nat.reduceLT, Nat.reduceMul, Nat.reduceSub, c1]
      exact h
  · have c0 : ¬ (l1.length : Int) = (l2.length : Int) := by omega
    rw [decide_eq_false (fun e => hn (by rw [e]))] at h
    simp (disch := omega) only [kB, kcx, kdm, kdn, kel, aop, resultsL, resultOf, Nat.reduceEqDiff, reduceCtorEq, eq1, apartOK, apart2, AObj.live, Int.reduceEq, Int.reduceLT, Int.reduceLE, Int.reduceAdd, Int.reduceSub, Int.reduceMul, Int.reduceToNat, cutCells, Nat.reduceAdd, Nat.reduceLeDiff, Nat.reduceLT, Nat.reduceMul, Nat.reduceSub, c0]
    exact h

def inC (x : Int) : List Value := [.int .i64 x]
theorem inC_len (x : Int) : (inC x).length = 1 := rfl

def eqIntsI (K : Heap) (v1 v2 : Value) (l1 l2 : List (Int)) : Nat → Env → Heap → Prop := fun z e K' =>
  ∃ i : Nat, i ≤ l1.length ∧ z = l1.length - i ∧ K' = K ∧ (∀ j (h1 : j < l1.length) (h2 : j < l2.length), j < i → l1[j] = l2[j]) ∧ (∃ x : Nat → Value, e = [v1, v2, x 2, x 3, x 4, .int .i64 (i : Int), x 6, x 7, x 8, x 9, x 10, x 11, x 12, x 13, x 14, x 15, x 16, x 17, x 18, x 19, x 20, x 21, x 22, x 23, x 24, x 25])

theorem eqInts_s {v1 v2 : Value} {l1 l2 : List (Int)} (h1 : RoSl K v1 (l1.map inC)) (n1 : few 8 l1.length) (h2 : RoSl K v2 (l2.map inC)) (h : R (.ret (.bool (decide (l1 = l2)))) K) : WD T 41 [v1, v2] K R := by
  unfold few at n1
  obtain ⟨ad1, rfl⟩ := h1.sl
  obtain ⟨ad2, rfl⟩ := h2.sl
  rw [List.length_map] at h1 h2 ⊢
  rw [List.length_map]
  refine WD.of follows t41 (by simp) ?_
  by_cases hn : l1.length = l2.length
  · have c0 : (l1.length : Int) = (l2.length : Int) := by omega
    simp (disch := omega) only [kB, kcx, kdm, kdn, kel, aop, resultsL, resultOf, Nat.reduceEqDiff, reduceCtorEq, eq1, apartOK, apart2, AObj.live, Int.reduceEq, Int.reduceLT, Int.reduceLE, Int.reduceAdd, Int.reduceSub, Int.reduceMul, Int.reduceToNat, cutCells, Nat.reduceAdd, Nat.reduceLeDiff, Nat.reduceLT, Nat.reduceMul, Nat.reduceSub, c0]
    refine WLoop.inv (eqIntsI K (.slice ad1 l1.length l1.length) (.slice ad2 l2.length l2.length) l1 l2) ?_ l1.length _ _ ⟨0, Nat.zero_le _, by omega, rfl, fun j _ _ h0 => by omega, by exact ex_env rfl⟩
    rintro z e K' ⟨i, hi, rfl, rfl, hq, ⟨x, rfl⟩⟩
    by_cases hlt : i < l1.length
    · have c1 : (i : Int) < (l1.length : Int) := by omega
      have c2 : (i : Int) < (l2.length : Int) := by omega
      obtain ⟨b, u0, w0, rfl, p1, p2, p3, p4, p5⟩ := h1.at (u := 1) inC_len hlt
      obtain ⟨b2, u2, w2', rfl, q1, q2, q3, q4, q5⟩ := h2.at (u := 1) inC_len (show i < l2.length by omega)
      have w2 : IntKind.i64.wrap ((i : Int) + 1) = ((i + 1 : Nat) : Int) := by rw [show (i : Int) + 1 = ((i + 1 : Nat) : Int) by omega]; exact wr_i64 (by omega) (by omega)
      have hne : l1[i] ≠ l2[i] → ¬ l1 = l2 := fun hd e => hd (by simp only [e])
      have hq2 : l1[i] = l2[i] → ∀ j (h1 : j < l1.length) (h2 : j < l2.length), j < i + 1 → l1[j] = l2[j] := fun he j a b hj => by
        by_cases q : j = i
        · subst q; exact he
        · exact hq j a b (by omega)
      have p6 := p5 0 (by decide)
      have q6 := q5 0 (by decide)
      generalize l1[i] = x at *
      generalize l2[i] = y at *
      simp only [inC, List.getElem?_cons_zero, Nat.mul_one, Nat.add_zero] at p6 q6
      by_cases he : x = y
      · simp (disch := omega) only [kB, kcx, kdm, kdn, kel, aop, resultsL, resultOf, Nat.reduceEqDiff, reduceCtorEq, eq1, apartOK, apart2, AObj.live, Int.reduceEq, Int.reduceLT, Int.reduceLE, Int.reduceAdd, Int.reduceSub, Int.reduceMul, Int.reduceToNat, cutCells, Nat.reduceAdd, Nat.reduceLeDiff, Nat.reduceLT, Nat.reduceMul, Nat.reduceSub, c1, c2, p2, q2, p6, q6, he, w2]
        exact ⟨l1.length - (i + 1), by omega, i + 1, by omega, rfl, rfl, hq2 he, by exact ex_env rfl⟩
      · rw [decide_eq_false (hne he)] at h
        simp (disch := omega) only [kB, kcx, kdm, kdn, kel, aop, resultsL, resultOf, Nat.reduceEqDiff, reduceCtorEq, eq1, apartOK, apart2, AObj.live, Int.reduceEq, Int.reduceLT, Int.reduceLE, Int.reduceAdd, Int.reduceSub, Int.reduceMul, Int.reduceToNat, cutCells, Nat.reduceAdd, Nat.reduceLeDiff, Nat.reduceLT, Nat.reduceMul, Nat.reduceSub, c1, c2, p2, q2, p6, q6, he, w2]
        exact h
    · have c1 : ¬ (i : Int) < (l1.length : Int) := by omega
      have he : l1 = l2 := List.ext_getElem hn fun j a b => hq j a b (by omega)
      rw [decide_eq_true he] at h
      simp (disch := omega) only [kB, kcx, kdm, kdn, kel, aop, resultsL, resultOf, Nat.reduceEqDiff, reduceCtorEq, eq1, apartOK, apart2, AObj.live, Int.reduceEq, Int.reduceLT, Int.reduceLE, Int.reduceAdd, Int.reduceSub, Int.reduceMul, Int.reduceToNat, cutCells, Nat.reduceAdd, Nat.reduceLeDiff, Nat.reduceLT, Nat.reduceMul, Nat.reduceSub, c1]
      exact h
  · have c0 : ¬ (l1.length : Int) = (l2.length : Int) := by omega
    rw [decide_eq_false (fun e => hn (by rw [e]))] at h
    simp (disch := omega) only [kB, kcx, kdm, kdn, kel, aop, resultsL, resultOf, Nat.reduceEqDiff, reduceCtorEq, eq1, apartOK, apart2, AObj.live, Int.reduceEq, Int.reduceLT, Int.reduceLE, Int.reduceAdd, Int.reduceSub, Int.reduceMul, Int.reduceToNat, cutCells, Nat.reduceAdd, Nat.reduceLeDiff, Nat.reduceLT, Nat.reduceMul, Nat.reduceSub, c0]
    exact h

end Go.Proofs.YtpllhhaeclnngaaGreat.Ev

/- Headers, actions, tables elsewhere; an action copied. -/
namespace Go.Proofs.YtpllhhaeclnngaaGreat.Ev
set_option maxRecDepth 100000
set_option linter.unusedSimpArgs false
set_option linter.unusedVariables false
variable {R : FRes → Heap → Prop} {H K : Heap}

/-- The same header elsewhere, and so on. -/
def Hdr.like (x y : Hdr) : Prop := x.name = y.name ∧ x.fields = y.fields
def Act.like (x y : Act) : Prop := x.name = y.name ∧ x.params = y.params ∧ x.steps = y.steps
def Tbl.like (x y : Tbl) : Prop := x.name = y.name ∧ x.keys = y.keys ∧ x.actions = y.actions ∧ x.size = y.size ∧ x.dact = y.dact ∧ x.dargs = y.dargs ∧ x.fixed = y.fixed
def Hdr.New (n : Nat) (x : Hdr) : Prop := Ev.New n x.fv
def Act.New (n : Nat) (x : Act) : Prop := Ev.New n x.pv ∧ Ev.New n x.sv
def Tbl.New (n : Nat) (x : Tbl) : Prop := Ev.New n x.kv ∧ Ev.New n x.av ∧ Ev.New n x.dv
theorem New.low {n m : Nat} {v : Value} (h : Ev.New n v) (hm : m ≤ n) : Ev.New m v := fun c hc => Nat.le_trans hm (h c hc)
def hdrZ : Hdr := ⟨[], .slice none 0 0, []⟩
def actZ : Act := ⟨[], .slice none 0 0, [], .slice none 0 0, []⟩
def tblZ : Tbl := ⟨[], .slice none 0 0, [], .slice none 0 0, [], 0, [], .slice none 0 0, [], false⟩
theorem RoSl.nil {H : Heap} : RoSl H (.slice none 0 0) [] := .inl ⟨rfl, .inl rfl⟩
theorem hdrZ_ok {H : Heap} : hdrZ.OK H := ⟨RoSl.nil, by simp [few, hdrZ], fun x h => by cases h⟩
theorem actZ_ok {H : Heap} : actZ.OK H := ⟨⟨RoSl.nil, by simp [few, actZ], fun x h => by cases h⟩, RoSl.nil, by simp [few, actZ], fun x h => by cases h⟩
theorem tblZ_ok {H : Heap} : tblZ.OK H := ⟨⟨RoSl.nil, by simp [few, tblZ], fun x h => by cases h⟩, ⟨RoSl.nil, by simp [few, tblZ]⟩, ⟨by decide, by decide⟩, ⟨RoSl.nil, by simp [few, tblZ], fun x h => by cases h⟩⟩

theorem Hdr.OK.base {x : Hdr} (h : x.OK H) (hb : Base H K) : x.OK K := ⟨h.1.base hb, h.2⟩
theorem Act.OK.base {x : Act} (h : x.OK H) (hb : Base H K) : x.OK K := ⟨⟨h.1.1.base hb, h.1.2⟩, h.2.1.base hb, h.2.2⟩
theorem Tbl.OK.base {x : Tbl} (h : x.OK H) (hb : Base H K) : x.OK K := ⟨⟨h.1.1.base hb, h.1.2⟩, ⟨h.2.1.1.base hb, h.2.1.2⟩, h.2.2.1, ⟨h.2.2.2.1.base hb, h.2.2.2.2⟩⟩

theorem ro_set2 {K2 : Heap} {v : Value} {css : List (List Value)} {n p q : Nat} {o o' : AObj} (hv : RoSl K2 v css) (hn : New n v) (hp : p < n) (hq : q < n) : RoSl ((K2.set p o).set q o') v css := hv.same fun c hc => by
  have := hv.lt hc
  have := hn c hc
  exact ⟨by simpa using hv.lt hc, by rw [hget_ne (by omega), hget_ne (by omega)]⟩
theorem ro_set1 {K2 : Heap} {v : Value} {css : List (List Value)} {n p : Nat} {o : AObj} (hv : RoSl K2 v css) (hn : New n v) (hp : p < n) : RoSl (K2.set p o) v css := hv.same fun c hc => by
  have := hv.lt hc
  have := hn c hc
  exact ⟨by simpa using hv.lt hc, by rw [hget_ne (by omega)]⟩

set_option maxHeartbeats 1000000 in
/-- An action copied (76). -/
theorem actC_s {x : Act} (hx : x.OK H) (hb : Base H K) (h : ∀ (y : Act) K', Base K K' → y.OK K' → y.New K.length → y.like x → R (.ret (.agg y.cells.toArray)) K') : WD T 76 [.agg x.cells.toArray] K R := by
  refine WD.of follows t76 (by simp) ?_
  obtain ⟨o1, o2⟩ := hx.one
  simp only [Act.cells]
  simp (disch := omega) only [kB, kcx, kdm, kdn, kel, aop, resultsL, resultOf, Nat.reduceEqDiff, reduceCtorEq, eq1, apartOK, apart2, AObj.live, Int.reduceEq, Int.reduceLT, Int.reduceLE, Int.reduceAdd, Int.reduceSub, Int.reduceMul, Int.reduceToNat, cutCells, Nat.reduceAdd, Nat.reduceLeDiff, Nat.reduceLT, Nat.reduceMul, Nat.reduceSub, o1, o2]
  refine cloneF_s hx.1.1 hx.1.2.1 (hb.app _) ?_
  intro v' K2 b2 hv' hnew
  obtain ⟨ad2, rfl⟩ := hv'.sl
  rw [List.length_map] at hv' hnew ⊢
  have hl2 := b2.1
  simp only [List.length_append, List.length_cons, List.length_nil, Nat.zero_add, Nat.reduceAdd] at hl2 hnew
  have hb1 : hget K2 K.length = .row [.string (bs x.name), x.pv, x.sv] 0 true := by rw [b2.2 _ (by simp), hget_base0]; rfl
  have hb2 : hget K2 (K.length + 1) = .row [.string (bs []), .slice none 0 0, .slice none 0 0] 0 true := by rw [b2.2 _ (by simp), hget_base]; rfl
  have hbK : Base K K2 := (Base.app0 _).trans b2
  have n1 : K.length ≠ K.length + 1 := by omega
  have n2 : K.length + 1 ≠ K.length := by omega
  simp (disch := omega) only [kB, kcx, kdm, kdn, kel, aop, resultsL, resultOf, Nat.reduceEqDiff, reduceCtorEq, eq1, apartOK, apart2, AObj.live, Int.reduceEq, Int.reduceLT, Int.reduceLE, Int.reduceAdd, Int.reduceSub, Int.reduceMul, Int.reduceToNat, cutCells, Nat.reduceAdd, Nat.reduceLeDiff, Nat.reduceLT, Nat.reduceMul, Nat.reduceSub, hb1]
  refine cloneS_s hx.2.1 hx.2.2.1 ((hb.trans hbK).set (by have := hb.1; omega)) ?_
  intro v3 K3 b3 hv3 hnew3
  obtain ⟨ad3, rfl⟩ := hv3.sl
  rw [List.length_map] at hv3 hnew3 ⊢
  have hl3 := b3.1
  simp only [List.length_set] at hl3 hnew3
  have hc1 : hget K3 K.length = .row [.string (bs x.name), .slice ad2 x.params.length x.params.length, x.sv] 0 true := by rw [b3.2 _ (by simp; omega), hget_set' (by omega)]
  have hc2 : hget K3 (K.length + 1) = .row [.string (bs []), .slice none 0 0, .slice none 0 0] 0 true := by rw [b3.2 _ (by simp; omega), hget_ne n1]; exact hb2
  have hbK3 : Base K K3 := (hbK.set (Nat.le_refl _)).trans b3
  have hv4 : RoSl K3 (.slice ad2 x.params.length x.params.length) (x.params.map Fld.cells) := (ro_set1 hv' hnew (show K.length < K.length + 2 by omega)).base b3
  have hh := h ⟨x.name, .slice ad2 x.params.length x.params.length, x.params, .slice ad3 x.steps.length x.steps.length, x.steps⟩
  simp only [Act.cells] at hh
  simp (disch := omega) only [kB, kcx, kdm, kdn, kel, aop, resultsL, resultOf, Nat.reduceEqDiff, reduceCtorEq, eq1, apartOK, apart2, AObj.live, Int.reduceEq, Int.reduceLT, Int.reduceLE, Int.reduceAdd, Int.reduceSub, Int.reduceMul, Int.reduceToNat, cutCells, Nat.reduceAdd, Nat.reduceLeDiff, Nat.reduceLT, Nat.reduceMul, Nat.reduceSub, hc1, hc2, hget_ne n1]
  exact hh _ ((hbK3.set (b := K.length) (Nat.le_refl _)).set (b := K.length + 1) (by omega)) ⟨⟨ro_set2 hv4 hnew (by omega) (by omega), hx.1.2⟩, ro_set2 hv3 hnew3 (by omega) (by omega), hx.2.2⟩ ⟨hnew.low (by omega), hnew3.low (by omega)⟩ ⟨rfl, rfl, rfl⟩

theorem Act.OK.same {x : Act} {n : Nat} (h : x.OK H) (hn : x.New n) (hl : H.length ≤ K.length) (hk : ∀ c, c < H.length → n ≤ c → hget K c = hget H c) : x.OK K := by
  obtain ⟨⟨a1, a2⟩, b1, b2⟩ := h
  exact ⟨⟨a1.same fun c hc => ⟨Nat.lt_of_lt_of_le (a1.lt hc) hl, hk c (a1.lt hc) (hn.1 c hc)⟩, a2⟩, b1.same fun c hc => ⟨Nat.lt_of_lt_of_le (b1.lt hc) hl, hk c (b1.lt hc) (hn.2 c hc)⟩, b2⟩
theorem Tbl.OK.same {x : Tbl} {n : Nat} (h : x.OK H) (hn : x.New n) (hl : H.length ≤ K.length) (hk : ∀ c, c < H.length → n ≤ c → hget K c = hget H c) : x.OK K := by
  obtain ⟨⟨a1, a2⟩, ⟨b1, b2⟩, c1, d1, d2⟩ := h
  exact ⟨⟨a1.same fun c hc => ⟨Nat.lt_of_lt_of_le (a1.lt hc) hl, hk c (a1.lt hc) (hn.1 c hc)⟩, a2⟩, ⟨b1.same fun c hc => ⟨Nat.lt_of_lt_of_le (b1.lt hc) hl, hk c (b1.lt hc) (hn.2.1 c hc)⟩, b2⟩, c1, d1.same fun c hc => ⟨Nat.lt_of_lt_of_le (d1.lt hc) hl, hk c (d1.lt hc) (hn.2.2 c hc)⟩, d2⟩

end Go.Proofs.YtpllhhaeclnngaaGreat.Ev

/- A table copied. -/
namespace Go.Proofs.YtpllhhaeclnngaaGreat.Ev
set_option maxRecDepth 100000
set_option linter.unusedSimpArgs false
set_option linter.unusedVariables false
variable {R : FRes → Heap → Prop} {H K : Heap}

set_option maxHeartbeats 2000000 in
/-- A table copied (78). -/
theorem tblC_s {x : Tbl} (hx : x.OK H) (hb : Base H K) (h : ∀ (y : Tbl) K', Base K K' → y.OK K' → y.New K.length → y.like x → R (.ret (.agg y.cells.toArray)) K') : WD T 78 [.agg x.cells.toArray] K R := by
  refine WD.of follows t78 (by simp) ?_
  obtain ⟨o1, o2, o3⟩ := hx.one
  simp only [Tbl.cells]
  simp (disch := omega) only [kB, kcx, kdm, kdn, kel, aop, resultsL, resultOf, Nat.reduceEqDiff, reduceCtorEq, eq1, apartOK, apart2, AObj.live, Int.reduceEq, Int.reduceLT, Int.reduceLE, Int.reduceAdd, Int.reduceSub, Int.reduceMul, Int.reduceToNat, cutCells, Nat.reduceAdd, Nat.reduceLeDiff, Nat.reduceLT, Nat.reduceMul, Nat.reduceSub, o1, o2, o3]
  refine cloneK_s hx.1.1 hx.1.2.1 (hb.app _) ?_
  intro v' K2 b2 hv' hnew
  obtain ⟨ad2, rfl⟩ := hv'.sl
  rw [List.length_map] at hv' hnew ⊢
  have hl2 := b2.1
  simp only [List.length_append, List.length_cons, List.length_nil, Nat.zero_add, Nat.reduceAdd] at hl2 hnew
  have hb1 : hget K2 K.length = .row [.string (bs x.name), x.kv, x.av, .int .i64 x.size, .string (bs x.dact), x.dv, .bool x.fixed] 0 true := by rw [b2.2 _ (by simp), hget_base0]; rfl
  have hb2 : hget K2 (K.length + 1) = .row [.string (bs []), .slice none 0 0, .slice none 0 0, .int .i64 0, .string (bs []), .slice none 0 0, .bool false] 0 true := by rw [b2.2 _ (by simp), hget_base]; rfl
  have hbK : Base K K2 := (Base.app0 _).trans b2
  have n1 : K.length ≠ K.length + 1 := by omega
  have n2 : K.length + 1 ≠ K.length := by omega
  simp (disch := omega) only [kB, kcx, kdm, kdn, kel, aop, resultsL, resultOf, Nat.reduceEqDiff, reduceCtorEq, eq1, apartOK, apart2, AObj.live, Int.reduceEq, Int.reduceLT, Int.reduceLE, Int.reduceAdd, Int.reduceSub, Int.reduceMul, Int.reduceToNat, cutCells, Nat.reduceAdd, Nat.reduceLeDiff, Nat.reduceLT, Nat.reduceMul, Nat.reduceSub, hb1]
  refine cloneT_s hx.2.1.1 hx.2.1.2 ((hb.trans hbK).set (by have := hb.1; omega)) ?_
  intro v3 K3 b3 hv3 hnew3
  obtain ⟨ad3, rfl⟩ := hv3.sl
  rw [List.length_map] at hv3 hnew3 ⊢
  have hl3 := b3.1
  simp only [List.length_set] at hl3 hnew3
  have hc1 : hget K3 K.length = .row [.string (bs x.name), .slice ad2 x.keys.length x.keys.length, x.av, .int .i64 x.size, .string (bs x.dact), x.dv, .bool x.fixed] 0 true := by rw [b3.2 _ (by simp; omega), hget_set' (by omega)]
  have hc2 : hget K3 (K.length + 1) = .row [.string (bs []), .slice none 0 0, .slice none 0 0, .int .i64 0, .string (bs []), .slice none 0 0, .bool false] 0 true := by rw [b3.2 _ (by simp; omega), hget_ne n1]; exact hb2
  have hbK3 : Base K K3 := (hbK.set (Nat.le_refl _)).trans b3
  have hv4 : RoSl K3 (.slice ad2 x.keys.length x.keys.length) (x.keys.map Ky.cells) := (ro_set1 hv' hnew (show K.length < K.length + 2 by omega)).base b3
  simp (disch := omega) only [kB, kcx, kdm, kdn, kel, aop, resultsL, resultOf, Nat.reduceEqDiff, reduceCtorEq, eq1, apartOK, apart2, AObj.live, Int.reduceEq, Int.reduceLT, Int.reduceLE, Int.reduceAdd, Int.reduceSub, Int.reduceMul, Int.reduceToNat, cutCells, Nat.reduceAdd, Nat.reduceLeDiff, Nat.reduceLT, Nat.reduceMul, Nat.reduceSub, hc1]
  refine cloneB_s hx.2.2.2.1 hx.2.2.2.2.1 ((hb.trans hbK3).set (by have := hb.1; omega)) ?_
  intro v5 K4 b4 hv5 hnew5
  obtain ⟨ad5, rfl⟩ := hv5.sl
  rw [List.length_map] at hv5 hnew5 ⊢
  have hl4 := b4.1
  simp only [List.length_set] at hl4 hnew5
  have hd1 : hget K4 K.length = .row [.string (bs x.name), .slice ad2 x.keys.length x.keys.length, .slice ad3 x.actions.length x.actions.length, .int .i64 x.size, .string (bs x.dact), x.dv, .bool x.fixed] 0 true := by rw [b4.2 _ (by simp; omega), hget_set' (by omega)]
  have hd2 : hget K4 (K.length + 1) = .row [.string (bs []), .slice none 0 0, .slice none 0 0, .int .i64 0, .string (bs []), .slice none 0 0, .bool false] 0 true := by rw [b4.2 _ (by simp; omega), hget_ne n1]; exact hc2
  have hbK4 : Base K K4 := (hbK3.set (Nat.le_refl _)).trans b4
  have hv6 : RoSl K4 (.slice ad2 x.keys.length x.keys.length) (x.keys.map Ky.cells) := (ro_set1 hv4 hnew (show K.length < K.length + 2 by omega)).base b4
  have hv7 : RoSl K4 (.slice ad3 x.actions.length x.actions.length) (x.actions.map txC) := (ro_set1 hv3 hnew3 (by omega)).base b4
  have hh := h ⟨x.name, .slice ad2 x.keys.length x.keys.length, x.keys, .slice ad3 x.actions.length x.actions.length, x.actions, x.size, x.dact, .slice ad5 x.dargs.length x.dargs.length, x.dargs, x.fixed⟩
  simp only [Tbl.cells] at hh
  simp (disch := omega) only [kB, kcx, kdm, kdn, kel, aop, resultsL, resultOf, Nat.reduceEqDiff, reduceCtorEq, eq1, apartOK, apart2, AObj.live, Int.reduceEq, Int.reduceLT, Int.reduceLE, Int.reduceAdd, Int.reduceSub, Int.reduceMul, Int.reduceToNat, cutCells, Nat.reduceAdd, Nat.reduceLeDiff, Nat.reduceLT, Nat.reduceMul, Nat.reduceSub, hd1, hd2, hget_ne n1]
  exact hh _ ((hbK4.set (b := K.length) (Nat.le_refl _)).set (b := K.length + 1) (by omega)) ⟨⟨ro_set2 hv6 hnew (by omega) (by omega), hx.1.2⟩, ⟨ro_set2 hv7 hnew3 (by omega) (by omega), hx.2.1.2⟩, hx.2.2.1, ro_set2 hv5 hnew5 (by omega) (by omega), hx.2.2.2.2⟩ ⟨hnew.low (by omega), hnew3.low (by omega), hnew5.low (by omega)⟩ ⟨rfl, rfl, rfl, rfl, rfl, rfl, rfl⟩

end Go.Proofs.YtpllhhaeclnngaaGreat.Ev

/- Is a schema light? (The answer does not matter; the walk ends.) -/
namespace Go.Proofs.YtpllhhaeclnngaaGreat.Ev
set_option maxRecDepth 100000
set_option linter.unusedSimpArgs false
set_option linter.unusedVariables false
variable {R : FRes → Heap → Prop} {H K : Heap}

/-- What a scale has left. -/
def Left (n : Int) : Prop := -4611686018427387904 ≤ n ∧ n ≤ 1048576
def takeV (n k : Int) : Int := if 0 ≤ n then n - k else n
theorem takeV_left {n k : Int} (h : Left n) (h0 : 0 ≤ k) (h1 : k ≤ 4611686018427387904) : Left (takeV n k) := by
  unfold Left takeV at *
  split <;> omega

theorem take_s {sb : Nat} {n k : Int} (hs : hget K sb = .row [.int .i64 n] 0 true) (hn : Left n) (h0 : 0 ≤ k) (h1 : k ≤ 4611686018427387904) (h : R (.ret (.bool (decide (0 ≤ takeV n k)))) (K.set sb (.row [.int .i64 (takeV n k)] 0 true))) :
    WD T 142 [.pointer (some ⟨sb, 0, none⟩), .int .i64 k] K R := by
  unfold Left at hn
  have ls := hget_lt hs rfl
  refine WD.of follows t142 (by simp) ?_
  by_cases c0 : 0 ≤ n
  · have w1 : IntKind.i64.wrap (n - k) = n - k := wr_i64 (by omega) (by omega)
    rw [takeV, if_pos c0] at h
    simp (disch := omega) only [kB, kcx, kdm, kdn, kel, aop, resultsL, resultOf, Nat.reduceEqDiff, reduceCtorEq, eq1, apartOK, apart2, AObj.live, Int.reduceEq, Int.reduceLT, Int.reduceLE, Int.reduceAdd, Int.reduceSub, Int.reduceMul, Int.reduceToNat, cutCells, Nat.reduceAdd, Nat.reduceLeDiff, Nat.reduceLT, Nat.reduceMul, Nat.reduceSub, hs, c0, w1]
    exact h
  · rw [takeV, if_neg c0] at h
    have e : K.set sb (.row [.int .i64 n] 0 true) = K := by
      rw [← hs]
      simp only [hget]
      rw [List.getElem?_eq_getElem ls]
      exact List.set_getElem_self ls
    rw [e, decide_eq_false c0] at h
    simp (disch := omega) only [kB, kcx, kdm, kdn, kel, aop, resultsL, resultOf, Nat.reduceEqDiff, reduceCtorEq, eq1, apartOK, apart2, AObj.live, Int.reduceEq, Int.reduceLT, Int.reduceLE, Int.reduceAdd, Int.reduceSub, Int.reduceMul, Int.reduceToNat, cutCells, Nat.reduceAdd, Nat.reduceLeDiff, Nat.reduceLT, Nat.reduceMul, Nat.reduceSub, hs, c0]
    exact h

/-- From one heap to another, but for one block. -/
def But (sb : Nat) (K K' : Heap) : Prop := K.length ≤ K'.length ∧ ∀ c, c < K.length → c ≠ sb → hget K' c = hget K c
theorem But.refl {sb : Nat} : But sb K K := ⟨Nat.le_refl _, fun _ _ _ => rfl⟩
theorem But.trans {sb : Nat} {K' K2 : Heap} (h : But sb K K') (g : But sb K' K2) : But sb K K2 := ⟨Nat.le_trans h.1 g.1, fun c h1 h2 => (g.2 c (Nat.lt_of_lt_of_le h1 h.1) h2).trans (h.2 c h1 h2)⟩
theorem But.set {sb : Nat} {K' : Heap} {o : AObj} (h : But sb K K') : But sb K (K'.set sb o) := ⟨by simpa using h.1, fun c h1 h2 => (hget_ne (Ne.symm h2)).trans (h.2 c h1 h2)⟩
theorem But.base {sb : Nat} {K' : Heap} (h : But sb K K') (hb : Base H K) (hs : H.length ≤ sb) : Base H K' := ⟨Nat.le_trans hb.1 h.1, fun c hc => by have := hb.1; rw [h.2 c (by omega) (by omega)]; exact hb.2 c hc⟩
theorem But.row {sb : Nat} {K' : Heap} {b u : Nat} {cs : List Value} {w : Bool} (h : But sb K K') (hr : hget K b = .row cs u w) (hb : b ≠ sb) : hget K' b = .row cs u w := (h.2 b (hget_lt hr rfl) hb).trans hr

theorem StSl.base {K : Heap} (hb : Base H K) : ∀ {l : List St} {v : Value}, StSl H l v → StSl K l v := by
  have key : ∀ (N : Nat) (l : List St) (v : Value), SizeOf.sizeOf l ≤ N → (StSl H l v → StSl K l v) ∧ (StOKs H l → StOKs K l) := by
    intro N
    induction N with
    | zero => intro l v h; cases l <;> simp at h
    | succ N ih =>
      intro l v h
      cases l with
      | nil => exact ⟨fun q => by simp only [StSl] at q ⊢; exact q.base hb, fun _ => trivial⟩
      | cons s l =>
        have hl : SizeOf.sizeOf l ≤ N := by simp at h; omega
        have hs : StOK H s → StOK K s := by
          cases s with
          | mk k t c va vb a b =>
            intro q
            simp only [StOK] at q ⊢
            simp at h
            exact ⟨q.1, (ih a va (by omega)).1 q.2.1, (ih b vb (by omega)).1 q.2.2⟩
        refine ⟨fun q => ?_, fun q => ?_⟩
        · simp only [StSl] at q ⊢
          obtain ⟨⟨b, e1, e2, u, wr, e3⟩, e4, e5, e6⟩ := q
          exact ⟨⟨b, e1, Nat.lt_of_lt_of_le e2 hb.1, u, wr, by rw [hb.2 b e2]; exact e3⟩, e4, hs e5, (ih l v hl).2 e6⟩
        · simp only [StOKs] at q ⊢
          exact ⟨hs q.1, (ih l v hl).2 q.2⟩
  intro l v h
  exact (key _ l v (Nat.le_refl _)).1 h
theorem StSl.sl {l : List St} {v : Value} (h : StSl H l v) : ∃ ad, v = .slice ad l.length l.length := by
  cases l with
  | nil => simp only [StSl] at h; exact h.sl
  | cons x l => simp only [StSl] at h; obtain ⟨⟨b, rfl, _⟩, _⟩ := h; exact ⟨_, rfl⟩
theorem StOKs.get : ∀ {l : List St} {s : St}, StOKs H l → s ∈ l → StOK H s
  | [], s, _, hs => by cases hs
  | x :: l, s, h, hs => by
    simp only [StOKs] at h
    rcases List.mem_cons.1 hs with rfl | hs
    · exact h.1
    · exact h.2.get hs
def St.kind : St → Int | .mk k _ _ _ _ _ _ => k
def St.table : St → List UInt8 | .mk _ t _ _ _ _ _ => t
def St.test : St → Tst | .mk _ _ c _ _ _ _ => c
def St.va : St → Value | .mk _ _ _ va _ _ _ => va
def St.vb : St → Value | .mk _ _ _ _ vb _ _ => vb
def St.thn : St → List St | .mk _ _ _ _ _ a _ => a
def St.els : St → List St | .mk _ _ _ _ _ _ b => b
theorem St.cells_eq (s : St) : s.cells = [.int .i64 s.kind, .string (bs s.table)] ++ s.test.cells ++ [s.va, s.vb] := by cases s; rfl
theorem StOK.sa {s : St} (h : StOK H s) : StSl H s.thn s.va := by cases s; simp only [StOK] at h; exact h.2.1
theorem StOK.sb {s : St} (h : StOK H s) : StSl H s.els s.vb := by cases s; simp only [StOK] at h; exact h.2.2
theorem St.size {l : List St} {s : St} (h : s ∈ l) : SizeOf.sizeOf s.thn < SizeOf.sizeOf l ∧ SizeOf.sizeOf s.els < SizeOf.sizeOf l := by
  have := List.sizeOf_lt_of_mem h
  cases s
  simp [St.thn, St.els] at this ⊢
  omega
/-- One stage of a list. -/
theorem StSl.at {l : List St} {ad : Option Addr} {n m : Nat} (h : StSl H l (.slice ad n m)) {i : Nat} (hi : i < l.length) :
    few 176 l.length ∧ StOK H l[i] ∧ ∃ (b u0 : Nat) (w0 : Bool), ad = some ⟨b, 0, none⟩ ∧ b < H.length ∧ hget H b = .row (l.map St.cells).flatten u0 w0 ∧ (((l.map St.cells).flatten).drop (i * 13)).take 13 = l[i].cells ∧ i * 13 + 13 ≤ ((l.map St.cells).flatten).length ∧ ∀ j, j < 13 → ((l.map St.cells).flatten)[i * 13 + j]? = l[i].cells[j]? := by
  cases l with
  | nil => simp at hi
  | cons x l =>
    have hall : StOKs H (x :: l) := by simp only [StSl] at h; simp only [StOKs]; exact h.2.2
    simp only [StSl] at h
    obtain ⟨⟨b, e, h1, u, w, h2⟩, h3, _⟩ := h
    injection e with e1
    have hr : RoSl H (.slice ad (l.length + 1) (l.length + 1)) ((x :: l).map St.cells) := .inr ⟨b, by rw [e1]; simp, h1, u, w, h2⟩
    obtain ⟨b', u', w', q1, q2, q3, q4, q5, q6⟩ := hr.at St.len hi
    exact ⟨h3, hall.get (List.getElem_mem hi), b', u', w', q1, q2, q3, q4, q5, q6⟩
theorem StSl.few {l : List St} {v : Value} (h : StSl H l v) : few 176 l.length := by
  cases l with
  | nil => simp [Ev.few]
  | cons x l => simp only [StSl] at h; exact h.2.1

def wsI (K0 : Heap) (sb : Nat) (v : Value) (l : List St) : Nat → Env → Heap → Prop := fun z e K' =>
  ∃ (i : Nat) (n : Int), i ≤ l.length ∧ z = l.length - i ∧ But sb K0 K' ∧ hget K' sb = .row [.int .i64 n] 0 true ∧ Left n ∧ (∃ x : Nat → Value, e = [.pointer (some ⟨sb, 0, none⟩), v, x 2, x 3, .int .i64 (i : Int), x 5, x 6, x 7, x 8, x 9, x 10, x 11, x 12, x 13, x 14, x 15, x 16, x 17, x 18, x 19, x 20, x 21, x 22, x 23, x 24, x 25, x 26, x 27, x 28])

set_option maxHeartbeats 1000000 in
theorem wstages_s {sb : Nat} (hsb : H.length ≤ sb) : ∀ (N : Nat) (l : List St), SizeOf.sizeOf l ≤ N → ∀ (v : Value) (K : Heap) (n : Int) (R : FRes → Heap → Prop), StSl H l v → Base H K → hget K sb = .row [.int .i64 n] 0 true → Left n →
    (∀ K' n', But sb K K' → hget K' sb = .row [.int .i64 n'] 0 true → Left n' → R (.ret (.tuple #[])) K') → WD T 143 [.pointer (some ⟨sb, 0, none⟩), v] K R := by
  intro N
  induction N with
  | zero => intro l h; cases l <;> simp at h
  | succ N ih =>
    intro l hN v K n R hv hb hs hn h
    obtain ⟨ad, rfl⟩ := hv.sl
    have hfew := hv.few
    unfold few at hfew
    refine WD.of follows t143 (by simp) ?_
    simp (disch := omega) only [kB, kcx, kdm, kdn, kel, aop, resultsL, resultOf, Nat.reduceEqDiff, reduceCtorEq, eq1, apartOK, apart2, AObj.live, Int.reduceEq, Int.reduceLT, Int.reduceLE, Int.reduceAdd, Int.reduceSub, Int.reduceMul, Int.reduceToNat, cutCells, Nat.reduceAdd, Nat.reduceLeDiff, Nat.reduceLT, Nat.reduceMul, Nat.reduceSub]
    refine WLoop.inv (wsI K sb (.slice ad l.length l.length) l) ?_ l.length _ _ ⟨0, n, Nat.zero_le _, by omega, But.refl, hs, hn, by exact ex_env rfl⟩
    rintro z e K' ⟨i, n1, hi, rfl, hbt, hs1, hn1, ⟨x, rfl⟩⟩
    have hb1 := hbt.base hb hsb
    by_cases hlt : i < l.length
    · have c1 : (i : Int) < (l.length : Int) := by omega
      obtain ⟨_, hok, b, u0, w0, rfl, p1, p2, p3, p4, p5⟩ := hv.at hlt
      have w2 : IntKind.i64.wrap ((i : Int) + 1) = ((i + 1 : Nat) : Int) := by rw [show (i : Int) + 1 = ((i + 1 : Nat) : Int) by omega]; exact wr_i64 (by omega) (by omega)
      have h11 := p5 11 (by decide)
      have h12 := p5 12 (by decide)
      obtain ⟨z1, z2⟩ := St.size (List.getElem_mem hlt)
      rw [St.cells_eq] at h11 h12
      have sa := hok.sa
      have sb' := hok.sb
      generalize l[i] = x at *
      simp only [Tst.cells, List.cons_append, List.nil_append, List.getElem?_cons_succ, List.getElem?_cons_zero] at h11 h12
      simp (disch := omega) only [kB, kcx, kdm, kdn, kel, aop, resultsL, resultOf, Nat.reduceEqDiff, reduceCtorEq, eq1, apartOK, apart2, AObj.live, Int.reduceEq, Int.reduceLT, Int.reduceLE, Int.reduceAdd, Int.reduceSub, Int.reduceMul, Int.reduceToNat, cutCells, Nat.reduceAdd, Nat.reduceLeDiff, Nat.reduceLT, Nat.reduceMul, Nat.reduceSub, c1]
      refine take_s hs1 hn1 (by omega) (by omega) ?_
      have ls1 := hget_lt hs1 rfl
      have hn2 := takeV_left hn1 (k := 1) (by omega) (by omega)
      have hbt2 := hbt.set (o := .row [.int .i64 (takeV n1 1)] 0 true)
      have hb2 := hbt2.base hb hsb
      have hs2 : hget (K'.set sb (.row [.int .i64 (takeV n1 1)] 0 true)) sb = .row [.int .i64 (takeV n1 1)] 0 true := hget_set' ls1
      generalize K'.set sb (.row [.int .i64 (takeV n1 1)] 0 true) = K2 at *
      by_cases g : 0 ≤ takeV n1 1
      · rw [decide_eq_true g]
        have prow : hget K2 b = .row (l.map St.cells).flatten u0 w0 := by rw [hb2.2 b p1]; exact p2
        simp (disch := omega) only [kB, kcx, kdm, kdn, kel, aop, resultsL, resultOf, Nat.reduceEqDiff, reduceCtorEq, eq1, apartOK, apart2, AObj.live, Int.reduceEq, Int.reduceLT, Int.reduceLE, Int.reduceAdd, Int.reduceSub, Int.reduceMul, Int.reduceToNat, cutCells, Nat.reduceAdd, Nat.reduceLeDiff, Nat.reduceLT, Nat.reduceMul, Nat.reduceSub, c1, prow, h11]
        refine ih _ (by omega) _ K2 _ _ sa hb2 hs2 hn2 ?_
        intro K3 n3 hbt3 hs3 hn3
        have hb3 := hbt3.base hb2 hsb
        have prow3 : hget K3 b = .row (l.map St.cells).flatten u0 w0 := by rw [hb3.2 b p1]; exact p2
        simp (disch := omega) only [kB, kcx, kdm, kdn, kel, aop, resultsL, resultOf, Nat.reduceEqDiff, reduceCtorEq, eq1, apartOK, apart2, AObj.live, Int.reduceEq, Int.reduceLT, Int.reduceLE, Int.reduceAdd, Int.reduceSub, Int.reduceMul, Int.reduceToNat, cutCells, Nat.reduceAdd, Nat.reduceLeDiff, Nat.reduceLT, Nat.reduceMul, Nat.reduceSub, c1, prow3, h12]
        refine ih _ (by omega) _ K3 _ _ sb' hb3 hs3 hn3 ?_
        intro K4 n4 hbt4 hs4 hn4
        simp (disch := omega) only [kB, kcx, kdm, kdn, kel, aop, resultsL, resultOf, Nat.reduceEqDiff, reduceCtorEq, eq1, apartOK, apart2, AObj.live, Int.reduceEq, Int.reduceLT, Int.reduceLE, Int.reduceAdd, Int.reduceSub, Int.reduceMul, Int.reduceToNat, cutCells, Nat.reduceAdd, Nat.reduceLeDiff, Nat.reduceLT, Nat.reduceMul, Nat.reduceSub, w2]
        exact ⟨l.length - (i + 1), by omega, i + 1, n4, by omega, rfl, (hbt2.trans hbt3).trans hbt4, hs4, hn4, by exact ex_env rfl⟩
      · rw [decide_eq_false g]
        have hh := h K2 _ hbt2 hs2 hn2
        simp (disch := omega) only [kB, kcx, kdm, kdn, kel, aop, resultsL, resultOf, Nat.reduceEqDiff, reduceCtorEq, eq1, apartOK, apart2, AObj.live, Int.reduceEq, Int.reduceLT, Int.reduceLE, Int.reduceAdd, Int.reduceSub, Int.reduceMul, Int.reduceToNat, cutCells, Nat.reduceAdd, Nat.reduceLeDiff, Nat.reduceLT, Nat.reduceMul, Nat.reduceSub]
        exact hh
    · have c1 : ¬ (i : Int) < (l.length : Int) := by omega
      have hh := h K' n1 hbt hs1 hn1
      simp (disch := omega) only [kB, kcx, kdm, kdn, kel, aop, resultsL, resultOf, Nat.reduceEqDiff, reduceCtorEq, eq1, apartOK, apart2, AObj.live, Int.reduceEq, Int.reduceLT, Int.reduceLE, Int.reduceAdd, Int.reduceSub, Int.reduceMul, Int.reduceToNat, cutCells, Nat.reduceAdd, Nat.reduceLeDiff, Nat.reduceLT, Nat.reduceMul, Nat.reduceSub, c1]
      exact hh

end Go.Proofs.YtpllhhaeclnngaaGreat.Ev

/- Lists that are compared by the program: slices.Equal, slices.EqualFunc. Printed by gen_z3.py. -/
namespace Go.Proofs.YtpllhhaeclnngaaGreat.Ev
set_option maxRecDepth 100000
set_option linter.unusedSimpArgs false
set_option linter.unusedVariables false
variable {R : FRes → Heap → Prop} {H K : Heap}

theorem Rf.eqs (x y : Rf) : eqL [(2, .string (bs x.head), .string (bs y.head)), (2, .string (bs x.name), .string (bs y.name))] = some (decide (x = y)) := by
  rw [eqL_c _ _ _ _ _ (eqT_s _ _) _ (eqL_c _ _ _ _ _ (eqT_s _ _) _ eqL_n), Bool.and_true]
  congr 1
  cases x; cases y
  rw [Bool.eq_iff_iff]
  simp
theorem Cas.eqs (x y : Cas) : eqL [(1, .int .u64 (x.value.hi : Int), .int .u64 (y.value.hi : Int)), (1, .int .u64 (x.value.lo : Int), .int .u64 (y.value.lo : Int)), (1, .int .u64 (x.mask.hi : Int), .int .u64 (y.mask.hi : Int)), (1, .int .u64 (x.mask.lo : Int), .int .u64 (y.mask.lo : Int)), (2, .string (bs x.next), .string (bs y.next))] = some (decide (x = y)) := by
  rw [eqL_c _ _ _ _ _ (eqT_i _ _ _) _ (eqL_c _ _ _ _ _ (eqT_i _ _ _) _ (eqL_c _ _ _ _ _ (eqT_i _ _ _) _ (eqL_c _ _ _ _ _ (eqT_i _ _ _) _ (eqL_c _ _ _ _ _ (eqT_s _ _) _ eqL_n))))]
  simp only [nat_dec, Bool.and_true]
  congr 1
  obtain ⟨⟨a, b⟩, ⟨c, d⟩, e⟩ := x
  obtain ⟨⟨a2, b2⟩, ⟨c2, d2⟩, e2⟩ := y
  rw [Bool.eq_iff_iff]
  simp [and_assoc]
theorem Tst.eqs (x y : Tst) : eqL [(1, .int .i64 x.kind, .int .i64 y.kind),
    (2, .string (bs x.a.ref.head), .string (bs y.a.ref.head)), (2, .string (bs x.a.ref.name), .string (bs y.a.ref.name)), (1, .int .u64 (x.a.const.hi : Int), .int .u64 (y.a.const.hi : Int)), (1, .int .u64 (x.a.const.lo : Int), .int .u64 (y.a.const.lo : Int)),
    (2, .string (bs x.b.ref.head), .string (bs y.b.ref.head)), (2, .string (bs x.b.ref.name), .string (bs y.b.ref.name)), (1, .int .u64 (x.b.const.hi : Int), .int .u64 (y.b.const.hi : Int)), (1, .int .u64 (x.b.const.lo : Int), .int .u64 (y.b.const.lo : Int))] = some (decide (x = y)) := by
  rw [eqL_c _ _ _ _ _ (eqT_i _ _ _) _ (eqL_c _ _ _ _ _ (eqT_s _ _) _ (eqL_c _ _ _ _ _ (eqT_s _ _) _ (eqL_c _ _ _ _ _ (eqT_i _ _ _) _ (eqL_c _ _ _ _ _ (eqT_i _ _ _) _
    (eqL_c _ _ _ _ _ (eqT_s _ _) _ (eqL_c _ _ _ _ _ (eqT_s _ _) _ (eqL_c _ _ _ _ _ (eqT_i _ _ _) _ (eqL_c _ _ _ _ _ (eqT_i _ _ _) _ eqL_n))))))))]
  simp only [nat_dec, Bool.and_true]
  congr 1
  obtain ⟨k, ⟨⟨c, d⟩, ⟨e, f⟩⟩, ⟨⟨g, h⟩, ⟨i, j⟩⟩⟩ := x
  obtain ⟨k2, ⟨⟨c2, d2⟩, ⟨e2, f2⟩⟩, ⟨⟨g2, h2⟩, ⟨i2, j2⟩⟩⟩ := y
  rw [Bool.eq_iff_iff]
  simp [and_assoc]

def all2 {α : Type} (r : α → α → Bool) : List α → List α → Bool
  | [], [] => true
  | x :: l, y :: m => r x y && all2 r l m
  | _, _ => false
theorem all2_iff {α : Type} (r : α → α → Bool) : ∀ {l m : List α}, all2 r l m = true ↔ l.length = m.length ∧ ∀ j (h1 : j < l.length) (h2 : j < m.length), r l[j] m[j] = true
  | [], [] => by simp [all2]
  | [], _ :: _ => by simp [all2]
  | _ :: _, [] => by simp [all2]
  | x :: l, y :: m => by
    rw [all2, Bool.and_eq_true, all2_iff r (l := l) (m := m)]
    constructor
    · rintro ⟨h1, h2, h3⟩
      refine ⟨by simp [h2], fun j g1 g2 => ?_⟩
      cases j with
      | zero => exact h1
      | succ j => exact h3 j (by simpa using g1) (by simpa using g2)
    · rintro ⟨h1, h2⟩
      exact ⟨h2 0 (by simp) (by simp), by simpa using h1, fun j g1 g2 => h2 (j + 1) (by simpa using g1) (by simpa using g2)⟩

def Hdr.eqv (x y : Hdr) : Bool := decide (x.name = y.name ∧ x.fields = y.fields)
def Sta.eqv (x y : Sta) : Bool := decide (x.name = y.name ∧ x.header = y.header ∧ x.on = y.on ∧ x.next = y.next ∧ x.cases = y.cases)
def Act.eqv (x y : Act) : Bool := decide (x.name = y.name ∧ x.params = y.params ∧ x.steps = y.steps)
def Tbl.eqv (x y : Tbl) : Bool := decide (x.name = y.name ∧ x.size = y.size ∧ x.fixed = y.fixed ∧ x.dact = y.dact ∧ x.keys = y.keys ∧ x.actions = y.actions ∧ x.dargs = y.dargs)

def equFI (K : Heap) (v1 v2 : Value) (l1 l2 : List (Fld)) : Nat → Env → Heap → Prop := fun z e K' =>
  ∃ i : Nat, i ≤ l1.length ∧ z = l1.length - i ∧ K' = K ∧ (∀ j (h1 : j < l1.length) (h2 : j < l2.length), j < i → l1[j] = l2[j]) ∧ (∃ x : Nat → Value, e = [v1, v2, x 2, x 3, x 4, x 5, x 6, x 7, x 8, x 9, x 10, x 11, .int .i64 (l1.length : Int), .int .i64 (i : Int), x 14, x 15, x 16, x 17, x 18, x 19, x 20, x 21, x 22, x 23, x 24, x 25])

theorem equF_s {v1 v2 : Value} {l1 l2 : List (Fld)} (h1 : RoSl K v1 (l1.map Fld.cells)) (n1 : few 24 l1.length) (h2 : RoSl K v2 (l2.map Fld.cells)) (h : R (.ret (.bool (decide (l1 = l2)))) K) : WD T 83 [v1, v2] K R := by
  unfold few at n1
  obtain ⟨ad1, rfl⟩ := h1.sl
  obtain ⟨ad2, rfl⟩ := h2.sl
  rw [List.length_map] at h1 h2 ⊢
  rw [List.length_map]
  refine WD.of follows t83 (by simp) ?_
  by_cases hn : l1.length = l2.length
  · have c0 : decide ((l1.length : Int) = (l2.length : Int)) = true := decide_eq_true (by omega)
    simp (disch := omega) only [kB, kcx, kdm, kdn, kel, aop, resultsL, resultOf, Nat.reduceEqDiff, reduceCtorEq, eq1, apartOK, apart2, AObj.live, Int.reduceEq, Int.reduceLT, Int.reduceLE, Int.reduceAdd, Int.reduceSub, Int.reduceMul, Int.reduceToNat, cutCells, Nat.reduceAdd, Nat.reduceLeDiff, Nat.reduceLT, Nat.reduceMul, Nat.reduceSub, c0]
    refine WLoop.inv (equFI K (.slice ad1 l1.length l1.length) (.slice ad2 l2.length l2.length) l1 l2) ?_ l1.length _ _ ⟨0, Nat.zero_le _, by omega, rfl, fun j _ _ h0 => by omega, by exact ex_env rfl⟩
    rintro z e K' ⟨i, hi, rfl, rfl, hq, ⟨x, rfl⟩⟩
    by_cases hlt : i < l1.length
    · have c1 : (i : Int) < (l1.length : Int) := by omega
      have c2 : (i : Int) < (l2.length : Int) := by omega
      obtain ⟨b, u0, w0, rfl, p1, p2, p3, p4, p5⟩ := h1.at (u := 2) Fld.len hlt
      obtain ⟨b2, u2, w2', rfl, q1, q2, q3, q4, q5⟩ := h2.at (u := 2) Fld.len (show i < l2.length by omega)
      have w2 : IntKind.i64.wrap ((i : Int) + 1) = ((i + 1 : Nat) : Int) := by rw [show (i : Int) + 1 = ((i + 1 : Nat) : Int) by omega]; exact wr_i64 (by omega) (by omega)
      have hne : l1[i] ≠ l2[i] → ¬ l1 = l2 := fun hd e => hd (by simp only [e])
      have hq2 : l1[i] = l2[i] → ∀ j (h1 : j < l1.length) (h2 : j < l2.length), j < i + 1 → l1[j] = l2[j] := fun he j a b hj => by
        by_cases q : j = i
        · subst q; exact he
        · exact hq j a b (by omega)
      skip
      generalize l1[i] = x at *
      generalize l2[i] = y at *
      simp only [Fld.cells] at p3 q3
      have heq := Fld.eqs x y
      by_cases he : x = y
      · simp (disch := omega) only [kB, kcx, kdm, kdn, kel, aop, resultsL, resultOf, Nat.reduceEqDiff, reduceCtorEq, eq1, apartOK, apart2, AObj.live, Int.reduceEq, Int.reduceLT, Int.reduceLE, Int.reduceAdd, Int.reduceSub, Int.reduceMul, Int.reduceToNat, cutCells, Nat.reduceAdd, Nat.reduceLeDiff, Nat.reduceLT, Nat.reduceMul, Nat.reduceSub, c1, c2, p2, q2, p3, p4, q3, q4, heq, decide_eq_true he, w2]
        exact ⟨l1.length - (i + 1), by omega, i + 1, by omega, rfl, rfl, hq2 he, by exact ex_env rfl⟩
      · rw [decide_eq_false (hne he)] at h
        simp (disch := omega) only [kB, kcx, kdm, kdn, kel, aop, resultsL, resultOf, Nat.reduceEqDiff, reduceCtorEq, eq1, apartOK, apart2, AObj.live, Int.reduceEq, Int.reduceLT, Int.reduceLE, Int.reduceAdd, Int.reduceSub, Int.reduceMul, Int.reduceToNat, cutCells, Nat.reduceAdd, Nat.reduceLeDiff, Nat.reduceLT, Nat.reduceMul, Nat.reduceSub, c1, c2, p2, q2, p3, p4, q3, q4, heq, decide_eq_false he, w2]
        exact h
    · have c1 : ¬ (i : Int) < (l1.length : Int) := by omega
      have he : l1 = l2 := List.ext_getElem hn fun j a b => hq j a b (by omega)
      rw [decide_eq_true he] at h
      simp (disch := omega) only [kB, kcx, kdm, kdn, kel, aop, resultsL, resultOf, Nat.reduceEqDiff, reduceCtorEq, eq1, apartOK, apart2, AObj.live, Int.reduceEq, Int.reduceLT, Int.reduceLE, Int.reduceAdd, Int.reduceSub, Int.reduceMul, Int.reduceToNat, cutCells, Nat.reduceAdd, Nat.reduceLeDiff, Nat.reduceLT, Nat.reduceMul, Nat.reduceSub, c1]
      exact h
  · have c0 : ¬ (l1.length : Int) = (l2.length : Int) := by omega
    rw [decide_eq_false (fun e => hn (by rw [e]))] at h
    simp (disch := omega) only [kB, kcx, kdm, kdn, kel, aop, resultsL, resultOf, Nat.reduceEqDiff, reduceCtorEq, eq1, apartOK, apart2, AObj.live, Int.reduceEq, Int.reduceLT, Int.reduceLE, Int.reduceAdd, Int.reduceSub, Int.reduceMul, Int.reduceToNat, cutCells, Nat.reduceAdd, Nat.reduceLeDiff, Nat.reduceLT, Nat.reduceMul, Nat.reduceSub, c0]
    exact h

def equCI (K : Heap) (v1 v2 : Value) (l1 l2 : List (Cas)) : Nat → Env → Heap → Prop := fun z e K' =>
  ∃ i : Nat, i ≤ l1.length ∧ z = l1.length - i ∧ K' = K ∧ (∀ j (h1 : j < l1.length) (h2 : j < l2.length), j < i → l1[j] = l2[j]) ∧ (∃ x : Nat → Value, e = [v1, v2, x 2, x 3, x 4, x 5, x 6, x 7, x 8, x 9, x 10, x 11, .int .i64 (l1.length : Int), .int .i64 (i : Int), x 14, x 15, x 16, x 17, x 18, x 19, x 20, x 21, x 22, x 23, x 24, x 25])

theorem equC_s {v1 v2 : Value} {l1 l2 : List (Cas)} (h1 : RoSl K v1 (l1.map Cas.cells)) (n1 : few 48 l1.length) (h2 : RoSl K v2 (l2.map Cas.cells)) (h : R (.ret (.bool (decide (l1 = l2)))) K) : WD T 88 [v1, v2] K R := by
  unfold few at n1
  obtain ⟨ad1, rfl⟩ := h1.sl
  obtain ⟨ad2, rfl⟩ := h2.sl
  rw [List.length_map] at h1 h2 ⊢
  rw [List.length_map]
  refine WD.of follows t88 (by simp) ?_
  by_cases hn : l1.length = l2.length
  · have c0 : decide ((l1.length : Int) = (l2.length : Int)) = true := decide_eq_true (by omega)
    simp (disch := omega) only [kB, kcx, kdm, kdn, kel, aop, resultsL, resultOf, Nat.reduceEqDiff, reduceCtorEq, eq1, apartOK, apart2, AObj.live, Int.reduceEq, Int.reduceLT, Int.reduceLE, Int.reduceAdd, Int.reduceSub, Int.reduceMul, Int.reduceToNat, cutCells, Nat.reduceAdd, Nat.reduceLeDiff, Nat.reduceLT, Nat.reduceMul, Nat.reduceSub, c0]
    refine WLoop.inv (equCI K (.slice ad1 l1.length l1.length) (.slice ad2 l2.length l2.length) l1 l2) ?_ l1.length _ _ ⟨0, Nat.zero_le _, by omega, rfl, fun j _ _ h0 => by omega, by exact ex_env rfl⟩
    rintro z e K' ⟨i, hi, rfl, rfl, hq, ⟨x, rfl⟩⟩
    by_cases hlt : i < l1.length
    · have c1 : (i : Int) < (l1.length : Int) := by omega
      have c2 : (i : Int) < (l2.length : Int) := by omega
      obtain ⟨b, u0, w0, rfl, p1, p2, p3, p4, p5⟩ := h1.at (u := 5) Cas.len hlt
      obtain ⟨b2, u2, w2', rfl, q1, q2, q3, q4, q5⟩ := h2.at (u := 5) Cas.len (show i < l2.length by omega)
      have w2 : IntKind.i64.wrap ((i : Int) + 1) = ((i + 1 : Nat) : Int) := by rw [show (i : Int) + 1 = ((i + 1 : Nat) : Int) by omega]; exact wr_i64 (by omega) (by omega)
      have hne : l1[i] ≠ l2[i] → ¬ l1 = l2 := fun hd e => hd (by simp only [e])
      have hq2 : l1[i] = l2[i] → ∀ j (h1 : j < l1.length) (h2 : j < l2.length), j < i + 1 → l1[j] = l2[j] := fun he j a b hj => by
        by_cases q : j = i
        · subst q; exact he
        · exact hq j a b (by omega)
      skip
      generalize l1[i] = x at *
      generalize l2[i] = y at *
      simp only [Cas.cells] at p3 q3
      have heq := Cas.eqs x y
      by_cases he : x = y
      · simp (disch := omega) only [kB, kcx, kdm, kdn, kel, aop, resultsL, resultOf, Nat.reduceEqDiff, reduceCtorEq, eq1, apartOK, apart2, AObj.live, Int.reduceEq, Int.reduceLT, Int.reduceLE, Int.reduceAdd, Int.reduceSub, Int.reduceMul, Int.reduceToNat, cutCells, Nat.reduceAdd, Nat.reduceLeDiff, Nat.reduceLT, Nat.reduceMul, Nat.reduceSub, c1, c2, p2, q2, p3, p4, q3, q4, heq, decide_eq_true he, w2]
        exact ⟨l1.length - (i + 1), by omega, i + 1, by omega, rfl, rfl, hq2 he, by exact ex_env rfl⟩
      · rw [decide_eq_false (hne he)] at h
        simp (disch := omega) only [kB, kcx, kdm, kdn, kel, aop, resultsL, resultOf, Nat.reduceEqDiff, reduceCtorEq, eq1, apartOK, apart2, AObj.live, Int.reduceEq, Int.reduceLT, Int.reduceLE, Int.reduceAdd, Int.reduceSub, Int.reduceMul, Int.reduceToNat, cutCells, Nat.reduceAdd, Nat.reduceLeDiff, Nat.reduceLT, Nat.reduceMul, Nat.reduceSub, c1, c2, p2, q2, p3, p4, q3, q4, heq, decide_eq_false he, w2]
        exact h
    · have c1 : ¬ (i : Int) < (l1.length : Int) := by omega
      have he : l1 = l2 := List.ext_getElem hn fun j a b => hq j a b (by omega)
      rw [decide_eq_true he] at h
      simp (disch := omega) only [kB, kcx, kdm, kdn, kel, aop, resultsL, resultOf, Nat.reduceEqDiff, reduceCtorEq, eq1, apartOK, apart2, AObj.live, Int.reduceEq, Int.reduceLT, Int.reduceLE, Int.reduceAdd, Int.reduceSub, Int.reduceMul, Int.reduceToNat, cutCells, Nat.reduceAdd, Nat.reduceLeDiff, Nat.reduceLT, Nat.reduceMul, Nat.reduceSub, c1]
      exact h
  · have c0 : ¬ (l1.length : Int) = (l2.length : Int) := by omega
    rw [decide_eq_false (fun e => hn (by rw [e]))] at h
    simp (disch := omega) only [kB, kcx, kdm, kdn, kel, aop, resultsL, resultOf, Nat.reduceEqDiff, reduceCtorEq, eq1, apartOK, apart2, AObj.live, Int.reduceEq, Int.reduceLT, Int.reduceLE, Int.reduceAdd, Int.reduceSub, Int.reduceMul, Int.reduceToNat, cutCells, Nat.reduceAdd, Nat.reduceLeDiff, Nat.reduceLT, Nat.reduceMul, Nat.reduceSub, c0]
    exact h

def equSI (K : Heap) (v1 v2 : Value) (l1 l2 : List (Stp)) : Nat → Env → Heap → Prop := fun z e K' =>
  ∃ i : Nat, i ≤ l1.length ∧ z = l1.length - i ∧ K' = K ∧ (∀ j (h1 : j < l1.length) (h2 : j < l2.length), j < i → l1[j] = l2[j]) ∧ (∃ x : Nat → Value, e = [v1, v2, x 2, x 3, x 4, x 5, x 6, x 7, x 8, x 9, x 10, x 11, .int .i64 (l1.length : Int), .int .i64 (i : Int), x 14, x 15, x 16, x 17, x 18, x 19, x 20, x 21, x 22, x 23, x 24, x 25])

theorem equS_s {v1 v2 : Value} {l1 l2 : List (Stp)} (h1 : RoSl K v1 (l1.map Stp.cells)) (n1 : few 144 l1.length) (h2 : RoSl K v2 (l2.map Stp.cells)) (h : R (.ret (.bool (decide (l1 = l2)))) K) : WD T 91 [v1, v2] K R := by
  unfold few at n1
  obtain ⟨ad1, rfl⟩ := h1.sl
  obtain ⟨ad2, rfl⟩ := h2.sl
  rw [List.length_map] at h1 h2 ⊢
  rw [List.length_map]
  refine WD.of follows t91 (by simp) ?_
  by_cases hn : l1.length = l2.length
  · have c0 : decide ((l1.length : Int) = (l2.length : Int)) = true := decide_eq_true (by omega)
    simp (disch := omega) only [kB, kcx, kdm, kdn, kel, aop, resultsL, resultOf, Nat.reduceEqDiff, reduceCtorEq, eq1, apartOK, apart2, AObj.live, Int.reduceEq, Int.reduceLT, Int.reduceLE, Int.reduceAdd, Int.reduceSub, Int.reduceMul, Int.reduceToNat, cutCells, Nat.reduceAdd, Nat.reduceLeDiff, Nat.reduceLT, Nat.reduceMul, Nat.reduceSub, c0]
    refine WLoop.inv (equSI K (.slice ad1 l1.length l1.length) (.slice ad2 l2.length l2.length) l1 l2) ?_ l1.length _ _ ⟨0, Nat.zero_le _, by omega, rfl, fun j _ _ h0 => by omega, by exact ex_env rfl⟩
    rintro z e K' ⟨i, hi, rfl, rfl, hq, ⟨x, rfl⟩⟩
    by_cases hlt : i < l1.length
    · have c1 : (i : Int) < (l1.length : Int) := by omega
      have c2 : (i : Int) < (l2.length : Int) := by omega
      obtain ⟨b, u0, w0, rfl, p1, p2, p3, p4, p5⟩ := h1.at (u := 12) Stp.len hlt
      obtain ⟨b2, u2, w2', rfl, q1, q2, q3, q4, q5⟩ := h2.at (u := 12) Stp.len (show i < l2.length by omega)
      have w2 : IntKind.i64.wrap ((i : Int) + 1) = ((i + 1 : Nat) : Int) := by rw [show (i : Int) + 1 = ((i + 1 : Nat) : Int) by omega]; exact wr_i64 (by omega) (by omega)
      have hne : l1[i] ≠ l2[i] → ¬ l1 = l2 := fun hd e => hd (by simp only [e])
      have hq2 : l1[i] = l2[i] → ∀ j (h1 : j < l1.length) (h2 : j < l2.length), j < i + 1 → l1[j] = l2[j] := fun he j a b hj => by
        by_cases q : j = i
        · subst q; exact he
        · exact hq j a b (by omega)
      skip
      generalize l1[i] = x at *
      generalize l2[i] = y at *
      simp only [Stp.cells] at p3 q3
      have heq := Stp.eqs x y
      by_cases he : x = y
      · simp (disch := omega) only [kB, kcx, kdm, kdn, kel, aop, resultsL, resultOf, Nat.reduceEqDiff, reduceCtorEq, eq1, apartOK, apart2, AObj.live, Int.reduceEq, Int.reduceLT, Int.reduceLE, Int.reduceAdd, Int.reduceSub, Int.reduceMul, Int.reduceToNat, cutCells, Nat.reduceAdd, Nat.reduceLeDiff, Nat.reduceLT, Nat.reduceMul, Nat.reduceSub, c1, c2, p2, q2, p3, p4, q3, q4, heq, decide_eq_true he, w2]
        exact ⟨l1.length - (i + 1), by omega, i + 1, by omega, rfl, rfl, hq2 he, by exact ex_env rfl⟩
      · rw [decide_eq_false (hne he)] at h
        simp (disch := omega) only [kB, kcx, kdm, kdn, kel, aop, resultsL, resultOf, Nat.reduceEqDiff, reduceCtorEq, eq1, apartOK, apart2, AObj.live, Int.reduceEq, Int.reduceLT, Int.reduceLE, Int.reduceAdd, Int.reduceSub, Int.reduceMul, Int.reduceToNat, cutCells, Nat.reduceAdd, Nat.reduceLeDiff, Nat.reduceLT, Nat.reduceMul, Nat.reduceSub, c1, c2, p2, q2, p3, p4, q3, q4, heq, decide_eq_false he, w2]
        exact h
    · have c1 : ¬ (i : Int) < (l1.length : Int) := by omega
      have he : l1 = l2 := List.ext_getElem hn fun j a b => hq j a b (by omega)
      rw [decide_eq_true he] at h
      simp (disch := omega) only [kB, kcx, kdm, kdn, kel, aop, resultsL, resultOf, Nat.reduceEqDiff, reduceCtorEq, eq1, apartOK, apart2, AObj.live, Int.reduceEq, Int.reduceLT, Int.reduceLE, Int.reduceAdd, Int.reduceSub, Int.reduceMul, Int.reduceToNat, cutCells, Nat.reduceAdd, Nat.reduceLeDiff, Nat.reduceLT, Nat.reduceMul, Nat.reduceSub, c1]
      exact h
  · have c0 : ¬ (l1.length : Int) = (l2.length : Int) := by omega
    rw [decide_eq_false (fun e => hn (by rw [e]))] at h
    simp (disch := omega) only [kB, kcx, kdm, kdn, kel, aop, resultsL, resultOf, Nat.reduceEqDiff, reduceCtorEq, eq1, apartOK, apart2, AObj.live, Int.reduceEq, Int.reduceLT, Int.reduceLE, Int.reduceAdd, Int.reduceSub, Int.reduceMul, Int.reduceToNat, cutCells, Nat.reduceAdd, Nat.reduceLeDiff, Nat.reduceLT, Nat.reduceMul, Nat.reduceSub, c0]
    exact h

def equKI (K : Heap) (v1 v2 : Value) (l1 l2 : List (Ky)) : Nat → Env → Heap → Prop := fun z e K' =>
  ∃ i : Nat, i ≤ l1.length ∧ z = l1.length - i ∧ K' = K ∧ (∀ j (h1 : j < l1.length) (h2 : j < l2.length), j < i → l1[j] = l2[j]) ∧ (∃ x : Nat → Value, e = [v1, v2, x 2, x 3, x 4, x 5, x 6, x 7, x 8, x 9, x 10, x 11, .int .i64 (l1.length : Int), .int .i64 (i : Int), x 14, x 15, x 16, x 17, x 18, x 19, x 20, x 21, x 22, x 23, x 24, x 25])

theorem equK_s {v1 v2 : Value} {l1 l2 : List (Ky)} (h1 : RoSl K v1 (l1.map Ky.cells)) (n1 : few 40 l1.length) (h2 : RoSl K v2 (l2.map Ky.cells)) (h : R (.ret (.bool (decide (l1 = l2)))) K) : WD T 149 [v1, v2] K R := by
  unfold few at n1
  obtain ⟨ad1, rfl⟩ := h1.sl
  obtain ⟨ad2, rfl⟩ := h2.sl
  rw [List.length_map] at h1 h2 ⊢
  rw [List.length_map]
  refine WD.of follows t149 (by simp) ?_
  by_cases hn : l1.length = l2.length
  · have c0 : decide ((l1.length : Int) = (l2.length : Int)) = true := decide_eq_true (by omega)
    simp (disch := omega) only [kB, kcx, kdm, kdn, kel, aop, resultsL, resultOf, Nat.reduceEqDiff, reduceCtorEq, eq1, apartOK, apart2, AObj.live, Int.reduceEq, Int.reduceLT, Int.reduceLE, Int.reduceAdd, Int.reduceSub, Int.reduceMul, Int.reduceToNat, cutCells, Nat.reduceAdd, Nat.reduceLeDiff, Nat.reduceLT, Nat.reduceMul, Nat.reduceSub, c0]
    refine WLoop.inv (equKI K (.slice ad1 l1.length l1.length) (.slice ad2 l2.length l2.length) l1 l2) ?_ l1.length _ _ ⟨0, Nat.zero_le _, by omega, rfl, fun j _ _ h0 => by omega, by exact ex_env rfl⟩
    rintro z e K' ⟨i, hi, rfl, rfl, hq, ⟨x, rfl⟩⟩
    by_cases hlt : i < l1.length
    · have c1 : (i : Int) < (l1.length : Int) := by omega
      have c2 : (i : Int) < (l2.length : Int) := by omega
      obtain ⟨b, u0, w0, rfl, p1, p2, p3, p4, p5⟩ := h1.at (u := 3) Ky.len hlt
      obtain ⟨b2, u2, w2', rfl, q1, q2, q3, q4, q5⟩ := h2.at (u := 3) Ky.len (show i < l2.length by omega)
      have w2 : IntKind.i64.wrap ((i : Int) + 1) = ((i + 1 : Nat) : Int) := by rw [show (i : Int) + 1 = ((i + 1 : Nat) : Int) by omega]; exact wr_i64 (by omega) (by omega)
      have hne : l1[i] ≠ l2[i] → ¬ l1 = l2 := fun hd e => hd (by simp only [e])
      have hq2 : l1[i] = l2[i] → ∀ j (h1 : j < l1.length) (h2 : j < l2.length), j < i + 1 → l1[j] = l2[j] := fun he j a b hj => by
        by_cases q : j = i
        · subst q; exact he
        · exact hq j a b (by omega)
      skip
      generalize l1[i] = x at *
      generalize l2[i] = y at *
      simp only [Ky.cells] at p3 q3
      have heq := Ky.eqs x y
      by_cases he : x = y
      · simp (disch := omega) only [kB, kcx, kdm, kdn, kel, aop, resultsL, resultOf, Nat.reduceEqDiff, reduceCtorEq, eq1, apartOK, apart2, AObj.live, Int.reduceEq, Int.reduceLT, Int.reduceLE, Int.reduceAdd, Int.reduceSub, Int.reduceMul, Int.reduceToNat, cutCells, Nat.reduceAdd, Nat.reduceLeDiff, Nat.reduceLT, Nat.reduceMul, Nat.reduceSub, c1, c2, p2, q2, p3, p4, q3, q4, heq, decide_eq_true he, w2]
        exact ⟨l1.length - (i + 1), by omega, i + 1, by omega, rfl, rfl, hq2 he, by exact ex_env rfl⟩
      · rw [decide_eq_false (hne he)] at h
        simp (disch := omega) only [kB, kcx, kdm, kdn, kel, aop, resultsL, resultOf, Nat.reduceEqDiff, reduceCtorEq, eq1, apartOK, apart2, AObj.live, Int.reduceEq, Int.reduceLT, Int.reduceLE, Int.reduceAdd, Int.reduceSub, Int.reduceMul, Int.reduceToNat, cutCells, Nat.reduceAdd, Nat.reduceLeDiff, Nat.reduceLT, Nat.reduceMul, Nat.reduceSub, c1, c2, p2, q2, p3, p4, q3, q4, heq, decide_eq_false he, w2]
        exact h
    · have c1 : ¬ (i : Int) < (l1.length : Int) := by omega
      have he : l1 = l2 := List.ext_getElem hn fun j a b => hq j a b (by omega)
      rw [decide_eq_true he] at h
      simp (disch := omega) only [kB, kcx, kdm, kdn, kel, aop, resultsL, resultOf, Nat.reduceEqDiff, reduceCtorEq, eq1, apartOK, apart2, AObj.live, Int.reduceEq, Int.reduceLT, Int.reduceLE, Int.reduceAdd, Int.reduceSub, Int.reduceMul, Int.reduceToNat, cutCells, Nat.reduceAdd, Nat.reduceLeDiff, Nat.reduceLT, Nat.reduceMul, Nat.reduceSub, c1]
      exact h
  · have c0 : ¬ (l1.length : Int) = (l2.length : Int) := by omega
    rw [decide_eq_false (fun e => hn (by rw [e]))] at h
    simp (disch := omega) only [kB, kcx, kdm, kdn, kel, aop, resultsL, resultOf, Nat.reduceEqDiff, reduceCtorEq, eq1, apartOK, apart2, AObj.live, Int.reduceEq, Int.reduceLT, Int.reduceLE, Int.reduceAdd, Int.reduceSub, Int.reduceMul, Int.reduceToNat, cutCells, Nat.reduceAdd, Nat.reduceLeDiff, Nat.reduceLT, Nat.reduceMul, Nat.reduceSub, c0]
    exact h

def equTI (K : Heap) (v1 v2 : Value) (l1 l2 : List (List UInt8)) : Nat → Env → Heap → Prop := fun z e K' =>
  ∃ i : Nat, i ≤ l1.length ∧ z = l1.length - i ∧ K' = K ∧ (∀ j (h1 : j < l1.length) (h2 : j < l2.length), j < i → l1[j] = l2[j]) ∧ (∃ x : Nat → Value, e = [v1, v2, x 2, x 3, x 4, x 5, x 6, x 7, x 8, x 9, x 10, x 11, .int .i64 (l1.length : Int), .int .i64 (i : Int), x 14, x 15, x 16, x 17, x 18, x 19, x 20, x 21, x 22, x 23, x 24, x 25])

theorem equT_s {v1 v2 : Value} {l1 l2 : List (List UInt8)} (h1 : RoSl K v1 (l1.map txC)) (n1 : few 16 l1.length) (h2 : RoSl K v2 (l2.map txC)) (h : R (.ret (.bool (decide (l1 = l2)))) K) : WD T 150 [v1, v2] K R := by
  unfold few at n1
  obtain ⟨ad1, rfl⟩ := h1.sl
  obtain ⟨ad2, rfl⟩ := h2.sl
  rw [List.length_map] at h1 h2 ⊢
  rw [List.length_map]
  refine WD.of follows t150 (by simp) ?_
  by_cases hn : l1.length = l2.length
  · have c0 : decide ((l1.length : Int) = (l2.length : Int)) = true := decide_eq_true (by omega)
    simp (disch := omega) only [kB, kcx, kdm, kdn, kel, aop, resultsL, resultOf, Nat.reduceEqDiff, reduceCtorEq, eq1, apartOK, apart2, AObj.live, Int.reduceEq, Int.reduceLT, Int.reduceLE, Int.reduceAdd, Int.reduceSub, Int.reduceMul, Int.reduceToNat, cutCells, Nat.reduceAdd, Nat.reduceLeDiff, Nat.reduceLT, Nat.reduceMul, Nat.reduceSub, c0]
    refine WLoop.inv (equTI K (.slice ad1 l1.length l1.length) (.slice ad2 l2.length l2.length) l1 l2) ?_ l1.length _ _ ⟨0, Nat.zero_le _, by omega, rfl, fun j _ _ h0 => by omega, by exact ex_env rfl⟩
    rintro z e K' ⟨i, hi, rfl, rfl, hq, ⟨x, rfl⟩⟩
    by_cases hlt : i < l1.length
    · have c1 : (i : Int) < (l1.length : Int) := by omega
      have c2 : (i : Int) < (l2.length : Int) := by omega
      obtain ⟨b, u0, w0, rfl, p1, p2, p3, p4, p5⟩ := h1.at (u := 1) txC_len hlt
      obtain ⟨b2, u2, w2', rfl, q1, q2, q3, q4, q5⟩ := h2.at (u := 1) txC_len (show i < l2.length by omega)
      have w2 : IntKind.i64.wrap ((i : Int) + 1) = ((i + 1 : Nat) : Int) := by rw [show (i : Int) + 1 = ((i + 1 : Nat) : Int) by omega]; exact wr_i64 (by omega) (by omega)
      have hne : l1[i] ≠ l2[i] → ¬ l1 = l2 := fun hd e => hd (by simp only [e])
      have hq2 : l1[i] = l2[i] → ∀ j (h1 : j < l1.length) (h2 : j < l2.length), j < i + 1 → l1[j] = l2[j] := fun he j a b hj => by
        by_cases q : j = i
        · subst q; exact he
        · exact hq j a b (by omega)
      have p6 := p5 0 (by decide)
      have q6 := q5 0 (by decide)
      generalize l1[i] = x at *
      generalize l2[i] = y at *
      simp only [txC, List.getElem?_cons_zero, Nat.mul_one, Nat.add_zero] at p6 q6
      by_cases he : x = y
      · simp (disch := omega) only [kB, kcx, kdm, kdn, kel, aop, resultsL, resultOf, Nat.reduceEqDiff, reduceCtorEq, eq1, apartOK, apart2, AObj.live, Int.reduceEq, Int.reduceLT, Int.reduceLE, Int.reduceAdd, Int.reduceSub, Int.reduceMul, Int.reduceToNat, cutCells, Nat.reduceAdd, Nat.reduceLeDiff, Nat.reduceLT, Nat.reduceMul, Nat.reduceSub, c1, c2, p2, q2, p6, q6, decide_eq_true he, w2]
        exact ⟨l1.length - (i + 1), by omega, i + 1, by omega, rfl, rfl, hq2 he, by exact ex_env rfl⟩
      · rw [decide_eq_false (hne he)] at h
        simp (disch := omega) only [kB, kcx, kdm, kdn, kel, aop, resultsL, resultOf, Nat.reduceEqDiff, reduceCtorEq, eq1, apartOK, apart2, AObj.live, Int.reduceEq, Int.reduceLT, Int.reduceLE, Int.reduceAdd, Int.reduceSub, Int.reduceMul, Int.reduceToNat, cutCells, Nat.reduceAdd, Nat.reduceLeDiff, Nat.reduceLT, Nat.reduceMul, Nat.reduceSub, c1, c2, p2, q2, p6, q6, decide_eq_false he, w2]
        exact h
    · have c1 : ¬ (i : Int) < (l1.length : Int) := by omega
      have he : l1 = l2 := List.ext_getElem hn fun j a b => hq j a b (by omega)
      rw [decide_eq_true he] at h
      simp (disch := omega) only [kB, kcx, kdm, kdn, kel, aop, resultsL, resultOf, Nat.reduceEqDiff, reduceCtorEq, eq1, apartOK, apart2, AObj.live, Int.reduceEq, Int.reduceLT, Int.reduceLE, Int.reduceAdd, Int.reduceSub, Int.reduceMul, Int.reduceToNat, cutCells, Nat.reduceAdd, Nat.reduceLeDiff, Nat.reduceLT, Nat.reduceMul, Nat.reduceSub, c1]
      exact h
  · have c0 : ¬ (l1.length : Int) = (l2.length : Int) := by omega
    rw [decide_eq_false (fun e => hn (by rw [e]))] at h
    simp (disch := omega) only [kB, kcx, kdm, kdn, kel, aop, resultsL, resultOf, Nat.reduceEqDiff, reduceCtorEq, eq1, apartOK, apart2, AObj.live, Int.reduceEq, Int.reduceLT, Int.reduceLE, Int.reduceAdd, Int.reduceSub, Int.reduceMul, Int.reduceToNat, cutCells, Nat.reduceAdd, Nat.reduceLeDiff, Nat.reduceLT, Nat.reduceMul, Nat.reduceSub, c0]
    exact h

def equBI (K : Heap) (v1 v2 : Value) (l1 l2 : List (Bt)) : Nat → Env → Heap → Prop := fun z e K' =>
  ∃ i : Nat, i ≤ l1.length ∧ z = l1.length - i ∧ K' = K ∧ (∀ j (h1 : j < l1.length) (h2 : j < l2.length), j < i → l1[j] = l2[j]) ∧ (∃ x : Nat → Value, e = [v1, v2, x 2, x 3, x 4, x 5, x 6, x 7, x 8, x 9, x 10, x 11, .int .i64 (l1.length : Int), .int .i64 (i : Int), x 14, x 15, x 16, x 17, x 18, x 19, x 20, x 21, x 22, x 23, x 24, x 25])

theorem equB_s {v1 v2 : Value} {l1 l2 : List (Bt)} (h1 : RoSl K v1 (l1.map Bt.cells)) (n1 : few 16 l1.length) (h2 : RoSl K v2 (l2.map Bt.cells)) (h : R (.ret (.bool (decide (l1 = l2)))) K) : WD T 151 [v1, v2] K R := by
  unfold few at n1
  obtain ⟨ad1, rfl⟩ := h1.sl
  obtain ⟨ad2, rfl⟩ := h2.sl
  rw [List.length_map] at h1 h2 ⊢
  rw [List.length_map]
  refine WD.of follows t151 (by simp) ?_
  by_cases hn : l1.length = l2.length
  · have c0 : decide ((l1.length : Int) = (l2.length : Int)) = true := decide_eq_true (by omega)
    simp (disch := omega) only [kB, kcx, kdm, kdn, kel, aop, resultsL, resultOf, Nat.reduceEqDiff, reduceCtorEq, eq1, apartOK, apart2, AObj.live, Int.reduceEq, Int.reduceLT, Int.reduceLE, Int.reduceAdd, Int.reduceSub, Int.reduceMul, Int.reduceToNat, cutCells, Nat.reduceAdd, Nat.reduceLeDiff, Nat.reduceLT, Nat.reduceMul, Nat.reduceSub, c0]
    refine WLoop.inv (equBI K (.slice ad1 l1.length l1.length) (.slice ad2 l2.length l2.length) l1 l2) ?_ l1.length _ _ ⟨0, Nat.zero_le _, by omega, rfl, fun j _ _ h0 => by omega, by exact ex_env rfl⟩
    rintro z e K' ⟨i, hi, rfl, rfl, hq, ⟨x, rfl⟩⟩
    by_cases hlt : i < l1.length
    · have c1 : (i : Int) < (l1.length : Int) := by omega
      have c2 : (i : Int) < (l2.length : Int) := by omega
      obtain ⟨b, u0, w0, rfl, p1, p2, p3, p4, p5⟩ := h1.at (u := 2) Bt.len hlt
      obtain ⟨b2, u2, w2', rfl, q1, q2, q3, q4, q5⟩ := h2.at (u := 2) Bt.len (show i < l2.length by omega)
      have w2 : IntKind.i64.wrap ((i : Int) + 1) = ((i + 1 : Nat) : Int) := by rw [show (i : Int) + 1 = ((i + 1 : Nat) : Int) by omega]; exact wr_i64 (by omega) (by omega)
      have hne : l1[i] ≠ l2[i] → ¬ l1 = l2 := fun hd e => hd (by simp only [e])
      have hq2 : l1[i] = l2[i] → ∀ j (h1 : j < l1.length) (h2 : j < l2.length), j < i + 1 → l1[j] = l2[j] := fun he j a b hj => by
        by_cases q : j = i
        · subst q; exact he
        · exact hq j a b (by omega)
      skip
      generalize l1[i] = x at *
      generalize l2[i] = y at *
      simp only [Bt.cells] at p3 q3
      have heq := Bt.eqs x y
      by_cases he : x = y
      · simp (disch := omega) only [kB, kcx, kdm, kdn, kel, aop, resultsL, resultOf, Nat.reduceEqDiff, reduceCtorEq, eq1, apartOK, apart2, AObj.live, Int.reduceEq, Int.reduceLT, Int.reduceLE, Int.reduceAdd, Int.reduceSub, Int.reduceMul, Int.reduceToNat, cutCells, Nat.reduceAdd, Nat.reduceLeDiff, Nat.reduceLT, Nat.reduceMul, Nat.reduceSub, c1, c2, p2, q2, p3, p4, q3, q4, heq, decide_eq_true he, w2]
        exact ⟨l1.length - (i + 1), by omega, i + 1, by omega, rfl, rfl, hq2 he, by exact ex_env rfl⟩
      · rw [decide_eq_false (hne he)] at h
        simp (disch := omega) only [kB, kcx, kdm, kdn, kel, aop, resultsL, resultOf, Nat.reduceEqDiff, reduceCtorEq, eq1, apartOK, apart2, AObj.live, Int.reduceEq, Int.reduceLT, Int.reduceLE, Int.reduceAdd, Int.reduceSub, Int.reduceMul, Int.reduceToNat, cutCells, Nat.reduceAdd, Nat.reduceLeDiff, Nat.reduceLT, Nat.reduceMul, Nat.reduceSub, c1, c2, p2, q2, p3, p4, q3, q4, heq, decide_eq_false he, w2]
        exact h
    · have c1 : ¬ (i : Int) < (l1.length : Int) := by omega
      have he : l1 = l2 := List.ext_getElem hn fun j a b => hq j a b (by omega)
      rw [decide_eq_true he] at h
      simp (disch := omega) only [kB, kcx, kdm, kdn, kel, aop, resultsL, resultOf, Nat.reduceEqDiff, reduceCtorEq, eq1, apartOK, apart2, AObj.live, Int.reduceEq, Int.reduceLT, Int.reduceLE, Int.reduceAdd, Int.reduceSub, Int.reduceMul, Int.reduceToNat, cutCells, Nat.reduceAdd, Nat.reduceLeDiff, Nat.reduceLT, Nat.reduceMul, Nat.reduceSub, c1]
      exact h
  · have c0 : ¬ (l1.length : Int) = (l2.length : Int) := by omega
    rw [decide_eq_false (fun e => hn (by rw [e]))] at h
    simp (disch := omega) only [kB, kcx, kdm, kdn, kel, aop, resultsL, resultOf, Nat.reduceEqDiff, reduceCtorEq, eq1, apartOK, apart2, AObj.live, Int.reduceEq, Int.reduceLT, Int.reduceLE, Int.reduceAdd, Int.reduceSub, Int.reduceMul, Int.reduceToNat, cutCells, Nat.reduceAdd, Nat.reduceLeDiff, Nat.reduceLT, Nat.reduceMul, Nat.reduceSub, c0]
    exact h

theorem same1_s {x y : Hdr} (hx : x.OK K) (hy : y.OK K) (h : R (.ret (.bool (x.eqv y))) K) : WD T 85 [.agg x.cells.toArray, .agg y.cells.toArray] K R := by
  refine WD.gc0 (WD.of follows t85 (by simp) ?_)
  have o1 := hx.one
  have o2 := hy.one
  simp only [Hdr.cells]
  by_cases c1 : x.name = y.name
  · simp (disch := omega) only [kB, kcx, kdm, kdn, kel, aop, resultsL, resultOf, Nat.reduceEqDiff, reduceCtorEq, eq1, apartOK, apart2, AObj.live, Int.reduceEq, Int.reduceLT, Int.reduceLE, Int.reduceAdd, Int.reduceSub, Int.reduceMul, Int.reduceToNat, cutCells, Nat.reduceAdd, Nat.reduceLeDiff, Nat.reduceLT, Nat.reduceMul, Nat.reduceSub, o1, o2, decide_eq_true c1]
    refine equF_s (hx.1.base (Base.app0 _)) hx.2.1 (hy.1.base (Base.app0 _)) ?_
    have e : x.eqv y = decide (x.fields = y.fields) := by simp [Hdr.eqv, c1]
    rw [e] at h
    simp (disch := omega) only [kB, kcx, kdm, kdn, kel, aop, resultsL, resultOf, Nat.reduceEqDiff, reduceCtorEq, eq1, apartOK, apart2, AObj.live, Int.reduceEq, Int.reduceLT, Int.reduceLE, Int.reduceAdd, Int.reduceSub, Int.reduceMul, Int.reduceToNat, cutCells, Nat.reduceAdd, Nat.reduceLeDiff, Nat.reduceLT, Nat.reduceMul, Nat.reduceSub]
    exact ⟨_, rfl, ⟨_, rfl⟩, .bool, h⟩
  · have e : x.eqv y = false := by simp [Hdr.eqv, c1]
    rw [e] at h
    simp (disch := omega) only [kB, kcx, kdm, kdn, kel, aop, resultsL, resultOf, Nat.reduceEqDiff, reduceCtorEq, eq1, apartOK, apart2, AObj.live, Int.reduceEq, Int.reduceLT, Int.reduceLE, Int.reduceAdd, Int.reduceSub, Int.reduceMul, Int.reduceToNat, cutCells, Nat.reduceAdd, Nat.reduceLeDiff, Nat.reduceLT, Nat.reduceMul, Nat.reduceSub, o1, o2, decide_eq_false c1]
    exact ⟨_, rfl, ⟨_, rfl⟩, .bool, h⟩

theorem same2_s {x y : Sta} (hx : x.OK K) (hy : y.OK K) (h : R (.ret (.bool (x.eqv y))) K) : WD T 87 [.agg x.cells.toArray, .agg y.cells.toArray] K R := by
  refine WD.gc0 (WD.of follows t87 (by simp) ?_)
  have o1 := hx.one
  have o2 := hy.one
  have heq := Rf.eqs x.on y.on
  simp only [Sta.cells]
  by_cases c1 : x.name = y.name
  · by_cases c2 : x.header = y.header
    · by_cases c3 : x.on = y.on
      · by_cases c4 : x.next = y.next
        · simp (disch := omega) only [kB, kcx, kdm, kdn, kel, aop, resultsL, resultOf, Nat.reduceEqDiff, reduceCtorEq, eq1, apartOK, apart2, AObj.live, Int.reduceEq, Int.reduceLT, Int.reduceLE, Int.reduceAdd, Int.reduceSub, Int.reduceMul, Int.reduceToNat, cutCells, Nat.reduceAdd, Nat.reduceLeDiff, Nat.reduceLT, Nat.reduceMul, Nat.reduceSub, o1, o2, decide_eq_true c1, decide_eq_true c2, heq, decide_eq_true c3, decide_eq_true c4]
          refine equC_s (hx.1.base (Base.app0 _)) hx.2.1 (hy.1.base (Base.app0 _)) ?_
          have e : x.eqv y = decide (x.cases = y.cases) := by simp [Sta.eqv, c1, c2, c3, c4]
          rw [e] at h
          simp (disch := omega) only [kB, kcx, kdm, kdn, kel, aop, resultsL, resultOf, Nat.reduceEqDiff, reduceCtorEq, eq1, apartOK, apart2, AObj.live, Int.reduceEq, Int.reduceLT, Int.reduceLE, Int.reduceAdd, Int.reduceSub, Int.reduceMul, Int.reduceToNat, cutCells, Nat.reduceAdd, Nat.reduceLeDiff, Nat.reduceLT, Nat.reduceMul, Nat.reduceSub]
          exact ⟨_, rfl, ⟨_, rfl⟩, .bool, h⟩
        · have e : x.eqv y = false := by simp [Sta.eqv, c4]
          rw [e] at h
          simp (disch := omega) only [kB, kcx, kdm, kdn, kel, aop, resultsL, resultOf, Nat.reduceEqDiff, reduceCtorEq, eq1, apartOK, apart2, AObj.live, Int.reduceEq, Int.reduceLT, Int.reduceLE, Int.reduceAdd, Int.reduceSub, Int.reduceMul, Int.reduceToNat, cutCells, Nat.reduceAdd, Nat.reduceLeDiff, Nat.reduceLT, Nat.reduceMul, Nat.reduceSub, o1, o2, decide_eq_true c1, decide_eq_true c2, heq, decide_eq_true c3, decide_eq_false c4]
          exact ⟨_, rfl, ⟨_, rfl⟩, .bool, h⟩
      · have e : x.eqv y = false := by simp [Sta.eqv, c3]
        rw [e] at h
        simp (disch := omega) only [kB, kcx, kdm, kdn, kel, aop, resultsL, resultOf, Nat.reduceEqDiff, reduceCtorEq, eq1, apartOK, apart2, AObj.live, Int.reduceEq, Int.reduceLT, Int.reduceLE, Int.reduceAdd, Int.reduceSub, Int.reduceMul, Int.reduceToNat, cutCells, Nat.reduceAdd, Nat.reduceLeDiff, Nat.reduceLT, Nat.reduceMul, Nat.reduceSub, o1, o2, decide_eq_true c1, decide_eq_true c2, heq, decide_eq_false c3]
        exact ⟨_, rfl, ⟨_, rfl⟩, .bool, h⟩
    · have e : x.eqv y = false := by simp [Sta.eqv, c2]
      rw [e] at h
      simp (disch := omega) only [kB, kcx, kdm, kdn, kel, aop, resultsL, resultOf, Nat.reduceEqDiff, reduceCtorEq, eq1, apartOK, apart2, AObj.live, Int.reduceEq, Int.reduceLT, Int.reduceLE, Int.reduceAdd, Int.reduceSub, Int.reduceMul, Int.reduceToNat, cutCells, Nat.reduceAdd, Nat.reduceLeDiff, Nat.reduceLT, Nat.reduceMul, Nat.reduceSub, o1, o2, decide_eq_true c1, decide_eq_false c2]
      exact ⟨_, rfl, ⟨_, rfl⟩, .bool, h⟩
  · have e : x.eqv y = false := by simp [Sta.eqv, c1]
    rw [e] at h
    simp (disch := omega) only [kB, kcx, kdm, kdn, kel, aop, resultsL, resultOf, Nat.reduceEqDiff, reduceCtorEq, eq1, apartOK, apart2, AObj.live, Int.reduceEq, Int.reduceLT, Int.reduceLE, Int.reduceAdd, Int.reduceSub, Int.reduceMul, Int.reduceToNat, cutCells, Nat.reduceAdd, Nat.reduceLeDiff, Nat.reduceLT, Nat.reduceMul, Nat.reduceSub, o1, o2, decide_eq_false c1]
    exact ⟨_, rfl, ⟨_, rfl⟩, .bool, h⟩

theorem same3_s {x y : Act} (hx : x.OK K) (hy : y.OK K) (h : R (.ret (.bool (x.eqv y))) K) : WD T 90 [.agg x.cells.toArray, .agg y.cells.toArray] K R := by
  refine WD.gc0 (WD.of follows t90 (by simp) ?_)
  obtain ⟨o1, o1'⟩ := hx.one
  obtain ⟨o2, o2'⟩ := hy.one
  simp only [Act.cells]
  by_cases c1 : x.name = y.name
  · simp (disch := omega) only [kB, kcx, kdm, kdn, kel, aop, resultsL, resultOf, Nat.reduceEqDiff, reduceCtorEq, eq1, apartOK, apart2, AObj.live, Int.reduceEq, Int.reduceLT, Int.reduceLE, Int.reduceAdd, Int.reduceSub, Int.reduceMul, Int.reduceToNat, cutCells, Nat.reduceAdd, Nat.reduceLeDiff, Nat.reduceLT, Nat.reduceMul, Nat.reduceSub, o1, o2, o1', o2', decide_eq_true c1]
    refine equF_s (hx.1.1.base (Base.app0 _)) hx.1.2.1 (hy.1.1.base (Base.app0 _)) ?_
    by_cases c2 : x.params = y.params
    · rw [decide_eq_true c2]
      simp (disch := omega) only [kB, kcx, kdm, kdn, kel, aop, resultsL, resultOf, Nat.reduceEqDiff, reduceCtorEq, eq1, apartOK, apart2, AObj.live, Int.reduceEq, Int.reduceLT, Int.reduceLE, Int.reduceAdd, Int.reduceSub, Int.reduceMul, Int.reduceToNat, cutCells, Nat.reduceAdd, Nat.reduceLeDiff, Nat.reduceLT, Nat.reduceMul, Nat.reduceSub]
      refine equS_s (hx.2.1.base (Base.app0 _)) hx.2.2.1 (hy.2.1.base (Base.app0 _)) ?_
      have e : x.eqv y = decide (x.steps = y.steps) := by simp [Act.eqv, c1, c2]
      rw [e] at h
      simp (disch := omega) only [kB, kcx, kdm, kdn, kel, aop, resultsL, resultOf, Nat.reduceEqDiff, reduceCtorEq, eq1, apartOK, apart2, AObj.live, Int.reduceEq, Int.reduceLT, Int.reduceLE, Int.reduceAdd, Int.reduceSub, Int.reduceMul, Int.reduceToNat, cutCells, Nat.reduceAdd, Nat.reduceLeDiff, Nat.reduceLT, Nat.reduceMul, Nat.reduceSub]
      exact ⟨_, rfl, ⟨_, rfl⟩, .bool, h⟩
    · have e : x.eqv y = false := by simp [Act.eqv, c2]
      rw [e] at h
      rw [decide_eq_false c2]
      simp (disch := omega) only [kB, kcx, kdm, kdn, kel, aop, resultsL, resultOf, Nat.reduceEqDiff, reduceCtorEq, eq1, apartOK, apart2, AObj.live, Int.reduceEq, Int.reduceLT, Int.reduceLE, Int.reduceAdd, Int.reduceSub, Int.reduceMul, Int.reduceToNat, cutCells, Nat.reduceAdd, Nat.reduceLeDiff, Nat.reduceLT, Nat.reduceMul, Nat.reduceSub]
      exact ⟨_, rfl, ⟨_, rfl⟩, .bool, h⟩
  · have e : x.eqv y = false := by simp [Act.eqv, c1]
    rw [e] at h
    simp (disch := omega) only [kB, kcx, kdm, kdn, kel, aop, resultsL, resultOf, Nat.reduceEqDiff, reduceCtorEq, eq1, apartOK, apart2, AObj.live, Int.reduceEq, Int.reduceLT, Int.reduceLE, Int.reduceAdd, Int.reduceSub, Int.reduceMul, Int.reduceToNat, cutCells, Nat.reduceAdd, Nat.reduceLeDiff, Nat.reduceLT, Nat.reduceMul, Nat.reduceSub, o1, o2, o1', o2', decide_eq_false c1]
    exact ⟨_, rfl, ⟨_, rfl⟩, .bool, h⟩

theorem b_self (b : Bool) : (b == b) = true := beq_self_eq_true b
theorem b_self2 (b : Bool) : (b != b) = false := by simp
theorem same4_s {x y : Tbl} (hx : x.OK K) (hy : y.OK K) (h : R (.ret (.bool (x.eqv y))) K) : WD T 93 [.agg x.cells.toArray, .agg y.cells.toArray] K R := by
  refine WD.gc0 (WD.of follows t93 (by simp) ?_)
  obtain ⟨o1, o2, o3⟩ := hx.one
  obtain ⟨o4, o5, o6⟩ := hy.one
  simp only [Tbl.cells]
  by_cases c1 : x.name = y.name
  · by_cases c2 : x.size = y.size
    · by_cases c3 : x.fixed = y.fixed
      · by_cases c4 : x.dact = y.dact
        · simp (disch := omega) only [kB, kcx, kdm, kdn, kel, aop, resultsL, resultOf, Nat.reduceEqDiff, reduceCtorEq, eq1, apartOK, apart2, AObj.live, Int.reduceEq, Int.reduceLT, Int.reduceLE, Int.reduceAdd, Int.reduceSub, Int.reduceMul, Int.reduceToNat, cutCells, Nat.reduceAdd, Nat.reduceLeDiff, Nat.reduceLT, Nat.reduceMul, Nat.reduceSub, o1, o2, o3, o4, o5, o6, decide_eq_true c1, c2, c3, b_self, b_self2, decide_eq_true c4]
          refine equK_s (hx.1.1.base (Base.app0 _)) hx.1.2.1 (hy.1.1.base (Base.app0 _)) ?_
          by_cases c5 : x.keys = y.keys
          · rw [decide_eq_true c5]
            simp (disch := omega) only [kB, kcx, kdm, kdn, kel, aop, resultsL, resultOf, Nat.reduceEqDiff, reduceCtorEq, eq1, apartOK, apart2, AObj.live, Int.reduceEq, Int.reduceLT, Int.reduceLE, Int.reduceAdd, Int.reduceSub, Int.reduceMul, Int.reduceToNat, cutCells, Nat.reduceAdd, Nat.reduceLeDiff, Nat.reduceLT, Nat.reduceMul, Nat.reduceSub]
            refine equT_s (hx.2.1.1.base (Base.app0 _)) hx.2.1.2 (hy.2.1.1.base (Base.app0 _)) ?_
            by_cases c6 : x.actions = y.actions
            · rw [decide_eq_true c6]
              simp (disch := omega) only [kB, kcx, kdm, kdn, kel, aop, resultsL, resultOf, Nat.reduceEqDiff, reduceCtorEq, eq1, apartOK, apart2, AObj.live, Int.reduceEq, Int.reduceLT, Int.reduceLE, Int.reduceAdd, Int.reduceSub, Int.reduceMul, Int.reduceToNat, cutCells, Nat.reduceAdd, Nat.reduceLeDiff, Nat.reduceLT, Nat.reduceMul, Nat.reduceSub]
              refine equB_s (hx.2.2.2.1.base (Base.app0 _)) hx.2.2.2.2.1 (hy.2.2.2.1.base (Base.app0 _)) ?_
              have e : x.eqv y = decide (x.dargs = y.dargs) := by simp [Tbl.eqv, c1, c2, c3, c4, c5, c6]
              rw [e] at h
              simp (disch := omega) only [kB, kcx, kdm, kdn, kel, aop, resultsL, resultOf, Nat.reduceEqDiff, reduceCtorEq, eq1, apartOK, apart2, AObj.live, Int.reduceEq, Int.reduceLT, Int.reduceLE, Int.reduceAdd, Int.reduceSub, Int.reduceMul, Int.reduceToNat, cutCells, Nat.reduceAdd, Nat.reduceLeDiff, Nat.reduceLT, Nat.reduceMul, Nat.reduceSub]
              exact ⟨_, rfl, ⟨_, rfl⟩, .bool, h⟩
            · have e : x.eqv y = false := by simp [Tbl.eqv, c6]
              rw [e] at h
              rw [decide_eq_false c6]
              simp (disch := omega) only [kB, kcx, kdm, kdn, kel, aop, resultsL, resultOf, Nat.reduceEqDiff, reduceCtorEq, eq1, apartOK, apart2, AObj.live, Int.reduceEq, Int.reduceLT, Int.reduceLE, Int.reduceAdd, Int.reduceSub, Int.reduceMul, Int.reduceToNat, cutCells, Nat.reduceAdd, Nat.reduceLeDiff, Nat.reduceLT, Nat.reduceMul, Nat.reduceSub]
              exact ⟨_, rfl, ⟨_, rfl⟩, .bool, h⟩
          · have e : x.eqv y = false := by simp [Tbl.eqv, c5]
            rw [e] at h
            rw [decide_eq_false c5]
            simp (disch := omega) only [kB, kcx, kdm, kdn, kel, aop, resultsL, resultOf, Nat.reduceEqDiff, reduceCtorEq, eq1, apartOK, apart2, AObj.live, Int.reduceEq, Int.reduceLT, Int.reduceLE, Int.reduceAdd, Int.reduceSub, Int.reduceMul, Int.reduceToNat, cutCells, Nat.reduceAdd, Nat.reduceLeDiff, Nat.reduceLT, Nat.reduceMul, Nat.reduceSub]
            exact ⟨_, rfl, ⟨_, rfl⟩, .bool, h⟩
        · have e : x.eqv y = false := by simp [Tbl.eqv, c4]
          rw [e] at h
          simp (disch := omega) only [kB, kcx, kdm, kdn, kel, aop, resultsL, resultOf, Nat.reduceEqDiff, reduceCtorEq, eq1, apartOK, apart2, AObj.live, Int.reduceEq, Int.reduceLT, Int.reduceLE, Int.reduceAdd, Int.reduceSub, Int.reduceMul, Int.reduceToNat, cutCells, Nat.reduceAdd, Nat.reduceLeDiff, Nat.reduceLT, Nat.reduceMul, Nat.reduceSub, o1, o2, o3, o4, o5, o6, decide_eq_true c1, c2, c3, b_self, b_self2, decide_eq_false c4]
          exact ⟨_, rfl, ⟨_, rfl⟩, .bool, h⟩
      · have e : x.eqv y = false := by simp [Tbl.eqv, c3]
        have e2 : (x.fixed == y.fixed) = false := by simpa using c3
        rw [e] at h
        simp (disch := omega) only [kB, kcx, kdm, kdn, kel, aop, resultsL, resultOf, Nat.reduceEqDiff, reduceCtorEq, eq1, apartOK, apart2, AObj.live, Int.reduceEq, Int.reduceLT, Int.reduceLE, Int.reduceAdd, Int.reduceSub, Int.reduceMul, Int.reduceToNat, cutCells, Nat.reduceAdd, Nat.reduceLeDiff, Nat.reduceLT, Nat.reduceMul, Nat.reduceSub, o1, o2, o3, o4, o5, o6, decide_eq_true c1, c2, e2]
        exact ⟨_, rfl, ⟨_, rfl⟩, .bool, h⟩
    · have e : x.eqv y = false := by simp [Tbl.eqv, c2]
      rw [e] at h
      simp (disch := omega) only [kB, kcx, kdm, kdn, kel, aop, resultsL, resultOf, Nat.reduceEqDiff, reduceCtorEq, eq1, apartOK, apart2, AObj.live, Int.reduceEq, Int.reduceLT, Int.reduceLE, Int.reduceAdd, Int.reduceSub, Int.reduceMul, Int.reduceToNat, cutCells, Nat.reduceAdd, Nat.reduceLeDiff, Nat.reduceLT, Nat.reduceMul, Nat.reduceSub, o1, o2, o3, o4, o5, o6, decide_eq_true c1, c2]
      exact ⟨_, rfl, ⟨_, rfl⟩, .bool, h⟩
  · have e : x.eqv y = false := by simp [Tbl.eqv, c1]
    rw [e] at h
    simp (disch := omega) only [kB, kcx, kdm, kdn, kel, aop, resultsL, resultOf, Nat.reduceEqDiff, reduceCtorEq, eq1, apartOK, apart2, AObj.live, Int.reduceEq, Int.reduceLT, Int.reduceLE, Int.reduceAdd, Int.reduceSub, Int.reduceMul, Int.reduceToNat, cutCells, Nat.reduceAdd, Nat.reduceLeDiff, Nat.reduceLT, Nat.reduceMul, Nat.reduceSub, o1, o2, o3, o4, o5, o6, decide_eq_false c1]
    exact ⟨_, rfl, ⟨_, rfl⟩, .bool, h⟩

end Go.Proofs.YtpllhhaeclnngaaGreat.Ev
