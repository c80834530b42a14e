/- Parts of the proof: EvTab2, EvTab3, EvTab, S0, Y1, Y2, Y3, Y4, Y5, Y6, Y7. Conditions: none. -/
import Derived.Test.YtpllhhaeclnngaaGreatFin2
import Derived.Test.YtpllhhaeclnngaaGreatProg
/- The functions of the program in the evaluator's form, as its own look-up lays them (part 2). Conditions: none; these are definitions. -/
namespace Go.Proofs.YtpllhhaeclnngaaGreat.Ev
set_option maxRecDepth 100000
def g83 : AFunc := (.code 26 (.seq (.ops [⟨(some 4), (.mov (.const (.bool false))), none, []⟩]) (.seq (.seq (.ops [⟨(some 6), (.mov (.tmp 0)), none, []⟩, ⟨(some 7), (.lenSl (.tmp 6)), none, []⟩, ⟨(some 8), (.mov (.tmp 1)), none, []⟩, ⟨(some 9), (.lenSl (.tmp 8)), none, []⟩, ⟨(some 10), (.bin .neq (.tmp 7) (.tmp 9)), none, []⟩]) (.cond (.tmp 10) (.seq (.ops [⟨(some 4), (.mov (.const (.bool false))), none, []⟩]) .ret) .skip)) (.seq (.seq (.ops [⟨(some 11), (.mov (.tmp 0)), none, []⟩, ⟨(some 12), (.lenSl (.tmp 11)), none, []⟩, ⟨(some 13), (.mov (.const (.int .i64 0))), none, []⟩]) (.block 0 (.loop (.seq (.ops [⟨(some 14), (.bin .lss (.tmp 13) (.tmp 12)), none, []⟩]) (.seq (.cond (.tmp 14) .skip (.exit 0)) (.seq (.block 1 (.seq (.ops [⟨(some 15), (.mov (.tmp 13)), none, []⟩, ⟨(some 5), (.mov (.tmp 15)), none, []⟩]) (.seq (.ops [⟨(some 16), (.mov (.tmp 0)), none, []⟩, ⟨(some 17), (.mov (.tmp 5)), none, []⟩, ⟨(some 18), (.iAddrSl 2 (.tmp 16) (.tmp 17)), none, []⟩, ⟨(some 20), (.mov (.tmp 1)), none, []⟩, ⟨(some 21), (.mov (.tmp 5)), none, []⟩, ⟨(some 22), (.iAddrSl 2 (.tmp 20) (.tmp 21)), none, []⟩, ⟨(some 19), (.loadN 2 (.tmp 18)), none, []⟩, ⟨(some 23), (.loadN 2 (.tmp 22)), none, []⟩, ⟨(some 24), (.eqs true 2 [(0, 2), (1, 1)] (.tmp 19) (.tmp 23)), none, []⟩]) (.cond (.tmp 24) (.seq (.ops [⟨(some 4), (.mov (.const (.bool false))), none, []⟩]) .ret) .skip)))) (.ops [⟨(some 25), (.bin .add (.tmp 13) (.const (.int .i64 1))), none, []⟩, ⟨(some 13), (.mov (.tmp 25)), none, []⟩]))))))) (.seq (.ops [⟨(some 4), (.mov (.const (.bool true))), none, []⟩]) .ret)))) [(.tmp 4)])
def g84 : AFunc := (.code 32 (.seq (.ops [⟨(some 6), (.mov (.const (.bool false))), none, []⟩]) (.seq (.seq (.ops [⟨(some 10), (.mov (.tmp 0)), none, []⟩, ⟨(some 11), (.lenSl (.tmp 10)), none, []⟩, ⟨(some 12), (.mov (.tmp 1)), none, []⟩, ⟨(some 13), (.lenSl (.tmp 12)), none, []⟩, ⟨(some 14), (.bin .neq (.tmp 11) (.tmp 13)), none, []⟩]) (.cond (.tmp 14) (.seq (.ops [⟨(some 6), (.mov (.const (.bool false))), none, []⟩]) .ret) .skip)) (.seq (.seq (.ops [⟨(some 15), (.mov (.tmp 0)), none, []⟩, ⟨(some 16), (.lenSl (.tmp 15)), none, []⟩, ⟨(some 17), (.mov (.const (.int .i64 0))), none, []⟩]) (.block 0 (.loop (.seq (.ops [⟨(some 18), (.bin .lss (.tmp 17) (.tmp 16)), none, []⟩]) (.seq (.cond (.tmp 18) .skip (.exit 0)) (.seq (.block 1 (.seq (.ops [⟨(some 19), (.mov (.tmp 17)), none, []⟩, ⟨(some 20), (.iAddrSl 2 (.tmp 15) (.tmp 17)), none, []⟩, ⟨(some 21), (.loadN 2 (.tmp 20)), none, []⟩, ⟨(some 8), (.alloc [(.string (bs [])), (.slice none 0 0)]), none, []⟩, ⟨(some 7), (.mov (.tmp 19)), none, []⟩, ⟨none, (.store 2 (.tmp 8) (.tmp 21)), none, []⟩]) (.seq (.ops [⟨(some 22), (.mov (.tmp 1)), none, []⟩, ⟨(some 23), (.mov (.tmp 7)), none, []⟩, ⟨(some 24), (.iAddrSl 2 (.tmp 22) (.tmp 23)), none, []⟩, ⟨(some 25), (.loadN 2 (.tmp 24)), none, []⟩, ⟨(some 9), (.alloc [(.string (bs [])), (.slice none 0 0)]), none, []⟩, ⟨none, (.store 2 (.tmp 9) (.tmp 25)), none, []⟩]) (.seq (.ops [⟨(some 26), (.mov (.tmp 2)), none, []⟩, ⟨(some 27), (.loadN 2 (.tmp 8)), none, []⟩, ⟨(some 28), (.loadN 2 (.tmp 9)), none, []⟩, ⟨(some 29), (.callv (.tmp 26) [(.tmp 27), (.tmp 28)]), none, []⟩, ⟨(some 30), (.un .not (.tmp 29)), none, []⟩]) (.cond (.tmp 30) (.seq (.ops [⟨(some 6), (.mov (.const (.bool false))), none, []⟩]) .ret) .skip))))) (.ops [⟨(some 31), (.bin .add (.tmp 17) (.const (.int .i64 1))), none, []⟩, ⟨(some 17), (.mov (.tmp 31)), none, []⟩]))))))) (.seq (.ops [⟨(some 6), (.mov (.const (.bool true))), none, []⟩]) .ret)))) [(.tmp 6)])
def g85 : AFunc := (.code 17 (.seq (.ops [⟨(some 2), (.box (.tmp 0)), none, []⟩, ⟨(some 3), (.box (.tmp 1)), none, []⟩, ⟨(some 4), (.mov (.const (.bool false))), none, []⟩]) (.seq (.ops [⟨(some 5), (.fAddr 0 (.tmp 2)), none, []⟩, ⟨(some 6), (.load1 (.tmp 5)), none, []⟩, ⟨(some 7), (.fAddr 0 (.tmp 3)), none, []⟩, ⟨(some 8), (.load1 (.tmp 7)), none, []⟩, ⟨(some 9), (.bin .eql (.tmp 6) (.tmp 8)), none, []⟩, ⟨(some 10), (.mov (.tmp 9)), none, []⟩, ⟨(some 11), (.fAddr 1 (.tmp 2)), (some (10, true)), []⟩, ⟨(some 12), (.load1 (.tmp 11)), (some (10, true)), []⟩, ⟨(some 13), (.fAddr 1 (.tmp 3)), (some (10, true)), []⟩, ⟨(some 14), (.load1 (.tmp 13)), (some (10, true)), []⟩, ⟨(some 15), (.callv (.func 83) [(.tmp 12), (.tmp 14)]), (some (10, true)), []⟩, ⟨(some 16), (.pick (.tmp 10) (.tmp 15) (.const (.bool false))), none, []⟩, ⟨(some 4), (.mov (.tmp 16)), none, []⟩]) .ret)) [(.tmp 4)])
def g86 : AFunc := (.code 32 (.seq (.ops [⟨(some 6), (.mov (.const (.bool false))), none, []⟩]) (.seq (.seq (.ops [⟨(some 10), (.mov (.tmp 0)), none, []⟩, ⟨(some 11), (.lenSl (.tmp 10)), none, []⟩, ⟨(some 12), (.mov (.tmp 1)), none, []⟩, ⟨(some 13), (.lenSl (.tmp 12)), none, []⟩, ⟨(some 14), (.bin .neq (.tmp 11) (.tmp 13)), none, []⟩]) (.cond (.tmp 14) (.seq (.ops [⟨(some 6), (.mov (.const (.bool false))), none, []⟩]) .ret) .skip)) (.seq (.seq (.ops [⟨(some 15), (.mov (.tmp 0)), none, []⟩, ⟨(some 16), (.lenSl (.tmp 15)), none, []⟩, ⟨(some 17), (.mov (.const (.int .i64 0))), none, []⟩]) (.block 0 (.loop (.seq (.ops [⟨(some 18), (.bin .lss (.tmp 17) (.tmp 16)), none, []⟩]) (.seq (.cond (.tmp 18) .skip (.exit 0)) (.seq (.block 1 (.seq (.ops [⟨(some 19), (.mov (.tmp 17)), none, []⟩, ⟨(some 20), (.iAddrSl 6 (.tmp 15) (.tmp 17)), none, []⟩, ⟨(some 21), (.loadN 6 (.tmp 20)), none, []⟩, ⟨(some 8), (.alloc [(.string (bs [])), (.string (bs [])), (.string (bs [])), (.string (bs [])), (.slice none 0 0), (.string (bs []))]), none, []⟩, ⟨(some 7), (.mov (.tmp 19)), none, []⟩, ⟨none, (.store 6 (.tmp 8) (.tmp 21)), none, []⟩]) (.seq (.ops [⟨(some 22), (.mov (.tmp 1)), none, []⟩, ⟨(some 23), (.mov (.tmp 7)), none, []⟩, ⟨(some 24), (.iAddrSl 6 (.tmp 22) (.tmp 23)), none, []⟩, ⟨(some 25), (.loadN 6 (.tmp 24)), none, []⟩, ⟨(some 9), (.alloc [(.string (bs [])), (.string (bs [])), (.string (bs [])), (.string (bs [])), (.slice none 0 0), (.string (bs []))]), none, []⟩, ⟨none, (.store 6 (.tmp 9) (.tmp 25)), none, []⟩]) (.seq (.ops [⟨(some 26), (.mov (.tmp 2)), none, []⟩, ⟨(some 27), (.loadN 6 (.tmp 8)), none, []⟩, ⟨(some 28), (.loadN 6 (.tmp 9)), none, []⟩, ⟨(some 29), (.callv (.tmp 26) [(.tmp 27), (.tmp 28)]), none, []⟩, ⟨(some 30), (.un .not (.tmp 29)), none, []⟩]) (.cond (.tmp 30) (.seq (.ops [⟨(some 6), (.mov (.const (.bool false))), none, []⟩]) .ret) .skip))))) (.ops [⟨(some 31), (.bin .add (.tmp 17) (.const (.int .i64 1))), none, []⟩, ⟨(some 17), (.mov (.tmp 31)), none, []⟩]))))))) (.seq (.ops [⟨(some 6), (.mov (.const (.bool true))), none, []⟩]) .ret)))) [(.tmp 6)])
def g87 : AFunc := (.code 38 (.seq (.ops [⟨(some 2), (.box (.tmp 0)), none, []⟩, ⟨(some 3), (.box (.tmp 1)), none, []⟩, ⟨(some 4), (.mov (.const (.bool false))), none, []⟩]) (.seq (.ops [⟨(some 5), (.fAddr 0 (.tmp 2)), none, []⟩, ⟨(some 6), (.load1 (.tmp 5)), none, []⟩, ⟨(some 7), (.fAddr 0 (.tmp 3)), none, []⟩, ⟨(some 8), (.load1 (.tmp 7)), none, []⟩, ⟨(some 9), (.bin .eql (.tmp 6) (.tmp 8)), none, []⟩, ⟨(some 10), (.mov (.tmp 9)), none, []⟩, ⟨(some 11), (.fAddr 1 (.tmp 2)), (some (10, true)), []⟩, ⟨(some 12), (.load1 (.tmp 11)), (some (10, true)), []⟩, ⟨(some 13), (.fAddr 1 (.tmp 3)), (some (10, true)), []⟩, ⟨(some 14), (.load1 (.tmp 13)), (some (10, true)), []⟩, ⟨(some 15), (.bin .eql (.tmp 12) (.tmp 14)), (some (10, true)), []⟩, ⟨(some 16), (.pick (.tmp 10) (.tmp 15) (.const (.bool false))), none, []⟩, ⟨(some 17), (.mov (.tmp 16)), none, []⟩, ⟨(some 18), (.fAddr 2 (.tmp 2)), (some (17, true)), []⟩, ⟨(some 19), (.loadN 2 (.tmp 18)), (some (17, true)), []⟩, ⟨(some 20), (.fAddr 2 (.tmp 3)), (some (17, true)), []⟩, ⟨(some 21), (.loadN 2 (.tmp 20)), (some (17, true)), []⟩, ⟨(some 22), (.eqs false 2 [(0, 2), (1, 2)] (.tmp 19) (.tmp 21)), (some (17, true)), []⟩, ⟨(some 23), (.pick (.tmp 17) (.tmp 22) (.const (.bool false))), none, []⟩, ⟨(some 24), (.mov (.tmp 23)), none, []⟩, ⟨(some 25), (.fAddr 5 (.tmp 2)), (some (24, true)), []⟩, ⟨(some 26), (.load1 (.tmp 25)), (some (24, true)), []⟩, ⟨(some 27), (.fAddr 5 (.tmp 3)), (some (24, true)), []⟩, ⟨(some 28), (.load1 (.tmp 27)), (some (24, true)), []⟩, ⟨(some 29), (.bin .eql (.tmp 26) (.tmp 28)), (some (24, true)), []⟩, ⟨(some 30), (.pick (.tmp 24) (.tmp 29) (.const (.bool false))), none, []⟩, ⟨(some 31), (.mov (.tmp 30)), none, []⟩, ⟨(some 32), (.fAddr 4 (.tmp 2)), (some (31, true)), []⟩, ⟨(some 33), (.load1 (.tmp 32)), (some (31, true)), []⟩, ⟨(some 34), (.fAddr 4 (.tmp 3)), (some (31, true)), []⟩, ⟨(some 35), (.load1 (.tmp 34)), (some (31, true)), []⟩, ⟨(some 36), (.callv (.func 88) [(.tmp 33), (.tmp 35)]), (some (31, true)), []⟩, ⟨(some 37), (.pick (.tmp 31) (.tmp 36) (.const (.bool false))), none, []⟩, ⟨(some 4), (.mov (.tmp 37)), none, []⟩]) .ret)) [(.tmp 4)])
def g88 : AFunc := (.code 26 (.seq (.ops [⟨(some 4), (.mov (.const (.bool false))), none, []⟩]) (.seq (.seq (.ops [⟨(some 6), (.mov (.tmp 0)), none, []⟩, ⟨(some 7), (.lenSl (.tmp 6)), none, []⟩, ⟨(some 8), (.mov (.tmp 1)), none, []⟩, ⟨(some 9), (.lenSl (.tmp 8)), none, []⟩, ⟨(some 10), (.bin .neq (.tmp 7) (.tmp 9)), none, []⟩]) (.cond (.tmp 10) (.seq (.ops [⟨(some 4), (.mov (.const (.bool false))), none, []⟩]) .ret) .skip)) (.seq (.seq (.ops [⟨(some 11), (.mov (.tmp 0)), none, []⟩, ⟨(some 12), (.lenSl (.tmp 11)), none, []⟩, ⟨(some 13), (.mov (.const (.int .i64 0))), none, []⟩]) (.block 0 (.loop (.seq (.ops [⟨(some 14), (.bin .lss (.tmp 13) (.tmp 12)), none, []⟩]) (.seq (.cond (.tmp 14) .skip (.exit 0)) (.seq (.block 1 (.seq (.ops [⟨(some 15), (.mov (.tmp 13)), none, []⟩, ⟨(some 5), (.mov (.tmp 15)), none, []⟩]) (.seq (.ops [⟨(some 16), (.mov (.tmp 0)), none, []⟩, ⟨(some 17), (.mov (.tmp 5)), none, []⟩, ⟨(some 18), (.iAddrSl 5 (.tmp 16) (.tmp 17)), none, []⟩, ⟨(some 20), (.mov (.tmp 1)), none, []⟩, ⟨(some 21), (.mov (.tmp 5)), none, []⟩, ⟨(some 22), (.iAddrSl 5 (.tmp 20) (.tmp 21)), none, []⟩, ⟨(some 19), (.loadN 5 (.tmp 18)), none, []⟩, ⟨(some 23), (.loadN 5 (.tmp 22)), none, []⟩, ⟨(some 24), (.eqs true 5 [(0, 1), (1, 1), (2, 1), (3, 1), (4, 2)] (.tmp 19) (.tmp 23)), none, []⟩]) (.cond (.tmp 24) (.seq (.ops [⟨(some 4), (.mov (.const (.bool false))), none, []⟩]) .ret) .skip)))) (.ops [⟨(some 25), (.bin .add (.tmp 13) (.const (.int .i64 1))), none, []⟩, ⟨(some 13), (.mov (.tmp 25)), none, []⟩]))))))) (.seq (.ops [⟨(some 4), (.mov (.const (.bool true))), none, []⟩]) .ret)))) [(.tmp 4)])
def g89 : AFunc := (.code 32 (.seq (.ops [⟨(some 6), (.mov (.const (.bool false))), none, []⟩]) (.seq (.seq (.ops [⟨(some 10), (.mov (.tmp 0)), none, []⟩, ⟨(some 11), (.lenSl (.tmp 10)), none, []⟩, ⟨(some 12), (.mov (.tmp 1)), none, []⟩, ⟨(some 13), (.lenSl (.tmp 12)), none, []⟩, ⟨(some 14), (.bin .neq (.tmp 11) (.tmp 13)), none, []⟩]) (.cond (.tmp 14) (.seq (.ops [⟨(some 6), (.mov (.const (.bool false))), none, []⟩]) .ret) .skip)) (.seq (.seq (.ops [⟨(some 15), (.mov (.tmp 0)), none, []⟩, ⟨(some 16), (.lenSl (.tmp 15)), none, []⟩, ⟨(some 17), (.mov (.const (.int .i64 0))), none, []⟩]) (.block 0 (.loop (.seq (.ops [⟨(some 18), (.bin .lss (.tmp 17) (.tmp 16)), none, []⟩]) (.seq (.cond (.tmp 18) .skip (.exit 0)) (.seq (.block 1 (.seq (.ops [⟨(some 19), (.mov (.tmp 17)), none, []⟩, ⟨(some 20), (.iAddrSl 3 (.tmp 15) (.tmp 17)), none, []⟩, ⟨(some 21), (.loadN 3 (.tmp 20)), none, []⟩, ⟨(some 8), (.alloc [(.string (bs [])), (.slice none 0 0), (.slice none 0 0)]), none, []⟩, ⟨(some 7), (.mov (.tmp 19)), none, []⟩, ⟨none, (.store 3 (.tmp 8) (.tmp 21)), none, []⟩]) (.seq (.ops [⟨(some 22), (.mov (.tmp 1)), none, []⟩, ⟨(some 23), (.mov (.tmp 7)), none, []⟩, ⟨(some 24), (.iAddrSl 3 (.tmp 22) (.tmp 23)), none, []⟩, ⟨(some 25), (.loadN 3 (.tmp 24)), none, []⟩, ⟨(some 9), (.alloc [(.string (bs [])), (.slice none 0 0), (.slice none 0 0)]), none, []⟩, ⟨none, (.store 3 (.tmp 9) (.tmp 25)), none, []⟩]) (.seq (.ops [⟨(some 26), (.mov (.tmp 2)), none, []⟩, ⟨(some 27), (.loadN 3 (.tmp 8)), none, []⟩, ⟨(some 28), (.loadN 3 (.tmp 9)), none, []⟩, ⟨(some 29), (.callv (.tmp 26) [(.tmp 27), (.tmp 28)]), none, []⟩, ⟨(some 30), (.un .not (.tmp 29)), none, []⟩]) (.cond (.tmp 30) (.seq (.ops [⟨(some 6), (.mov (.const (.bool false))), none, []⟩]) .ret) .skip))))) (.ops [⟨(some 31), (.bin .add (.tmp 17) (.const (.int .i64 1))), none, []⟩, ⟨(some 17), (.mov (.tmp 31)), none, []⟩]))))))) (.seq (.ops [⟨(some 6), (.mov (.const (.bool true))), none, []⟩]) .ret)))) [(.tmp 6)])
def g90 : AFunc := (.code 24 (.seq (.ops [⟨(some 2), (.box (.tmp 0)), none, []⟩, ⟨(some 3), (.box (.tmp 1)), none, []⟩, ⟨(some 4), (.mov (.const (.bool false))), none, []⟩]) (.seq (.ops [⟨(some 5), (.fAddr 0 (.tmp 2)), none, []⟩, ⟨(some 6), (.load1 (.tmp 5)), none, []⟩, ⟨(some 7), (.fAddr 0 (.tmp 3)), none, []⟩, ⟨(some 8), (.load1 (.tmp 7)), none, []⟩, ⟨(some 9), (.bin .eql (.tmp 6) (.tmp 8)), none, []⟩, ⟨(some 10), (.mov (.tmp 9)), none, []⟩, ⟨(some 11), (.fAddr 1 (.tmp 2)), (some (10, true)), []⟩, ⟨(some 12), (.load1 (.tmp 11)), (some (10, true)), []⟩, ⟨(some 13), (.fAddr 1 (.tmp 3)), (some (10, true)), []⟩, ⟨(some 14), (.load1 (.tmp 13)), (some (10, true)), []⟩, ⟨(some 15), (.callv (.func 83) [(.tmp 12), (.tmp 14)]), (some (10, true)), []⟩, ⟨(some 16), (.pick (.tmp 10) (.tmp 15) (.const (.bool false))), none, []⟩, ⟨(some 17), (.mov (.tmp 16)), none, []⟩, ⟨(some 18), (.fAddr 2 (.tmp 2)), (some (17, true)), []⟩, ⟨(some 19), (.load1 (.tmp 18)), (some (17, true)), []⟩, ⟨(some 20), (.fAddr 2 (.tmp 3)), (some (17, true)), []⟩, ⟨(some 21), (.load1 (.tmp 20)), (some (17, true)), []⟩, ⟨(some 22), (.callv (.func 91) [(.tmp 19), (.tmp 21)]), (some (17, true)), []⟩, ⟨(some 23), (.pick (.tmp 17) (.tmp 22) (.const (.bool false))), none, []⟩, ⟨(some 4), (.mov (.tmp 23)), none, []⟩]) .ret)) [(.tmp 4)])
def g91 : AFunc := (.code 26 (.seq (.ops [⟨(some 4), (.mov (.const (.bool false))), none, []⟩]) (.seq (.seq (.ops [⟨(some 6), (.mov (.tmp 0)), none, []⟩, ⟨(some 7), (.lenSl (.tmp 6)), none, []⟩, ⟨(some 8), (.mov (.tmp 1)), none, []⟩, ⟨(some 9), (.lenSl (.tmp 8)), none, []⟩, ⟨(some 10), (.bin .neq (.tmp 7) (.tmp 9)), none, []⟩]) (.cond (.tmp 10) (.seq (.ops [⟨(some 4), (.mov (.const (.bool false))), none, []⟩]) .ret) .skip)) (.seq (.seq (.ops [⟨(some 11), (.mov (.tmp 0)), none, []⟩, ⟨(some 12), (.lenSl (.tmp 11)), none, []⟩, ⟨(some 13), (.mov (.const (.int .i64 0))), none, []⟩]) (.block 0 (.loop (.seq (.ops [⟨(some 14), (.bin .lss (.tmp 13) (.tmp 12)), none, []⟩]) (.seq (.cond (.tmp 14) .skip (.exit 0)) (.seq (.block 1 (.seq (.ops [⟨(some 15), (.mov (.tmp 13)), none, []⟩, ⟨(some 5), (.mov (.tmp 15)), none, []⟩]) (.seq (.ops [⟨(some 16), (.mov (.tmp 0)), none, []⟩, ⟨(some 17), (.mov (.tmp 5)), none, []⟩, ⟨(some 18), (.iAddrSl 12 (.tmp 16) (.tmp 17)), none, []⟩, ⟨(some 20), (.mov (.tmp 1)), none, []⟩, ⟨(some 21), (.mov (.tmp 5)), none, []⟩, ⟨(some 22), (.iAddrSl 12 (.tmp 20) (.tmp 21)), none, []⟩, ⟨(some 19), (.loadN 12 (.tmp 18)), none, []⟩, ⟨(some 23), (.loadN 12 (.tmp 22)), none, []⟩, ⟨(some 24), (.eqs true 12 [(0, 1), (1, 2), (2, 2), (3, 1), (4, 2), (5, 2), (6, 1), (7, 1), (8, 2), (9, 2), (10, 1), (11, 1)] (.tmp 19) (.tmp 23)), none, []⟩]) (.cond (.tmp 24) (.seq (.ops [⟨(some 4), (.mov (.const (.bool false))), none, []⟩]) .ret) .skip)))) (.ops [⟨(some 25), (.bin .add (.tmp 13) (.const (.int .i64 1))), none, []⟩, ⟨(some 13), (.mov (.tmp 25)), none, []⟩]))))))) (.seq (.ops [⟨(some 4), (.mov (.const (.bool true))), none, []⟩]) .ret)))) [(.tmp 4)])
def g92 : AFunc := (.code 32 (.seq (.ops [⟨(some 6), (.mov (.const (.bool false))), none, []⟩]) (.seq (.seq (.ops [⟨(some 10), (.mov (.tmp 0)), none, []⟩, ⟨(some 11), (.lenSl (.tmp 10)), none, []⟩, ⟨(some 12), (.mov (.tmp 1)), none, []⟩, ⟨(some 13), (.lenSl (.tmp 12)), none, []⟩, ⟨(some 14), (.bin .neq (.tmp 11) (.tmp 13)), none, []⟩]) (.cond (.tmp 14) (.seq (.ops [⟨(some 6), (.mov (.const (.bool false))), none, []⟩]) .ret) .skip)) (.seq (.seq (.ops [⟨(some 15), (.mov (.tmp 0)), none, []⟩, ⟨(some 16), (.lenSl (.tmp 15)), none, []⟩, ⟨(some 17), (.mov (.const (.int .i64 0))), none, []⟩]) (.block 0 (.loop (.seq (.ops [⟨(some 18), (.bin .lss (.tmp 17) (.tmp 16)), none, []⟩]) (.seq (.cond (.tmp 18) .skip (.exit 0)) (.seq (.block 1 (.seq (.ops [⟨(some 19), (.mov (.tmp 17)), none, []⟩, ⟨(some 20), (.iAddrSl 7 (.tmp 15) (.tmp 17)), none, []⟩, ⟨(some 21), (.loadN 7 (.tmp 20)), none, []⟩, ⟨(some 8), (.alloc [(.string (bs [])), (.slice none 0 0), (.slice none 0 0), (.int .i64 0), (.string (bs [])), (.slice none 0 0), (.bool false)]), none, []⟩, ⟨(some 7), (.mov (.tmp 19)), none, []⟩, ⟨none, (.store 7 (.tmp 8) (.tmp 21)), none, []⟩]) (.seq (.ops [⟨(some 22), (.mov (.tmp 1)), none, []⟩, ⟨(some 23), (.mov (.tmp 7)), none, []⟩, ⟨(some 24), (.iAddrSl 7 (.tmp 22) (.tmp 23)), none, []⟩, ⟨(some 25), (.loadN 7 (.tmp 24)), none, []⟩, ⟨(some 9), (.alloc [(.string (bs [])), (.slice none 0 0), (.slice none 0 0), (.int .i64 0), (.string (bs [])), (.slice none 0 0), (.bool false)]), none, []⟩, ⟨none, (.store 7 (.tmp 9) (.tmp 25)), none, []⟩]) (.seq (.ops [⟨(some 26), (.mov (.tmp 2)), none, []⟩, ⟨(some 27), (.loadN 7 (.tmp 8)), none, []⟩, ⟨(some 28), (.loadN 7 (.tmp 9)), none, []⟩, ⟨(some 29), (.callv (.tmp 26) [(.tmp 27), (.tmp 28)]), none, []⟩, ⟨(some 30), (.un .not (.tmp 29)), none, []⟩]) (.cond (.tmp 30) (.seq (.ops [⟨(some 6), (.mov (.const (.bool false))), none, []⟩]) .ret) .skip))))) (.ops [⟨(some 31), (.bin .add (.tmp 17) (.const (.int .i64 1))), none, []⟩, ⟨(some 17), (.mov (.tmp 31)), none, []⟩]))))))) (.seq (.ops [⟨(some 6), (.mov (.const (.bool true))), none, []⟩]) .ret)))) [(.tmp 6)])
def g93 : AFunc := (.code 56 (.seq (.ops [⟨(some 2), (.box (.tmp 0)), none, []⟩, ⟨(some 3), (.box (.tmp 1)), none, []⟩, ⟨(some 4), (.mov (.const (.bool false))), none, []⟩]) (.seq (.ops [⟨(some 5), (.fAddr 0 (.tmp 2)), none, []⟩, ⟨(some 6), (.load1 (.tmp 5)), none, []⟩, ⟨(some 7), (.fAddr 0 (.tmp 3)), none, []⟩, ⟨(some 8), (.load1 (.tmp 7)), none, []⟩, ⟨(some 9), (.bin .eql (.tmp 6) (.tmp 8)), none, []⟩, ⟨(some 10), (.mov (.tmp 9)), none, []⟩, ⟨(some 11), (.fAddr 3 (.tmp 2)), (some (10, true)), []⟩, ⟨(some 12), (.load1 (.tmp 11)), (some (10, true)), []⟩, ⟨(some 13), (.fAddr 3 (.tmp 3)), (some (10, true)), []⟩, ⟨(some 14), (.load1 (.tmp 13)), (some (10, true)), []⟩, ⟨(some 15), (.bin .eql (.tmp 12) (.tmp 14)), (some (10, true)), []⟩, ⟨(some 16), (.pick (.tmp 10) (.tmp 15) (.const (.bool false))), none, []⟩, ⟨(some 17), (.mov (.tmp 16)), none, []⟩, ⟨(some 18), (.fAddr 6 (.tmp 2)), (some (17, true)), []⟩, ⟨(some 19), (.load1 (.tmp 18)), (some (17, true)), []⟩, ⟨(some 20), (.fAddr 6 (.tmp 3)), (some (17, true)), []⟩, ⟨(some 21), (.load1 (.tmp 20)), (some (17, true)), []⟩, ⟨(some 22), (.eqb false (.tmp 19) (.tmp 21)), (some (17, true)), []⟩, ⟨(some 23), (.pick (.tmp 17) (.tmp 22) (.const (.bool false))), none, []⟩, ⟨(some 24), (.mov (.tmp 23)), none, []⟩, ⟨(some 25), (.fAddr 4 (.tmp 2)), (some (24, true)), []⟩, ⟨(some 26), (.fAddr 0 (.tmp 25)), (some (24, true)), []⟩, ⟨(some 27), (.load1 (.tmp 26)), (some (24, true)), []⟩, ⟨(some 28), (.fAddr 4 (.tmp 3)), (some (24, true)), []⟩, ⟨(some 29), (.fAddr 0 (.tmp 28)), (some (24, true)), []⟩, ⟨(some 30), (.load1 (.tmp 29)), (some (24, true)), []⟩, ⟨(some 31), (.bin .eql (.tmp 27) (.tmp 30)), (some (24, true)), []⟩, ⟨(some 32), (.pick (.tmp 24) (.tmp 31) (.const (.bool false))), none, []⟩, ⟨(some 33), (.mov (.tmp 32)), none, []⟩, ⟨(some 34), (.fAddr 1 (.tmp 2)), (some (33, true)), []⟩, ⟨(some 35), (.load1 (.tmp 34)), (some (33, true)), []⟩, ⟨(some 36), (.fAddr 1 (.tmp 3)), (some (33, true)), []⟩, ⟨(some 37), (.load1 (.tmp 36)), (some (33, true)), []⟩, ⟨(some 38), (.callv (.func 149) [(.tmp 35), (.tmp 37)]), (some (33, true)), []⟩, ⟨(some 39), (.pick (.tmp 33) (.tmp 38) (.const (.bool false))), none, []⟩, ⟨(some 40), (.mov (.tmp 39)), none, []⟩, ⟨(some 41), (.fAddr 2 (.tmp 2)), (some (40, true)), []⟩, ⟨(some 42), (.load1 (.tmp 41)), (some (40, true)), []⟩, ⟨(some 43), (.fAddr 2 (.tmp 3)), (some (40, true)), []⟩, ⟨(some 44), (.load1 (.tmp 43)), (some (40, true)), []⟩, ⟨(some 45), (.callv (.func 150) [(.tmp 42), (.tmp 44)]), (some (40, true)), []⟩, ⟨(some 46), (.pick (.tmp 40) (.tmp 45) (.const (.bool false))), none, []⟩, ⟨(some 47), (.mov (.tmp 46)), none, []⟩, ⟨(some 48), (.fAddr 4 (.tmp 2)), (some (47, true)), []⟩, ⟨(some 49), (.fAddr 1 (.tmp 48)), (some (47, true)), []⟩, ⟨(some 50), (.load1 (.tmp 49)), (some (47, true)), []⟩, ⟨(some 51), (.fAddr 4 (.tmp 3)), (some (47, true)), []⟩, ⟨(some 52), (.fAddr 1 (.tmp 51)), (some (47, true)), []⟩, ⟨(some 53), (.load1 (.tmp 52)), (some (47, true)), []⟩, ⟨(some 54), (.callv (.func 151) [(.tmp 50), (.tmp 53)]), (some (47, true)), []⟩, ⟨(some 55), (.pick (.tmp 47) (.tmp 54) (.const (.bool false))), none, []⟩, ⟨(some 4), (.mov (.tmp 55)), none, []⟩]) .ret)) [(.tmp 4)])
def g94 : AFunc := (.code 8 (.seq (.ops [⟨(some 4), (.mov (.const (.bool false))), none, []⟩]) (.seq (.ops [⟨(some 5), (.mov (.tmp 0)), none, []⟩, ⟨(some 6), (.mov (.tmp 1)), none, []⟩, ⟨(some 7), (.callv (.func 152) [(.tmp 5), (.tmp 6), (.func 153)]), none, []⟩, ⟨(some 4), (.mov (.tmp 7)), none, []⟩]) .ret)) [(.tmp 4)])
def g99 : AFunc := (.code 21 (.seq (.ops [⟨(some 3), (.box (.tmp 0)), none, []⟩, ⟨(some 5), (.mov (.const (.bool false))), none, []⟩]) (.seq (.seq (.ops [⟨(some 6), (.fAddr 0 (.tmp 3)), none, []⟩, ⟨(some 7), (.load1 (.tmp 6)), none, []⟩, ⟨(some 8), (.bin .eql (.tmp 7) (.const (.int .i64 1))), none, []⟩, ⟨(some 9), (.mov (.tmp 8)), none, []⟩, ⟨(some 10), (.load1 (.tmp 2)), (some (9, true)), []⟩, ⟨(some 11), (.fAddr 1 (.tmp 3)), (some (9, true)), []⟩, ⟨(some 12), (.load1 (.tmp 11)), (some (9, true)), []⟩, ⟨(some 13), (.callv (.func 100) [(.tmp 10), (.tmp 12)]), (some (9, true)), []⟩, ⟨(some 14), (.un .not (.tmp 13)), (some (9, true)), []⟩, ⟨(some 15), (.pick (.tmp 9) (.tmp 14) (.const (.bool false))), none, []⟩]) (.cond (.tmp 15) (.ops [⟨(some 16), (.load1 (.tmp 2)), none, []⟩, ⟨(some 17), (.fAddr 1 (.tmp 3)), none, []⟩, ⟨(some 18), (.load1 (.tmp 17)), none, []⟩, ⟨(some 19), (.buildSlice 1 1 [(.string (bs []))] [(0, (1, (.tmp 18)))]), none, []⟩, ⟨(some 20), (.append 1 16 (.tmp 16) (.tmp 19)), none, []⟩, ⟨none, (.store 1 (.tmp 2) (.tmp 20)), none, []⟩]) .skip)) (.seq (.ops [⟨(some 5), (.mov (.const (.bool true))), none, []⟩]) .ret))) [(.tmp 5)])
def g100 : AFunc := (.code 9 (.seq (.ops [⟨(some 4), (.mov (.const (.bool false))), none, []⟩]) (.seq (.ops [⟨(some 5), (.mov (.tmp 0)), none, []⟩, ⟨(some 6), (.mov (.tmp 1)), none, []⟩, ⟨(some 7), (.callv (.func 154) [(.tmp 5), (.tmp 6)]), none, []⟩, ⟨(some 8), (.bin .geq (.tmp 7) (.const (.int .i64 0))), none, []⟩, ⟨(some 4), (.mov (.tmp 8)), none, []⟩]) .ret)) [(.tmp 4)])
def g101 : AFunc := (.code 74 (.seq (.ops [⟨(some 2), (.mov (.const (.int .i64 0))), none, []⟩, ⟨(some 3), (.mov (.const (.slice none 0 0))), none, []⟩]) (.seq (.ops [⟨(some 4), (.mov (.const (.int .i64 0))), none, []⟩]) (.seq (.ops [⟨(some 5), (.mov (.const (.slice none 0 0))), none, []⟩]) (.seq (.seq (.ops [⟨(some 14), (.mov (.tmp 0)), none, []⟩, ⟨(some 15), (.lenSl (.tmp 14)), none, []⟩, ⟨(some 16), (.mov (.const (.int .i64 0))), none, []⟩]) (.block 0 (.loop (.seq (.ops [⟨(some 17), (.bin .lss (.tmp 16) (.tmp 15)), none, []⟩]) (.seq (.cond (.tmp 17) .skip (.exit 0)) (.seq (.block 1 (.seq (.ops [⟨(some 18), (.iAddrSl 13 (.tmp 14) (.tmp 16)), none, []⟩, ⟨(some 19), (.loadN 13 (.tmp 18)), none, []⟩, ⟨(some 7), (.alloc [(.int .i64 0), (.string (bs [])), (.int .i64 0), (.string (bs [])), (.string (bs [])), (.int .u64 0), (.int .u64 0), (.string (bs [])), (.string (bs [])), (.int .u64 0), (.int .u64 0), (.slice none 0 0), (.slice none 0 0)]), none, []⟩, ⟨none, (.store 13 (.tmp 7) (.tmp 19)), none, []⟩]) (.seq (.seq (.ops [⟨(some 20), (.fAddr 0 (.tmp 7)), none, []⟩, ⟨(some 21), (.load1 (.tmp 20)), none, []⟩]) (.block 2 (.seq (.ops [⟨(some 23), (.bin .eql (.tmp 21) (.const (.int .i64 3))), none, []⟩, ⟨(some 22), (.mov (.tmp 23)), none, []⟩]) (.cond (.tmp 22) (.seq (.ops [⟨(some 24), (.mov (.tmp 5)), none, []⟩, ⟨(some 25), (.mov (.tmp 4)), none, []⟩, ⟨(some 26), (.buildSlice 1 1 [(.int .i64 0)] [(0, (1, (.tmp 25)))]), none, []⟩, ⟨(some 27), (.append 1 8 (.tmp 24) (.tmp 26)), none, []⟩, ⟨(some 2), (.mov (.const (.int .i64 (-1)))), none, []⟩, ⟨(some 3), (.mov (.tmp 27)), none, []⟩]) .ret) (.seq (.ops [⟨(some 29), (.bin .eql (.tmp 21) (.const (.int .i64 1))), none, []⟩, ⟨(some 28), (.mov (.tmp 29)), none, []⟩]) (.cond (.tmp 28) (.ops [⟨(some 30), (.mov (.tmp 4)), none, []⟩, ⟨(some 31), (.bin .add (.tmp 30) (.const (.int .i64 1))), none, []⟩, ⟨(some 4), (.mov (.tmp 31)), none, []⟩]) (.seq (.ops [⟨(some 33), (.bin .eql (.tmp 21) (.const (.int .i64 2))), none, []⟩, ⟨(some 32), (.mov (.tmp 33)), none, []⟩]) (.cond (.tmp 32) .skip (.exit 1))))))))) (.seq (.ops [⟨(some 35), (.fAddr 11 (.tmp 7)), none, []⟩, ⟨(some 36), (.load1 (.tmp 35)), none, []⟩, ⟨(some 37), (.callv (.func 101) [(.tmp 36)]), none, []⟩, ⟨(some 34), (.mov (.tmp 37)), none, []⟩, ⟨(some 38), (.extract (.tmp 34) 0), none, []⟩, ⟨(some 39), (.extract (.tmp 34) 1), none, []⟩, ⟨(some 8), (.mov (.tmp 38)), none, []⟩, ⟨(some 9), (.mov (.tmp 39)), none, []⟩]) (.seq (.ops [⟨(some 41), (.fAddr 12 (.tmp 7)), none, []⟩, ⟨(some 42), (.load1 (.tmp 41)), none, []⟩, ⟨(some 43), (.callv (.func 101) [(.tmp 42)]), none, []⟩, ⟨(some 40), (.mov (.tmp 43)), none, []⟩, ⟨(some 44), (.extract (.tmp 40) 0), none, []⟩, ⟨(some 45), (.extract (.tmp 40) 1), none, []⟩, ⟨(some 10), (.mov (.tmp 44)), none, []⟩, ⟨(some 11), (.mov (.tmp 45)), none, []⟩]) (.seq (.seq (.ops [⟨(some 46), (.mov (.tmp 9)), none, []⟩, ⟨(some 47), (.mov (.tmp 11)), none, []⟩, ⟨(some 48), (.append 1 8 (.tmp 46) (.tmp 47)), none, []⟩, ⟨(some 49), (.lenSl (.tmp 48)), none, []⟩, ⟨(some 50), (.mov (.const (.int .i64 0))), none, []⟩]) (.block 3 (.loop (.seq (.ops [⟨(some 51), (.bin .lss (.tmp 50) (.tmp 49)), none, []⟩]) (.seq (.cond (.tmp 51) .skip (.exit 3)) (.seq (.block 4 (.seq (.ops [⟨(some 52), (.iAddrSl 1 (.tmp 48) (.tmp 50)), none, []⟩, ⟨(some 53), (.load1 (.tmp 52)), none, []⟩, ⟨(some 13), (.mov (.tmp 53)), none, []⟩]) (.ops [⟨(some 54), (.mov (.tmp 5)), none, []⟩, ⟨(some 55), (.mov (.tmp 4)), none, []⟩, ⟨(some 56), (.mov (.tmp 13)), none, []⟩, ⟨(some 57), (.bin .add (.tmp 55) (.tmp 56)), none, []⟩, ⟨(some 58), (.buildSlice 1 1 [(.int .i64 0)] [(0, (1, (.tmp 57)))]), none, []⟩, ⟨(some 59), (.append 1 8 (.tmp 54) (.tmp 58)), none, []⟩, ⟨(some 5), (.mov (.tmp 59)), none, []⟩]))) (.ops [⟨(some 60), (.bin .add (.tmp 50) (.const (.int .i64 1))), none, []⟩, ⟨(some 50), (.mov (.tmp 60)), none, []⟩]))))))) (.seq (.seq (.ops [⟨(some 61), (.mov (.tmp 8)), none, []⟩, ⟨(some 62), (.mov (.tmp 10)), none, []⟩, ⟨(some 63), (.mm true [(.tmp 61), (.tmp 62)]), none, []⟩, ⟨(some 64), (.bin .lss (.tmp 63) (.const (.int .i64 0))), none, []⟩]) (.cond (.tmp 64) (.seq (.ops [⟨(some 65), (.mov (.tmp 5)), none, []⟩, ⟨(some 2), (.mov (.const (.int .i64 (-1)))), none, []⟩, ⟨(some 3), (.mov (.tmp 65)), none, []⟩]) .ret) .skip)) (.ops [⟨(some 66), (.mov (.tmp 4)), none, []⟩, ⟨(some 67), (.mov (.tmp 8)), none, []⟩, ⟨(some 68), (.mov (.tmp 10)), none, []⟩, ⟨(some 69), (.mm true [(.tmp 67), (.tmp 68)]), none, []⟩, ⟨(some 70), (.bin .add (.tmp 66) (.tmp 69)), none, []⟩, ⟨(some 4), (.mov (.tmp 70)), none, []⟩])))))))) (.ops [⟨(some 71), (.bin .add (.tmp 16) (.const (.int .i64 1))), none, []⟩, ⟨(some 16), (.mov (.tmp 71)), none, []⟩]))))))) (.seq (.ops [⟨(some 72), (.mov (.tmp 4)), none, []⟩, ⟨(some 73), (.mov (.tmp 5)), none, []⟩, ⟨(some 2), (.mov (.tmp 72)), none, []⟩, ⟨(some 3), (.mov (.tmp 73)), none, []⟩]) .ret))))) [(.tmp 2), (.tmp 3)])
def g102 : AFunc := (.code 20 (.seq (.ops [⟨(some 2), (.box (.tmp 0)), none, []⟩, ⟨(some 3), (.box (.tmp 1)), none, []⟩, ⟨(some 4), (.mov (.const (.int .i64 0))), none, []⟩]) (.seq (.ops [⟨(some 8), (.loadN 6 (.tmp 2)), none, []⟩, ⟨(some 9), (.loadN 2 (.tmp 3)), none, []⟩, ⟨(some 10), (.callv (.func 155) [(.tmp 8), (.tmp 9)]), none, []⟩, ⟨(some 7), (.mov (.tmp 10)), none, []⟩, ⟨(some 11), (.extract (.tmp 7) 0), none, []⟩, ⟨(some 12), (.extract (.tmp 7) 1), none, []⟩, ⟨(some 5), (.mov (.tmp 11)), none, []⟩, ⟨(some 6), (.mov (.tmp 12)), none, []⟩]) (.seq (.seq (.ops [⟨(some 13), (.mov (.tmp 5)), none, []⟩, ⟨(some 14), (.bin .lss (.tmp 13) (.const (.int .i64 1))), none, []⟩, ⟨(some 15), (.mov (.tmp 14)), none, []⟩, ⟨(some 16), (.mov (.tmp 5)), (some (15, false)), []⟩, ⟨(some 17), (.bin .gtr (.tmp 16) (.const (.int .i64 128))), (some (15, false)), []⟩, ⟨(some 18), (.pick (.tmp 15) (.const (.bool true)) (.tmp 17)), none, []⟩]) (.cond (.tmp 18) (.seq (.ops [⟨(some 4), (.mov (.const (.int .i64 0))), none, []⟩]) .ret) .skip)) (.seq (.ops [⟨(some 19), (.mov (.tmp 5)), none, []⟩, ⟨(some 4), (.mov (.tmp 19)), none, []⟩]) .ret)))) [(.tmp 4)])
def g103 : AFunc := (.code 70 (.seq (.ops [⟨(some 3), (.box (.tmp 0)), none, []⟩, ⟨(some 5), (.box (.tmp 2)), none, []⟩, ⟨(some 6), (.mov (.const (.int .i64 0))), none, []⟩]) (.seq (.ops [⟨(some 12), (.mov (.tmp 1)), none, []⟩, ⟨(some 15), (.fAddr 0 (.tmp 5)), none, []⟩, ⟨(some 11), (.loadN 6 (.tmp 3)), none, []⟩, ⟨(some 14), (.loadN 6 (.tmp 3)), none, []⟩, ⟨(some 16), (.load1 (.tmp 15)), none, []⟩, ⟨(some 13), (.callv (.func 113) [(.tmp 11), (.tmp 12)]), none, [(3, 1), (15, 1)]⟩, ⟨(some 17), (.callv (.func 112) [(.tmp 14), (.tmp 16)]), none, []⟩, ⟨(some 7), (.mov (.tmp 13)), none, []⟩, ⟨(some 8), (.mov (.tmp 17)), none, []⟩]) (.seq (.block 0 (.seq (.ops [⟨(some 19), (.mov (.tmp 7)), none, []⟩, ⟨(some 20), (.bin .lss (.tmp 19) (.const (.int .i64 0))), none, []⟩, ⟨(some 18), (.mov (.tmp 20)), none, []⟩]) (.cond (.tmp 18) (.seq (.ops [⟨(some 6), (.mov (.const (.int .i64 110))), none, []⟩]) .ret) (.seq (.ops [⟨(some 22), (.mov (.tmp 8)), none, []⟩, ⟨(some 23), (.bin .lss (.tmp 22) (.const (.int .i64 0))), none, []⟩, ⟨(some 24), (.mov (.tmp 23)), none, []⟩, ⟨(some 25), (.fAddr 4 (.tmp 3)), (some (24, false)), []⟩, ⟨(some 27), (.mov (.tmp 7)), (some (24, false)), []⟩, ⟨(some 31), (.fAddr 0 (.tmp 5)), (some (24, false)), []⟩, ⟨(some 26), (.load1 (.tmp 25)), (some (24, false)), []⟩, ⟨(some 28), (.iAddrSl 7 (.tmp 26) (.tmp 27)), (some (24, false)), []⟩, ⟨(some 29), (.fAddr 2 (.tmp 28)), (some (24, false)), []⟩, ⟨(some 30), (.load1 (.tmp 29)), (some (24, false)), []⟩, ⟨(some 32), (.load1 (.tmp 31)), (some (24, false)), []⟩, ⟨(some 33), (.callv (.func 100) [(.tmp 30), (.tmp 32)]), (some (24, false)), []⟩, ⟨(some 34), (.un .not (.tmp 33)), (some (24, false)), []⟩, ⟨(some 35), (.pick (.tmp 24) (.const (.bool true)) (.tmp 34)), none, []⟩, ⟨(some 21), (.mov (.tmp 35)), none, []⟩]) (.cond (.tmp 21) (.seq (.ops [⟨(some 6), (.mov (.const (.int .i64 113))), none, []⟩]) .ret) (.seq (.ops [⟨(some 37), (.fAddr 3 (.tmp 3)), none, []⟩, ⟨(some 39), (.mov (.tmp 8)), none, []⟩, ⟨(some 44), (.fAddr 1 (.tmp 5)), none, []⟩, ⟨(some 38), (.load1 (.tmp 37)), none, []⟩, ⟨(some 40), (.iAddrSl 3 (.tmp 38) (.tmp 39)), none, []⟩, ⟨(some 41), (.fAddr 1 (.tmp 40)), none, []⟩, ⟨(some 42), (.load1 (.tmp 41)), none, []⟩, ⟨(some 43), (.lenSl (.tmp 42)), none, []⟩, ⟨(some 45), (.load1 (.tmp 44)), none, []⟩, ⟨(some 46), (.lenSl (.tmp 45)), none, []⟩, ⟨(some 47), (.bin .neq (.tmp 43) (.tmp 46)), none, []⟩, ⟨(some 36), (.mov (.tmp 47)), none, []⟩]) (.cond (.tmp 36) (.seq (.ops [⟨(some 6), (.mov (.const (.int .i64 76))), none, []⟩]) .ret) .skip))))))) (.seq (.seq (.ops [⟨(some 48), (.fAddr 3 (.tmp 3)), none, []⟩, ⟨(some 49), (.load1 (.tmp 48)), none, []⟩, ⟨(some 50), (.mov (.tmp 8)), none, []⟩, ⟨(some 51), (.iAddrSl 3 (.tmp 49) (.tmp 50)), none, []⟩, ⟨(some 52), (.fAddr 1 (.tmp 51)), none, []⟩, ⟨(some 53), (.load1 (.tmp 52)), none, []⟩, ⟨(some 54), (.lenSl (.tmp 53)), none, []⟩, ⟨(some 55), (.mov (.const (.int .i64 0))), none, []⟩]) (.block 1 (.loop (.seq (.ops [⟨(some 56), (.bin .lss (.tmp 55) (.tmp 54)), none, []⟩]) (.seq (.cond (.tmp 56) .skip (.exit 1)) (.seq (.block 2 (.seq (.ops [⟨(some 57), (.mov (.tmp 55)), none, []⟩, ⟨(some 58), (.iAddrSl 2 (.tmp 53) (.tmp 55)), none, []⟩, ⟨(some 59), (.loadN 2 (.tmp 58)), none, []⟩, ⟨(some 10), (.alloc [(.string (bs [])), (.int .i64 0)]), none, []⟩, ⟨(some 9), (.mov (.tmp 57)), none, []⟩, ⟨none, (.store 2 (.tmp 10) (.tmp 59)), none, []⟩]) (.seq (.ops [⟨(some 60), (.fAddr 1 (.tmp 5)), none, []⟩, ⟨(some 62), (.mov (.tmp 9)), none, []⟩, ⟨(some 65), (.fAddr 1 (.tmp 10)), none, []⟩, ⟨(some 61), (.load1 (.tmp 60)), none, []⟩, ⟨(some 63), (.iAddrSl 2 (.tmp 61) (.tmp 62)), none, []⟩, ⟨(some 64), (.loadN 2 (.tmp 63)), none, []⟩, ⟨(some 66), (.load1 (.tmp 65)), none, []⟩, ⟨(some 67), (.callv (.func 128) [(.tmp 64), (.tmp 66)]), none, []⟩, ⟨(some 68), (.un .not (.tmp 67)), none, []⟩]) (.cond (.tmp 68) (.seq (.ops [⟨(some 6), (.mov (.const (.int .i64 76))), none, []⟩]) .ret) .skip)))) (.ops [⟨(some 69), (.bin .add (.tmp 55) (.const (.int .i64 1))), none, []⟩, ⟨(some 55), (.mov (.tmp 69)), none, []⟩]))))))) (.seq (.ops [⟨(some 6), (.mov (.const (.int .i64 0))), none, []⟩]) .ret))))) [(.tmp 6)])
def g104 : AFunc := (.code 68 (.seq (.ops [⟨(some 3), (.box (.tmp 0)), none, []⟩, ⟨(some 5), (.box (.tmp 2)), none, []⟩, ⟨(some 6), (.mov (.const (.int .i64 0))), none, []⟩]) (.seq (.ops [⟨(some 13), (.loadN 6 (.tmp 3)), none, []⟩, ⟨(some 14), (.mov (.tmp 1)), none, []⟩, ⟨(some 15), (.callv (.func 118) [(.tmp 13), (.tmp 14)]), none, []⟩, ⟨(some 7), (.mov (.tmp 15)), none, []⟩]) (.seq (.seq (.ops [⟨(some 16), (.mov (.tmp 7)), none, []⟩, ⟨(some 17), (.bin .lss (.tmp 16) (.const (.int .i64 0))), none, []⟩]) (.cond (.tmp 17) (.seq (.ops [⟨(some 6), (.mov (.const (.int .i64 110))), none, []⟩]) .ret) .skip)) (.seq (.ops [⟨(some 18), (.loadN 6 (.tmp 3)), none, []⟩, ⟨(some 19), (.fAddr 0 (.tmp 5)), none, []⟩, ⟨(some 20), (.load1 (.tmp 19)), none, []⟩, ⟨(some 21), (.callv (.func 117) [(.tmp 18), (.tmp 20)]), none, []⟩, ⟨(some 8), (.mov (.tmp 21)), none, []⟩]) (.seq (.ops [⟨(some 22), (.fAddr 4 (.tmp 3)), none, []⟩, ⟨(some 24), (.mov (.tmp 7)), none, []⟩, ⟨(some 28), (.fAddr 0 (.tmp 5)), none, []⟩, ⟨(some 23), (.load1 (.tmp 22)), none, []⟩, ⟨(some 25), (.iAddrSl 7 (.tmp 23) (.tmp 24)), none, []⟩, ⟨(some 26), (.fAddr 2 (.tmp 25)), none, []⟩, ⟨(some 27), (.load1 (.tmp 26)), none, []⟩, ⟨(some 29), (.load1 (.tmp 28)), none, []⟩, ⟨(some 30), (.callv (.func 121) [(.tmp 27), (.tmp 29)]), none, []⟩, ⟨(some 9), (.mov (.tmp 30)), none, []⟩]) (.seq (.seq (.ops [⟨(some 31), (.mov (.tmp 8)), none, []⟩, ⟨(some 32), (.bin .lss (.tmp 31) (.const (.int .i64 0))), none, []⟩, ⟨(some 33), (.mov (.tmp 32)), none, []⟩, ⟨(some 34), (.mov (.tmp 9)), (some (33, false)), []⟩, ⟨(some 35), (.un .not (.tmp 34)), (some (33, false)), []⟩, ⟨(some 36), (.pick (.tmp 33) (.const (.bool true)) (.tmp 35)), none, []⟩]) (.cond (.tmp 36) (.seq (.ops [⟨(some 6), (.mov (.const (.int .i64 113))), none, []⟩]) .ret) .skip)) (.seq (.ops [⟨(some 37), (.fAddr 3 (.tmp 3)), none, []⟩, ⟨(some 38), (.load1 (.tmp 37)), none, []⟩, ⟨(some 39), (.mov (.tmp 8)), none, []⟩, ⟨(some 40), (.iAddrSl 3 (.tmp 38) (.tmp 39)), none, []⟩, ⟨(some 41), (.fAddr 1 (.tmp 40)), none, []⟩, ⟨(some 42), (.load1 (.tmp 41)), none, []⟩, ⟨(some 10), (.mov (.tmp 42)), none, []⟩]) (.seq (.seq (.ops [⟨(some 43), (.mov (.tmp 10)), none, []⟩, ⟨(some 44), (.lenSl (.tmp 43)), none, []⟩, ⟨(some 45), (.fAddr 1 (.tmp 5)), none, []⟩, ⟨(some 46), (.load1 (.tmp 45)), none, []⟩, ⟨(some 47), (.lenSl (.tmp 46)), none, []⟩, ⟨(some 48), (.bin .neq (.tmp 44) (.tmp 47)), none, []⟩]) (.cond (.tmp 48) (.seq (.ops [⟨(some 6), (.mov (.const (.int .i64 76))), none, []⟩]) .ret) .skip)) (.seq (.seq (.ops [⟨(some 11), (.mov (.const (.int .i64 0))), none, []⟩]) (.block 0 (.loop (.seq (.seq (.ops [⟨(some 49), (.mov (.tmp 11)), none, []⟩, ⟨(some 50), (.mov (.tmp 10)), none, []⟩, ⟨(some 51), (.lenSl (.tmp 50)), none, []⟩, ⟨(some 52), (.bin .lss (.tmp 49) (.tmp 51)), none, []⟩]) (.cond (.tmp 52) .skip (.exit 0))) (.seq (.block 1 (.seq (.ops [⟨(some 55), (.fAddr 1 (.tmp 5)), none, []⟩, ⟨(some 57), (.mov (.tmp 11)), none, []⟩, ⟨(some 60), (.mov (.tmp 10)), none, []⟩, ⟨(some 61), (.mov (.tmp 11)), none, []⟩, ⟨(some 62), (.iAddrSl 2 (.tmp 60) (.tmp 61)), none, []⟩, ⟨(some 63), (.fAddr 1 (.tmp 62)), none, []⟩, ⟨(some 56), (.load1 (.tmp 55)), none, []⟩, ⟨(some 58), (.iAddrSl 2 (.tmp 56) (.tmp 57)), none, []⟩, ⟨(some 59), (.loadN 2 (.tmp 58)), none, []⟩, ⟨(some 64), (.load1 (.tmp 63)), none, []⟩, ⟨(some 65), (.callv (.func 156) [(.tmp 59), (.tmp 64)]), none, []⟩, ⟨(some 12), (.mov (.tmp 65)), none, []⟩]) (.seq (.ops [⟨(some 66), (.mov (.tmp 12)), none, []⟩, ⟨(some 67), (.un .not (.tmp 66)), none, []⟩]) (.cond (.tmp 67) (.seq (.ops [⟨(some 6), (.mov (.const (.int .i64 76))), none, []⟩]) .ret) .skip)))) (.ops [⟨(some 53), (.mov (.tmp 11)), none, []⟩, ⟨(some 54), (.bin .add (.tmp 53) (.const (.int .i64 1))), none, []⟩, ⟨(some 11), (.mov (.tmp 54)), none, []⟩])))))) (.seq (.ops [⟨(some 6), (.mov (.const (.int .i64 0))), none, []⟩]) .ret)))))))))) [(.tmp 6)])
def g105 : AFunc := (.code 8 (.seq (.ops [⟨(some 2), (.box (.tmp 0)), none, []⟩, ⟨(some 3), (.mov (.const (.bool false))), none, []⟩]) (.seq (.ops [⟨(some 4), (.fAddr 1 (.tmp 1)), none, []⟩, ⟨(some 5), (.load1 (.tmp 4)), none, []⟩, ⟨(some 6), (.mkFunc 107 [] [(.tmp 2)]), none, []⟩, ⟨(some 7), (.callv (.func 106) [(.tmp 5), (.tmp 6)]), none, []⟩, ⟨(some 3), (.mov (.tmp 7)), none, []⟩]) .ret)) [(.tmp 3)])
def g106 : AFunc := (.code 9 (.seq (.ops [⟨(some 4), (.mov (.const (.bool false))), none, []⟩]) (.seq (.ops [⟨(some 5), (.mov (.tmp 0)), none, []⟩, ⟨(some 6), (.mov (.tmp 1)), none, []⟩, ⟨(some 7), (.callv (.func 157) [(.tmp 5), (.tmp 6)]), none, []⟩, ⟨(some 8), (.bin .geq (.tmp 7) (.const (.int .i64 0))), none, []⟩, ⟨(some 4), (.mov (.tmp 8)), none, []⟩]) .ret)) [(.tmp 4)])
def g107 : AFunc := (.code 8 (.seq (.ops [⟨(some 2), (.box (.tmp 0)), none, []⟩, ⟨(some 3), (.mov (.const (.bool false))), none, []⟩]) (.seq (.ops [⟨(some 4), (.fAddr 2 (.tmp 2)), none, []⟩, ⟨(some 5), (.load1 (.tmp 4)), none, []⟩, ⟨(some 6), (.load1 (.tmp 1)), none, []⟩, ⟨(some 7), (.bin .eql (.tmp 5) (.tmp 6)), none, []⟩, ⟨(some 3), (.mov (.tmp 7)), none, []⟩]) .ret)) [(.tmp 3)])
def g111 : AFunc := (.code 9 (.seq (.ops [⟨(some 2), (.box (.tmp 0)), none, []⟩, ⟨(some 3), (.box (.tmp 1)), none, []⟩, ⟨(some 4), (.mov (.const (.int .i64 0))), none, []⟩]) (.seq (.ops [⟨(some 5), (.fAddr 0 (.tmp 2)), none, []⟩, ⟨(some 6), (.load1 (.tmp 5)), none, []⟩, ⟨(some 7), (.mkFunc 159 [] [(.tmp 3)]), none, []⟩, ⟨(some 8), (.callv (.func 158) [(.tmp 6), (.tmp 7)]), none, []⟩, ⟨(some 4), (.mov (.tmp 8)), none, []⟩]) .ret)) [(.tmp 4)])
def g112 : AFunc := (.code 9 (.seq (.ops [⟨(some 2), (.box (.tmp 0)), none, []⟩, ⟨(some 3), (.box (.tmp 1)), none, []⟩, ⟨(some 4), (.mov (.const (.int .i64 0))), none, []⟩]) (.seq (.ops [⟨(some 5), (.fAddr 3 (.tmp 2)), none, []⟩, ⟨(some 6), (.load1 (.tmp 5)), none, []⟩, ⟨(some 7), (.mkFunc 161 [] [(.tmp 3)]), none, []⟩, ⟨(some 8), (.callv (.func 160) [(.tmp 6), (.tmp 7)]), none, []⟩, ⟨(some 4), (.mov (.tmp 8)), none, []⟩]) .ret)) [(.tmp 4)])
def g113 : AFunc := (.code 9 (.seq (.ops [⟨(some 2), (.box (.tmp 0)), none, []⟩, ⟨(some 3), (.box (.tmp 1)), none, []⟩, ⟨(some 4), (.mov (.const (.int .i64 0))), none, []⟩]) (.seq (.ops [⟨(some 5), (.fAddr 4 (.tmp 2)), none, []⟩, ⟨(some 6), (.load1 (.tmp 5)), none, []⟩, ⟨(some 7), (.mkFunc 163 [] [(.tmp 3)]), none, []⟩, ⟨(some 8), (.callv (.func 162) [(.tmp 6), (.tmp 7)]), none, []⟩, ⟨(some 4), (.mov (.tmp 8)), none, []⟩]) .ret)) [(.tmp 4)])
def g116 : AFunc := (.code 22 (.seq (.ops [⟨(some 2), (.box (.tmp 0)), none, []⟩, ⟨(some 4), (.mov (.const (.int .i64 0))), none, []⟩]) (.seq (.seq (.ops [⟨(some 5), (.mov (.const (.int .i64 0))), none, []⟩]) (.block 0 (.loop (.seq (.seq (.ops [⟨(some 6), (.mov (.tmp 5)), none, []⟩, ⟨(some 7), (.fAddr 0 (.tmp 2)), none, []⟩, ⟨(some 8), (.load1 (.tmp 7)), none, []⟩, ⟨(some 9), (.lenSl (.tmp 8)), none, []⟩, ⟨(some 10), (.bin .lss (.tmp 6) (.tmp 9)), none, []⟩]) (.cond (.tmp 10) .skip (.exit 0))) (.seq (.block 1 (.seq (.ops [⟨(some 13), (.fAddr 0 (.tmp 2)), none, []⟩, ⟨(some 14), (.load1 (.tmp 13)), none, []⟩, ⟨(some 15), (.mov (.tmp 5)), none, []⟩, ⟨(some 16), (.iAddrSl 2 (.tmp 14) (.tmp 15)), none, []⟩, ⟨(some 17), (.fAddr 0 (.tmp 16)), none, []⟩, ⟨(some 18), (.load1 (.tmp 17)), none, []⟩, ⟨(some 19), (.mov (.tmp 1)), none, []⟩, ⟨(some 20), (.bin .eql (.tmp 18) (.tmp 19)), none, []⟩]) (.cond (.tmp 20) (.seq (.ops [⟨(some 21), (.mov (.tmp 5)), none, []⟩, ⟨(some 4), (.mov (.tmp 21)), none, []⟩]) .ret) .skip))) (.ops [⟨(some 11), (.mov (.tmp 5)), none, []⟩, ⟨(some 12), (.bin .add (.tmp 11) (.const (.int .i64 1))), none, []⟩, ⟨(some 5), (.mov (.tmp 12)), none, []⟩])))))) (.seq (.ops [⟨(some 4), (.mov (.const (.int .i64 (-1)))), none, []⟩]) .ret))) [(.tmp 4)])
def g117 : AFunc := (.code 22 (.seq (.ops [⟨(some 2), (.box (.tmp 0)), none, []⟩, ⟨(some 4), (.mov (.const (.int .i64 0))), none, []⟩]) (.seq (.seq (.ops [⟨(some 5), (.mov (.const (.int .i64 0))), none, []⟩]) (.block 0 (.loop (.seq (.seq (.ops [⟨(some 6), (.mov (.tmp 5)), none, []⟩, ⟨(some 7), (.fAddr 3 (.tmp 2)), none, []⟩, ⟨(some 8), (.load1 (.tmp 7)), none, []⟩, ⟨(some 9), (.lenSl (.tmp 8)), none, []⟩, ⟨(some 10), (.bin .lss (.tmp 6) (.tmp 9)), none, []⟩]) (.cond (.tmp 10) .skip (.exit 0))) (.seq (.block 1 (.seq (.ops [⟨(some 13), (.fAddr 3 (.tmp 2)), none, []⟩, ⟨(some 14), (.load1 (.tmp 13)), none, []⟩, ⟨(some 15), (.mov (.tmp 5)), none, []⟩, ⟨(some 16), (.iAddrSl 3 (.tmp 14) (.tmp 15)), none, []⟩, ⟨(some 17), (.fAddr 0 (.tmp 16)), none, []⟩, ⟨(some 18), (.load1 (.tmp 17)), none, []⟩, ⟨(some 19), (.mov (.tmp 1)), none, []⟩, ⟨(some 20), (.bin .eql (.tmp 18) (.tmp 19)), none, []⟩]) (.cond (.tmp 20) (.seq (.ops [⟨(some 21), (.mov (.tmp 5)), none, []⟩, ⟨(some 4), (.mov (.tmp 21)), none, []⟩]) .ret) .skip))) (.ops [⟨(some 11), (.mov (.tmp 5)), none, []⟩, ⟨(some 12), (.bin .add (.tmp 11) (.const (.int .i64 1))), none, []⟩, ⟨(some 5), (.mov (.tmp 12)), none, []⟩])))))) (.seq (.ops [⟨(some 4), (.mov (.const (.int .i64 (-1)))), none, []⟩]) .ret))) [(.tmp 4)])
def g118 : AFunc := (.code 22 (.seq (.ops [⟨(some 2), (.box (.tmp 0)), none, []⟩, ⟨(some 4), (.mov (.const (.int .i64 0))), none, []⟩]) (.seq (.seq (.ops [⟨(some 5), (.mov (.const (.int .i64 0))), none, []⟩]) (.block 0 (.loop (.seq (.seq (.ops [⟨(some 6), (.mov (.tmp 5)), none, []⟩, ⟨(some 7), (.fAddr 4 (.tmp 2)), none, []⟩, ⟨(some 8), (.load1 (.tmp 7)), none, []⟩, ⟨(some 9), (.lenSl (.tmp 8)), none, []⟩, ⟨(some 10), (.bin .lss (.tmp 6) (.tmp 9)), none, []⟩]) (.cond (.tmp 10) .skip (.exit 0))) (.seq (.block 1 (.seq (.ops [⟨(some 13), (.fAddr 4 (.tmp 2)), none, []⟩, ⟨(some 14), (.load1 (.tmp 13)), none, []⟩, ⟨(some 15), (.mov (.tmp 5)), none, []⟩, ⟨(some 16), (.iAddrSl 7 (.tmp 14) (.tmp 15)), none, []⟩, ⟨(some 17), (.fAddr 0 (.tmp 16)), none, []⟩, ⟨(some 18), (.load1 (.tmp 17)), none, []⟩, ⟨(some 19), (.mov (.tmp 1)), none, []⟩, ⟨(some 20), (.bin .eql (.tmp 18) (.tmp 19)), none, []⟩]) (.cond (.tmp 20) (.seq (.ops [⟨(some 21), (.mov (.tmp 5)), none, []⟩, ⟨(some 4), (.mov (.tmp 21)), none, []⟩]) .ret) .skip))) (.ops [⟨(some 11), (.mov (.tmp 5)), none, []⟩, ⟨(some 12), (.bin .add (.tmp 11) (.const (.int .i64 1))), none, []⟩, ⟨(some 5), (.mov (.tmp 12)), none, []⟩])))))) (.seq (.ops [⟨(some 4), (.mov (.const (.int .i64 (-1)))), none, []⟩]) .ret))) [(.tmp 4)])
def g119 : AFunc := (.code 19 (.seq (.ops [⟨(some 2), (.box (.tmp 0)), none, []⟩, ⟨(some 3), (.box (.tmp 1)), none, []⟩, ⟨(some 4), (.mov (.const (.bool false))), none, []⟩]) (.seq (.ops [⟨(some 6), (.fAddr 1 (.tmp 2)), none, []⟩, ⟨(some 7), (.load1 (.tmp 6)), none, []⟩, ⟨(some 8), (.fAddr 1 (.tmp 3)), none, []⟩, ⟨(some 9), (.load1 (.tmp 8)), none, []⟩, ⟨(some 10), (.callv (.func 164) [(.tmp 7), (.tmp 9)]), none, []⟩, ⟨(some 5), (.mov (.tmp 10)), none, []⟩]) (.seq (.ops [⟨(some 11), (.fAddr 0 (.tmp 2)), none, []⟩, ⟨(some 12), (.load1 (.tmp 11)), none, []⟩, ⟨(some 13), (.fAddr 0 (.tmp 3)), none, []⟩, ⟨(some 14), (.load1 (.tmp 13)), none, []⟩, ⟨(some 15), (.bin .eql (.tmp 12) (.tmp 14)), none, []⟩, ⟨(some 16), (.mov (.tmp 15)), none, []⟩, ⟨(some 17), (.mov (.tmp 5)), (some (16, true)), []⟩, ⟨(some 18), (.pick (.tmp 16) (.tmp 17) (.const (.bool false))), none, []⟩, ⟨(some 4), (.mov (.tmp 18)), none, []⟩]) .ret))) [(.tmp 4)])
def g121 : AFunc := (.code 18 (.seq (.ops [⟨(some 4), (.mov (.const (.bool false))), none, []⟩]) (.seq (.seq (.ops [⟨(some 5), (.mov (.const (.int .i64 0))), none, []⟩]) (.block 0 (.loop (.seq (.seq (.ops [⟨(some 6), (.mov (.tmp 5)), none, []⟩, ⟨(some 7), (.mov (.tmp 0)), none, []⟩, ⟨(some 8), (.lenSl (.tmp 7)), none, []⟩, ⟨(some 9), (.bin .lss (.tmp 6) (.tmp 8)), none, []⟩]) (.cond (.tmp 9) .skip (.exit 0))) (.seq (.block 1 (.seq (.ops [⟨(some 12), (.mov (.tmp 0)), none, []⟩, ⟨(some 13), (.mov (.tmp 5)), none, []⟩, ⟨(some 14), (.iAddrSl 1 (.tmp 12) (.tmp 13)), none, []⟩, ⟨(some 15), (.load1 (.tmp 14)), none, []⟩, ⟨(some 16), (.mov (.tmp 1)), none, []⟩, ⟨(some 17), (.bin .eql (.tmp 15) (.tmp 16)), none, []⟩]) (.cond (.tmp 17) (.seq (.ops [⟨(some 4), (.mov (.const (.bool true))), none, []⟩]) .ret) .skip))) (.ops [⟨(some 10), (.mov (.tmp 5)), none, []⟩, ⟨(some 11), (.bin .add (.tmp 10) (.const (.int .i64 1))), none, []⟩, ⟨(some 5), (.mov (.tmp 11)), none, []⟩])))))) (.seq (.ops [⟨(some 4), (.mov (.const (.bool false))), none, []⟩]) .ret))) [(.tmp 4)])
def g122 : AFunc := (.code 8 (.seq (.ops [⟨(some 2), (.mov (.const (.slice none 0 0))), none, []⟩]) (.seq (.ops [⟨(some 3), (.mov (.const (.slice none 0 0))), none, []⟩]) (.seq (.ops [⟨(some 4), (.mov (.tmp 3)), none, []⟩, ⟨(some 5), (.mov (.tmp 0)), none, []⟩, ⟨(some 6), (.append 2 24 (.tmp 4) (.tmp 5)), none, []⟩, ⟨(some 3), (.mov (.tmp 6)), none, []⟩]) (.seq (.ops [⟨(some 7), (.mov (.tmp 3)), none, []⟩, ⟨(some 2), (.mov (.tmp 7)), none, []⟩]) .ret)))) [(.tmp 2)])
def g125 : AFunc := (.code 24 (.seq (.ops [⟨(some 4), (.mov (.const (.bool false))), none, []⟩]) (.seq (.seq (.ops [⟨(some 5), (.mov (.const (.int .i64 0))), none, []⟩]) (.block 0 (.loop (.seq (.seq (.ops [⟨(some 6), (.mov (.tmp 5)), none, []⟩, ⟨(some 7), (.mov (.tmp 1)), none, []⟩, ⟨(some 8), (.lenStr (.tmp 7)), none, []⟩, ⟨(some 9), (.bin .add (.tmp 6) (.tmp 8)), none, []⟩, ⟨(some 10), (.mov (.tmp 0)), none, []⟩, ⟨(some 11), (.lenStr (.tmp 10)), none, []⟩, ⟨(some 12), (.bin .leq (.tmp 9) (.tmp 11)), none, []⟩]) (.cond (.tmp 12) .skip (.exit 0))) (.seq (.block 1 (.seq (.ops [⟨(some 15), (.mov (.tmp 0)), none, []⟩, ⟨(some 16), (.mov (.tmp 5)), none, []⟩, ⟨(some 17), (.mov (.tmp 5)), none, []⟩, ⟨(some 18), (.mov (.tmp 1)), none, []⟩, ⟨(some 19), (.lenStr (.tmp 18)), none, []⟩, ⟨(some 20), (.bin .add (.tmp 17) (.tmp 19)), none, []⟩, ⟨(some 21), (.slStr (.tmp 15) (some (.tmp 16)) (some (.tmp 20))), none, []⟩, ⟨(some 22), (.mov (.tmp 1)), none, []⟩, ⟨(some 23), (.bin .eql (.tmp 21) (.tmp 22)), none, []⟩]) (.cond (.tmp 23) (.seq (.ops [⟨(some 4), (.mov (.const (.bool true))), none, []⟩]) .ret) .skip))) (.ops [⟨(some 13), (.mov (.tmp 5)), none, []⟩, ⟨(some 14), (.bin .add (.tmp 13) (.const (.int .i64 1))), none, []⟩, ⟨(some 5), (.mov (.tmp 14)), none, []⟩])))))) (.seq (.ops [⟨(some 4), (.mov (.const (.bool false))), none, []⟩]) .ret))) [(.tmp 4)])
def g126 : AFunc := (.code 42 (.seq (.ops [⟨(some 2), (.box (.tmp 0)), none, []⟩, ⟨(some 3), (.box (.tmp 1)), none, []⟩, ⟨(some 4), (.alloc [(.string (bs [])), (.int .i64 0)]), none, []⟩, ⟨(some 5), (.mov (.const (.bool false))), none, []⟩]) (.seq (.ops [⟨(some 9), (.fAddr 1 (.tmp 2)), none, []⟩, ⟨(some 10), (.load1 (.tmp 9)), none, []⟩, ⟨(some 6), (.mov (.tmp 10)), none, []⟩]) (.seq (.seq (.ops [⟨(some 11), (.fAddr 0 (.tmp 3)), none, []⟩, ⟨(some 12), (.load1 (.tmp 11)), none, []⟩]) (.block 0 (.seq (.ops [⟨(some 27), (.bin .eql (.tmp 12) (.const (.string (bs [])))), none, []⟩, ⟨(some 26), (.mov (.tmp 27)), none, []⟩]) (.cond (.tmp 26) (.seq (.ops [⟨(some 28), (.build [(.string (bs [])), (.int .i64 0)] []), none, []⟩, ⟨none, (.store 2 (.tmp 4) (.tmp 28)), none, []⟩, ⟨(some 5), (.mov (.const (.bool false))), none, []⟩]) .ret) (.seq (.ops [⟨(some 30), (.bin .eql (.tmp 12) (.const (.string (bs [109, 101, 116, 97])))), none, []⟩, ⟨(some 29), (.mov (.tmp 30)), none, []⟩]) (.cond (.tmp 29) .skip (.seq (.ops [⟨(some 13), (.loadN 6 (.tmp 2)), none, []⟩, ⟨(some 14), (.fAddr 0 (.tmp 3)), none, []⟩, ⟨(some 15), (.load1 (.tmp 14)), none, []⟩, ⟨(some 16), (.callv (.func 111) [(.tmp 13), (.tmp 15)]), none, []⟩, ⟨(some 7), (.mov (.tmp 16)), none, []⟩]) (.seq (.seq (.ops [⟨(some 17), (.mov (.tmp 7)), none, []⟩, ⟨(some 18), (.bin .lss (.tmp 17) (.const (.int .i64 0))), none, []⟩]) (.cond (.tmp 18) (.seq (.ops [⟨(some 19), (.build [(.string (bs [])), (.int .i64 0)] []), none, []⟩, ⟨none, (.store 2 (.tmp 4) (.tmp 19)), none, []⟩, ⟨(some 5), (.mov (.const (.bool false))), none, []⟩]) .ret) .skip)) (.ops [⟨(some 20), (.fAddr 0 (.tmp 2)), none, []⟩, ⟨(some 21), (.load1 (.tmp 20)), none, []⟩, ⟨(some 22), (.mov (.tmp 7)), none, []⟩, ⟨(some 23), (.iAddrSl 2 (.tmp 21) (.tmp 22)), none, []⟩, ⟨(some 24), (.fAddr 1 (.tmp 23)), none, []⟩, ⟨(some 25), (.load1 (.tmp 24)), none, []⟩, ⟨(some 6), (.mov (.tmp 25)), none, []⟩]))))))))) (.seq (.seq (.ops [⟨(some 31), (.mov (.tmp 6)), none, []⟩, ⟨(some 32), (.fAddr 1 (.tmp 3)), none, []⟩, ⟨(some 33), (.load1 (.tmp 32)), none, []⟩, ⟨(some 34), (.callv (.func 167) [(.tmp 31), (.tmp 33)]), none, []⟩, ⟨(some 8), (.mov (.tmp 34)), none, []⟩]) (.seq (.ops [⟨(some 35), (.mov (.tmp 8)), none, []⟩, ⟨(some 36), (.bin .geq (.tmp 35) (.const (.int .i64 0))), none, []⟩]) (.cond (.tmp 36) (.seq (.ops [⟨(some 37), (.mov (.tmp 6)), none, []⟩, ⟨(some 38), (.mov (.tmp 8)), none, []⟩, ⟨(some 39), (.iAddrSl 2 (.tmp 37) (.tmp 38)), none, []⟩, ⟨(some 40), (.loadN 2 (.tmp 39)), none, []⟩, ⟨none, (.store 2 (.tmp 4) (.tmp 40)), none, []⟩, ⟨(some 5), (.mov (.const (.bool true))), none, []⟩]) .ret) .skip))) (.seq (.ops [⟨(some 41), (.build [(.string (bs [])), (.int .i64 0)] []), none, []⟩, ⟨none, (.store 2 (.tmp 4) (.tmp 41)), none, []⟩, ⟨(some 5), (.mov (.const (.bool false))), none, []⟩]) .ret))))) [(.cellN 4 2), (.tmp 5)])
def g127 : AFunc := (.code 18 (.seq (.ops [⟨(some 6), (.mov (.tmp 0)), none, []⟩, ⟨(some 7), (.mov (.tmp 1)), none, []⟩, ⟨(some 8), (.callv (.func 48) [(.tmp 7)]), none, []⟩, ⟨(some 9), (.callv (.func 53) [(.tmp 6), (.tmp 8), (.const (.int .i64 70))]), none, []⟩]) (.seq (.ops [⟨(some 10), (.mov (.tmp 0)), none, []⟩, ⟨(some 11), (.mov (.tmp 2)), none, []⟩, ⟨(some 12), (.mov (.tmp 1)), none, []⟩, ⟨(some 13), (.lookup (.prim 2) (.int .i64 0) false (.tmp 11) (.tmp 12)), none, []⟩, ⟨(some 14), (.bin .eql (.tmp 13) (.const (.int .i64 0))), none, []⟩, ⟨(some 15), (.callv (.func 53) [(.tmp 10), (.tmp 14), (.const (.int .i64 71))]), none, []⟩]) (.ops [⟨(some 16), (.mov (.tmp 2)), none, []⟩, ⟨(some 17), (.mov (.tmp 1)), none, []⟩, ⟨none, (.mapUpd (.prim 2) (.tmp 16) (.tmp 17) (.const (.int .i64 1))), none, []⟩]))) [])
def g128 : AFunc := (.code 37 (.seq (.ops [⟨(some 2), (.box (.tmp 0)), none, []⟩, ⟨(some 4), (.mov (.const (.bool false))), none, []⟩]) (.seq (.seq (.ops [⟨(some 5), (.mov (.tmp 1)), none, []⟩, ⟨(some 6), (.bin .lss (.tmp 5) (.const (.int .i64 1))), none, []⟩, ⟨(some 7), (.mov (.tmp 6)), none, []⟩, ⟨(some 8), (.mov (.tmp 1)), (some (7, false)), []⟩, ⟨(some 9), (.bin .gtr (.tmp 8) (.const (.int .i64 128))), (some (7, false)), []⟩, ⟨(some 10), (.pick (.tmp 7) (.const (.bool true)) (.tmp 9)), none, []⟩]) (.cond (.tmp 10) (.seq (.ops [⟨(some 4), (.mov (.const (.bool false))), none, []⟩]) .ret) .skip)) (.seq (.seq (.ops [⟨(some 11), (.mov (.tmp 1)), none, []⟩, ⟨(some 12), (.bin .gtr (.tmp 11) (.const (.int .i64 64))), none, []⟩]) (.cond (.tmp 12) (.seq (.ops [⟨(some 13), (.mov (.tmp 1)), none, []⟩, ⟨(some 14), (.bin .eql (.tmp 13) (.const (.int .i64 128))), none, []⟩, ⟨(some 15), (.mov (.tmp 14)), none, []⟩, ⟨(some 16), (.fAddr 0 (.tmp 2)), (some (15, false)), []⟩, ⟨(some 18), (.mov (.tmp 1)), (some (15, false)), []⟩, ⟨(some 19), (.bin .sub (.tmp 18) (.const (.int .i64 64))), (some (15, false)), []⟩, ⟨(some 20), (.bin .shl (.const (.int .u64 1)) (.tmp 19)), (some (15, false)), []⟩, ⟨(some 17), (.load1 (.tmp 16)), (some (15, false)), []⟩, ⟨(some 21), (.bin .lss (.tmp 17) (.tmp 20)), (some (15, false)), []⟩, ⟨(some 22), (.pick (.tmp 15) (.const (.bool true)) (.tmp 21)), none, []⟩, ⟨(some 4), (.mov (.tmp 22)), none, []⟩]) .ret) .skip)) (.seq (.ops [⟨(some 23), (.fAddr 0 (.tmp 2)), none, []⟩, ⟨(some 24), (.load1 (.tmp 23)), none, []⟩, ⟨(some 25), (.bin .eql (.tmp 24) (.const (.int .u64 0))), none, []⟩, ⟨(some 26), (.mov (.tmp 25)), none, []⟩, ⟨(some 27), (.mov (.tmp 1)), (some (26, true)), []⟩, ⟨(some 28), (.bin .eql (.tmp 27) (.const (.int .i64 64))), (some (26, true)), []⟩, ⟨(some 29), (.mov (.tmp 28)), (some (26, true)), []⟩, ⟨(some 30), (.fAddr 1 (.tmp 2)), (some (29, false)), []⟩, ⟨(some 32), (.mov (.tmp 1)), (some (29, false)), []⟩, ⟨(some 33), (.bin .shl (.const (.int .u64 1)) (.tmp 32)), (some (29, false)), []⟩, ⟨(some 31), (.load1 (.tmp 30)), (some (29, false)), []⟩, ⟨(some 34), (.bin .lss (.tmp 31) (.tmp 33)), (some (29, false)), []⟩, ⟨(some 35), (.pick (.tmp 29) (.const (.bool true)) (.tmp 34)), (some (26, true)), []⟩, ⟨(some 36), (.pick (.tmp 26) (.tmp 35) (.const (.bool false))), none, []⟩, ⟨(some 4), (.mov (.tmp 36)), none, []⟩]) .ret)))) [(.tmp 4)])
def g129 : AFunc := (.code 130 (.seq (.ops [⟨(some 16), .mkMap, none, []⟩, ⟨(some 2), (.mov (.tmp 16)), none, []⟩]) (.seq (.seq (.ops [⟨(some 17), (.mov (.tmp 0)), none, []⟩, ⟨(some 18), (.nilChk (.tmp 17)), none, []⟩, ⟨(some 19), (.fAddr 0 (.tmp 18)), none, []⟩, ⟨(some 20), (.fAddr 2 (.tmp 19)), none, []⟩, ⟨(some 21), (.load1 (.tmp 20)), none, []⟩, ⟨(some 22), (.lenSl (.tmp 21)), none, []⟩, ⟨(some 23), (.mov (.const (.int .i64 0))), none, []⟩]) (.block 0 (.loop (.seq (.ops [⟨(some 24), (.bin .lss (.tmp 23) (.tmp 22)), none, []⟩]) (.seq (.cond (.tmp 24) .skip (.exit 0)) (.seq (.block 1 (.seq (.ops [⟨(some 25), (.mov (.tmp 23)), none, []⟩, ⟨(some 26), (.iAddrSl 6 (.tmp 21) (.tmp 23)), none, []⟩, ⟨(some 27), (.loadN 6 (.tmp 26)), none, []⟩, ⟨(some 4), (.alloc [(.string (bs [])), (.string (bs [])), (.string (bs [])), (.string (bs [])), (.slice none 0 0), (.string (bs []))]), none, []⟩, ⟨(some 3), (.mov (.tmp 25)), none, []⟩, ⟨none, (.store 6 (.tmp 4) (.tmp 27)), none, []⟩]) (.ops [⟨(some 28), (.mov (.tmp 2)), none, []⟩, ⟨(some 29), (.fAddr 0 (.tmp 4)), none, []⟩, ⟨(some 30), (.load1 (.tmp 29)), none, []⟩, ⟨(some 31), (.mov (.tmp 3)), none, []⟩, ⟨(some 32), (.bin .add (.tmp 31) (.const (.int .i64 1))), none, []⟩, ⟨none, (.mapUpd (.prim 2) (.tmp 28) (.tmp 30) (.tmp 32)), none, []⟩]))) (.ops [⟨(some 33), (.bin .add (.tmp 23) (.const (.int .i64 1))), none, []⟩, ⟨(some 23), (.mov (.tmp 33)), none, []⟩]))))))) (.seq (.ops [⟨(some 34), (.mov (.tmp 0)), none, []⟩, ⟨(some 35), (.nilChk (.tmp 34)), none, []⟩, ⟨(some 36), (.fAddr 0 (.tmp 35)), none, []⟩, ⟨(some 37), (.fAddr 2 (.tmp 36)), none, []⟩, ⟨(some 38), (.load1 (.tmp 37)), none, []⟩, ⟨(some 39), (.lenSl (.tmp 38)), none, []⟩, ⟨(some 40), (.mov (.const (.int .i64 0))), none, []⟩]) (.block 2 (.loop (.seq (.ops [⟨(some 41), (.bin .lss (.tmp 40) (.tmp 39)), none, []⟩]) (.seq (.cond (.tmp 41) .skip (.exit 2)) (.seq (.block 3 (.seq (.ops [⟨(some 42), (.mov (.tmp 40)), none, []⟩, ⟨(some 43), (.iAddrSl 6 (.tmp 38) (.tmp 40)), none, []⟩, ⟨(some 44), (.loadN 6 (.tmp 43)), none, []⟩, ⟨(some 6), (.alloc [(.string (bs [])), (.string (bs [])), (.string (bs [])), (.string (bs [])), (.slice none 0 0), (.string (bs []))]), none, []⟩, ⟨(some 5), (.mov (.tmp 42)), none, []⟩, ⟨none, (.store 6 (.tmp 6) (.tmp 44)), none, []⟩]) (.seq (.ops [⟨(some 45), (.mov (.tmp 0)), none, []⟩, ⟨(some 46), (.fAddr 0 (.tmp 6)), none, []⟩, ⟨(some 47), (.load1 (.tmp 46)), none, []⟩, ⟨(some 48), (.bin .add (.const (.string (bs [115, 116, 97, 116, 101, 32]))) (.tmp 47)), none, []⟩, ⟨(some 49), (.nilChk (.tmp 45)), none, []⟩, ⟨(some 50), (.fAddr 6 (.tmp 49)), none, []⟩, ⟨none, (.store 1 (.tmp 50) (.tmp 48)), none, []⟩]) (.seq (.ops [⟨(some 51), (.mov (.tmp 0)), none, []⟩, ⟨(some 52), (.nilChk (.tmp 51)), none, []⟩, ⟨(some 53), (.fAddr 0 (.tmp 52)), none, []⟩, ⟨(some 54), (.fAddr 2 (.tmp 53)), none, []⟩, ⟨(some 55), (.load1 (.tmp 54)), none, []⟩, ⟨(some 56), (.lenSl (.tmp 55)), none, []⟩, ⟨(some 57), (.mkSlice 1 1 [(.bool false)] (.tmp 56) (.tmp 56)), none, []⟩, ⟨(some 7), (.mov (.tmp 57)), none, []⟩]) (.seq (.ops [⟨(some 58), (.mov (.tmp 5)), none, []⟩, ⟨(some 59), (.buildSlice 1 1 [(.int .i64 0)] [(0, (1, (.tmp 58)))]), none, []⟩, ⟨(some 8), (.mov (.tmp 59)), none, []⟩]) (.block 4 (.loop (.seq (.seq (.ops [⟨(some 60), (.mov (.tmp 8)), none, []⟩, ⟨(some 61), (.lenSl (.tmp 60)), none, []⟩, ⟨(some 62), (.bin .gtr (.tmp 61) (.const (.int .i64 0))), none, []⟩]) (.cond (.tmp 62) .skip (.exit 4))) (.block 5 (.seq (.ops [⟨(some 63), (.mov (.tmp 0)), none, []⟩, ⟨(some 64), (.nilChk (.tmp 63)), none, []⟩, ⟨(some 65), (.fAddr 0 (.tmp 64)), none, []⟩, ⟨(some 66), (.fAddr 2 (.tmp 65)), none, []⟩, ⟨(some 68), (.mov (.tmp 8)), none, []⟩, ⟨(some 69), (.mov (.tmp 8)), none, []⟩, ⟨(some 70), (.lenSl (.tmp 69)), none, []⟩, ⟨(some 71), (.bin .sub (.tmp 70) (.const (.int .i64 1))), none, []⟩, ⟨(some 72), (.iAddrSl 1 (.tmp 68) (.tmp 71)), none, []⟩, ⟨(some 67), (.load1 (.tmp 66)), none, []⟩, ⟨(some 73), (.load1 (.tmp 72)), none, []⟩, ⟨(some 74), (.iAddrSl 6 (.tmp 67) (.tmp 73)), none, []⟩, ⟨(some 75), (.loadN 6 (.tmp 74)), none, []⟩, ⟨(some 9), (.alloc [(.string (bs [])), (.string (bs [])), (.string (bs [])), (.string (bs [])), (.slice none 0 0), (.string (bs []))]), none, []⟩, ⟨none, (.store 6 (.tmp 9) (.tmp 75)), none, []⟩]) (.seq (.ops [⟨(some 76), (.mov (.tmp 8)), none, []⟩, ⟨(some 77), (.mov (.tmp 8)), none, []⟩, ⟨(some 78), (.lenSl (.tmp 77)), none, []⟩, ⟨(some 79), (.bin .sub (.tmp 78) (.const (.int .i64 1))), none, []⟩, ⟨(some 80), (.slSl 1 (.tmp 76) none (some (.tmp 79))), none, []⟩, ⟨(some 8), (.mov (.tmp 80)), none, []⟩]) (.seq (.ops [⟨(some 81), (.fAddr 5 (.tmp 9)), none, []⟩, ⟨(some 82), (.load1 (.tmp 81)), none, []⟩, ⟨(some 83), (.buildSlice 1 1 [(.string (bs []))] [(0, (1, (.tmp 82)))]), none, []⟩, ⟨(some 10), (.mov (.tmp 83)), none, []⟩]) (.seq (.seq (.ops [⟨(some 84), (.fAddr 4 (.tmp 9)), none, []⟩, ⟨(some 85), (.load1 (.tmp 84)), none, []⟩, ⟨(some 86), (.lenSl (.tmp 85)), none, []⟩, ⟨(some 87), (.mov (.const (.int .i64 0))), none, []⟩]) (.block 6 (.loop (.seq (.ops [⟨(some 88), (.bin .lss (.tmp 87) (.tmp 86)), none, []⟩]) (.seq (.cond (.tmp 88) .skip (.exit 6)) (.seq (.block 7 (.seq (.ops [⟨(some 89), (.iAddrSl 5 (.tmp 85) (.tmp 87)), none, []⟩, ⟨(some 90), (.loadN 5 (.tmp 89)), none, []⟩, ⟨(some 12), (.alloc [(.int .u64 0), (.int .u64 0), (.int .u64 0), (.int .u64 0), (.string (bs []))]), none, []⟩, ⟨none, (.store 5 (.tmp 12) (.tmp 90)), none, []⟩]) (.ops [⟨(some 91), (.mov (.tmp 10)), none, []⟩, ⟨(some 92), (.fAddr 4 (.tmp 12)), none, []⟩, ⟨(some 93), (.load1 (.tmp 92)), none, []⟩, ⟨(some 94), (.buildSlice 1 1 [(.string (bs []))] [(0, (1, (.tmp 93)))]), none, []⟩, ⟨(some 95), (.append 1 16 (.tmp 91) (.tmp 94)), none, []⟩, ⟨(some 10), (.mov (.tmp 95)), none, []⟩]))) (.ops [⟨(some 96), (.bin .add (.tmp 87) (.const (.int .i64 1))), none, []⟩, ⟨(some 87), (.mov (.tmp 96)), none, []⟩]))))))) (.seq (.ops [⟨(some 97), (.mov (.tmp 10)), none, []⟩, ⟨(some 98), (.lenSl (.tmp 97)), none, []⟩, ⟨(some 99), (.mov (.const (.int .i64 0))), none, []⟩]) (.block 8 (.loop (.seq (.ops [⟨(some 100), (.bin .lss (.tmp 99) (.tmp 98)), none, []⟩]) (.seq (.cond (.tmp 100) .skip (.exit 8)) (.seq (.block 9 (.seq (.ops [⟨(some 101), (.iAddrSl 1 (.tmp 97) (.tmp 99)), none, []⟩, ⟨(some 102), (.load1 (.tmp 101)), none, []⟩, ⟨(some 14), (.mov (.tmp 102)), none, []⟩]) (.seq (.ops [⟨(some 103), (.mov (.tmp 2)), none, []⟩, ⟨(some 104), (.mov (.tmp 14)), none, []⟩, ⟨(some 105), (.lookup (.prim 2) (.int .i64 0) false (.tmp 103) (.tmp 104)), none, []⟩, ⟨(some 106), (.bin .sub (.tmp 105) (.const (.int .i64 1))), none, []⟩, ⟨(some 15), (.mov (.tmp 106)), none, []⟩]) (.seq (.ops [⟨(some 107), (.mov (.tmp 0)), none, []⟩, ⟨(some 108), (.mov (.tmp 15)), none, []⟩, ⟨(some 109), (.mov (.tmp 5)), none, []⟩, ⟨(some 110), (.bin .neq (.tmp 108) (.tmp 109)), none, []⟩, ⟨(some 111), (.callv (.func 53) [(.tmp 107), (.tmp 110), (.const (.int .i64 78))]), none, []⟩]) (.seq (.ops [⟨(some 112), (.mov (.tmp 15)), none, []⟩, ⟨(some 113), (.bin .geq (.tmp 112) (.const (.int .i64 0))), none, []⟩, ⟨(some 114), (.mov (.tmp 113)), none, []⟩, ⟨(some 115), (.mov (.tmp 7)), (some (114, true)), []⟩, ⟨(some 116), (.mov (.tmp 15)), (some (114, true)), []⟩, ⟨(some 117), (.iAddrSl 1 (.tmp 115) (.tmp 116)), (some (114, true)), []⟩, ⟨(some 118), (.load1 (.tmp 117)), (some (114, true)), []⟩, ⟨(some 119), (.un .not (.tmp 118)), (some (114, true)), []⟩, ⟨(some 120), (.pick (.tmp 114) (.tmp 119) (.const (.bool false))), none, []⟩]) (.cond (.tmp 120) (.seq (.ops [⟨(some 121), (.mov (.tmp 7)), none, []⟩, ⟨(some 122), (.mov (.tmp 15)), none, []⟩, ⟨(some 123), (.iAddrSl 1 (.tmp 121) (.tmp 122)), none, []⟩, ⟨none, (.store 1 (.tmp 123) (.const (.bool true))), none, []⟩]) (.ops [⟨(some 124), (.mov (.tmp 8)), none, []⟩, ⟨(some 125), (.mov (.tmp 15)), none, []⟩, ⟨(some 126), (.buildSlice 1 1 [(.int .i64 0)] [(0, (1, (.tmp 125)))]), none, []⟩, ⟨(some 127), (.append 1 8 (.tmp 124) (.tmp 126)), none, []⟩, ⟨(some 8), (.mov (.tmp 127)), none, []⟩])) .skip)))))) (.ops [⟨(some 128), (.bin .add (.tmp 99) (.const (.int .i64 1))), none, []⟩, ⟨(some 99), (.mov (.tmp 128)), none, []⟩])))))))))))))))))))) (.ops [⟨(some 129), (.bin .add (.tmp 40) (.const (.int .i64 1))), none, []⟩, ⟨(some 40), (.mov (.tmp 129)), none, []⟩]))))))))) [])
def g130 : AFunc := (.code 158 (.seq (.ops [⟨(some 5), (.box (.tmp 2)), none, []⟩]) (.seq (.ops [⟨(some 6), (.mov (.const (.bool false))), none, []⟩]) (.seq (.ops [⟨(some 7), (.alloc [(.string (bs [])), (.string (bs [])), (.int .u64 0), (.int .u64 0)]), none, []⟩]) (.seq (.seq (.ops [⟨(some 14), (.fAddr 0 (.tmp 5)), none, []⟩, ⟨(some 15), (.load1 (.tmp 14)), none, []⟩]) (.block 0 (.seq (.ops [⟨(some 17), (.bin .eql (.tmp 15) (.const (.int .i64 1))), none, []⟩, ⟨(some 16), (.mov (.tmp 17)), none, []⟩]) (.cond (.tmp 16) (.ops [⟨(some 18), (.fAddr 3 (.tmp 5)), none, []⟩, ⟨(some 19), (.load1 (.tmp 18)), none, []⟩, ⟨(some 20), (.bin .geq (.tmp 19) (.const (.int .i64 0))), none, []⟩, ⟨(some 21), (.mov (.tmp 20)), none, []⟩, ⟨(some 22), (.fAddr 3 (.tmp 5)), (some (21, true)), []⟩, ⟨(some 23), (.load1 (.tmp 22)), (some (21, true)), []⟩, ⟨(some 24), (.bin .leq (.tmp 23) (.const (.int .i64 5))), (some (21, true)), []⟩, ⟨(some 25), (.pick (.tmp 21) (.tmp 24) (.const (.bool false))), none, []⟩, ⟨(some 26), (.mov (.tmp 25)), none, []⟩, ⟨(some 27), (.fAddr 4 (.tmp 5)), (some (26, true)), []⟩, ⟨(some 28), (.loadN 4 (.tmp 27)), (some (26, true)), []⟩, ⟨(some 29), (.callv (.func 168) [(.tmp 28)]), (some (26, true)), []⟩, ⟨(some 30), (.pick (.tmp 26) (.tmp 29) (.const (.bool false))), none, []⟩, ⟨(some 31), (.mov (.tmp 30)), none, []⟩, ⟨(some 32), (.fAddr 8 (.tmp 5)), (some (31, true)), []⟩, ⟨(some 33), (.loadN 4 (.tmp 32)), (some (31, true)), []⟩, ⟨(some 34), (.callv (.func 168) [(.tmp 33)]), (some (31, true)), []⟩, ⟨(some 35), (.pick (.tmp 31) (.tmp 34) (.const (.bool false))), none, []⟩, ⟨(some 36), (.mov (.tmp 35)), none, []⟩, ⟨(some 37), (.fAddr 3 (.tmp 5)), (some (36, true)), []⟩, ⟨(some 38), (.load1 (.tmp 37)), (some (36, true)), []⟩, ⟨(some 39), (.bin .neq (.tmp 38) (.const (.int .i64 0))), (some (36, true)), []⟩, ⟨(some 40), (.mov (.tmp 39)), (some (36, true)), []⟩, ⟨(some 41), (.fAddr 8 (.tmp 5)), (some (40, false)), []⟩, ⟨(some 42), (.loadN 4 (.tmp 41)), (some (40, false)), []⟩, ⟨(some 43), (.loadN 4 (.tmp 7)), (some (40, false)), []⟩, ⟨(some 44), (.eqs false 4 [(0, 2), (1, 2), (2, 1), (3, 1)] (.tmp 42) (.tmp 43)), (some (40, false)), []⟩, ⟨(some 45), (.pick (.tmp 40) (.const (.bool true)) (.tmp 44)), (some (36, true)), []⟩, ⟨(some 46), (.pick (.tmp 36) (.tmp 45) (.const (.bool false))), none, []⟩, ⟨(some 6), (.mov (.tmp 46)), none, []⟩]) (.seq (.seq (.ops [⟨(some 48), (.bin .eql (.tmp 15) (.const (.int .i64 2))), none, []⟩, ⟨(some 47), (.mov (.tmp 48)), none, []⟩]) (.cond (.tmp 47) .skip (.ops [⟨(some 49), (.bin .eql (.tmp 15) (.const (.int .i64 6))), none, []⟩, ⟨(some 47), (.mov (.tmp 49)), none, []⟩]))) (.cond (.tmp 47) (.ops [⟨(some 50), (.loadN 12 (.tmp 5)), none, []⟩, ⟨(some 51), (.fAddr 0 (.tmp 5)), none, []⟩, ⟨(some 52), (.load1 (.tmp 51)), none, []⟩, ⟨(some 53), (.build [(.int .i64 0), (.string (bs [])), (.string (bs [])), (.int .i64 0), (.string (bs [])), (.string (bs [])), (.int .u64 0), (.int .u64 0), (.string (bs [])), (.string (bs [])), (.int .u64 0), (.int .u64 0)] [(0, (1, (.tmp 52)))]), none, []⟩, ⟨(some 54), (.eqs false 12 [(0, 1), (1, 2), (2, 2), (3, 1), (4, 2), (5, 2), (6, 1), (7, 1), (8, 2), (9, 2), (10, 1), (11, 1)] (.tmp 50) (.tmp 53)), none, []⟩, ⟨(some 6), (.mov (.tmp 54)), none, []⟩]) (.seq (.seq (.ops [⟨(some 56), (.bin .eql (.tmp 15) (.const (.int .i64 3))), none, []⟩, ⟨(some 55), (.mov (.tmp 56)), none, []⟩]) (.cond (.tmp 55) .skip (.ops [⟨(some 57), (.bin .eql (.tmp 15) (.const (.int .i64 4))), none, []⟩, ⟨(some 55), (.mov (.tmp 57)), none, []⟩]))) (.cond (.tmp 55) (.ops [⟨(some 58), (.loadN 12 (.tmp 5)), none, []⟩, ⟨(some 59), (.fAddr 0 (.tmp 5)), none, []⟩, ⟨(some 60), (.load1 (.tmp 59)), none, []⟩, ⟨(some 61), (.fAddr 1 (.tmp 5)), none, []⟩, ⟨(some 62), (.fAddr 0 (.tmp 61)), none, []⟩, ⟨(some 63), (.load1 (.tmp 62)), none, []⟩, ⟨(some 64), (.build [(.string (bs [])), (.string (bs []))] [(0, (1, (.tmp 63)))]), none, []⟩, ⟨(some 65), (.build [(.int .i64 0), (.string (bs [])), (.string (bs [])), (.int .i64 0), (.string (bs [])), (.string (bs [])), (.int .u64 0), (.int .u64 0), (.string (bs [])), (.string (bs [])), (.int .u64 0), (.int .u64 0)] [(0, (1, (.tmp 60))), (1, (2, (.tmp 64)))]), none, []⟩, ⟨(some 66), (.eqs false 12 [(0, 1), (1, 2), (2, 2), (3, 1), (4, 2), (5, 2), (6, 1), (7, 1), (8, 2), (9, 2), (10, 1), (11, 1)] (.tmp 58) (.tmp 65)), none, []⟩, ⟨(some 6), (.mov (.tmp 66)), none, []⟩]) (.seq (.ops [⟨(some 68), (.bin .eql (.tmp 15) (.const (.int .i64 5))), none, []⟩, ⟨(some 67), (.mov (.tmp 68)), none, []⟩]) (.cond (.tmp 67) (.ops [⟨(some 69), (.loadN 12 (.tmp 5)), none, []⟩, ⟨(some 70), (.fAddr 0 (.tmp 5)), none, []⟩, ⟨(some 71), (.load1 (.tmp 70)), none, []⟩, ⟨(some 72), (.fAddr 1 (.tmp 5)), none, []⟩, ⟨(some 73), (.loadN 2 (.tmp 72)), none, []⟩, ⟨(some 74), (.build [(.int .i64 0), (.string (bs [])), (.string (bs [])), (.int .i64 0), (.string (bs [])), (.string (bs [])), (.int .u64 0), (.int .u64 0), (.string (bs [])), (.string (bs [])), (.int .u64 0), (.int .u64 0)] [(0, (1, (.tmp 71))), (1, (2, (.tmp 73)))]), none, []⟩, ⟨(some 75), (.eqs false 12 [(0, 1), (1, 2), (2, 2), (3, 1), (4, 2), (5, 2), (6, 1), (7, 1), (8, 2), (9, 2), (10, 1), (11, 1)] (.tmp 69) (.tmp 74)), none, []⟩, ⟨(some 6), (.mov (.tmp 75)), none, []⟩]) .skip)))))))))) (.seq (.ops [⟨(some 76), (.mov (.tmp 0)), none, []⟩, ⟨(some 77), (.mov (.tmp 6)), none, []⟩, ⟨(some 78), (.callv (.func 53) [(.tmp 76), (.tmp 77), (.const (.int .i64 75))]), none, []⟩]) (.seq (.ops [⟨(some 79), (.fAddr 0 (.tmp 5)), none, []⟩, ⟨(some 80), (.load1 (.tmp 79)), none, []⟩]) (.block 1 (.seq (.ops [⟨(some 82), (.bin .eql (.tmp 80) (.const (.int .i64 1))), none, []⟩, ⟨(some 81), (.mov (.tmp 82)), none, []⟩]) (.cond (.tmp 81) (.seq (.ops [⟨(some 84), (.mov (.tmp 0)), none, []⟩, ⟨(some 85), (.nilChk (.tmp 84)), none, []⟩, ⟨(some 86), (.fAddr 0 (.tmp 85)), none, []⟩, ⟨(some 88), (.fAddr 1 (.tmp 5)), none, []⟩, ⟨(some 87), (.loadN 6 (.tmp 86)), none, []⟩, ⟨(some 89), (.loadN 2 (.tmp 88)), none, []⟩, ⟨(some 90), (.callv (.func 126) [(.tmp 87), (.tmp 89)]), none, []⟩, ⟨(some 83), (.mov (.tmp 90)), none, []⟩, ⟨(some 91), (.extract (.tmp 83) 0), none, []⟩, ⟨(some 92), (.extract (.tmp 83) 1), none, []⟩, ⟨(some 8), (.alloc [(.string (bs [])), (.int .i64 0)]), none, []⟩, ⟨none, (.store 2 (.tmp 8) (.tmp 91)), none, []⟩, ⟨(some 9), (.mov (.tmp 92)), none, []⟩]) (.seq (.ops [⟨(some 93), (.mov (.tmp 0)), none, []⟩, ⟨(some 94), (.mov (.tmp 9)), none, []⟩, ⟨(some 95), (.callv (.func 53) [(.tmp 93), (.tmp 94), (.const (.int .i64 72))]), none, []⟩]) (.seq (.ops [⟨(some 96), (.mov (.tmp 0)), none, []⟩, ⟨(some 97), (.mov (.tmp 1)), none, []⟩, ⟨(some 98), (.fAddr 4 (.tmp 5)), none, []⟩, ⟨(some 99), (.loadN 4 (.tmp 98)), none, []⟩, ⟨(some 100), (.callv (.func 169) [(.tmp 96), (.tmp 97), (.tmp 99)]), none, []⟩, ⟨(some 10), (.mov (.tmp 100)), none, []⟩]) (.seq (.ops [⟨(some 101), (.mov (.tmp 0)), none, []⟩, ⟨(some 102), (.mov (.tmp 1)), none, []⟩, ⟨(some 103), (.fAddr 8 (.tmp 5)), none, []⟩, ⟨(some 104), (.loadN 4 (.tmp 103)), none, []⟩, ⟨(some 105), (.callv (.func 169) [(.tmp 101), (.tmp 102), (.tmp 104)]), none, []⟩, ⟨(some 11), (.mov (.tmp 105)), none, []⟩]) (.seq (.ops [⟨(some 106), (.mov (.tmp 0)), none, []⟩, ⟨(some 107), (.mov (.tmp 10)), none, []⟩, ⟨(some 108), (.fAddr 1 (.tmp 8)), none, []⟩, ⟨(some 109), (.load1 (.tmp 108)), none, []⟩, ⟨(some 110), (.callv (.tmp 107) [(.tmp 109)]), none, []⟩, ⟨(some 111), (.callv (.func 53) [(.tmp 106), (.tmp 110), (.const (.int .i64 73))]), none, []⟩]) (.ops [⟨(some 112), (.mov (.tmp 0)), none, []⟩, ⟨(some 113), (.mov (.tmp 11)), none, []⟩, ⟨(some 114), (.fAddr 1 (.tmp 8)), none, []⟩, ⟨(some 115), (.load1 (.tmp 114)), none, []⟩, ⟨(some 116), (.callv (.tmp 113) [(.tmp 115)]), none, []⟩, ⟨(some 117), (.callv (.func 53) [(.tmp 112), (.tmp 116), (.const (.int .i64 73))]), none, []⟩])))))) (.seq (.seq (.ops [⟨(some 119), (.bin .eql (.tmp 80) (.const (.int .i64 3))), none, []⟩, ⟨(some 118), (.mov (.tmp 119)), none, []⟩]) (.cond (.tmp 118) .skip (.ops [⟨(some 120), (.bin .eql (.tmp 80) (.const (.int .i64 4))), none, []⟩, ⟨(some 118), (.mov (.tmp 120)), none, []⟩]))) (.cond (.tmp 118) (.ops [⟨(some 121), (.mov (.tmp 0)), none, []⟩, ⟨(some 122), (.mov (.tmp 0)), none, []⟩, ⟨(some 123), (.nilChk (.tmp 122)), none, []⟩, ⟨(some 124), (.fAddr 0 (.tmp 123)), none, []⟩, ⟨(some 126), (.fAddr 1 (.tmp 5)), none, []⟩, ⟨(some 127), (.fAddr 0 (.tmp 126)), none, []⟩, ⟨(some 125), (.loadN 6 (.tmp 124)), none, []⟩, ⟨(some 128), (.load1 (.tmp 127)), none, []⟩, ⟨(some 129), (.callv (.func 111) [(.tmp 125), (.tmp 128)]), none, []⟩, ⟨(some 130), (.bin .geq (.tmp 129) (.const (.int .i64 0))), none, []⟩, ⟨(some 131), (.callv (.func 53) [(.tmp 121), (.tmp 130), (.const (.int .i64 72))]), none, []⟩]) (.seq (.ops [⟨(some 133), (.bin .eql (.tmp 80) (.const (.int .i64 5))), none, []⟩, ⟨(some 132), (.mov (.tmp 133)), none, []⟩]) (.cond (.tmp 132) (.seq (.ops [⟨(some 135), (.mov (.tmp 0)), none, []⟩, ⟨(some 136), (.nilChk (.tmp 135)), none, []⟩, ⟨(some 137), (.fAddr 0 (.tmp 136)), none, []⟩, ⟨(some 139), (.fAddr 1 (.tmp 5)), none, []⟩, ⟨(some 138), (.loadN 6 (.tmp 137)), none, []⟩, ⟨(some 140), (.loadN 2 (.tmp 139)), none, []⟩, ⟨(some 141), (.callv (.func 126) [(.tmp 138), (.tmp 140)]), none, []⟩, ⟨(some 134), (.mov (.tmp 141)), none, []⟩, ⟨(some 142), (.extract (.tmp 134) 0), none, []⟩, ⟨(some 143), (.extract (.tmp 134) 1), none, []⟩, ⟨(some 12), (.alloc [(.string (bs [])), (.int .i64 0)]), none, []⟩, ⟨none, (.store 2 (.tmp 12) (.tmp 142)), none, []⟩, ⟨(some 13), (.mov (.tmp 143)), none, []⟩]) (.seq (.ops [⟨(some 144), (.mov (.tmp 0)), none, []⟩, ⟨(some 145), (.mov (.tmp 13)), none, []⟩, ⟨(some 146), (.mov (.tmp 145)), none, []⟩, ⟨(some 147), (.fAddr 1 (.tmp 5)), (some (146, true)), []⟩, ⟨(some 148), (.fAddr 0 (.tmp 147)), (some (146, true)), []⟩, ⟨(some 149), (.load1 (.tmp 148)), (some (146, true)), []⟩, ⟨(some 150), (.bin .neq (.tmp 149) (.const (.string (bs [109, 101, 116, 97])))), (some (146, true)), []⟩, ⟨(some 151), (.pick (.tmp 146) (.tmp 150) (.const (.bool false))), none, []⟩, ⟨(some 152), (.callv (.func 53) [(.tmp 144), (.tmp 151), (.const (.int .i64 72))]), none, []⟩]) (.ops [⟨(some 153), (.mov (.tmp 0)), none, []⟩, ⟨(some 154), (.fAddr 1 (.tmp 12)), none, []⟩, ⟨(some 155), (.load1 (.tmp 154)), none, []⟩, ⟨(some 156), (.bin .eql (.tmp 155) (.const (.int .i64 16))), none, []⟩, ⟨(some 157), (.callv (.func 53) [(.tmp 153), (.tmp 156), (.const (.int .i64 73))]), none, []⟩]))) .skip))))))))))))) [])
def g131 : AFunc := (.code 16 (.seq (.ops [⟨(some 4), (.box (.tmp 0)), none, []⟩, ⟨(some 6), (.mov (.const (.bool false))), none, []⟩]) (.seq (.ops [⟨(some 7), (.load1 (.tmp 2)), none, []⟩, ⟨(some 8), (.bin .add (.tmp 7) (.const (.int .i64 1))), none, []⟩, ⟨none, (.store 1 (.tmp 2) (.tmp 8)), none, []⟩]) (.seq (.ops [⟨(some 9), (.load1 (.tmp 3)), none, []⟩, ⟨(some 10), (.mov (.tmp 9)), none, []⟩, ⟨(some 11), (.mov (.tmp 1)), (some (10, false)), []⟩, ⟨(some 12), (.bin .gtr (.tmp 11) (.const (.int .i64 8))), (some (10, false)), []⟩, ⟨(some 13), (.pick (.tmp 10) (.const (.bool true)) (.tmp 12)), none, []⟩, ⟨none, (.store 1 (.tmp 3) (.tmp 13)), none, []⟩]) (.seq (.ops [⟨(some 14), (.load1 (.tmp 2)), none, []⟩, ⟨(some 15), (.bin .leq (.tmp 14) (.const (.int .i64 128))), none, []⟩, ⟨(some 6), (.mov (.tmp 15)), none, []⟩]) .ret)))) [(.tmp 6)])
def g132 : AFunc := (.code 106 (.seq (.ops [⟨(some 3), (.box (.tmp 1)), none, []⟩]) (.seq (.seq (.ops [⟨(some 10), (.fAddr 0 (.tmp 3)), none, []⟩, ⟨(some 11), (.load1 (.tmp 10)), none, []⟩, ⟨(some 12), (.bin .eql (.tmp 11) (.const (.int .i64 1))), none, []⟩]) (.cond (.tmp 12) (.seq (.ops [⟨(some 13), (.mov (.tmp 0)), none, []⟩, ⟨(some 14), (.loadN 9 (.tmp 3)), none, []⟩, ⟨(some 15), (.fAddr 0 (.tmp 3)), none, []⟩, ⟨(some 16), (.load1 (.tmp 15)), none, []⟩, ⟨(some 17), (.fAddr 1 (.tmp 3)), none, []⟩, ⟨(some 18), (.fAddr 0 (.tmp 17)), none, []⟩, ⟨(some 19), (.fAddr 0 (.tmp 18)), none, []⟩, ⟨(some 20), (.load1 (.tmp 19)), none, []⟩, ⟨(some 21), (.build [(.string (bs [])), (.string (bs []))] [(0, (1, (.tmp 20)))]), none, []⟩, ⟨(some 22), (.build [(.string (bs [])), (.string (bs [])), (.int .u64 0), (.int .u64 0)] [(0, (2, (.tmp 21)))]), none, []⟩, ⟨(some 23), (.build [(.int .i64 0), (.string (bs [])), (.string (bs [])), (.int .u64 0), (.int .u64 0), (.string (bs [])), (.string (bs [])), (.int .u64 0), (.int .u64 0)] [(0, (1, (.tmp 16))), (1, (4, (.tmp 22)))]), none, []⟩, ⟨(some 24), (.eqs false 9 [(0, 1), (1, 2), (2, 2), (3, 1), (4, 1), (5, 2), (6, 2), (7, 1), (8, 1)] (.tmp 14) (.tmp 23)), none, []⟩, ⟨(some 25), (.callv (.func 53) [(.tmp 13), (.tmp 24), (.const (.int .i64 75))]), none, []⟩]) (.seq (.ops [⟨(some 26), (.mov (.tmp 0)), none, []⟩, ⟨(some 27), (.mov (.tmp 0)), none, []⟩, ⟨(some 28), (.nilChk (.tmp 27)), none, []⟩, ⟨(some 29), (.fAddr 0 (.tmp 28)), none, []⟩, ⟨(some 31), (.fAddr 1 (.tmp 3)), none, []⟩, ⟨(some 32), (.fAddr 0 (.tmp 31)), none, []⟩, ⟨(some 33), (.fAddr 0 (.tmp 32)), none, []⟩, ⟨(some 30), (.loadN 6 (.tmp 29)), none, []⟩, ⟨(some 34), (.load1 (.tmp 33)), none, []⟩, ⟨(some 35), (.callv (.func 111) [(.tmp 30), (.tmp 34)]), none, []⟩, ⟨(some 36), (.bin .geq (.tmp 35) (.const (.int .i64 0))), none, []⟩, ⟨(some 37), (.callv (.func 53) [(.tmp 26), (.tmp 36), (.const (.int .i64 72))]), none, []⟩]) .ret)) .skip)) (.seq (.ops [⟨(some 38), (.mov (.tmp 0)), none, []⟩, ⟨(some 39), (.fAddr 0 (.tmp 3)), none, []⟩, ⟨(some 40), (.load1 (.tmp 39)), none, []⟩, ⟨(some 41), (.bin .geq (.tmp 40) (.const (.int .i64 2))), none, []⟩, ⟨(some 42), (.mov (.tmp 41)), none, []⟩, ⟨(some 43), (.fAddr 0 (.tmp 3)), (some (42, true)), []⟩, ⟨(some 44), (.load1 (.tmp 43)), (some (42, true)), []⟩, ⟨(some 45), (.bin .leq (.tmp 44) (.const (.int .i64 5))), (some (42, true)), []⟩, ⟨(some 46), (.pick (.tmp 42) (.tmp 45) (.const (.bool false))), none, []⟩, ⟨(some 47), (.mov (.tmp 46)), none, []⟩, ⟨(some 48), (.fAddr 1 (.tmp 3)), (some (47, true)), []⟩, ⟨(some 49), (.loadN 4 (.tmp 48)), (some (47, true)), []⟩, ⟨(some 50), (.callv (.func 168) [(.tmp 49)]), (some (47, true)), []⟩, ⟨(some 51), (.pick (.tmp 47) (.tmp 50) (.const (.bool false))), none, []⟩, ⟨(some 52), (.mov (.tmp 51)), none, []⟩, ⟨(some 53), (.fAddr 5 (.tmp 3)), (some (52, true)), []⟩, ⟨(some 54), (.loadN 4 (.tmp 53)), (some (52, true)), []⟩, ⟨(some 55), (.callv (.func 168) [(.tmp 54)]), (some (52, true)), []⟩, ⟨(some 56), (.pick (.tmp 52) (.tmp 55) (.const (.bool false))), none, []⟩, ⟨(some 57), (.callv (.func 53) [(.tmp 38), (.tmp 56), (.const (.int .i64 75))]), none, []⟩]) (.seq (.ops [⟨(some 58), (.mov (.tmp 0)), none, []⟩, ⟨(some 59), (.fAddr 1 (.tmp 3)), none, []⟩, ⟨(some 60), (.loadN 4 (.tmp 59)), none, []⟩, ⟨(some 61), (.callv (.func 169) [(.tmp 58), (.const (.slice none 0 0)), (.tmp 60)]), none, []⟩, ⟨(some 4), (.mov (.tmp 61)), none, []⟩]) (.seq (.ops [⟨(some 62), (.mov (.tmp 0)), none, []⟩, ⟨(some 63), (.fAddr 5 (.tmp 3)), none, []⟩, ⟨(some 64), (.loadN 4 (.tmp 63)), none, []⟩, ⟨(some 65), (.callv (.func 169) [(.tmp 62), (.const (.slice none 0 0)), (.tmp 64)]), none, []⟩, ⟨(some 5), (.mov (.tmp 65)), none, []⟩]) (.seq (.ops [⟨(some 67), (.mov (.tmp 0)), none, []⟩, ⟨(some 68), (.nilChk (.tmp 67)), none, []⟩, ⟨(some 69), (.fAddr 0 (.tmp 68)), none, []⟩, ⟨(some 71), (.fAddr 1 (.tmp 3)), none, []⟩, ⟨(some 72), (.fAddr 0 (.tmp 71)), none, []⟩, ⟨(some 70), (.loadN 6 (.tmp 69)), none, []⟩, ⟨(some 73), (.loadN 2 (.tmp 72)), none, []⟩, ⟨(some 74), (.callv (.func 126) [(.tmp 70), (.tmp 73)]), none, []⟩, ⟨(some 66), (.mov (.tmp 74)), none, []⟩, ⟨(some 75), (.extract (.tmp 66) 0), none, []⟩, ⟨(some 76), (.extract (.tmp 66) 1), none, []⟩, ⟨(some 6), (.alloc [(.string (bs [])), (.int .i64 0)]), none, []⟩, ⟨none, (.store 2 (.tmp 6) (.tmp 75)), none, []⟩, ⟨(some 7), (.mov (.tmp 76)), none, []⟩]) (.seq (.ops [⟨(some 78), (.mov (.tmp 0)), none, []⟩, ⟨(some 79), (.nilChk (.tmp 78)), none, []⟩, ⟨(some 80), (.fAddr 0 (.tmp 79)), none, []⟩, ⟨(some 82), (.fAddr 5 (.tmp 3)), none, []⟩, ⟨(some 83), (.fAddr 0 (.tmp 82)), none, []⟩, ⟨(some 81), (.loadN 6 (.tmp 80)), none, []⟩, ⟨(some 84), (.loadN 2 (.tmp 83)), none, []⟩, ⟨(some 85), (.callv (.func 126) [(.tmp 81), (.tmp 84)]), none, []⟩, ⟨(some 77), (.mov (.tmp 85)), none, []⟩, ⟨(some 86), (.extract (.tmp 77) 0), none, []⟩, ⟨(some 87), (.extract (.tmp 77) 1), none, []⟩, ⟨(some 8), (.alloc [(.string (bs [])), (.int .i64 0)]), none, []⟩, ⟨none, (.store 2 (.tmp 8) (.tmp 86)), none, []⟩, ⟨(some 9), (.mov (.tmp 87)), none, []⟩]) (.block 0 (.seq (.ops [⟨(some 91), (.mov (.tmp 7)), none, []⟩, ⟨(some 90), (.mov (.tmp 91)), none, []⟩]) (.cond (.tmp 90) (.ops [⟨(some 92), (.mov (.tmp 0)), none, []⟩, ⟨(some 93), (.mov (.tmp 5)), none, []⟩, ⟨(some 94), (.fAddr 1 (.tmp 6)), none, []⟩, ⟨(some 95), (.load1 (.tmp 94)), none, []⟩, ⟨(some 96), (.callv (.tmp 93) [(.tmp 95)]), none, []⟩, ⟨(some 97), (.callv (.func 53) [(.tmp 92), (.tmp 96), (.const (.int .i64 73))]), none, []⟩]) (.seq (.ops [⟨(some 99), (.mov (.tmp 9)), none, []⟩, ⟨(some 98), (.mov (.tmp 99)), none, []⟩]) (.cond (.tmp 98) (.ops [⟨(some 100), (.mov (.tmp 0)), none, []⟩, ⟨(some 101), (.mov (.tmp 4)), none, []⟩, ⟨(some 102), (.fAddr 1 (.tmp 8)), none, []⟩, ⟨(some 103), (.load1 (.tmp 102)), none, []⟩, ⟨(some 104), (.callv (.tmp 101) [(.tmp 103)]), none, []⟩, ⟨(some 105), (.callv (.func 53) [(.tmp 100), (.tmp 104), (.const (.int .i64 73))]), none, []⟩]) (.ops [⟨(some 88), (.mov (.tmp 0)), none, []⟩, ⟨(some 89), (.callv (.func 53) [(.tmp 88), (.const (.bool false)), (.const (.int .i64 73))]), none, []⟩]))))))))))))) [])
end Go.Proofs.YtpllhhaeclnngaaGreat.Ev

/- The functions of the program in the evaluator's form, as its own look-up lays them (part 3). Conditions: none; these are definitions. -/
namespace Go.Proofs.YtpllhhaeclnngaaGreat.Ev
set_option maxRecDepth 100000
def g144 : AFunc := (.code 8 (.seq (.ops [⟨(some 2), (.mov (.const (.slice none 0 0))), none, []⟩]) (.seq (.seq (.ops [⟨(some 3), (.mov (.tmp 0)), none, []⟩, ⟨(some 4), (.eqp 1 false (.tmp 3) (.const (.slice none 0 0))), none, []⟩]) (.cond (.tmp 4) (.seq (.ops [⟨(some 2), (.mov (.const (.slice none 0 0))), none, []⟩]) .ret) .skip)) (.seq (.ops [⟨(some 5), (.buildSlice 12 0 [] []), none, []⟩, ⟨(some 6), (.mov (.tmp 0)), none, []⟩, ⟨(some 7), (.append 12 144 (.tmp 5) (.tmp 6)), none, []⟩, ⟨(some 2), (.mov (.tmp 7)), none, []⟩]) .ret))) [(.tmp 2)])
def g145 : AFunc := (.code 8 (.seq (.ops [⟨(some 2), (.mov (.const (.slice none 0 0))), none, []⟩]) (.seq (.seq (.ops [⟨(some 3), (.mov (.tmp 0)), none, []⟩, ⟨(some 4), (.eqp 1 false (.tmp 3) (.const (.slice none 0 0))), none, []⟩]) (.cond (.tmp 4) (.seq (.ops [⟨(some 2), (.mov (.const (.slice none 0 0))), none, []⟩]) .ret) .skip)) (.seq (.ops [⟨(some 5), (.buildSlice 3 0 [] []), none, []⟩, ⟨(some 6), (.mov (.tmp 0)), none, []⟩, ⟨(some 7), (.append 3 40 (.tmp 5) (.tmp 6)), none, []⟩, ⟨(some 2), (.mov (.tmp 7)), none, []⟩]) .ret))) [(.tmp 2)])
def g146 : AFunc := (.code 8 (.seq (.ops [⟨(some 2), (.mov (.const (.slice none 0 0))), none, []⟩]) (.seq (.seq (.ops [⟨(some 3), (.mov (.tmp 0)), none, []⟩, ⟨(some 4), (.eqp 1 false (.tmp 3) (.const (.slice none 0 0))), none, []⟩]) (.cond (.tmp 4) (.seq (.ops [⟨(some 2), (.mov (.const (.slice none 0 0))), none, []⟩]) .ret) .skip)) (.seq (.ops [⟨(some 5), (.buildSlice 1 0 [] []), none, []⟩, ⟨(some 6), (.mov (.tmp 0)), none, []⟩, ⟨(some 7), (.append 1 16 (.tmp 5) (.tmp 6)), none, []⟩, ⟨(some 2), (.mov (.tmp 7)), none, []⟩]) .ret))) [(.tmp 2)])
def g147 : AFunc := (.code 8 (.seq (.ops [⟨(some 2), (.mov (.const (.slice none 0 0))), none, []⟩]) (.seq (.seq (.ops [⟨(some 3), (.mov (.tmp 0)), none, []⟩, ⟨(some 4), (.eqp 1 false (.tmp 3) (.const (.slice none 0 0))), none, []⟩]) (.cond (.tmp 4) (.seq (.ops [⟨(some 2), (.mov (.const (.slice none 0 0))), none, []⟩]) .ret) .skip)) (.seq (.ops [⟨(some 5), (.buildSlice 2 0 [] []), none, []⟩, ⟨(some 6), (.mov (.tmp 0)), none, []⟩, ⟨(some 7), (.append 2 16 (.tmp 5) (.tmp 6)), none, []⟩, ⟨(some 2), (.mov (.tmp 7)), none, []⟩]) .ret))) [(.tmp 2)])
def g148 : AFunc := (.code 8 (.seq (.ops [⟨(some 2), (.mov (.const (.slice none 0 0))), none, []⟩]) (.seq (.seq (.ops [⟨(some 3), (.mov (.tmp 0)), none, []⟩, ⟨(some 4), (.eqp 1 false (.tmp 3) (.const (.slice none 0 0))), none, []⟩]) (.cond (.tmp 4) (.seq (.ops [⟨(some 2), (.mov (.const (.slice none 0 0))), none, []⟩]) .ret) .skip)) (.seq (.ops [⟨(some 5), (.buildSlice 13 0 [] []), none, []⟩, ⟨(some 6), (.mov (.tmp 0)), none, []⟩, ⟨(some 7), (.append 13 176 (.tmp 5) (.tmp 6)), none, []⟩, ⟨(some 2), (.mov (.tmp 7)), none, []⟩]) .ret))) [(.tmp 2)])
def g149 : AFunc := (.code 26 (.seq (.ops [⟨(some 4), (.mov (.const (.bool false))), none, []⟩]) (.seq (.seq (.ops [⟨(some 6), (.mov (.tmp 0)), none, []⟩, ⟨(some 7), (.lenSl (.tmp 6)), none, []⟩, ⟨(some 8), (.mov (.tmp 1)), none, []⟩, ⟨(some 9), (.lenSl (.tmp 8)), none, []⟩, ⟨(some 10), (.bin .neq (.tmp 7) (.tmp 9)), none, []⟩]) (.cond (.tmp 10) (.seq (.ops [⟨(some 4), (.mov (.const (.bool false))), none, []⟩]) .ret) .skip)) (.seq (.seq (.ops [⟨(some 11), (.mov (.tmp 0)), none, []⟩, ⟨(some 12), (.lenSl (.tmp 11)), none, []⟩, ⟨(some 13), (.mov (.const (.int .i64 0))), none, []⟩]) (.block 0 (.loop (.seq (.ops [⟨(some 14), (.bin .lss (.tmp 13) (.tmp 12)), none, []⟩]) (.seq (.cond (.tmp 14) .skip (.exit 0)) (.seq (.block 1 (.seq (.ops [⟨(some 15), (.mov (.tmp 13)), none, []⟩, ⟨(some 5), (.mov (.tmp 15)), none, []⟩]) (.seq (.ops [⟨(some 16), (.mov (.tmp 0)), none, []⟩, ⟨(some 17), (.mov (.tmp 5)), none, []⟩, ⟨(some 18), (.iAddrSl 3 (.tmp 16) (.tmp 17)), none, []⟩, ⟨(some 20), (.mov (.tmp 1)), none, []⟩, ⟨(some 21), (.mov (.tmp 5)), none, []⟩, ⟨(some 22), (.iAddrSl 3 (.tmp 20) (.tmp 21)), none, []⟩, ⟨(some 19), (.loadN 3 (.tmp 18)), none, []⟩, ⟨(some 23), (.loadN 3 (.tmp 22)), none, []⟩, ⟨(some 24), (.eqs true 3 [(0, 2), (1, 2), (2, 1)] (.tmp 19) (.tmp 23)), none, []⟩]) (.cond (.tmp 24) (.seq (.ops [⟨(some 4), (.mov (.const (.bool false))), none, []⟩]) .ret) .skip)))) (.ops [⟨(some 25), (.bin .add (.tmp 13) (.const (.int .i64 1))), none, []⟩, ⟨(some 13), (.mov (.tmp 25)), none, []⟩]))))))) (.seq (.ops [⟨(some 4), (.mov (.const (.bool true))), none, []⟩]) .ret)))) [(.tmp 4)])
def g150 : AFunc := (.code 26 (.seq (.ops [⟨(some 4), (.mov (.const (.bool false))), none, []⟩]) (.seq (.seq (.ops [⟨(some 6), (.mov (.tmp 0)), none, []⟩, ⟨(some 7), (.lenSl (.tmp 6)), none, []⟩, ⟨(some 8), (.mov (.tmp 1)), none, []⟩, ⟨(some 9), (.lenSl (.tmp 8)), none, []⟩, ⟨(some 10), (.bin .neq (.tmp 7) (.tmp 9)), none, []⟩]) (.cond (.tmp 10) (.seq (.ops [⟨(some 4), (.mov (.const (.bool false))), none, []⟩]) .ret) .skip)) (.seq (.seq (.ops [⟨(some 11), (.mov (.tmp 0)), none, []⟩, ⟨(some 12), (.lenSl (.tmp 11)), none, []⟩, ⟨(some 13), (.mov (.const (.int .i64 0))), none, []⟩]) (.block 0 (.loop (.seq (.ops [⟨(some 14), (.bin .lss (.tmp 13) (.tmp 12)), none, []⟩]) (.seq (.cond (.tmp 14) .skip (.exit 0)) (.seq (.block 1 (.seq (.ops [⟨(some 15), (.mov (.tmp 13)), none, []⟩, ⟨(some 5), (.mov (.tmp 15)), none, []⟩]) (.seq (.ops [⟨(some 16), (.mov (.tmp 0)), none, []⟩, ⟨(some 17), (.mov (.tmp 5)), none, []⟩, ⟨(some 18), (.iAddrSl 1 (.tmp 16) (.tmp 17)), none, []⟩, ⟨(some 20), (.mov (.tmp 1)), none, []⟩, ⟨(some 21), (.mov (.tmp 5)), none, []⟩, ⟨(some 22), (.iAddrSl 1 (.tmp 20) (.tmp 21)), none, []⟩, ⟨(some 19), (.load1 (.tmp 18)), none, []⟩, ⟨(some 23), (.load1 (.tmp 22)), none, []⟩, ⟨(some 24), (.bin .neq (.tmp 19) (.tmp 23)), none, []⟩]) (.cond (.tmp 24) (.seq (.ops [⟨(some 4), (.mov (.const (.bool false))), none, []⟩]) .ret) .skip)))) (.ops [⟨(some 25), (.bin .add (.tmp 13) (.const (.int .i64 1))), none, []⟩, ⟨(some 13), (.mov (.tmp 25)), none, []⟩]))))))) (.seq (.ops [⟨(some 4), (.mov (.const (.bool true))), none, []⟩]) .ret)))) [(.tmp 4)])
def g151 : AFunc := (.code 26 (.seq (.ops [⟨(some 4), (.mov (.const (.bool false))), none, []⟩]) (.seq (.seq (.ops [⟨(some 6), (.mov (.tmp 0)), none, []⟩, ⟨(some 7), (.lenSl (.tmp 6)), none, []⟩, ⟨(some 8), (.mov (.tmp 1)), none, []⟩, ⟨(some 9), (.lenSl (.tmp 8)), none, []⟩, ⟨(some 10), (.bin .neq (.tmp 7) (.tmp 9)), none, []⟩]) (.cond (.tmp 10) (.seq (.ops [⟨(some 4), (.mov (.const (.bool false))), none, []⟩]) .ret) .skip)) (.seq (.seq (.ops [⟨(some 11), (.mov (.tmp 0)), none, []⟩, ⟨(some 12), (.lenSl (.tmp 11)), none, []⟩, ⟨(some 13), (.mov (.const (.int .i64 0))), none, []⟩]) (.block 0 (.loop (.seq (.ops [⟨(some 14), (.bin .lss (.tmp 13) (.tmp 12)), none, []⟩]) (.seq (.cond (.tmp 14) .skip (.exit 0)) (.seq (.block 1 (.seq (.ops [⟨(some 15), (.mov (.tmp 13)), none, []⟩, ⟨(some 5), (.mov (.tmp 15)), none, []⟩]) (.seq (.ops [⟨(some 16), (.mov (.tmp 0)), none, []⟩, ⟨(some 17), (.mov (.tmp 5)), none, []⟩, ⟨(some 18), (.iAddrSl 2 (.tmp 16) (.tmp 17)), none, []⟩, ⟨(some 20), (.mov (.tmp 1)), none, []⟩, ⟨(some 21), (.mov (.tmp 5)), none, []⟩, ⟨(some 22), (.iAddrSl 2 (.tmp 20) (.tmp 21)), none, []⟩, ⟨(some 19), (.loadN 2 (.tmp 18)), none, []⟩, ⟨(some 23), (.loadN 2 (.tmp 22)), none, []⟩, ⟨(some 24), (.eqs true 2 [(0, 1), (1, 1)] (.tmp 19) (.tmp 23)), none, []⟩]) (.cond (.tmp 24) (.seq (.ops [⟨(some 4), (.mov (.const (.bool false))), none, []⟩]) .ret) .skip)))) (.ops [⟨(some 25), (.bin .add (.tmp 13) (.const (.int .i64 1))), none, []⟩, ⟨(some 13), (.mov (.tmp 25)), none, []⟩]))))))) (.seq (.ops [⟨(some 4), (.mov (.const (.bool true))), none, []⟩]) .ret)))) [(.tmp 4)])
def g152 : AFunc := (.code 32 (.seq (.ops [⟨(some 6), (.mov (.const (.bool false))), none, []⟩]) (.seq (.seq (.ops [⟨(some 10), (.mov (.tmp 0)), none, []⟩, ⟨(some 11), (.lenSl (.tmp 10)), none, []⟩, ⟨(some 12), (.mov (.tmp 1)), none, []⟩, ⟨(some 13), (.lenSl (.tmp 12)), none, []⟩, ⟨(some 14), (.bin .neq (.tmp 11) (.tmp 13)), none, []⟩]) (.cond (.tmp 14) (.seq (.ops [⟨(some 6), (.mov (.const (.bool false))), none, []⟩]) .ret) .skip)) (.seq (.seq (.ops [⟨(some 15), (.mov (.tmp 0)), none, []⟩, ⟨(some 16), (.lenSl (.tmp 15)), none, []⟩, ⟨(some 17), (.mov (.const (.int .i64 0))), none, []⟩]) (.block 0 (.loop (.seq (.ops [⟨(some 18), (.bin .lss (.tmp 17) (.tmp 16)), none, []⟩]) (.seq (.cond (.tmp 18) .skip (.exit 0)) (.seq (.block 1 (.seq (.ops [⟨(some 19), (.mov (.tmp 17)), none, []⟩, ⟨(some 20), (.iAddrSl 13 (.tmp 15) (.tmp 17)), none, []⟩, ⟨(some 21), (.loadN 13 (.tmp 20)), none, []⟩, ⟨(some 8), (.alloc [(.int .i64 0), (.string (bs [])), (.int .i64 0), (.string (bs [])), (.string (bs [])), (.int .u64 0), (.int .u64 0), (.string (bs [])), (.string (bs [])), (.int .u64 0), (.int .u64 0), (.slice none 0 0), (.slice none 0 0)]), none, []⟩, ⟨(some 7), (.mov (.tmp 19)), none, []⟩, ⟨none, (.store 13 (.tmp 8) (.tmp 21)), none, []⟩]) (.seq (.ops [⟨(some 22), (.mov (.tmp 1)), none, []⟩, ⟨(some 23), (.mov (.tmp 7)), none, []⟩, ⟨(some 24), (.iAddrSl 13 (.tmp 22) (.tmp 23)), none, []⟩, ⟨(some 25), (.loadN 13 (.tmp 24)), none, []⟩, ⟨(some 9), (.alloc [(.int .i64 0), (.string (bs [])), (.int .i64 0), (.string (bs [])), (.string (bs [])), (.int .u64 0), (.int .u64 0), (.string (bs [])), (.string (bs [])), (.int .u64 0), (.int .u64 0), (.slice none 0 0), (.slice none 0 0)]), none, []⟩, ⟨none, (.store 13 (.tmp 9) (.tmp 25)), none, []⟩]) (.seq (.ops [⟨(some 26), (.mov (.tmp 2)), none, []⟩, ⟨(some 27), (.loadN 13 (.tmp 8)), none, []⟩, ⟨(some 28), (.loadN 13 (.tmp 9)), none, []⟩, ⟨(some 29), (.callv (.tmp 26) [(.tmp 27), (.tmp 28)]), none, []⟩, ⟨(some 30), (.un .not (.tmp 29)), none, []⟩]) (.cond (.tmp 30) (.seq (.ops [⟨(some 6), (.mov (.const (.bool false))), none, []⟩]) .ret) .skip))))) (.ops [⟨(some 31), (.bin .add (.tmp 17) (.const (.int .i64 1))), none, []⟩, ⟨(some 17), (.mov (.tmp 31)), none, []⟩]))))))) (.seq (.ops [⟨(some 6), (.mov (.const (.bool true))), none, []⟩]) .ret)))) [(.tmp 6)])
def g153 : AFunc := (.code 38 (.seq (.ops [⟨(some 2), (.box (.tmp 0)), none, []⟩, ⟨(some 3), (.box (.tmp 1)), none, []⟩, ⟨(some 4), (.mov (.const (.bool false))), none, []⟩]) (.seq (.ops [⟨(some 5), (.fAddr 0 (.tmp 2)), none, []⟩, ⟨(some 6), (.load1 (.tmp 5)), none, []⟩, ⟨(some 7), (.fAddr 0 (.tmp 3)), none, []⟩, ⟨(some 8), (.load1 (.tmp 7)), none, []⟩, ⟨(some 9), (.bin .eql (.tmp 6) (.tmp 8)), none, []⟩, ⟨(some 10), (.mov (.tmp 9)), none, []⟩, ⟨(some 11), (.fAddr 1 (.tmp 2)), (some (10, true)), []⟩, ⟨(some 12), (.load1 (.tmp 11)), (some (10, true)), []⟩, ⟨(some 13), (.fAddr 1 (.tmp 3)), (some (10, true)), []⟩, ⟨(some 14), (.load1 (.tmp 13)), (some (10, true)), []⟩, ⟨(some 15), (.bin .eql (.tmp 12) (.tmp 14)), (some (10, true)), []⟩, ⟨(some 16), (.pick (.tmp 10) (.tmp 15) (.const (.bool false))), none, []⟩, ⟨(some 17), (.mov (.tmp 16)), none, []⟩, ⟨(some 18), (.fAddr 2 (.tmp 2)), (some (17, true)), []⟩, ⟨(some 19), (.loadN 9 (.tmp 18)), (some (17, true)), []⟩, ⟨(some 20), (.fAddr 2 (.tmp 3)), (some (17, true)), []⟩, ⟨(some 21), (.loadN 9 (.tmp 20)), (some (17, true)), []⟩, ⟨(some 22), (.eqs false 9 [(0, 1), (1, 2), (2, 2), (3, 1), (4, 1), (5, 2), (6, 2), (7, 1), (8, 1)] (.tmp 19) (.tmp 21)), (some (17, true)), []⟩, ⟨(some 23), (.pick (.tmp 17) (.tmp 22) (.const (.bool false))), none, []⟩, ⟨(some 24), (.mov (.tmp 23)), none, []⟩, ⟨(some 25), (.fAddr 11 (.tmp 2)), (some (24, true)), []⟩, ⟨(some 26), (.load1 (.tmp 25)), (some (24, true)), []⟩, ⟨(some 27), (.fAddr 11 (.tmp 3)), (some (24, true)), []⟩, ⟨(some 28), (.load1 (.tmp 27)), (some (24, true)), []⟩, ⟨(some 29), (.callv (.func 94) [(.tmp 26), (.tmp 28)]), (some (24, true)), []⟩, ⟨(some 30), (.pick (.tmp 24) (.tmp 29) (.const (.bool false))), none, []⟩, ⟨(some 31), (.mov (.tmp 30)), none, []⟩, ⟨(some 32), (.fAddr 12 (.tmp 2)), (some (31, true)), []⟩, ⟨(some 33), (.load1 (.tmp 32)), (some (31, true)), []⟩, ⟨(some 34), (.fAddr 12 (.tmp 3)), (some (31, true)), []⟩, ⟨(some 35), (.load1 (.tmp 34)), (some (31, true)), []⟩, ⟨(some 36), (.callv (.func 94) [(.tmp 33), (.tmp 35)]), (some (31, true)), []⟩, ⟨(some 37), (.pick (.tmp 31) (.tmp 36) (.const (.bool false))), none, []⟩, ⟨(some 4), (.mov (.tmp 37)), none, []⟩]) .ret)) [(.tmp 4)])
def g154 : AFunc := (.code 19 (.seq (.ops [⟨(some 4), (.mov (.const (.int .i64 0))), none, []⟩]) (.seq (.seq (.ops [⟨(some 6), (.mov (.tmp 0)), none, []⟩, ⟨(some 7), (.lenSl (.tmp 6)), none, []⟩, ⟨(some 8), (.mov (.const (.int .i64 0))), none, []⟩]) (.block 0 (.loop (.seq (.ops [⟨(some 9), (.bin .lss (.tmp 8) (.tmp 7)), none, []⟩]) (.seq (.cond (.tmp 9) .skip (.exit 0)) (.seq (.block 1 (.seq (.ops [⟨(some 10), (.mov (.tmp 8)), none, []⟩, ⟨(some 5), (.mov (.tmp 10)), none, []⟩]) (.seq (.ops [⟨(some 11), (.mov (.tmp 1)), none, []⟩, ⟨(some 12), (.mov (.tmp 0)), none, []⟩, ⟨(some 13), (.mov (.tmp 5)), none, []⟩, ⟨(some 14), (.iAddrSl 1 (.tmp 12) (.tmp 13)), none, []⟩, ⟨(some 15), (.load1 (.tmp 14)), none, []⟩, ⟨(some 16), (.bin .eql (.tmp 11) (.tmp 15)), none, []⟩]) (.cond (.tmp 16) (.seq (.ops [⟨(some 17), (.mov (.tmp 5)), none, []⟩, ⟨(some 4), (.mov (.tmp 17)), none, []⟩]) .ret) .skip)))) (.ops [⟨(some 18), (.bin .add (.tmp 8) (.const (.int .i64 1))), none, []⟩, ⟨(some 8), (.mov (.tmp 18)), none, []⟩]))))))) (.seq (.ops [⟨(some 4), (.mov (.const (.int .i64 (-1)))), none, []⟩]) .ret))) [(.tmp 4)])
def g155 : AFunc := (.code 36 (.seq (.ops [⟨(some 2), (.box (.tmp 0)), none, []⟩, ⟨(some 3), (.box (.tmp 1)), none, []⟩, ⟨(some 4), (.mov (.const (.int .i64 0))), none, []⟩, ⟨(some 5), (.mov (.const (.bool false))), none, []⟩]) (.seq (.ops [⟨(some 10), (.loadN 6 (.tmp 2)), none, []⟩, ⟨(some 11), (.loadN 2 (.tmp 3)), none, []⟩, ⟨(some 12), (.callv (.func 173) [(.tmp 10), (.tmp 11)]), none, []⟩, ⟨(some 9), (.mov (.tmp 12)), none, []⟩, ⟨(some 13), (.extract (.tmp 9) 0), none, []⟩, ⟨(some 14), (.extract (.tmp 9) 1), none, []⟩, ⟨(some 15), (.extract (.tmp 9) 2), none, []⟩, ⟨(some 6), (.mov (.tmp 13)), none, []⟩, ⟨(some 7), (.mov (.tmp 14)), none, []⟩, ⟨(some 8), (.mov (.tmp 15)), none, []⟩]) (.seq (.seq (.ops [⟨(some 16), (.mov (.tmp 8)), none, []⟩, ⟨(some 17), (.un .not (.tmp 16)), none, []⟩]) (.cond (.tmp 17) (.seq (.ops [⟨(some 4), (.mov (.const (.int .i64 0))), none, []⟩, ⟨(some 5), (.mov (.const (.bool false))), none, []⟩]) .ret) .skip)) (.seq (.seq (.ops [⟨(some 18), (.mov (.tmp 6)), none, []⟩, ⟨(some 19), (.bin .lss (.tmp 18) (.const (.int .i64 0))), none, []⟩]) (.cond (.tmp 19) (.seq (.ops [⟨(some 20), (.fAddr 1 (.tmp 2)), none, []⟩, ⟨(some 21), (.load1 (.tmp 20)), none, []⟩, ⟨(some 22), (.mov (.tmp 7)), none, []⟩, ⟨(some 23), (.iAddrSl 2 (.tmp 21) (.tmp 22)), none, []⟩, ⟨(some 24), (.fAddr 1 (.tmp 23)), none, []⟩, ⟨(some 25), (.load1 (.tmp 24)), none, []⟩, ⟨(some 4), (.mov (.tmp 25)), none, []⟩, ⟨(some 5), (.mov (.const (.bool true))), none, []⟩]) .ret) .skip)) (.seq (.ops [⟨(some 26), (.fAddr 0 (.tmp 2)), none, []⟩, ⟨(some 27), (.load1 (.tmp 26)), none, []⟩, ⟨(some 28), (.mov (.tmp 6)), none, []⟩, ⟨(some 29), (.iAddrSl 2 (.tmp 27) (.tmp 28)), none, []⟩, ⟨(some 30), (.fAddr 1 (.tmp 29)), none, []⟩, ⟨(some 31), (.load1 (.tmp 30)), none, []⟩, ⟨(some 32), (.mov (.tmp 7)), none, []⟩, ⟨(some 33), (.iAddrSl 2 (.tmp 31) (.tmp 32)), none, []⟩, ⟨(some 34), (.fAddr 1 (.tmp 33)), none, []⟩, ⟨(some 35), (.load1 (.tmp 34)), none, []⟩, ⟨(some 4), (.mov (.tmp 35)), none, []⟩, ⟨(some 5), (.mov (.const (.bool true))), none, []⟩]) .ret))))) [(.tmp 4), (.tmp 5)])
def g156 : AFunc := (.code 42 (.seq (.ops [⟨(some 2), (.box (.tmp 0)), none, []⟩, ⟨(some 4), (.mov (.const (.bool false))), none, []⟩]) (.seq (.block 0 (.seq (.ops [⟨(some 6), (.mov (.tmp 1)), none, []⟩, ⟨(some 7), (.bin .lss (.tmp 6) (.const (.int .i64 1))), none, []⟩, ⟨(some 8), (.mov (.tmp 7)), none, []⟩, ⟨(some 9), (.mov (.tmp 1)), (some (8, false)), []⟩, ⟨(some 10), (.bin .gtr (.tmp 9) (.const (.int .i64 128))), (some (8, false)), []⟩, ⟨(some 11), (.pick (.tmp 8) (.const (.bool true)) (.tmp 10)), none, []⟩, ⟨(some 5), (.mov (.tmp 11)), none, []⟩]) (.cond (.tmp 5) (.seq (.ops [⟨(some 4), (.mov (.const (.bool false))), none, []⟩]) .ret) (.seq (.ops [⟨(some 13), (.mov (.tmp 1)), none, []⟩, ⟨(some 14), (.bin .lss (.tmp 13) (.const (.int .i64 64))), none, []⟩, ⟨(some 12), (.mov (.tmp 14)), none, []⟩]) (.cond (.tmp 12) (.seq (.ops [⟨(some 15), (.fAddr 0 (.tmp 2)), none, []⟩, ⟨(some 16), (.load1 (.tmp 15)), none, []⟩, ⟨(some 17), (.bin .eql (.tmp 16) (.const (.int .u64 0))), none, []⟩, ⟨(some 18), (.mov (.tmp 17)), none, []⟩, ⟨(some 19), (.fAddr 1 (.tmp 2)), (some (18, true)), []⟩, ⟨(some 20), (.load1 (.tmp 19)), (some (18, true)), []⟩, ⟨(some 21), (.mov (.tmp 1)), (some (18, true)), []⟩, ⟨(some 22), (.conv .u64 (.tmp 21)), (some (18, true)), []⟩, ⟨(some 23), (.bin .shr (.tmp 20) (.tmp 22)), (some (18, true)), []⟩, ⟨(some 24), (.bin .eql (.tmp 23) (.const (.int .u64 0))), (some (18, true)), []⟩, ⟨(some 25), (.pick (.tmp 18) (.tmp 24) (.const (.bool false))), none, []⟩, ⟨(some 4), (.mov (.tmp 25)), none, []⟩]) .ret) (.seq (.ops [⟨(some 27), (.mov (.tmp 1)), none, []⟩, ⟨(some 28), (.bin .eql (.tmp 27) (.const (.int .i64 64))), none, []⟩, ⟨(some 26), (.mov (.tmp 28)), none, []⟩]) (.cond (.tmp 26) (.seq (.ops [⟨(some 29), (.fAddr 0 (.tmp 2)), none, []⟩, ⟨(some 30), (.load1 (.tmp 29)), none, []⟩, ⟨(some 31), (.bin .eql (.tmp 30) (.const (.int .u64 0))), none, []⟩, ⟨(some 4), (.mov (.tmp 31)), none, []⟩]) .ret) (.seq (.ops [⟨(some 33), (.mov (.tmp 1)), none, []⟩, ⟨(some 34), (.bin .lss (.tmp 33) (.const (.int .i64 128))), none, []⟩, ⟨(some 32), (.mov (.tmp 34)), none, []⟩]) (.cond (.tmp 32) (.seq (.ops [⟨(some 35), (.fAddr 0 (.tmp 2)), none, []⟩, ⟨(some 36), (.load1 (.tmp 35)), none, []⟩, ⟨(some 37), (.mov (.tmp 1)), none, []⟩, ⟨(some 38), (.bin .sub (.tmp 37) (.const (.int .i64 64))), none, []⟩, ⟨(some 39), (.conv .u64 (.tmp 38)), none, []⟩, ⟨(some 40), (.bin .shr (.tmp 36) (.tmp 39)), none, []⟩, ⟨(some 41), (.bin .eql (.tmp 40) (.const (.int .u64 0))), none, []⟩, ⟨(some 4), (.mov (.tmp 41)), none, []⟩]) .ret) .skip))))))))) (.seq (.ops [⟨(some 4), (.mov (.const (.bool true))), none, []⟩]) .ret))) [(.tmp 4)])
def g157 : AFunc := (.code 19 (.seq (.ops [⟨(some 4), (.mov (.const (.int .i64 0))), none, []⟩]) (.seq (.seq (.ops [⟨(some 6), (.mov (.tmp 0)), none, []⟩, ⟨(some 7), (.lenSl (.tmp 6)), none, []⟩, ⟨(some 8), (.mov (.const (.int .i64 0))), none, []⟩]) (.block 0 (.loop (.seq (.ops [⟨(some 9), (.bin .lss (.tmp 8) (.tmp 7)), none, []⟩]) (.seq (.cond (.tmp 9) .skip (.exit 0)) (.seq (.block 1 (.seq (.ops [⟨(some 10), (.mov (.tmp 8)), none, []⟩, ⟨(some 5), (.mov (.tmp 10)), none, []⟩]) (.seq (.ops [⟨(some 11), (.mov (.tmp 1)), none, []⟩, ⟨(some 12), (.mov (.tmp 0)), none, []⟩, ⟨(some 13), (.mov (.tmp 5)), none, []⟩, ⟨(some 14), (.iAddrSl 3 (.tmp 12) (.tmp 13)), none, []⟩, ⟨(some 15), (.loadN 3 (.tmp 14)), none, []⟩, ⟨(some 16), (.callv (.tmp 11) [(.tmp 15)]), none, []⟩]) (.cond (.tmp 16) (.seq (.ops [⟨(some 17), (.mov (.tmp 5)), none, []⟩, ⟨(some 4), (.mov (.tmp 17)), none, []⟩]) .ret) .skip)))) (.ops [⟨(some 18), (.bin .add (.tmp 8) (.const (.int .i64 1))), none, []⟩, ⟨(some 8), (.mov (.tmp 18)), none, []⟩]))))))) (.seq (.ops [⟨(some 4), (.mov (.const (.int .i64 (-1)))), none, []⟩]) .ret))) [(.tmp 4)])
def g158 : AFunc := (.code 8 (.seq (.ops [⟨(some 4), (.mov (.const (.int .i64 0))), none, []⟩]) (.seq (.ops [⟨(some 5), (.mov (.tmp 0)), none, []⟩, ⟨(some 6), (.mov (.tmp 1)), none, []⟩, ⟨(some 7), (.callv (.func 184) [(.tmp 5), (.tmp 6)]), none, []⟩, ⟨(some 4), (.mov (.tmp 7)), none, []⟩]) .ret)) [(.tmp 4)])
def g159 : AFunc := (.code 8 (.seq (.ops [⟨(some 2), (.box (.tmp 0)), none, []⟩, ⟨(some 3), (.mov (.const (.bool false))), none, []⟩]) (.seq (.ops [⟨(some 4), (.fAddr 0 (.tmp 2)), none, []⟩, ⟨(some 5), (.load1 (.tmp 4)), none, []⟩, ⟨(some 6), (.load1 (.tmp 1)), none, []⟩, ⟨(some 7), (.bin .eql (.tmp 5) (.tmp 6)), none, []⟩, ⟨(some 3), (.mov (.tmp 7)), none, []⟩]) .ret)) [(.tmp 3)])
def g160 : AFunc := (.code 8 (.seq (.ops [⟨(some 4), (.mov (.const (.int .i64 0))), none, []⟩]) (.seq (.ops [⟨(some 5), (.mov (.tmp 0)), none, []⟩, ⟨(some 6), (.mov (.tmp 1)), none, []⟩, ⟨(some 7), (.callv (.func 185) [(.tmp 5), (.tmp 6)]), none, []⟩, ⟨(some 4), (.mov (.tmp 7)), none, []⟩]) .ret)) [(.tmp 4)])
def g161 : AFunc := (.code 8 (.seq (.ops [⟨(some 2), (.box (.tmp 0)), none, []⟩, ⟨(some 3), (.mov (.const (.bool false))), none, []⟩]) (.seq (.ops [⟨(some 4), (.fAddr 0 (.tmp 2)), none, []⟩, ⟨(some 5), (.load1 (.tmp 4)), none, []⟩, ⟨(some 6), (.load1 (.tmp 1)), none, []⟩, ⟨(some 7), (.bin .eql (.tmp 5) (.tmp 6)), none, []⟩, ⟨(some 3), (.mov (.tmp 7)), none, []⟩]) .ret)) [(.tmp 3)])
def g162 : AFunc := (.code 8 (.seq (.ops [⟨(some 4), (.mov (.const (.int .i64 0))), none, []⟩]) (.seq (.ops [⟨(some 5), (.mov (.tmp 0)), none, []⟩, ⟨(some 6), (.mov (.tmp 1)), none, []⟩, ⟨(some 7), (.callv (.func 186) [(.tmp 5), (.tmp 6)]), none, []⟩, ⟨(some 4), (.mov (.tmp 7)), none, []⟩]) .ret)) [(.tmp 4)])
def g163 : AFunc := (.code 8 (.seq (.ops [⟨(some 2), (.box (.tmp 0)), none, []⟩, ⟨(some 3), (.mov (.const (.bool false))), none, []⟩]) (.seq (.ops [⟨(some 4), (.fAddr 0 (.tmp 2)), none, []⟩, ⟨(some 5), (.load1 (.tmp 4)), none, []⟩, ⟨(some 6), (.load1 (.tmp 1)), none, []⟩, ⟨(some 7), (.bin .eql (.tmp 5) (.tmp 6)), none, []⟩, ⟨(some 3), (.mov (.tmp 7)), none, []⟩]) .ret)) [(.tmp 3)])
def g164 : AFunc := (.code 26 (.seq (.ops [⟨(some 4), (.mov (.const (.bool false))), none, []⟩]) (.seq (.seq (.ops [⟨(some 6), (.mov (.tmp 0)), none, []⟩, ⟨(some 7), (.lenSl (.tmp 6)), none, []⟩, ⟨(some 8), (.mov (.tmp 1)), none, []⟩, ⟨(some 9), (.lenSl (.tmp 8)), none, []⟩, ⟨(some 10), (.bin .neq (.tmp 7) (.tmp 9)), none, []⟩]) (.cond (.tmp 10) (.seq (.ops [⟨(some 4), (.mov (.const (.bool false))), none, []⟩]) .ret) .skip)) (.seq (.seq (.ops [⟨(some 5), (.mov (.const (.int .i64 0))), none, []⟩]) (.block 0 (.loop (.seq (.seq (.ops [⟨(some 11), (.mov (.tmp 5)), none, []⟩, ⟨(some 12), (.mov (.tmp 0)), none, []⟩, ⟨(some 13), (.lenSl (.tmp 12)), none, []⟩, ⟨(some 14), (.bin .lss (.tmp 11) (.tmp 13)), none, []⟩]) (.cond (.tmp 14) .skip (.exit 0))) (.seq (.block 1 (.seq (.ops [⟨(some 17), (.mov (.tmp 0)), none, []⟩, ⟨(some 18), (.mov (.tmp 5)), none, []⟩, ⟨(some 19), (.iAddrSl 2 (.tmp 17) (.tmp 18)), none, []⟩, ⟨(some 21), (.mov (.tmp 1)), none, []⟩, ⟨(some 22), (.mov (.tmp 5)), none, []⟩, ⟨(some 23), (.iAddrSl 2 (.tmp 21) (.tmp 22)), none, []⟩, ⟨(some 20), (.loadN 2 (.tmp 19)), none, []⟩, ⟨(some 24), (.loadN 2 (.tmp 23)), none, []⟩, ⟨(some 25), (.eqs true 2 [(0, 1), (1, 1)] (.tmp 20) (.tmp 24)), none, []⟩]) (.cond (.tmp 25) (.seq (.ops [⟨(some 4), (.mov (.const (.bool false))), none, []⟩]) .ret) .skip))) (.ops [⟨(some 15), (.mov (.tmp 5)), none, []⟩, ⟨(some 16), (.bin .add (.tmp 15) (.const (.int .i64 1))), none, []⟩, ⟨(some 5), (.mov (.tmp 16)), none, []⟩])))))) (.seq (.ops [⟨(some 4), (.mov (.const (.bool true))), none, []⟩]) .ret)))) [(.tmp 4)])
def g167 : AFunc := (.code 8 (.seq (.ops [⟨(some 3), (.box (.tmp 1)), none, []⟩, ⟨(some 4), (.mov (.const (.int .i64 0))), none, []⟩]) (.seq (.ops [⟨(some 5), (.mov (.tmp 0)), none, []⟩, ⟨(some 6), (.mkFunc 189 [] [(.tmp 3)]), none, []⟩, ⟨(some 7), (.callv (.func 188) [(.tmp 5), (.tmp 6)]), none, []⟩, ⟨(some 4), (.mov (.tmp 7)), none, []⟩]) .ret)) [(.tmp 4)])
def g168 : AFunc := (.code 13 (.seq (.ops [⟨(some 1), (.box (.tmp 0)), none, []⟩, ⟨(some 2), (.mov (.const (.bool false))), none, []⟩]) (.seq (.ops [⟨(some 3), (.fAddr 0 (.tmp 1)), none, []⟩, ⟨(some 4), (.loadN 2 (.tmp 3)), none, []⟩, ⟨(some 5), (.build [(.string (bs [])), (.string (bs []))] []), none, []⟩, ⟨(some 6), (.eqs false 2 [(0, 2), (1, 2)] (.tmp 4) (.tmp 5)), none, []⟩, ⟨(some 7), (.mov (.tmp 6)), none, []⟩, ⟨(some 8), (.fAddr 2 (.tmp 1)), (some (7, false)), []⟩, ⟨(some 9), (.loadN 2 (.tmp 8)), (some (7, false)), []⟩, ⟨(some 10), (.build [(.int .u64 0), (.int .u64 0)] []), (some (7, false)), []⟩, ⟨(some 11), (.eqs false 2 [(0, 1), (1, 1)] (.tmp 9) (.tmp 10)), (some (7, false)), []⟩, ⟨(some 12), (.pick (.tmp 7) (.const (.bool true)) (.tmp 11)), none, []⟩, ⟨(some 2), (.mov (.tmp 12)), none, []⟩]) .ret)) [(.tmp 2)])
def g169 : AFunc := (.code 44 (.seq (.ops [⟨(some 5), (.box (.tmp 2)), none, []⟩, ⟨(some 6), (.mov (.const .nilFunc)), none, []⟩]) (.seq (.seq (.ops [⟨(some 10), (.fAddr 0 (.tmp 5)), none, []⟩, ⟨(some 11), (.loadN 2 (.tmp 10)), none, []⟩, ⟨(some 12), (.build [(.string (bs [])), (.string (bs []))] []), none, []⟩, ⟨(some 13), (.eqs false 2 [(0, 2), (1, 2)] (.tmp 11) (.tmp 12)), none, []⟩]) (.cond (.tmp 13) (.seq (.ops [⟨(some 14), (.mkFunc 190 [] [(.tmp 5)]), none, []⟩, ⟨(some 6), (.mov (.tmp 14)), none, []⟩]) .ret) .skip)) (.seq (.ops [⟨(some 16), (.mov (.tmp 0)), none, []⟩, ⟨(some 17), (.nilChk (.tmp 16)), none, []⟩, ⟨(some 18), (.fAddr 0 (.tmp 17)), none, []⟩, ⟨(some 20), (.fAddr 0 (.tmp 5)), none, []⟩, ⟨(some 19), (.loadN 6 (.tmp 18)), none, []⟩, ⟨(some 21), (.loadN 2 (.tmp 20)), none, []⟩, ⟨(some 22), (.callv (.func 126) [(.tmp 19), (.tmp 21)]), none, []⟩, ⟨(some 15), (.mov (.tmp 22)), none, []⟩, ⟨(some 23), (.extract (.tmp 15) 0), none, []⟩, ⟨(some 24), (.extract (.tmp 15) 1), none, []⟩, ⟨(some 7), (.alloc [(.string (bs [])), (.int .i64 0)]), none, []⟩, ⟨none, (.store 2 (.tmp 7) (.tmp 23)), none, []⟩, ⟨(some 8), (.mov (.tmp 24)), none, []⟩]) (.seq (.seq (.ops [⟨(some 25), (.fAddr 0 (.tmp 5)), none, []⟩, ⟨(some 26), (.fAddr 0 (.tmp 25)), none, []⟩, ⟨(some 27), (.load1 (.tmp 26)), none, []⟩, ⟨(some 28), (.bin .eql (.tmp 27) (.const (.string (bs [])))), none, []⟩]) (.cond (.tmp 28) (.seq (.ops [⟨(some 29), (.mov (.tmp 1)), none, []⟩, ⟨(some 30), (.fAddr 0 (.tmp 5)), none, []⟩, ⟨(some 31), (.fAddr 1 (.tmp 30)), none, []⟩, ⟨(some 32), (.load1 (.tmp 31)), none, []⟩, ⟨(some 33), (.callv (.func 167) [(.tmp 29), (.tmp 32)]), none, []⟩, ⟨(some 9), (.mov (.tmp 33)), none, []⟩]) (.seq (.ops [⟨(some 34), (.mov (.tmp 9)), none, []⟩, ⟨(some 35), (.bin .geq (.tmp 34) (.const (.int .i64 0))), none, []⟩]) (.cond (.tmp 35) (.ops [⟨(some 36), (.mov (.tmp 1)), none, []⟩, ⟨(some 37), (.mov (.tmp 9)), none, []⟩, ⟨(some 38), (.iAddrSl 2 (.tmp 36) (.tmp 37)), none, []⟩, ⟨(some 39), (.loadN 2 (.tmp 38)), none, []⟩, ⟨none, (.store 2 (.tmp 7) (.tmp 39)), none, []⟩, ⟨(some 8), (.mov (.const (.bool true))), none, []⟩]) .skip))) .skip)) (.seq (.ops [⟨(some 40), (.mov (.tmp 0)), none, []⟩, ⟨(some 41), (.mov (.tmp 8)), none, []⟩, ⟨(some 42), (.callv (.func 53) [(.tmp 40), (.tmp 41), (.const (.int .i64 72))]), none, []⟩]) (.seq (.ops [⟨(some 43), (.mkFunc 191 [] [(.tmp 7)]), none, []⟩, ⟨(some 6), (.mov (.tmp 43)), none, []⟩]) .ret)))))) [(.tmp 6)])
def g171 : AFunc := (.code 20 (.seq (.ops [⟨(some 4), (.mov (.const (.int .i64 0))), none, []⟩]) (.seq (.seq (.ops [⟨(some 5), (.mov (.const (.int .i64 0))), none, []⟩]) (.block 0 (.loop (.seq (.seq (.ops [⟨(some 6), (.mov (.tmp 5)), none, []⟩, ⟨(some 7), (.mov (.tmp 0)), none, []⟩, ⟨(some 8), (.lenSl (.tmp 7)), none, []⟩, ⟨(some 9), (.bin .lss (.tmp 6) (.tmp 8)), none, []⟩]) (.cond (.tmp 9) .skip (.exit 0))) (.seq (.block 1 (.seq (.ops [⟨(some 12), (.mov (.tmp 0)), none, []⟩, ⟨(some 13), (.mov (.tmp 5)), none, []⟩, ⟨(some 14), (.iAddrSl 2 (.tmp 12) (.tmp 13)), none, []⟩, ⟨(some 15), (.fAddr 0 (.tmp 14)), none, []⟩, ⟨(some 16), (.load1 (.tmp 15)), none, []⟩, ⟨(some 17), (.mov (.tmp 1)), none, []⟩, ⟨(some 18), (.bin .eql (.tmp 16) (.tmp 17)), none, []⟩]) (.cond (.tmp 18) (.seq (.ops [⟨(some 19), (.mov (.tmp 5)), none, []⟩, ⟨(some 4), (.mov (.tmp 19)), none, []⟩]) .ret) .skip))) (.ops [⟨(some 10), (.mov (.tmp 5)), none, []⟩, ⟨(some 11), (.bin .add (.tmp 10) (.const (.int .i64 1))), none, []⟩, ⟨(some 5), (.mov (.tmp 11)), none, []⟩])))))) (.seq (.ops [⟨(some 4), (.mov (.const (.int .i64 (-1)))), none, []⟩]) .ret))) [(.tmp 4)])
def g173 : AFunc := (.code 43 (.seq (.ops [⟨(some 2), (.box (.tmp 0)), none, []⟩, ⟨(some 3), (.box (.tmp 1)), none, []⟩, ⟨(some 4), (.mov (.const (.int .i64 0))), none, []⟩, ⟨(some 5), (.mov (.const (.int .i64 0))), none, []⟩, ⟨(some 6), (.mov (.const (.bool false))), none, []⟩]) (.seq (.seq (.ops [⟨(some 10), (.fAddr 0 (.tmp 3)), none, []⟩, ⟨(some 11), (.load1 (.tmp 10)), none, []⟩, ⟨(some 12), (.bin .eql (.tmp 11) (.const (.string (bs [])))), none, []⟩]) (.cond (.tmp 12) (.seq (.ops [⟨(some 4), (.mov (.const (.int .i64 0))), none, []⟩, ⟨(some 5), (.mov (.const (.int .i64 0))), none, []⟩, ⟨(some 6), (.mov (.const (.bool false))), none, []⟩]) .ret) .skip)) (.seq (.seq (.ops [⟨(some 13), (.fAddr 0 (.tmp 3)), none, []⟩, ⟨(some 14), (.load1 (.tmp 13)), none, []⟩, ⟨(some 15), (.bin .eql (.tmp 14) (.const (.string (bs [109, 101, 116, 97])))), none, []⟩]) (.cond (.tmp 15) (.seq (.ops [⟨(some 16), (.fAddr 1 (.tmp 2)), none, []⟩, ⟨(some 17), (.load1 (.tmp 16)), none, []⟩, ⟨(some 18), (.fAddr 1 (.tmp 3)), none, []⟩, ⟨(some 19), (.load1 (.tmp 18)), none, []⟩, ⟨(some 20), (.callv (.func 171) [(.tmp 17), (.tmp 19)]), none, []⟩, ⟨(some 7), (.mov (.tmp 20)), none, []⟩]) (.seq (.seq (.ops [⟨(some 21), (.mov (.tmp 7)), none, []⟩, ⟨(some 22), (.bin .lss (.tmp 21) (.const (.int .i64 0))), none, []⟩]) (.cond (.tmp 22) (.seq (.ops [⟨(some 4), (.mov (.const (.int .i64 0))), none, []⟩, ⟨(some 5), (.mov (.const (.int .i64 0))), none, []⟩, ⟨(some 6), (.mov (.const (.bool false))), none, []⟩]) .ret) .skip)) (.seq (.ops [⟨(some 23), (.mov (.tmp 7)), none, []⟩, ⟨(some 4), (.mov (.const (.int .i64 (-1)))), none, []⟩, ⟨(some 5), (.mov (.tmp 23)), none, []⟩, ⟨(some 6), (.mov (.const (.bool true))), none, []⟩]) .ret))) .skip)) (.seq (.ops [⟨(some 24), (.loadN 6 (.tmp 2)), none, []⟩, ⟨(some 25), (.fAddr 0 (.tmp 3)), none, []⟩, ⟨(some 26), (.load1 (.tmp 25)), none, []⟩, ⟨(some 27), (.callv (.func 116) [(.tmp 24), (.tmp 26)]), none, []⟩, ⟨(some 8), (.mov (.tmp 27)), none, []⟩]) (.seq (.seq (.ops [⟨(some 28), (.mov (.tmp 8)), none, []⟩, ⟨(some 29), (.bin .lss (.tmp 28) (.const (.int .i64 0))), none, []⟩]) (.cond (.tmp 29) (.seq (.ops [⟨(some 4), (.mov (.const (.int .i64 0))), none, []⟩, ⟨(some 5), (.mov (.const (.int .i64 0))), none, []⟩, ⟨(some 6), (.mov (.const (.bool false))), none, []⟩]) .ret) .skip)) (.seq (.ops [⟨(some 30), (.fAddr 0 (.tmp 2)), none, []⟩, ⟨(some 32), (.mov (.tmp 8)), none, []⟩, ⟨(some 36), (.fAddr 1 (.tmp 3)), none, []⟩, ⟨(some 31), (.load1 (.tmp 30)), none, []⟩, ⟨(some 33), (.iAddrSl 2 (.tmp 31) (.tmp 32)), none, []⟩, ⟨(some 34), (.fAddr 1 (.tmp 33)), none, []⟩, ⟨(some 35), (.load1 (.tmp 34)), none, []⟩, ⟨(some 37), (.load1 (.tmp 36)), none, []⟩, ⟨(some 38), (.callv (.func 171) [(.tmp 35), (.tmp 37)]), none, []⟩, ⟨(some 9), (.mov (.tmp 38)), none, []⟩]) (.seq (.seq (.ops [⟨(some 39), (.mov (.tmp 9)), none, []⟩, ⟨(some 40), (.bin .lss (.tmp 39) (.const (.int .i64 0))), none, []⟩]) (.cond (.tmp 40) (.seq (.ops [⟨(some 4), (.mov (.const (.int .i64 0))), none, []⟩, ⟨(some 5), (.mov (.const (.int .i64 0))), none, []⟩, ⟨(some 6), (.mov (.const (.bool false))), none, []⟩]) .ret) .skip)) (.seq (.ops [⟨(some 41), (.mov (.tmp 8)), none, []⟩, ⟨(some 42), (.mov (.tmp 9)), none, []⟩, ⟨(some 4), (.mov (.tmp 41)), none, []⟩, ⟨(some 5), (.mov (.tmp 42)), none, []⟩, ⟨(some 6), (.mov (.const (.bool true))), none, []⟩]) .ret)))))))) [(.tmp 4), (.tmp 5), (.tmp 6)])
def g184 : AFunc := (.code 19 (.seq (.ops [⟨(some 4), (.mov (.const (.int .i64 0))), none, []⟩]) (.seq (.seq (.ops [⟨(some 6), (.mov (.tmp 0)), none, []⟩, ⟨(some 7), (.lenSl (.tmp 6)), none, []⟩, ⟨(some 8), (.mov (.const (.int .i64 0))), none, []⟩]) (.block 0 (.loop (.seq (.ops [⟨(some 9), (.bin .lss (.tmp 8) (.tmp 7)), none, []⟩]) (.seq (.cond (.tmp 9) .skip (.exit 0)) (.seq (.block 1 (.seq (.ops [⟨(some 10), (.mov (.tmp 8)), none, []⟩, ⟨(some 5), (.mov (.tmp 10)), none, []⟩]) (.seq (.ops [⟨(some 11), (.mov (.tmp 1)), none, []⟩, ⟨(some 12), (.mov (.tmp 0)), none, []⟩, ⟨(some 13), (.mov (.tmp 5)), none, []⟩, ⟨(some 14), (.iAddrSl 2 (.tmp 12) (.tmp 13)), none, []⟩, ⟨(some 15), (.loadN 2 (.tmp 14)), none, []⟩, ⟨(some 16), (.callv (.tmp 11) [(.tmp 15)]), none, []⟩]) (.cond (.tmp 16) (.seq (.ops [⟨(some 17), (.mov (.tmp 5)), none, []⟩, ⟨(some 4), (.mov (.tmp 17)), none, []⟩]) .ret) .skip)))) (.ops [⟨(some 18), (.bin .add (.tmp 8) (.const (.int .i64 1))), none, []⟩, ⟨(some 8), (.mov (.tmp 18)), none, []⟩]))))))) (.seq (.ops [⟨(some 4), (.mov (.const (.int .i64 (-1)))), none, []⟩]) .ret))) [(.tmp 4)])
def g185 : AFunc := (.code 19 (.seq (.ops [⟨(some 4), (.mov (.const (.int .i64 0))), none, []⟩]) (.seq (.seq (.ops [⟨(some 6), (.mov (.tmp 0)), none, []⟩, ⟨(some 7), (.lenSl (.tmp 6)), none, []⟩, ⟨(some 8), (.mov (.const (.int .i64 0))), none, []⟩]) (.block 0 (.loop (.seq (.ops [⟨(some 9), (.bin .lss (.tmp 8) (.tmp 7)), none, []⟩]) (.seq (.cond (.tmp 9) .skip (.exit 0)) (.seq (.block 1 (.seq (.ops [⟨(some 10), (.mov (.tmp 8)), none, []⟩, ⟨(some 5), (.mov (.tmp 10)), none, []⟩]) (.seq (.ops [⟨(some 11), (.mov (.tmp 1)), none, []⟩, ⟨(some 12), (.mov (.tmp 0)), none, []⟩, ⟨(some 13), (.mov (.tmp 5)), none, []⟩, ⟨(some 14), (.iAddrSl 3 (.tmp 12) (.tmp 13)), none, []⟩, ⟨(some 15), (.loadN 3 (.tmp 14)), none, []⟩, ⟨(some 16), (.callv (.tmp 11) [(.tmp 15)]), none, []⟩]) (.cond (.tmp 16) (.seq (.ops [⟨(some 17), (.mov (.tmp 5)), none, []⟩, ⟨(some 4), (.mov (.tmp 17)), none, []⟩]) .ret) .skip)))) (.ops [⟨(some 18), (.bin .add (.tmp 8) (.const (.int .i64 1))), none, []⟩, ⟨(some 8), (.mov (.tmp 18)), none, []⟩]))))))) (.seq (.ops [⟨(some 4), (.mov (.const (.int .i64 (-1)))), none, []⟩]) .ret))) [(.tmp 4)])
def g186 : AFunc := (.code 19 (.seq (.ops [⟨(some 4), (.mov (.const (.int .i64 0))), none, []⟩]) (.seq (.seq (.ops [⟨(some 6), (.mov (.tmp 0)), none, []⟩, ⟨(some 7), (.lenSl (.tmp 6)), none, []⟩, ⟨(some 8), (.mov (.const (.int .i64 0))), none, []⟩]) (.block 0 (.loop (.seq (.ops [⟨(some 9), (.bin .lss (.tmp 8) (.tmp 7)), none, []⟩]) (.seq (.cond (.tmp 9) .skip (.exit 0)) (.seq (.block 1 (.seq (.ops [⟨(some 10), (.mov (.tmp 8)), none, []⟩, ⟨(some 5), (.mov (.tmp 10)), none, []⟩]) (.seq (.ops [⟨(some 11), (.mov (.tmp 1)), none, []⟩, ⟨(some 12), (.mov (.tmp 0)), none, []⟩, ⟨(some 13), (.mov (.tmp 5)), none, []⟩, ⟨(some 14), (.iAddrSl 7 (.tmp 12) (.tmp 13)), none, []⟩, ⟨(some 15), (.loadN 7 (.tmp 14)), none, []⟩, ⟨(some 16), (.callv (.tmp 11) [(.tmp 15)]), none, []⟩]) (.cond (.tmp 16) (.seq (.ops [⟨(some 17), (.mov (.tmp 5)), none, []⟩, ⟨(some 4), (.mov (.tmp 17)), none, []⟩]) .ret) .skip)))) (.ops [⟨(some 18), (.bin .add (.tmp 8) (.const (.int .i64 1))), none, []⟩, ⟨(some 8), (.mov (.tmp 18)), none, []⟩]))))))) (.seq (.ops [⟨(some 4), (.mov (.const (.int .i64 (-1)))), none, []⟩]) .ret))) [(.tmp 4)])
def g187 : AFunc := (.code 8 (.seq (.ops [⟨(some 2), (.mov (.const (.slice none 0 0))), none, []⟩]) (.seq (.ops [⟨(some 3), (.mov (.const (.slice none 0 0))), none, []⟩]) (.seq (.ops [⟨(some 4), (.mov (.tmp 3)), none, []⟩, ⟨(some 5), (.mov (.tmp 0)), none, []⟩, ⟨(some 6), (.append 2 16 (.tmp 4) (.tmp 5)), none, []⟩, ⟨(some 3), (.mov (.tmp 6)), none, []⟩]) (.seq (.ops [⟨(some 7), (.mov (.tmp 3)), none, []⟩, ⟨(some 2), (.mov (.tmp 7)), none, []⟩]) .ret)))) [(.tmp 2)])
def g188 : AFunc := (.code 8 (.seq (.ops [⟨(some 4), (.mov (.const (.int .i64 0))), none, []⟩]) (.seq (.ops [⟨(some 5), (.mov (.tmp 0)), none, []⟩, ⟨(some 6), (.mov (.tmp 1)), none, []⟩, ⟨(some 7), (.callv (.func 195) [(.tmp 5), (.tmp 6)]), none, []⟩, ⟨(some 4), (.mov (.tmp 7)), none, []⟩]) .ret)) [(.tmp 4)])
def g189 : AFunc := (.code 8 (.seq (.ops [⟨(some 2), (.box (.tmp 0)), none, []⟩, ⟨(some 3), (.mov (.const (.bool false))), none, []⟩]) (.seq (.ops [⟨(some 4), (.fAddr 0 (.tmp 2)), none, []⟩, ⟨(some 5), (.load1 (.tmp 4)), none, []⟩, ⟨(some 6), (.load1 (.tmp 1)), none, []⟩, ⟨(some 7), (.bin .eql (.tmp 5) (.tmp 6)), none, []⟩, ⟨(some 3), (.mov (.tmp 7)), none, []⟩]) .ret)) [(.tmp 3)])
def g190 : AFunc := (.code 8 (.seq (.ops [⟨(some 3), (.mov (.const (.bool false))), none, []⟩]) (.seq (.ops [⟨(some 4), (.fAddr 2 (.tmp 1)), none, []⟩, ⟨(some 5), (.loadN 2 (.tmp 4)), none, []⟩, ⟨(some 6), (.mov (.tmp 0)), none, []⟩, ⟨(some 7), (.callv (.func 128) [(.tmp 5), (.tmp 6)]), none, []⟩, ⟨(some 3), (.mov (.tmp 7)), none, []⟩]) .ret)) [(.tmp 3)])
def g191 : AFunc := (.code 8 (.seq (.ops [⟨(some 3), (.mov (.const (.bool false))), none, []⟩]) (.seq (.ops [⟨(some 4), (.fAddr 1 (.tmp 1)), none, []⟩, ⟨(some 5), (.load1 (.tmp 4)), none, []⟩, ⟨(some 6), (.mov (.tmp 0)), none, []⟩, ⟨(some 7), (.bin .eql (.tmp 5) (.tmp 6)), none, []⟩, ⟨(some 3), (.mov (.tmp 7)), none, []⟩]) .ret)) [(.tmp 3)])
def g195 : AFunc := (.code 19 (.seq (.ops [⟨(some 4), (.mov (.const (.int .i64 0))), none, []⟩]) (.seq (.seq (.ops [⟨(some 6), (.mov (.tmp 0)), none, []⟩, ⟨(some 7), (.lenSl (.tmp 6)), none, []⟩, ⟨(some 8), (.mov (.const (.int .i64 0))), none, []⟩]) (.block 0 (.loop (.seq (.ops [⟨(some 9), (.bin .lss (.tmp 8) (.tmp 7)), none, []⟩]) (.seq (.cond (.tmp 9) .skip (.exit 0)) (.seq (.block 1 (.seq (.ops [⟨(some 10), (.mov (.tmp 8)), none, []⟩, ⟨(some 5), (.mov (.tmp 10)), none, []⟩]) (.seq (.ops [⟨(some 11), (.mov (.tmp 1)), none, []⟩, ⟨(some 12), (.mov (.tmp 0)), none, []⟩, ⟨(some 13), (.mov (.tmp 5)), none, []⟩, ⟨(some 14), (.iAddrSl 2 (.tmp 12) (.tmp 13)), none, []⟩, ⟨(some 15), (.loadN 2 (.tmp 14)), none, []⟩, ⟨(some 16), (.callv (.tmp 11) [(.tmp 15)]), none, []⟩]) (.cond (.tmp 16) (.seq (.ops [⟨(some 17), (.mov (.tmp 5)), none, []⟩, ⟨(some 4), (.mov (.tmp 17)), none, []⟩]) .ret) .skip)))) (.ops [⟨(some 18), (.bin .add (.tmp 8) (.const (.int .i64 1))), none, []⟩, ⟨(some 8), (.mov (.tmp 18)), none, []⟩]))))))) (.seq (.ops [⟨(some 4), (.mov (.const (.int .i64 (-1)))), none, []⟩]) .ret))) [(.tmp 4)])
end Go.Proofs.YtpllhhaeclnngaaGreat.Ev

/- The table of the evaluator's functions; each is what the program's own function is laid as. Conditions: none. -/
namespace Go.Proofs.YtpllhhaeclnngaaGreat.Ev
set_option maxRecDepth 100000
noncomputable def T : Pg := ⟨Tryz.prog, Tryz.prog.globals.size⟩
theorem follows : T.P.follows .mixedOrders = true := by kernel_rfl
theorem t6 : Laid T 6 g6 := ⟨Tryz.f6, Tryz.func6, by kernel_rfl⟩
theorem t9 : Laid T 9 g9 := ⟨Tryz.f9, Tryz.func9, by kernel_rfl⟩
theorem t10 : Laid T 10 g10 := ⟨Tryz.f10, Tryz.func10, by kernel_rfl⟩
theorem t13 : Laid T 13 g13 := ⟨Tryz.f13, Tryz.func13, by kernel_rfl⟩
theorem t15 : Laid T 15 g15 := ⟨Tryz.f15, Tryz.func15, by kernel_rfl⟩
theorem t19 : Laid T 19 g19 := ⟨Tryz.f19, Tryz.func19, by kernel_rfl⟩
theorem t20 : Laid T 20 g20 := ⟨Tryz.f20, Tryz.func20, by kernel_rfl⟩
theorem t21 : Laid T 21 g21 := ⟨Tryz.f21, Tryz.func21, by kernel_rfl⟩
theorem t22 : Laid T 22 g22 := ⟨Tryz.f22, Tryz.func22, by kernel_rfl⟩
theorem t23 : Laid T 23 g23 := ⟨Tryz.f23, Tryz.func23, by kernel_rfl⟩
theorem t25 : Laid T 25 g25 := ⟨Tryz.f25, Tryz.func25, by kernel_rfl⟩
theorem t26 : Laid T 26 g26 := ⟨Tryz.f26, Tryz.func26, by kernel_rfl⟩
theorem t27 : Laid T 27 g27 := ⟨Tryz.f27, Tryz.func27, by kernel_rfl⟩
theorem t28 : Laid T 28 g28 := ⟨Tryz.f28, Tryz.func28, by kernel_rfl⟩
theorem t34 : Laid T 34 g34 := ⟨Tryz.f34, Tryz.func34, by kernel_rfl⟩
theorem t35 : Laid T 35 g35 := ⟨Tryz.f35, Tryz.func35, by kernel_rfl⟩
theorem t36 : Laid T 36 g36 := ⟨Tryz.f36, Tryz.func36, by kernel_rfl⟩
theorem t37 : Laid T 37 g37 := ⟨Tryz.f37, Tryz.func37, by kernel_rfl⟩
theorem t38 : Laid T 38 g38 := ⟨Tryz.f38, Tryz.func38, by kernel_rfl⟩
theorem t39 : Laid T 39 g39 := ⟨Tryz.f39, Tryz.func39, by kernel_rfl⟩
theorem t40 : Laid T 40 g40 := ⟨Tryz.f40, Tryz.func40, by kernel_rfl⟩
theorem t41 : Laid T 41 g41 := ⟨Tryz.f41, Tryz.func41, by kernel_rfl⟩
theorem t42 : Laid T 42 g42 := ⟨Tryz.f42, Tryz.func42, by kernel_rfl⟩
theorem t48 : Laid T 48 g48 := ⟨Tryz.f48, Tryz.func48, by kernel_rfl⟩
theorem t49 : Laid T 49 g49 := ⟨Tryz.f49, Tryz.func49, by kernel_rfl⟩
theorem t50 : Laid T 50 g50 := ⟨Tryz.f50, Tryz.func50, by kernel_rfl⟩
theorem t51 : Laid T 51 g51 := ⟨Tryz.f51, Tryz.func51, by kernel_rfl⟩
theorem t52 : Laid T 52 g52 := ⟨Tryz.f52, Tryz.func52, by kernel_rfl⟩
theorem t53 : Laid T 53 g53 := ⟨Tryz.f53, Tryz.func53, by kernel_rfl⟩
theorem t54 : Laid T 54 g54 := ⟨Tryz.f54, Tryz.func54, by kernel_rfl⟩
theorem t55 : Laid T 55 g55 := ⟨Tryz.f55, Tryz.func55, by kernel_rfl⟩
theorem t56 : Laid T 56 g56 := ⟨Tryz.f56, Tryz.func56, by kernel_rfl⟩
theorem t57 : Laid T 57 g57 := ⟨Tryz.f57, Tryz.func57, by kernel_rfl⟩
theorem t58 : Laid T 58 g58 := ⟨Tryz.f58, Tryz.func58, by kernel_rfl⟩
theorem t59 : Laid T 59 g59 := ⟨Tryz.f59, Tryz.func59, by kernel_rfl⟩
theorem t60 : Laid T 60 g60 := ⟨Tryz.f60, Tryz.func60, by kernel_rfl⟩
theorem t61 : Laid T 61 g61 := ⟨Tryz.f61, Tryz.func61, by kernel_rfl⟩
theorem t71 : Laid T 71 g71 := ⟨Tryz.f71, Tryz.func71, by kernel_rfl⟩
theorem t72 : Laid T 72 g72 := ⟨Tryz.f72, Tryz.func72, by kernel_rfl⟩
theorem t73 : Laid T 73 g73 := ⟨Tryz.f73, Tryz.func73, by kernel_rfl⟩
theorem t74 : Laid T 74 g74 := ⟨Tryz.f74, Tryz.func74, by kernel_rfl⟩
theorem t75 : Laid T 75 g75 := ⟨Tryz.f75, Tryz.func75, by kernel_rfl⟩
theorem t76 : Laid T 76 g76 := ⟨Tryz.f76, Tryz.func76, by kernel_rfl⟩
theorem t77 : Laid T 77 g77 := ⟨Tryz.f77, Tryz.func77, by kernel_rfl⟩
theorem t78 : Laid T 78 g78 := ⟨Tryz.f78, Tryz.func78, by kernel_rfl⟩
theorem t79 : Laid T 79 g79 := ⟨Tryz.f79, Tryz.func79, by kernel_rfl⟩
theorem t80 : Laid T 80 g80 := ⟨Tryz.f80, Tryz.func80, by kernel_rfl⟩
theorem t83 : Laid T 83 g83 := ⟨Tryz.f83, Tryz.func83, by kernel_rfl⟩
theorem t84 : Laid T 84 g84 := ⟨Tryz.f84, Tryz.func84, by kernel_rfl⟩
theorem t85 : Laid T 85 g85 := ⟨Tryz.f85, Tryz.func85, by kernel_rfl⟩
theorem t86 : Laid T 86 g86 := ⟨Tryz.f86, Tryz.func86, by kernel_rfl⟩
theorem t87 : Laid T 87 g87 := ⟨Tryz.f87, Tryz.func87, by kernel_rfl⟩
theorem t88 : Laid T 88 g88 := ⟨Tryz.f88, Tryz.func88, by kernel_rfl⟩
theorem t89 : Laid T 89 g89 := ⟨Tryz.f89, Tryz.func89, by kernel_rfl⟩
theorem t90 : Laid T 90 g90 := ⟨Tryz.f90, Tryz.func90, by kernel_rfl⟩
theorem t91 : Laid T 91 g91 := ⟨Tryz.f91, Tryz.func91, by kernel_rfl⟩
theorem t92 : Laid T 92 g92 := ⟨Tryz.f92, Tryz.func92, by kernel_rfl⟩
theorem t93 : Laid T 93 g93 := ⟨Tryz.f93, Tryz.func93, by kernel_rfl⟩
theorem t94 : Laid T 94 g94 := ⟨Tryz.f94, Tryz.func94, by kernel_rfl⟩
theorem t99 : Laid T 99 g99 := ⟨Tryz.f99, Tryz.func99, by kernel_rfl⟩
theorem t100 : Laid T 100 g100 := ⟨Tryz.f100, Tryz.func100, by kernel_rfl⟩
theorem t101 : Laid T 101 g101 := ⟨Tryz.f101, Tryz.func101, by kernel_rfl⟩
theorem t102 : Laid T 102 g102 := ⟨Tryz.f102, Tryz.func102, by kernel_rfl⟩
theorem t103 : Laid T 103 g103 := ⟨Tryz.f103, Tryz.func103, by kernel_rfl⟩
theorem t104 : Laid T 104 g104 := ⟨Tryz.f104, Tryz.func104, by kernel_rfl⟩
theorem t105 : Laid T 105 g105 := ⟨Tryz.f105, Tryz.func105, by kernel_rfl⟩
theorem t106 : Laid T 106 g106 := ⟨Tryz.f106, Tryz.func106, by kernel_rfl⟩
theorem t107 : Laid T 107 g107 := ⟨Tryz.f107, Tryz.func107, by kernel_rfl⟩
theorem t111 : Laid T 111 g111 := ⟨Tryz.f111, Tryz.func111, by kernel_rfl⟩
theorem t112 : Laid T 112 g112 := ⟨Tryz.f112, Tryz.func112, by kernel_rfl⟩
theorem t113 : Laid T 113 g113 := ⟨Tryz.f113, Tryz.func113, by kernel_rfl⟩
theorem t116 : Laid T 116 g116 := ⟨Tryz.f116, Tryz.func116, by kernel_rfl⟩
theorem t117 : Laid T 117 g117 := ⟨Tryz.f117, Tryz.func117, by kernel_rfl⟩
theorem t118 : Laid T 118 g118 := ⟨Tryz.f118, Tryz.func118, by kernel_rfl⟩
theorem t119 : Laid T 119 g119 := ⟨Tryz.f119, Tryz.func119, by kernel_rfl⟩
theorem t121 : Laid T 121 g121 := ⟨Tryz.f121, Tryz.func121, by kernel_rfl⟩
theorem t122 : Laid T 122 g122 := ⟨Tryz.f122, Tryz.func122, by kernel_rfl⟩
theorem t125 : Laid T 125 g125 := ⟨Tryz.f125, Tryz.func125, by kernel_rfl⟩
theorem t126 : Laid T 126 g126 := ⟨Tryz.f126, Tryz.func126, by kernel_rfl⟩
theorem t127 : Laid T 127 g127 := ⟨Tryz.f127, Tryz.func127, by kernel_rfl⟩
theorem t128 : Laid T 128 g128 := ⟨Tryz.f128, Tryz.func128, by kernel_rfl⟩
theorem t129 : Laid T 129 g129 := ⟨Tryz.f129, Tryz.func129, by kernel_rfl⟩
theorem t130 : Laid T 130 g130 := ⟨Tryz.f130, Tryz.func130, by kernel_rfl⟩
theorem t131 : Laid T 131 g131 := ⟨Tryz.f131, Tryz.func131, by kernel_rfl⟩
theorem t132 : Laid T 132 g132 := ⟨Tryz.f132, Tryz.func132, by kernel_rfl⟩
theorem t144 : Laid T 144 g144 := ⟨Tryz.f144, Tryz.func144, by kernel_rfl⟩
theorem t145 : Laid T 145 g145 := ⟨Tryz.f145, Tryz.func145, by kernel_rfl⟩
theorem t146 : Laid T 146 g146 := ⟨Tryz.f146, Tryz.func146, by kernel_rfl⟩
theorem t147 : Laid T 147 g147 := ⟨Tryz.f147, Tryz.func147, by kernel_rfl⟩
theorem t148 : Laid T 148 g148 := ⟨Tryz.f148, Tryz.func148, by kernel_rfl⟩
theorem t149 : Laid T 149 g149 := ⟨Tryz.f149, Tryz.func149, by kernel_rfl⟩
theorem t150 : Laid T 150 g150 := ⟨Tryz.f150, Tryz.func150, by kernel_rfl⟩
theorem t151 : Laid T 151 g151 := ⟨Tryz.f151, Tryz.func151, by kernel_rfl⟩
theorem t152 : Laid T 152 g152 := ⟨Tryz.f152, Tryz.func152, by kernel_rfl⟩
theorem t153 : Laid T 153 g153 := ⟨Tryz.f153, Tryz.func153, by kernel_rfl⟩
theorem t154 : Laid T 154 g154 := ⟨Tryz.f154, Tryz.func154, by kernel_rfl⟩
theorem t155 : Laid T 155 g155 := ⟨Tryz.f155, Tryz.func155, by kernel_rfl⟩
theorem t156 : Laid T 156 g156 := ⟨Tryz.f156, Tryz.func156, by kernel_rfl⟩
theorem t157 : Laid T 157 g157 := ⟨Tryz.f157, Tryz.func157, by kernel_rfl⟩
theorem t158 : Laid T 158 g158 := ⟨Tryz.f158, Tryz.func158, by kernel_rfl⟩
theorem t159 : Laid T 159 g159 := ⟨Tryz.f159, Tryz.func159, by kernel_rfl⟩
theorem t160 : Laid T 160 g160 := ⟨Tryz.f160, Tryz.func160, by kernel_rfl⟩
theorem t161 : Laid T 161 g161 := ⟨Tryz.f161, Tryz.func161, by kernel_rfl⟩
theorem t162 : Laid T 162 g162 := ⟨Tryz.f162, Tryz.func162, by kernel_rfl⟩
theorem t163 : Laid T 163 g163 := ⟨Tryz.f163, Tryz.func163, by kernel_rfl⟩
theorem t164 : Laid T 164 g164 := ⟨Tryz.f164, Tryz.func164, by kernel_rfl⟩
theorem t167 : Laid T 167 g167 := ⟨Tryz.f167, Tryz.func167, by kernel_rfl⟩
theorem t168 : Laid T 168 g168 := ⟨Tryz.f168, Tryz.func168, by kernel_rfl⟩
theorem t169 : Laid T 169 g169 := ⟨Tryz.f169, Tryz.func169, by kernel_rfl⟩
theorem t171 : Laid T 171 g171 := ⟨Tryz.f171, Tryz.func171, by kernel_rfl⟩
theorem t173 : Laid T 173 g173 := ⟨Tryz.f173, Tryz.func173, by kernel_rfl⟩
theorem t184 : Laid T 184 g184 := ⟨Tryz.f184, Tryz.func184, by kernel_rfl⟩
theorem t185 : Laid T 185 g185 := ⟨Tryz.f185, Tryz.func185, by kernel_rfl⟩
theorem t186 : Laid T 186 g186 := ⟨Tryz.f186, Tryz.func186, by kernel_rfl⟩
theorem t187 : Laid T 187 g187 := ⟨Tryz.f187, Tryz.func187, by kernel_rfl⟩
theorem t188 : Laid T 188 g188 := ⟨Tryz.f188, Tryz.func188, by kernel_rfl⟩
theorem t189 : Laid T 189 g189 := ⟨Tryz.f189, Tryz.func189, by kernel_rfl⟩
theorem t190 : Laid T 190 g190 := ⟨Tryz.f190, Tryz.func190, by kernel_rfl⟩
theorem t191 : Laid T 191 g191 := ⟨Tryz.f191, Tryz.func191, by kernel_rfl⟩
theorem t195 : Laid T 195 g195 := ⟨Tryz.f195, Tryz.func195, by kernel_rfl⟩
def Tab0p : Table := fun f =>
  match f with
  | 6 => some g6
  | 9 => some g9
  | 10 => some g10
  | 13 => some g13
  | 15 => some g15
  | 19 => some g19
  | 20 => some g20
  | 21 => some g21
  | 22 => some g22
  | 23 => some g23
  | 25 => some g25
  | 26 => some g26
  | 27 => some g27
  | 28 => some g28
  | 34 => some g34
  | 35 => some g35
  | 36 => some g36
  | 37 => some g37
  | 38 => some g38
  | 39 => some g39
  | 40 => some g40
  | 41 => some g41
  | 42 => some g42
  | 48 => some g48
  | 49 => some g49
  | 50 => some g50
  | 51 => some g51
  | _ => none
theorem table_ok0 : TableOK T.P T.G Tab0p := by
  intro f af h
  unfold Tab0p at h
  split at h
  · cases h; exact t6
  · cases h; exact t9
  · cases h; exact t10
  · cases h; exact t13
  · cases h; exact t15
  · cases h; exact t19
  · cases h; exact t20
  · cases h; exact t21
  · cases h; exact t22
  · cases h; exact t23
  · cases h; exact t25
  · cases h; exact t26
  · cases h; exact t27
  · cases h; exact t28
  · cases h; exact t34
  · cases h; exact t35
  · cases h; exact t36
  · cases h; exact t37
  · cases h; exact t38
  · cases h; exact t39
  · cases h; exact t40
  · cases h; exact t41
  · cases h; exact t42
  · cases h; exact t48
  · cases h; exact t49
  · cases h; exact t50
  · cases h; exact t51
  · cases h
def Tab1p : Table := fun f =>
  match f with
  | 52 => some g52
  | 53 => some g53
  | 54 => some g54
  | 55 => some g55
  | 56 => some g56
  | 57 => some g57
  | 58 => some g58
  | 59 => some g59
  | 60 => some g60
  | 61 => some g61
  | 71 => some g71
  | 72 => some g72
  | 73 => some g73
  | 74 => some g74
  | 75 => some g75
  | 76 => some g76
  | 77 => some g77
  | 78 => some g78
  | 79 => some g79
  | 80 => some g80
  | 83 => some g83
  | 84 => some g84
  | 85 => some g85
  | 86 => some g86
  | 87 => some g87
  | 88 => some g88
  | 89 => some g89
  | 90 => some g90
  | 91 => some g91
  | 92 => some g92
  | 93 => some g93
  | 94 => some g94
  | 99 => some g99
  | _ => none
theorem table_ok1 : TableOK T.P T.G Tab1p := by
  intro f af h
  unfold Tab1p at h
  split at h
  · cases h; exact t52
  · cases h; exact t53
  · cases h; exact t54
  · cases h; exact t55
  · cases h; exact t56
  · cases h; exact t57
  · cases h; exact t58
  · cases h; exact t59
  · cases h; exact t60
  · cases h; exact t61
  · cases h; exact t71
  · cases h; exact t72
  · cases h; exact t73
  · cases h; exact t74
  · cases h; exact t75
  · cases h; exact t76
  · cases h; exact t77
  · cases h; exact t78
  · cases h; exact t79
  · cases h; exact t80
  · cases h; exact t83
  · cases h; exact t84
  · cases h; exact t85
  · cases h; exact t86
  · cases h; exact t87
  · cases h; exact t88
  · cases h; exact t89
  · cases h; exact t90
  · cases h; exact t91
  · cases h; exact t92
  · cases h; exact t93
  · cases h; exact t94
  · cases h; exact t99
  · cases h
def Tab2p : Table := fun f =>
  match f with
  | 100 => some g100
  | 101 => some g101
  | 102 => some g102
  | 103 => some g103
  | 104 => some g104
  | 105 => some g105
  | 106 => some g106
  | 107 => some g107
  | 111 => some g111
  | 112 => some g112
  | 113 => some g113
  | 116 => some g116
  | 117 => some g117
  | 118 => some g118
  | 119 => some g119
  | 121 => some g121
  | 122 => some g122
  | 125 => some g125
  | 126 => some g126
  | 127 => some g127
  | 128 => some g128
  | 129 => some g129
  | 130 => some g130
  | 131 => some g131
  | 132 => some g132
  | 144 => some g144
  | 145 => some g145
  | 146 => some g146
  | 147 => some g147
  | _ => none
theorem table_ok2 : TableOK T.P T.G Tab2p := by
  intro f af h
  unfold Tab2p at h
  split at h
  · cases h; exact t100
  · cases h; exact t101
  · cases h; exact t102
  · cases h; exact t103
  · cases h; exact t104
  · cases h; exact t105
  · cases h; exact t106
  · cases h; exact t107
  · cases h; exact t111
  · cases h; exact t112
  · cases h; exact t113
  · cases h; exact t116
  · cases h; exact t117
  · cases h; exact t118
  · cases h; exact t119
  · cases h; exact t121
  · cases h; exact t122
  · cases h; exact t125
  · cases h; exact t126
  · cases h; exact t127
  · cases h; exact t128
  · cases h; exact t129
  · cases h; exact t130
  · cases h; exact t131
  · cases h; exact t132
  · cases h; exact t144
  · cases h; exact t145
  · cases h; exact t146
  · cases h; exact t147
  · cases h
def Tab3p : Table := fun f =>
  match f with
  | 148 => some g148
  | 149 => some g149
  | 150 => some g150
  | 151 => some g151
  | 152 => some g152
  | 153 => some g153
  | 154 => some g154
  | 155 => some g155
  | 156 => some g156
  | 157 => some g157
  | 158 => some g158
  | 159 => some g159
  | 160 => some g160
  | 161 => some g161
  | 162 => some g162
  | 163 => some g163
  | 164 => some g164
  | 167 => some g167
  | 168 => some g168
  | 169 => some g169
  | 171 => some g171
  | 173 => some g173
  | 184 => some g184
  | 185 => some g185
  | 186 => some g186
  | 187 => some g187
  | 188 => some g188
  | 189 => some g189
  | 190 => some g190
  | 191 => some g191
  | 195 => some g195
  | _ => none
theorem table_ok3 : TableOK T.P T.G Tab3p := by
  intro f af h
  unfold Tab3p at h
  split at h
  · cases h; exact t148
  · cases h; exact t149
  · cases h; exact t150
  · cases h; exact t151
  · cases h; exact t152
  · cases h; exact t153
  · cases h; exact t154
  · cases h; exact t155
  · cases h; exact t156
  · cases h; exact t157
  · cases h; exact t158
  · cases h; exact t159
  · cases h; exact t160
  · cases h; exact t161
  · cases h; exact t162
  · cases h; exact t163
  · cases h; exact t164
  · cases h; exact t167
  · cases h; exact t168
  · cases h; exact t169
  · cases h; exact t171
  · cases h; exact t173
  · cases h; exact t184
  · cases h; exact t185
  · cases h; exact t186
  · cases h; exact t187
  · cases h; exact t188
  · cases h; exact t189
  · cases h; exact t190
  · cases h; exact t191
  · cases h; exact t195
  · cases h
def Tab : Table := fun f => if (Tab0p f).isSome then Tab0p f else if (Tab1p f).isSome then Tab1p f else if (Tab2p f).isSome then Tab2p f else if (Tab3p f).isSome then Tab3p f else match f with
  | _ => none
theorem table_ok : TableOK T.P T.G Tab := by
  intro f af h
  unfold Tab at h
  by_cases h0 : (Tab0p f).isSome = true
  · rw [if_pos h0] at h; exact table_ok0 f af h
  rw [if_neg h0] at h
  by_cases h1 : (Tab1p f).isSome = true
  · rw [if_pos h1] at h; exact table_ok1 f af h
  rw [if_neg h1] at h
  by_cases h2 : (Tab2p f).isSome = true
  · rw [if_pos h2] at h; exact table_ok2 f af h
  rw [if_neg h2] at h
  by_cases h3 : (Tab3p f).isSome = true
  · rw [if_pos h3] at h; exact table_ok3 f af h
  rw [if_neg h3] at h
  · cases h
end Go.Proofs.YtpllhhaeclnngaaGreat.Ev

/- A call that is evaluated over nothing. -/
namespace Go.Proofs.YtpllhhaeclnngaaGreat.Ev
set_option maxRecDepth 100000
set_option linter.unusedSimpArgs false
set_option linter.unusedVariables false
variable {R : FRes → Heap → Prop} {H : Heap}

def isTrue : Option (FRes × Heap) → Bool
  | some (.ret (.bool true), _) => true
  | _ => false
theorem of_isTrue {x : Option (FRes × Heap)} (h : isTrue x = true) : ∃ H1, x = some (.ret (.bool true), H1) := by
  unfold isTrue at h
  split at h
  · exact ⟨_, rfl⟩
  · cases h

def H0 : Heap := []
theorem globs : T.G ≤ H0.length := by
  have : T.G = 0 := by unfold T; kernel_rfl
  rw [this]
  exact Nat.le_refl _

/-- A call that is evaluated over nothing. -/
theorem WD.frameD {f : FuncId} {args : List Value} {H0 H : Heap} {v : Value} (hp : ∃ g, H = H0 ++ g) (hG : T.G ≤ H0.length) (hro : ∀ o ∈ H0, o = .dead)
    (hargs : ∀ a ∈ args, closedV a = true) (hv : Scoped T.G v) (h : WD T f args H0 (fun r _ => r = .ret v)) {R : FRes → Heap → Prop} (hR : R (.ret v) H) : WD T f args H R := by
  obtain ⟨g, rfl⟩ := hp
  intro ρ w args' hr ha
  have hr0 : Rel T.G ρ H0 w := by
    refine ⟨fun b o ho => ?_, fun b c o u hb hc hne hw hl => ?_, hr.glob, hG⟩
    · obtain rfl := hro o (List.mem_of_getElem? ho)
      exact trivial
    · obtain rfl := hro o (List.mem_of_getElem? hb)
      cases hw
  have ha0 : VL H0.length ρ args args'.toList := ⟨ha.1, fun i x y hx hy => (ha.2 i x y hx hy).narrow (.closed (hargs x (List.mem_of_getElem? hx)))⟩
  have nofoot : ∀ c, ¬ Foot ρ H0 c := by
    rintro c ⟨b, o, hb, hw, _⟩
    obtain rfl := hro o (List.mem_of_getElem? hb)
    cases hw
  have hkk : ∀ en w1, (∃ r H1, r = .ret v ∧ RetOK T.G ρ H0 w r H1 en w1) → ∃ r H1, R r H1 ∧ RetOK T.G ρ (H0 ++ g) w r H1 en w1 := by
    rintro en w1 ⟨r, H1, rfl, ρ1, hs, v', rfl, hvr⟩
    have hold : ∀ c, c < w.heap.size → w1.heap[c]? = w.heap[c]? := fun c hc => hs.frame c hc (nofoot c)
    refine ⟨_, _, hR, ρ, ⟨⟨fun b o ho => ?_, hr.inj, hr.glob, hr.many⟩, Nat.le_refl _, fun _ _ => rfl, hs.os, hs.tape, hs.output, hs.size, fun c hc _ => hold c hc, fun c hc => .inl hc, hs.loops, fun c u hu hl => .inl ⟨u, hu, hl⟩⟩, v', rfl, ?_⟩
    · exact (hr.obj b o ho).mono (Nat.le_refl _) rfl (fun _ _ => rfl) (fun hl => hold _ (lt_of_live (hr.obj b o ho) hl))
    · have h1 : VR T.G ρ1 v v' := hvr.narrow hv
      refine (h1.mono (Nat.le_refl _) fun b hb => ?_).mono (by have := hr.many; omega) fun _ _ => rfl
      exact (hr.glob b hb).trans (hs.rel.glob b hb).symm
  rcases h ρ w args' hr0 ha0 with ⟨v', h1, h2⟩ | ⟨h1, h2⟩
  · exact .inl ⟨v', h1, hkk _ _ h2⟩
  · exact .inr ⟨h1, h2.mono hkk⟩


end Go.Proofs.YtpllhhaeclnngaaGreat.Ev

/- A schema in memory. -/
namespace Go.Proofs.YtpllhhaeclnngaaGreat.Ev
set_option maxRecDepth 100000
set_option linter.unusedSimpArgs false
set_option linter.unusedVariables false
variable {R : FRes → Heap → Prop} {H : Heap}

/-! ### Lists that nobody writes -/

def RoSl (H : Heap) (v : Value) (css : List (List Value)) : Prop :=
  (css = [] ∧ (v = .slice none 0 0 ∨ ∃ b o k, v = .slice (some ⟨b, o, some k⟩) 0 0)) ∨ (∃ b, v = .slice (some ⟨b, 0, none⟩) css.length css.length ∧ b < H.length ∧ ∃ (u : Nat) (wr : Bool), hget H b = .row css.flatten u wr)

/-- What stood stays. -/
def Base (H K : Heap) : Prop := H.length ≤ K.length ∧ ∀ c, c < H.length → hget K c = hget H c
theorem Base.refl : Base H H := ⟨Nat.le_refl _, fun _ _ => rfl⟩
theorem Base.trans {K L : Heap} (h : Base H K) (g : Base K L) : Base H L := ⟨Nat.le_trans h.1 g.1, fun c hc => (g.2 c (Nat.lt_of_lt_of_le hc h.1)).trans (h.2 c hc)⟩
theorem Base.app {K : Heap} (h : Base H K) (g : Heap) : Base H (K ++ g) := ⟨by have := h.1; simp; omega, fun c hc => (hget_old (Nat.lt_of_lt_of_le hc h.1)).trans (h.2 c hc)⟩
theorem Base.app0 (g : Heap) : Base H (H ++ g) := Base.refl.app g
theorem Base.set {K : Heap} (h : Base H K) {b : Nat} {o : AObj} (hb : H.length ≤ b) : Base H (K.set b o) := ⟨by have := h.1; simp; omega, fun c hc => by rw [hget_ne (by omega)]; exact h.2 c hc⟩
theorem Base.ext {K : Heap} (h : Base H K) : ∃ g, K = H ++ g := by
  obtain ⟨h1, h2⟩ := h
  refine ⟨K.drop H.length, List.ext_getElem? fun j => ?_⟩
  by_cases hj : j < H.length
  · rw [List.getElem?_append_left hj]
    have := h2 j hj
    simp only [hget, List.getElem?_eq_getElem hj, List.getElem?_eq_getElem (Nat.lt_of_lt_of_le hj h1)] at this ⊢
    simpa using this
  · rw [List.getElem?_append_right (by omega), List.getElem?_drop, Nat.add_sub_cancel' (by omega)]

theorem RoSl.base {K : Heap} {v : Value} {css : List (List Value)} (h : RoSl H v css) (hb : Base H K) : RoSl K v css := by
  rcases h with h | ⟨b, h2, h3, u, wr, h4⟩
  · exact .inl h
  · exact .inr ⟨b, h2, Nat.lt_of_lt_of_le h3 hb.1, u, wr, by rw [hb.2 b h3]; exact h4⟩
theorem RoSl.sl {v : Value} {css : List (List Value)} (h : RoSl H v css) : ∃ ad, v = .slice ad css.length css.length := by
  rcases h with ⟨rfl, rfl | ⟨b, o, k, rfl⟩⟩ | ⟨b, rfl, _⟩
  · exact ⟨_, rfl⟩
  · exact ⟨_, rfl⟩
  · exact ⟨_, rfl⟩
theorem RoSl.one {v : Value} {css : List (List Value)} (h : RoSl H v css) : oneCell v = true := by
  obtain ⟨ad, rfl⟩ := h.sl
  rfl

theorem flat_len_u {u : Nat} : ∀ {css : List (List Value)}, (∀ cs ∈ css, cs.length = u) → css.flatten.length = css.length * u
  | [], _ => by simp
  | cs :: css, h => by
    rw [List.flatten_cons, List.length_append, h cs (by simp), flat_len_u fun q hq => h q (by simp [hq]), List.length_cons, Nat.succ_mul, Nat.add_comm]
theorem flat_cut {u : Nat} : ∀ {css : List (List Value)} (i : Nat), (∀ cs ∈ css, cs.length = u) → (hi : i < css.length) → ((css.flatten).drop (i * u)).take u = css[i]
  | [], i, _, hi => by simp at hi
  | cs :: css, 0, h, _ => by
    have := h cs (by simp)
    simp [List.take_append, this]
    try rw [← this, List.take_length]
  | cs :: css, i + 1, h, hi => by
    have h1 := h cs (by simp)
    rw [List.flatten_cons, List.drop_append, List.drop_eq_nil_of_le (by rw [h1, Nat.succ_mul]; omega), h1, Nat.succ_mul, Nat.add_sub_cancel, List.nil_append]
    simpa using flat_cut i (fun q hq => h q (by simp [hq])) (by simpa using hi)

/-- One element of such a list. -/
theorem RoSl.at {α : Type} {u : Nat} {n m : Nat} {ad : Option Addr} {f : α → List Value} {l : List α} (h : RoSl H (.slice ad n m) (l.map f)) (hu : ∀ x, (f x).length = u) {i : Nat} (hi : i < l.length) :
    ∃ (b u0 : Nat) (w0 : Bool), ad = some ⟨b, 0, none⟩ ∧ b < H.length ∧ hget H b = .row (l.map f).flatten u0 w0 ∧ (((l.map f).flatten).drop (i * u)).take u = f l[i] ∧ i * u + u ≤ ((l.map f).flatten).length ∧ ∀ j, j < u → ((l.map f).flatten)[i * u + j]? = (f l[i])[j]? := by
  have hu2 : ∀ cs ∈ l.map f, cs.length = u := fun cs hc => by obtain ⟨x, _, rfl⟩ := List.mem_map.1 hc; exact hu x
  rcases h with ⟨h1, _⟩ | ⟨b, h2, h3, u0, w0, h4⟩
  · rw [List.map_eq_nil_iff] at h1; subst h1; simp at hi
  · injection h2 with e
    have hc := flat_cut (u := u) i hu2 (by simpa using hi)
    rw [List.getElem_map] at hc
    refine ⟨b, u0, w0, e, h3, h4, hc, ?_, fun j hj => ?_⟩
    · rw [flat_len_u hu2, List.length_map]
      have : (i + 1) * u ≤ l.length * u := Nat.mul_le_mul_right _ hi
      rw [Nat.succ_mul] at this
      exact this
    · have := congrArg (fun q : List Value => q[j]?) hc
      simp only [List.getElem?_take_of_lt hj, List.getElem?_drop] at this
      exact this

/-! ### The things of a schema, and their cells -/

structure Fld where (name : List UInt8) (width : Int)
structure Hdr where (name : List UInt8) (fv : Value) (fields : List Fld)
structure Rf where (head name : List UInt8)
structure Bt where (hi lo : Nat)
structure Cas where (value mask : Bt) (next : List UInt8)
structure Sta where (name header : List UInt8) (on : Rf) (cv : Value) (cases : List Cas) (next : List UInt8)
structure Opd where (ref : Rf) (const : Bt)
structure Stp where (kind : Int) (to : Rf) (op : Int) (a b : Opd)
structure Act where (name : List UInt8) (pv : Value) (params : List Fld) (sv : Value) (steps : List Stp)
structure Ky where (ref : Rf) (kind : Int)
structure Tbl where (name : List UInt8) (kv : Value) (keys : List Ky) (av : Value) (actions : List (List UInt8)) (size : Int) (dact : List UInt8) (dv : Value) (dargs : List Bt) (fixed : Bool)
structure Tst where (kind : Int) (a b : Opd)
inductive St where
  | mk (kind : Int) (table : List UInt8) (test : Tst) (va vb : Value) (thn els : List St)
structure Sch where (hv mv sv av tv cv : Value) (headers : List Hdr) (mets : List Fld) (states : List Sta) (actions : List Act) (tables : List Tbl) (control : List St)

instance : DecidableEq Fld := fun ⟨a0, a1⟩ ⟨b0, b1⟩ => if h : a0 = b0 ∧ a1 = b1 then Decidable.isTrue (by obtain ⟨rfl, rfl⟩ := h; rfl) else Decidable.isFalse fun e => h (by cases e; exact ⟨rfl, rfl⟩)
instance : DecidableEq Rf := fun ⟨a0, a1⟩ ⟨b0, b1⟩ => if h : a0 = b0 ∧ a1 = b1 then Decidable.isTrue (by obtain ⟨rfl, rfl⟩ := h; rfl) else Decidable.isFalse fun e => h (by cases e; exact ⟨rfl, rfl⟩)
instance : DecidableEq Bt := fun ⟨a0, a1⟩ ⟨b0, b1⟩ => if h : a0 = b0 ∧ a1 = b1 then Decidable.isTrue (by obtain ⟨rfl, rfl⟩ := h; rfl) else Decidable.isFalse fun e => h (by cases e; exact ⟨rfl, rfl⟩)
instance : DecidableEq Cas := fun ⟨a0, a1, a2⟩ ⟨b0, b1, b2⟩ => if h : a0 = b0 ∧ a1 = b1 ∧ a2 = b2 then Decidable.isTrue (by obtain ⟨rfl, rfl, rfl⟩ := h; rfl) else Decidable.isFalse fun e => h (by cases e; exact ⟨rfl, rfl, rfl⟩)
instance : DecidableEq Opd := fun ⟨a0, a1⟩ ⟨b0, b1⟩ => if h : a0 = b0 ∧ a1 = b1 then Decidable.isTrue (by obtain ⟨rfl, rfl⟩ := h; rfl) else Decidable.isFalse fun e => h (by cases e; exact ⟨rfl, rfl⟩)
instance : DecidableEq Stp := fun ⟨a0, a1, a2, a3, a4⟩ ⟨b0, b1, b2, b3, b4⟩ => if h : a0 = b0 ∧ a1 = b1 ∧ a2 = b2 ∧ a3 = b3 ∧ a4 = b4 then Decidable.isTrue (by obtain ⟨rfl, rfl, rfl, rfl, rfl⟩ := h; rfl) else Decidable.isFalse fun e => h (by cases e; exact ⟨rfl, rfl, rfl, rfl, rfl⟩)
instance : DecidableEq Ky := fun ⟨a0, a1⟩ ⟨b0, b1⟩ => if h : a0 = b0 ∧ a1 = b1 then Decidable.isTrue (by obtain ⟨rfl, rfl⟩ := h; rfl) else Decidable.isFalse fun e => h (by cases e; exact ⟨rfl, rfl⟩)
instance : DecidableEq Tst := fun ⟨a0, a1, a2⟩ ⟨b0, b1, b2⟩ => if h : a0 = b0 ∧ a1 = b1 ∧ a2 = b2 then Decidable.isTrue (by obtain ⟨rfl, rfl, rfl⟩ := h; rfl) else Decidable.isFalse fun e => h (by cases e; exact ⟨rfl, rfl, rfl⟩)

def txC (t : List UInt8) : List Value := [.string (bs t)]
def Fld.cells (x : Fld) : List Value := [.string (bs x.name), .int .i64 x.width]
def Hdr.cells (x : Hdr) : List Value := [.string (bs x.name), x.fv]
def Rf.cells (x : Rf) : List Value := [.string (bs x.head), .string (bs x.name)]
def Bt.cells (x : Bt) : List Value := [.int .u64 (x.hi : Int), .int .u64 (x.lo : Int)]
def Cas.cells (x : Cas) : List Value := [.int .u64 (x.value.hi : Int), .int .u64 (x.value.lo : Int), .int .u64 (x.mask.hi : Int), .int .u64 (x.mask.lo : Int), .string (bs x.next)]
def Sta.cells (x : Sta) : List Value := [.string (bs x.name), .string (bs x.header), .string (bs x.on.head), .string (bs x.on.name), x.cv, .string (bs x.next)]
def Opd.cells (x : Opd) : List Value := [.string (bs x.ref.head), .string (bs x.ref.name), .int .u64 (x.const.hi : Int), .int .u64 (x.const.lo : Int)]
def Stp.cells (x : Stp) : List Value := [.int .i64 x.kind, .string (bs x.to.head), .string (bs x.to.name), .int .i64 x.op, .string (bs x.a.ref.head), .string (bs x.a.ref.name), .int .u64 (x.a.const.hi : Int), .int .u64 (x.a.const.lo : Int), .string (bs x.b.ref.head), .string (bs x.b.ref.name), .int .u64 (x.b.const.hi : Int), .int .u64 (x.b.const.lo : Int)]
def Act.cells (x : Act) : List Value := [.string (bs x.name), x.pv, x.sv]
def Ky.cells (x : Ky) : List Value := [.string (bs x.ref.head), .string (bs x.ref.name), .int .i64 x.kind]
def Tbl.cells (x : Tbl) : List Value := [.string (bs x.name), x.kv, x.av, .int .i64 x.size, .string (bs x.dact), x.dv, .bool x.fixed]
def Tst.cells (x : Tst) : List Value := [.int .i64 x.kind, .string (bs x.a.ref.head), .string (bs x.a.ref.name), .int .u64 (x.a.const.hi : Int), .int .u64 (x.a.const.lo : Int), .string (bs x.b.ref.head), .string (bs x.b.ref.name), .int .u64 (x.b.const.hi : Int), .int .u64 (x.b.const.lo : Int)]
def St.cells : St → List Value | .mk k t c va vb _ _ => [.int .i64 k, .string (bs t)] ++ c.cells ++ [va, vb]
def Sch.cells (x : Sch) : List Value := [x.hv, x.mv, x.sv, x.av, x.tv, x.cv]

/-! ### In memory, and of the size that numbers have -/

def I64 (n : Int) : Prop := -9223372036854775808 ≤ n ∧ n < 9223372036854775808
def U64 (n : Nat) : Prop := n < 18446744073709551616
/-- So many of so many bytes have room. -/
def few (b n : Nat) : Prop := n * b ≤ 140737488355328

def Fld.OK (x : Fld) : Prop := I64 x.width
def Bt.OK (x : Bt) : Prop := U64 x.hi ∧ U64 x.lo
def Opd.OK (x : Opd) : Prop := x.const.OK
def FldL (H : Heap) (v : Value) (l : List Fld) : Prop := RoSl H v (l.map Fld.cells) ∧ few 24 l.length ∧ ∀ x ∈ l, x.OK
def BtL (H : Heap) (v : Value) (l : List Bt) : Prop := RoSl H v (l.map Bt.cells) ∧ few 16 l.length ∧ ∀ x ∈ l, x.OK
def TxL (H : Heap) (v : Value) (l : List (List UInt8)) : Prop := RoSl H v (l.map txC) ∧ few 16 l.length
def Hdr.OK (H : Heap) (x : Hdr) : Prop := FldL H x.fv x.fields
def Cas.OK (x : Cas) : Prop := x.value.OK ∧ x.mask.OK
def Sta.OK (H : Heap) (x : Sta) : Prop := RoSl H x.cv (x.cases.map Cas.cells) ∧ few 48 x.cases.length ∧ ∀ y ∈ x.cases, y.OK
def Stp.OK (x : Stp) : Prop := I64 x.kind ∧ I64 x.op ∧ x.a.OK ∧ x.b.OK
def Act.OK (H : Heap) (x : Act) : Prop := FldL H x.pv x.params ∧ RoSl H x.sv (x.steps.map Stp.cells) ∧ few 144 x.steps.length ∧ ∀ y ∈ x.steps, y.OK
def Ky.OK (x : Ky) : Prop := I64 x.kind
def Tbl.OK (H : Heap) (x : Tbl) : Prop := (RoSl H x.kv (x.keys.map Ky.cells) ∧ few 40 x.keys.length ∧ ∀ y ∈ x.keys, y.OK) ∧ TxL H x.av x.actions ∧ I64 x.size ∧ BtL H x.dv x.dargs
mutual
def StOK (H : Heap) : St → Prop
  | .mk k t c va vb a b => (I64 k ∧ I64 c.kind ∧ c.a.OK ∧ c.b.OK) ∧ StSl H a va ∧ StSl H b vb
def StSl (H : Heap) : List St → Value → Prop
  | [], v => ∃ ad, v = .slice ad 0 0
  | s :: l, v => (∃ (b : Nat), v = .slice (some ⟨b, 0, none⟩) (l.length + 1) (l.length + 1) ∧ b < H.length ∧ ∃ (u : Nat) (wr : Bool), hget H b = .row ((s :: l).map St.cells).flatten u wr) ∧ few 176 (l.length + 1) ∧ StOK H s ∧ StOKs H l
def StOKs (H : Heap) : List St → Prop
  | [] => True
  | s :: l => StOK H s ∧ StOKs H l
end
structure Sch.OK (H : Heap) (x : Sch) : Prop where
  hs : RoSl H x.hv (x.headers.map Hdr.cells) ∧ few 40 x.headers.length ∧ ∀ y ∈ x.headers, y.OK H
  ms : FldL H x.mv x.mets
  ss : RoSl H x.sv (x.states.map Sta.cells) ∧ few 104 x.states.length ∧ ∀ y ∈ x.states, y.OK H
  acs : RoSl H x.av (x.actions.map Act.cells) ∧ few 64 x.actions.length ∧ ∀ y ∈ x.actions, y.OK H
  ts : RoSl H x.tv (x.tables.map Tbl.cells) ∧ few 120 x.tables.length ∧ ∀ y ∈ x.tables, y.OK H
  cs : StSl H x.control x.cv

theorem Fld.len (x : Fld) : x.cells.length = 2 := rfl
theorem Hdr.len (x : Hdr) : x.cells.length = 2 := rfl
theorem Act.len (x : Act) : x.cells.length = 3 := rfl
theorem Tbl.len (x : Tbl) : x.cells.length = 7 := rfl
theorem Sta.len (x : Sta) : x.cells.length = 6 := rfl
theorem Cas.len (x : Cas) : x.cells.length = 5 := rfl
theorem Stp.len (x : Stp) : x.cells.length = 12 := rfl
theorem Ky.len (x : Ky) : x.cells.length = 3 := rfl
theorem Bt.len (x : Bt) : x.cells.length = 2 := rfl
theorem txC_len (t : List UInt8) : (txC t).length = 1 := rfl
theorem St.len (x : St) : x.cells.length = 13 := by cases x; rfl

theorem StSl.one {l : List St} {v : Value} (h : StSl H l v) : oneCell v = true := by
  cases l with
  | nil => simp only [StSl] at h; obtain ⟨ad, rfl⟩ := h; rfl
  | cons x l => simp only [StSl] at h; obtain ⟨⟨b, rfl, _⟩, _⟩ := h; rfl
theorem Sch.OK.one {s : Sch} (h : s.OK H) : oneCell s.hv = true ∧ oneCell s.mv = true ∧ oneCell s.sv = true ∧ oneCell s.av = true ∧ oneCell s.tv = true ∧ oneCell s.cv = true :=
  ⟨h.hs.1.one, h.ms.1.one, h.ss.1.one, h.acs.1.one, h.ts.1.one, h.cs.one⟩
theorem Hdr.OK.one {x : Hdr} (h : x.OK H) : oneCell x.fv = true := h.1.one
theorem Act.OK.one {x : Act} (h : x.OK H) : oneCell x.pv = true ∧ oneCell x.sv = true := ⟨h.1.1.one, h.2.1.one⟩
theorem Tbl.OK.one {x : Tbl} (h : x.OK H) : oneCell x.kv = true ∧ oneCell x.av = true ∧ oneCell x.dv = true := ⟨h.1.1.one, h.2.1.1.one, h.2.2.2.1.one⟩
theorem Sta.OK.one {x : Sta} (h : x.OK H) : oneCell x.cv = true := h.1.one

/-- At which place a text stands first; -1: it does not. -/
def ixT (t : List UInt8) : List (List UInt8) → Nat → Int
  | [], _ => -1
  | x :: l, i => if x = t then (i : Int) else ixT t l (i + 1)
theorem ixT_drop {t : List UInt8} {l : List (List UInt8)} {i : Nat} (hi : i < l.length) : ixT t (l.drop i) i = if l[i] = t then (i : Int) else ixT t (l.drop (i + 1)) (i + 1) := by
  rw [List.drop_eq_getElem_cons hi, ixT]
theorem ixT_end {t : List UInt8} {l : List (List UInt8)} {i : Nat} (hi : l.length ≤ i) : ixT t (l.drop i) i = -1 := by
  rw [List.drop_eq_nil_of_le hi, ixT]
theorem ixT_get : ∀ (t : List UInt8) (l : List (List UInt8)) (i : Nat), (ixT t l i = -1 ∧ ¬ t ∈ l) ∨ ∃ j, ∃ h : j < l.length, ixT t l i = ((i + j : Nat) : Int) ∧ l[j] = t
  | t, [], i => .inl ⟨rfl, by simp⟩
  | t, x :: l, i => by
    by_cases h : x = t
    · exact .inr ⟨0, by simp, by rw [ixT, if_pos h]; rfl, h⟩
    · rcases ixT_get t l (i + 1) with ⟨e, hn⟩ | ⟨j, hj, e, hg⟩
      · exact .inl ⟨by rw [ixT, if_neg h]; exact e, by simp [hn]; exact fun q => h q.symm⟩
      · exact .inr ⟨j + 1, by simpa using hj, by rw [ixT, if_neg h, e]; congr 1; omega, by simpa using hg⟩

end Go.Proofs.YtpllhhaeclnngaaGreat.Ev

/- At which place a thing of that name stands: the program. Printed by gen_y2.py. -/
namespace Go.Proofs.YtpllhhaeclnngaaGreat.Ev
set_option maxRecDepth 100000
set_option linter.unusedSimpArgs false
set_option linter.unusedVariables false
variable {R : FRes → Heap → Prop} {H K : Heap}

def headerAtI (K : Heap) (bx : Nat) (t : List UInt8) (ad : Option Addr) (l : List Hdr) (g : FuncId) : Nat → Env → Heap → Prop := fun z e K' =>
  ∃ i : Nat, i ≤ l.length ∧ z = l.length - i ∧ Base K K' ∧ hget K' bx = .row [.string (bs t)] 0 true ∧ ixT t (l.map Hdr.name) 0 = ixT t ((l.map Hdr.name).drop i) i ∧
    (∃ x : Nat → Value, e = [.slice ad l.length l.length, .func (.func g) #[] #[.pointer (some ⟨bx, 0, none⟩)], x 2, x 3, x 4, x 5, x 6, .int .i64 (l.length : Int), .int .i64 (i : Int), x 9, x 10, x 11, x 12, x 13, x 14, x 15, x 16, x 17, x 18])

theorem headerAt_l {t : List UInt8} {l : List Hdr} {ad : Option Addr} (hr : RoSl H (.slice ad l.length l.length) (l.map Hdr.cells)) (hn : few 40 l.length) (hok : ∀ x ∈ l, x.OK H) {K0 : Heap} {bx : Nat} (hb : Base H K0) (hbx : bx < K0.length) (hg : hget K0 bx = .row [.string (bs t)] 0 true)
    (h : ∀ K', Base K0 K' → R (.ret (.int .i64 (ixT t (l.map Hdr.name) 0))) K') : WD T 158 [.slice ad l.length l.length, .func (.func 159) #[] #[.pointer (some ⟨bx, 0, none⟩)]] K0 R := by
  unfold few at hn
  refine WD.of follows t158 (by simp) ?_
  simp (disch := omega) only [kB, kcx, kdm, kdn, kel, aop, resultsL, resultOf, Nat.reduceEqDiff, reduceCtorEq, eq1, apartOK, apart2, AObj.live, Int.reduceEq, Int.reduceLT, Int.reduceLE, Int.reduceAdd, Int.reduceSub, Int.reduceMul, Int.reduceToNat, cutCells, Nat.reduceAdd, Nat.reduceLeDiff, Nat.reduceLT, Nat.reduceMul, Nat.reduceSub]
  refine WD.of follows t184 (by simp) ?_
  simp (disch := omega) only [kB, kcx, kdm, kdn, kel, aop, resultsL, resultOf, Nat.reduceEqDiff, reduceCtorEq, eq1, apartOK, apart2, AObj.live, Int.reduceEq, Int.reduceLT, Int.reduceLE, Int.reduceAdd, Int.reduceSub, Int.reduceMul, Int.reduceToNat, cutCells, Nat.reduceAdd, Nat.reduceLeDiff, Nat.reduceLT, Nat.reduceMul, Nat.reduceSub]
  refine WLoop.inv (headerAtI K0 bx t ad l 159) ?_ l.length _ _ ⟨0, Nat.zero_le _, by omega, Base.refl, hg, by simp, by exact ex_env rfl⟩
  rintro z e K' ⟨i, hi, rfl, hb2, hg2, hx, ⟨x, rfl⟩⟩
  by_cases hlt : i < l.length
  · have c0 : (i : Int) < (l.length : Int) := by omega
    obtain ⟨b, u0, w0, rfl, hbl, hrow0, hcut, hle, _⟩ := hr.at Hdr.len hlt
    have hrow : hget K' b = .row (l.map Hdr.cells).flatten u0 w0 := by rw [(hb.trans hb2).2 b hbl]; exact hrow0
    have w2 : IntKind.i64.wrap ((i : Int) + 1) = ((i + 1 : Nat) : Int) := by rw [show (i : Int) + 1 = ((i + 1 : Nat) : Int) by omega]; exact wr_i64 (by omega) (by omega)
    have c3 : bx < K'.length := by have := hb2.1; omega
    rw [ixT_drop (by simpa using hlt), List.getElem_map] at hx
    have ho := hok _ (List.getElem_mem hlt)
    generalize l[i] = x at *
    simp (disch := omega) only [kB, kcx, kdm, kdn, kel, aop, resultsL, resultOf, Nat.reduceEqDiff, reduceCtorEq, eq1, apartOK, apart2, AObj.live, Int.reduceEq, Int.reduceLT, Int.reduceLE, Int.reduceAdd, Int.reduceSub, Int.reduceMul, Int.reduceToNat, cutCells, Nat.reduceAdd, Nat.reduceLeDiff, Nat.reduceLT, Nat.reduceMul, Nat.reduceSub, c0, hrow, hcut, hle]
    refine WD.of follows t159 (by simp) ?_
    simp only [Hdr.cells]
    have o := ho.one
    by_cases he : x.name = t
    · rw [if_pos he] at hx
      have hh := h (K' ++ [.row x.cells 0 true]) (hb2.app _)
      rw [hx] at hh
      simp only [Hdr.cells] at hh
      simp (disch := omega) only [kB, kcx, kdm, kdn, kel, aop, resultsL, resultOf, Nat.reduceEqDiff, reduceCtorEq, eq1, apartOK, apart2, AObj.live, Int.reduceEq, Int.reduceLT, Int.reduceLE, Int.reduceAdd, Int.reduceSub, Int.reduceMul, Int.reduceToNat, cutCells, Nat.reduceAdd, Nat.reduceLeDiff, Nat.reduceLT, Nat.reduceMul, Nat.reduceSub, hg2, decide_eq_true he, o]
      exact hh
    · rw [if_neg he] at hx
      simp (disch := omega) only [kB, kcx, kdm, kdn, kel, aop, resultsL, resultOf, Nat.reduceEqDiff, reduceCtorEq, eq1, apartOK, apart2, AObj.live, Int.reduceEq, Int.reduceLT, Int.reduceLE, Int.reduceAdd, Int.reduceSub, Int.reduceMul, Int.reduceToNat, cutCells, Nat.reduceAdd, Nat.reduceLeDiff, Nat.reduceLT, Nat.reduceMul, Nat.reduceSub, hg2, decide_eq_false he, w2, o]
      exact ⟨l.length - (i + 1), by omega, i + 1, by omega, rfl, hb2.app _, by rw [hget_old c3]; exact hg2, hx, by exact ex_env rfl⟩
  · have c0 : ¬ (i : Int) < (l.length : Int) := by omega
    rw [ixT_end (by simp; omega)] at hx
    have hh := h _ hb2
    rw [hx] at hh
    simp (disch := omega) only [kB, kcx, kdm, kdn, kel, aop, resultsL, resultOf, Nat.reduceEqDiff, reduceCtorEq, eq1, apartOK, apart2, AObj.live, Int.reduceEq, Int.reduceLT, Int.reduceLE, Int.reduceAdd, Int.reduceSub, Int.reduceMul, Int.reduceToNat, cutCells, Nat.reduceAdd, Nat.reduceLeDiff, Nat.reduceLT, Nat.reduceMul, Nat.reduceSub, c0]
    exact hh

theorem headerAt_s {s : Sch} (hs : s.OK H) (hb : Base H K) {t : List UInt8} (h : R (.ret (.int .i64 (ixT t (s.headers.map Hdr.name) 0))) K) : WD T 111 [.agg s.cells.toArray, .string (bs t)] K R := by
  refine WD.gc0 (WD.of follows t111 (by simp) ?_)
  obtain ⟨o0, o1, o2, o3, o4, o5⟩ := hs.one
  obtain ⟨hr, hn, hok⟩ := hs.hs
  obtain ⟨ad, hv⟩ := hr.sl
  rw [List.length_map] at hv
  simp only [Sch.cells]
  simp only [hv] at hr o0 ⊢
  simp (disch := omega) only [kB, kcx, kdm, kdn, kel, aop, resultsL, resultOf, Nat.reduceEqDiff, reduceCtorEq, eq1, apartOK, apart2, AObj.live, Int.reduceEq, Int.reduceLT, Int.reduceLE, Int.reduceAdd, Int.reduceSub, Int.reduceMul, Int.reduceToNat, cutCells, Nat.reduceAdd, Nat.reduceLeDiff, Nat.reduceLT, Nat.reduceMul, Nat.reduceSub, o0, o1, o2, o3, o4, o5]
  refine headerAt_l hr hn hok (hb.app _) (by simp) (by rw [hget_base]; rfl) ?_
  intro K' hb2
  have hb3 : Base K K' := (Base.app0 _).trans hb2
  simp (disch := omega) only [kB, kcx, kdm, kdn, kel, aop, resultsL, resultOf, Nat.reduceEqDiff, reduceCtorEq, eq1, apartOK, apart2, AObj.live, Int.reduceEq, Int.reduceLT, Int.reduceLE, Int.reduceAdd, Int.reduceSub, Int.reduceMul, Int.reduceToNat, cutCells, Nat.reduceAdd, Nat.reduceLeDiff, Nat.reduceLT, Nat.reduceMul, Nat.reduceSub]
  exact ⟨_, rfl, hb3.ext, .int, h⟩

def actionAtI (K : Heap) (bx : Nat) (t : List UInt8) (ad : Option Addr) (l : List Act) (g : FuncId) : Nat → Env → Heap → Prop := fun z e K' =>
  ∃ i : Nat, i ≤ l.length ∧ z = l.length - i ∧ Base K K' ∧ hget K' bx = .row [.string (bs t)] 0 true ∧ ixT t (l.map Act.name) 0 = ixT t ((l.map Act.name).drop i) i ∧
    (∃ x : Nat → Value, e = [.slice ad l.length l.length, .func (.func g) #[] #[.pointer (some ⟨bx, 0, none⟩)], x 2, x 3, x 4, x 5, x 6, .int .i64 (l.length : Int), .int .i64 (i : Int), x 9, x 10, x 11, x 12, x 13, x 14, x 15, x 16, x 17, x 18])

theorem actionAt_l {t : List UInt8} {l : List Act} {ad : Option Addr} (hr : RoSl H (.slice ad l.length l.length) (l.map Act.cells)) (hn : few 64 l.length) (hok : ∀ x ∈ l, x.OK H) {K0 : Heap} {bx : Nat} (hb : Base H K0) (hbx : bx < K0.length) (hg : hget K0 bx = .row [.string (bs t)] 0 true)
    (h : ∀ K', Base K0 K' → R (.ret (.int .i64 (ixT t (l.map Act.name) 0))) K') : WD T 160 [.slice ad l.length l.length, .func (.func 161) #[] #[.pointer (some ⟨bx, 0, none⟩)]] K0 R := by
  unfold few at hn
  refine WD.of follows t160 (by simp) ?_
  simp (disch := omega) only [kB, kcx, kdm, kdn, kel, aop, resultsL, resultOf, Nat.reduceEqDiff, reduceCtorEq, eq1, apartOK, apart2, AObj.live, Int.reduceEq, Int.reduceLT, Int.reduceLE, Int.reduceAdd, Int.reduceSub, Int.reduceMul, Int.reduceToNat, cutCells, Nat.reduceAdd, Nat.reduceLeDiff, Nat.reduceLT, Nat.reduceMul, Nat.reduceSub]
  refine WD.of follows t185 (by simp) ?_
  simp (disch := omega) only [kB, kcx, kdm, kdn, kel, aop, resultsL, resultOf, Nat.reduceEqDiff, reduceCtorEq, eq1, apartOK, apart2, AObj.live, Int.reduceEq, Int.reduceLT, Int.reduceLE, Int.reduceAdd, Int.reduceSub, Int.reduceMul, Int.reduceToNat, cutCells, Nat.reduceAdd, Nat.reduceLeDiff, Nat.reduceLT, Nat.reduceMul, Nat.reduceSub]
  refine WLoop.inv (actionAtI K0 bx t ad l 161) ?_ l.length _ _ ⟨0, Nat.zero_le _, by omega, Base.refl, hg, by simp, by exact ex_env rfl⟩
  rintro z e K' ⟨i, hi, rfl, hb2, hg2, hx, ⟨x, rfl⟩⟩
  by_cases hlt : i < l.length
  · have c0 : (i : Int) < (l.length : Int) := by omega
    obtain ⟨b, u0, w0, rfl, hbl, hrow0, hcut, hle, _⟩ := hr.at Act.len hlt
    have hrow : hget K' b = .row (l.map Act.cells).flatten u0 w0 := by rw [(hb.trans hb2).2 b hbl]; exact hrow0
    have w2 : IntKind.i64.wrap ((i : Int) + 1) = ((i + 1 : Nat) : Int) := by rw [show (i : Int) + 1 = ((i + 1 : Nat) : Int) by omega]; exact wr_i64 (by omega) (by omega)
    have c3 : bx < K'.length := by have := hb2.1; omega
    rw [ixT_drop (by simpa using hlt), List.getElem_map] at hx
    have ho := hok _ (List.getElem_mem hlt)
    generalize l[i] = x at *
    simp (disch := omega) only [kB, kcx, kdm, kdn, kel, aop, resultsL, resultOf, Nat.reduceEqDiff, reduceCtorEq, eq1, apartOK, apart2, AObj.live, Int.reduceEq, Int.reduceLT, Int.reduceLE, Int.reduceAdd, Int.reduceSub, Int.reduceMul, Int.reduceToNat, cutCells, Nat.reduceAdd, Nat.reduceLeDiff, Nat.reduceLT, Nat.reduceMul, Nat.reduceSub, c0, hrow, hcut, hle]
    refine WD.of follows t161 (by simp) ?_
    simp only [Act.cells]
    obtain ⟨o, o'⟩ := ho.one
    by_cases he : x.name = t
    · rw [if_pos he] at hx
      have hh := h (K' ++ [.row x.cells 0 true]) (hb2.app _)
      rw [hx] at hh
      simp only [Act.cells] at hh
      simp (disch := omega) only [kB, kcx, kdm, kdn, kel, aop, resultsL, resultOf, Nat.reduceEqDiff, reduceCtorEq, eq1, apartOK, apart2, AObj.live, Int.reduceEq, Int.reduceLT, Int.reduceLE, Int.reduceAdd, Int.reduceSub, Int.reduceMul, Int.reduceToNat, cutCells, Nat.reduceAdd, Nat.reduceLeDiff, Nat.reduceLT, Nat.reduceMul, Nat.reduceSub, hg2, decide_eq_true he, o, o']
      exact hh
    · rw [if_neg he] at hx
      simp (disch := omega) only [kB, kcx, kdm, kdn, kel, aop, resultsL, resultOf, Nat.reduceEqDiff, reduceCtorEq, eq1, apartOK, apart2, AObj.live, Int.reduceEq, Int.reduceLT, Int.reduceLE, Int.reduceAdd, Int.reduceSub, Int.reduceMul, Int.reduceToNat, cutCells, Nat.reduceAdd, Nat.reduceLeDiff, Nat.reduceLT, Nat.reduceMul, Nat.reduceSub, hg2, decide_eq_false he, w2, o, o']
      exact ⟨l.length - (i + 1), by omega, i + 1, by omega, rfl, hb2.app _, by rw [hget_old c3]; exact hg2, hx, by exact ex_env rfl⟩
  · have c0 : ¬ (i : Int) < (l.length : Int) := by omega
    rw [ixT_end (by simp; omega)] at hx
    have hh := h _ hb2
    rw [hx] at hh
    simp (disch := omega) only [kB, kcx, kdm, kdn, kel, aop, resultsL, resultOf, Nat.reduceEqDiff, reduceCtorEq, eq1, apartOK, apart2, AObj.live, Int.reduceEq, Int.reduceLT, Int.reduceLE, Int.reduceAdd, Int.reduceSub, Int.reduceMul, Int.reduceToNat, cutCells, Nat.reduceAdd, Nat.reduceLeDiff, Nat.reduceLT, Nat.reduceMul, Nat.reduceSub, c0]
    exact hh

theorem actionAt_s {s : Sch} (hs : s.OK H) (hb : Base H K) {t : List UInt8} (h : R (.ret (.int .i64 (ixT t (s.actions.map Act.name) 0))) K) : WD T 112 [.agg s.cells.toArray, .string (bs t)] K R := by
  refine WD.gc0 (WD.of follows t112 (by simp) ?_)
  obtain ⟨o0, o1, o2, o3, o4, o5⟩ := hs.one
  obtain ⟨hr, hn, hok⟩ := hs.acs
  obtain ⟨ad, hv⟩ := hr.sl
  rw [List.length_map] at hv
  simp only [Sch.cells]
  simp only [hv] at hr o3 ⊢
  simp (disch := omega) only [kB, kcx, kdm, kdn, kel, aop, resultsL, resultOf, Nat.reduceEqDiff, reduceCtorEq, eq1, apartOK, apart2, AObj.live, Int.reduceEq, Int.reduceLT, Int.reduceLE, Int.reduceAdd, Int.reduceSub, Int.reduceMul, Int.reduceToNat, cutCells, Nat.reduceAdd, Nat.reduceLeDiff, Nat.reduceLT, Nat.reduceMul, Nat.reduceSub, o0, o1, o2, o3, o4, o5]
  refine actionAt_l hr hn hok (hb.app _) (by simp) (by rw [hget_base]; rfl) ?_
  intro K' hb2
  have hb3 : Base K K' := (Base.app0 _).trans hb2
  simp (disch := omega) only [kB, kcx, kdm, kdn, kel, aop, resultsL, resultOf, Nat.reduceEqDiff, reduceCtorEq, eq1, apartOK, apart2, AObj.live, Int.reduceEq, Int.reduceLT, Int.reduceLE, Int.reduceAdd, Int.reduceSub, Int.reduceMul, Int.reduceToNat, cutCells, Nat.reduceAdd, Nat.reduceLeDiff, Nat.reduceLT, Nat.reduceMul, Nat.reduceSub]
  exact ⟨_, rfl, hb3.ext, .int, h⟩

def tableAtI (K : Heap) (bx : Nat) (t : List UInt8) (ad : Option Addr) (l : List Tbl) (g : FuncId) : Nat → Env → Heap → Prop := fun z e K' =>
  ∃ i : Nat, i ≤ l.length ∧ z = l.length - i ∧ Base K K' ∧ hget K' bx = .row [.string (bs t)] 0 true ∧ ixT t (l.map Tbl.name) 0 = ixT t ((l.map Tbl.name).drop i) i ∧
    (∃ x : Nat → Value, e = [.slice ad l.length l.length, .func (.func g) #[] #[.pointer (some ⟨bx, 0, none⟩)], x 2, x 3, x 4, x 5, x 6, .int .i64 (l.length : Int), .int .i64 (i : Int), x 9, x 10, x 11, x 12, x 13, x 14, x 15, x 16, x 17, x 18])

theorem tableAt_l {t : List UInt8} {l : List Tbl} {ad : Option Addr} (hr : RoSl H (.slice ad l.length l.length) (l.map Tbl.cells)) (hn : few 120 l.length) (hok : ∀ x ∈ l, x.OK H) {K0 : Heap} {bx : Nat} (hb : Base H K0) (hbx : bx < K0.length) (hg : hget K0 bx = .row [.string (bs t)] 0 true)
    (h : ∀ K', Base K0 K' → R (.ret (.int .i64 (ixT t (l.map Tbl.name) 0))) K') : WD T 162 [.slice ad l.length l.length, .func (.func 163) #[] #[.pointer (some ⟨bx, 0, none⟩)]] K0 R := by
  unfold few at hn
  refine WD.of follows t162 (by simp) ?_
  simp (disch := omega) only [kB, kcx, kdm, kdn, kel, aop, resultsL, resultOf, Nat.reduceEqDiff, reduceCtorEq, eq1, apartOK, apart2, AObj.live, Int.reduceEq, Int.reduceLT, Int.reduceLE, Int.reduceAdd, Int.reduceSub, Int.reduceMul, Int.reduceToNat, cutCells, Nat.reduceAdd, Nat.reduceLeDiff, Nat.reduceLT, Nat.reduceMul, Nat.reduceSub]
  refine WD.of follows t186 (by simp) ?_
  simp (disch := omega) only [kB, kcx, kdm, kdn, kel, aop, resultsL, resultOf, Nat.reduceEqDiff, reduceCtorEq, eq1, apartOK, apart2, AObj.live, Int.reduceEq, Int.reduceLT, Int.reduceLE, Int.reduceAdd, Int.reduceSub, Int.reduceMul, Int.reduceToNat, cutCells, Nat.reduceAdd, Nat.reduceLeDiff, Nat.reduceLT, Nat.reduceMul, Nat.reduceSub]
  refine WLoop.inv (tableAtI K0 bx t ad l 163) ?_ l.length _ _ ⟨0, Nat.zero_le _, by omega, Base.refl, hg, by simp, by exact ex_env rfl⟩
  rintro z e K' ⟨i, hi, rfl, hb2, hg2, hx, ⟨x, rfl⟩⟩
  by_cases hlt : i < l.length
  · have c0 : (i : Int) < (l.length : Int) := by omega
    obtain ⟨b, u0, w0, rfl, hbl, hrow0, hcut, hle, _⟩ := hr.at Tbl.len hlt
    have hrow : hget K' b = .row (l.map Tbl.cells).flatten u0 w0 := by rw [(hb.trans hb2).2 b hbl]; exact hrow0
    have w2 : IntKind.i64.wrap ((i : Int) + 1) = ((i + 1 : Nat) : Int) := by rw [show (i : Int) + 1 = ((i + 1 : Nat) : Int) by omega]; exact wr_i64 (by omega) (by omega)
    have c3 : bx < K'.length := by have := hb2.1; omega
    rw [ixT_drop (by simpa using hlt), List.getElem_map] at hx
    have ho := hok _ (List.getElem_mem hlt)
    generalize l[i] = x at *
    simp (disch := omega) only [kB, kcx, kdm, kdn, kel, aop, resultsL, resultOf, Nat.reduceEqDiff, reduceCtorEq, eq1, apartOK, apart2, AObj.live, Int.reduceEq, Int.reduceLT, Int.reduceLE, Int.reduceAdd, Int.reduceSub, Int.reduceMul, Int.reduceToNat, cutCells, Nat.reduceAdd, Nat.reduceLeDiff, Nat.reduceLT, Nat.reduceMul, Nat.reduceSub, c0, hrow, hcut, hle]
    refine WD.of follows t163 (by simp) ?_
    simp only [Tbl.cells]
    obtain ⟨o, o', o2⟩ := ho.one
    by_cases he : x.name = t
    · rw [if_pos he] at hx
      have hh := h (K' ++ [.row x.cells 0 true]) (hb2.app _)
      rw [hx] at hh
      simp only [Tbl.cells] at hh
      simp (disch := omega) only [kB, kcx, kdm, kdn, kel, aop, resultsL, resultOf, Nat.reduceEqDiff, reduceCtorEq, eq1, apartOK, apart2, AObj.live, Int.reduceEq, Int.reduceLT, Int.reduceLE, Int.reduceAdd, Int.reduceSub, Int.reduceMul, Int.reduceToNat, cutCells, Nat.reduceAdd, Nat.reduceLeDiff, Nat.reduceLT, Nat.reduceMul, Nat.reduceSub, hg2, decide_eq_true he, o, o', o2]
      exact hh
    · rw [if_neg he] at hx
      simp (disch := omega) only [kB, kcx, kdm, kdn, kel, aop, resultsL, resultOf, Nat.reduceEqDiff, reduceCtorEq, eq1, apartOK, apart2, AObj.live, Int.reduceEq, Int.reduceLT, Int.reduceLE, Int.reduceAdd, Int.reduceSub, Int.reduceMul, Int.reduceToNat, cutCells, Nat.reduceAdd, Nat.reduceLeDiff, Nat.reduceLT, Nat.reduceMul, Nat.reduceSub, hg2, decide_eq_false he, w2, o, o', o2]
      exact ⟨l.length - (i + 1), by omega, i + 1, by omega, rfl, hb2.app _, by rw [hget_old c3]; exact hg2, hx, by exact ex_env rfl⟩
  · have c0 : ¬ (i : Int) < (l.length : Int) := by omega
    rw [ixT_end (by simp; omega)] at hx
    have hh := h _ hb2
    rw [hx] at hh
    simp (disch := omega) only [kB, kcx, kdm, kdn, kel, aop, resultsL, resultOf, Nat.reduceEqDiff, reduceCtorEq, eq1, apartOK, apart2, AObj.live, Int.reduceEq, Int.reduceLT, Int.reduceLE, Int.reduceAdd, Int.reduceSub, Int.reduceMul, Int.reduceToNat, cutCells, Nat.reduceAdd, Nat.reduceLeDiff, Nat.reduceLT, Nat.reduceMul, Nat.reduceSub, c0]
    exact hh

theorem tableAt_s {s : Sch} (hs : s.OK H) (hb : Base H K) {t : List UInt8} (h : R (.ret (.int .i64 (ixT t (s.tables.map Tbl.name) 0))) K) : WD T 113 [.agg s.cells.toArray, .string (bs t)] K R := by
  refine WD.gc0 (WD.of follows t113 (by simp) ?_)
  obtain ⟨o0, o1, o2, o3, o4, o5⟩ := hs.one
  obtain ⟨hr, hn, hok⟩ := hs.ts
  obtain ⟨ad, hv⟩ := hr.sl
  rw [List.length_map] at hv
  simp only [Sch.cells]
  simp only [hv] at hr o4 ⊢
  simp (disch := omega) only [kB, kcx, kdm, kdn, kel, aop, resultsL, resultOf, Nat.reduceEqDiff, reduceCtorEq, eq1, apartOK, apart2, AObj.live, Int.reduceEq, Int.reduceLT, Int.reduceLE, Int.reduceAdd, Int.reduceSub, Int.reduceMul, Int.reduceToNat, cutCells, Nat.reduceAdd, Nat.reduceLeDiff, Nat.reduceLT, Nat.reduceMul, Nat.reduceSub, o0, o1, o2, o3, o4, o5]
  refine tableAt_l hr hn hok (hb.app _) (by simp) (by rw [hget_base]; rfl) ?_
  intro K' hb2
  have hb3 : Base K K' := (Base.app0 _).trans hb2
  simp (disch := omega) only [kB, kcx, kdm, kdn, kel, aop, resultsL, resultOf, Nat.reduceEqDiff, reduceCtorEq, eq1, apartOK, apart2, AObj.live, Int.reduceEq, Int.reduceLT, Int.reduceLE, Int.reduceAdd, Int.reduceSub, Int.reduceMul, Int.reduceToNat, cutCells, Nat.reduceAdd, Nat.reduceLeDiff, Nat.reduceLT, Nat.reduceMul, Nat.reduceSub]
  exact ⟨_, rfl, hb3.ext, .int, h⟩

def fieldAtI (K : Heap) (bx : Nat) (t : List UInt8) (ad : Option Addr) (l : List Fld) (g : FuncId) : Nat → Env → Heap → Prop := fun z e K' =>
  ∃ i : Nat, i ≤ l.length ∧ z = l.length - i ∧ Base K K' ∧ hget K' bx = .row [.string (bs t)] 0 true ∧ ixT t (l.map Fld.name) 0 = ixT t ((l.map Fld.name).drop i) i ∧
    (∃ x : Nat → Value, e = [.slice ad l.length l.length, .func (.func g) #[] #[.pointer (some ⟨bx, 0, none⟩)], x 2, x 3, x 4, x 5, x 6, .int .i64 (l.length : Int), .int .i64 (i : Int), x 9, x 10, x 11, x 12, x 13, x 14, x 15, x 16, x 17, x 18])

theorem fieldAt_l {t : List UInt8} {l : List Fld} {ad : Option Addr} (hr : RoSl H (.slice ad l.length l.length) (l.map Fld.cells)) (hn : few 24 l.length) (hok : True) {K0 : Heap} {bx : Nat} (hb : Base H K0) (hbx : bx < K0.length) (hg : hget K0 bx = .row [.string (bs t)] 0 true)
    (h : ∀ K', Base K0 K' → R (.ret (.int .i64 (ixT t (l.map Fld.name) 0))) K') : WD T 188 [.slice ad l.length l.length, .func (.func 189) #[] #[.pointer (some ⟨bx, 0, none⟩)]] K0 R := by
  unfold few at hn
  refine WD.of follows t188 (by simp) ?_
  simp (disch := omega) only [kB, kcx, kdm, kdn, kel, aop, resultsL, resultOf, Nat.reduceEqDiff, reduceCtorEq, eq1, apartOK, apart2, AObj.live, Int.reduceEq, Int.reduceLT, Int.reduceLE, Int.reduceAdd, Int.reduceSub, Int.reduceMul, Int.reduceToNat, cutCells, Nat.reduceAdd, Nat.reduceLeDiff, Nat.reduceLT, Nat.reduceMul, Nat.reduceSub]
  refine WD.of follows t195 (by simp) ?_
  simp (disch := omega) only [kB, kcx, kdm, kdn, kel, aop, resultsL, resultOf, Nat.reduceEqDiff, reduceCtorEq, eq1, apartOK, apart2, AObj.live, Int.reduceEq, Int.reduceLT, Int.reduceLE, Int.reduceAdd, Int.reduceSub, Int.reduceMul, Int.reduceToNat, cutCells, Nat.reduceAdd, Nat.reduceLeDiff, Nat.reduceLT, Nat.reduceMul, Nat.reduceSub]
  refine WLoop.inv (fieldAtI K0 bx t ad l 189) ?_ l.length _ _ ⟨0, Nat.zero_le _, by omega, Base.refl, hg, by simp, by exact ex_env rfl⟩
  rintro z e K' ⟨i, hi, rfl, hb2, hg2, hx, ⟨x, rfl⟩⟩
  by_cases hlt : i < l.length
  · have c0 : (i : Int) < (l.length : Int) := by omega
    obtain ⟨b, u0, w0, rfl, hbl, hrow0, hcut, hle, _⟩ := hr.at Fld.len hlt
    have hrow : hget K' b = .row (l.map Fld.cells).flatten u0 w0 := by rw [(hb.trans hb2).2 b hbl]; exact hrow0
    have w2 : IntKind.i64.wrap ((i : Int) + 1) = ((i + 1 : Nat) : Int) := by rw [show (i : Int) + 1 = ((i + 1 : Nat) : Int) by omega]; exact wr_i64 (by omega) (by omega)
    have c3 : bx < K'.length := by have := hb2.1; omega
    rw [ixT_drop (by simpa using hlt), List.getElem_map] at hx
    skip
    generalize l[i] = x at *
    simp (disch := omega) only [kB, kcx, kdm, kdn, kel, aop, resultsL, resultOf, Nat.reduceEqDiff, reduceCtorEq, eq1, apartOK, apart2, AObj.live, Int.reduceEq, Int.reduceLT, Int.reduceLE, Int.reduceAdd, Int.reduceSub, Int.reduceMul, Int.reduceToNat, cutCells, Nat.reduceAdd, Nat.reduceLeDiff, Nat.reduceLT, Nat.reduceMul, Nat.reduceSub, c0, hrow, hcut, hle]
    refine WD.of follows t189 (by simp) ?_
    simp only [Fld.cells]
    skip
    by_cases he : x.name = t
    · rw [if_pos he] at hx
      have hh := h (K' ++ [.row x.cells 0 true]) (hb2.app _)
      rw [hx] at hh
      simp only [Fld.cells] at hh
      simp (disch := omega) only [kB, kcx, kdm, kdn, kel, aop, resultsL, resultOf, Nat.reduceEqDiff, reduceCtorEq, eq1, apartOK, apart2, AObj.live, Int.reduceEq, Int.reduceLT, Int.reduceLE, Int.reduceAdd, Int.reduceSub, Int.reduceMul, Int.reduceToNat, cutCells, Nat.reduceAdd, Nat.reduceLeDiff, Nat.reduceLT, Nat.reduceMul, Nat.reduceSub, hg2, decide_eq_true he]
      exact hh
    · rw [if_neg he] at hx
      simp (disch := omega) only [kB, kcx, kdm, kdn, kel, aop, resultsL, resultOf, Nat.reduceEqDiff, reduceCtorEq, eq1, apartOK, apart2, AObj.live, Int.reduceEq, Int.reduceLT, Int.reduceLE, Int.reduceAdd, Int.reduceSub, Int.reduceMul, Int.reduceToNat, cutCells, Nat.reduceAdd, Nat.reduceLeDiff, Nat.reduceLT, Nat.reduceMul, Nat.reduceSub, hg2, decide_eq_false he, w2]
      exact ⟨l.length - (i + 1), by omega, i + 1, by omega, rfl, hb2.app _, by rw [hget_old c3]; exact hg2, hx, by exact ex_env rfl⟩
  · have c0 : ¬ (i : Int) < (l.length : Int) := by omega
    rw [ixT_end (by simp; omega)] at hx
    have hh := h _ hb2
    rw [hx] at hh
    simp (disch := omega) only [kB, kcx, kdm, kdn, kel, aop, resultsL, resultOf, Nat.reduceEqDiff, reduceCtorEq, eq1, apartOK, apart2, AObj.live, Int.reduceEq, Int.reduceLT, Int.reduceLE, Int.reduceAdd, Int.reduceSub, Int.reduceMul, Int.reduceToNat, cutCells, Nat.reduceAdd, Nat.reduceLeDiff, Nat.reduceLT, Nat.reduceMul, Nat.reduceSub, c0]
    exact hh

theorem fieldAt_s {v : Value} {l : List Fld} (hv0 : FldL H v l) (hb : Base H K) {t : List UInt8} (h : R (.ret (.int .i64 (ixT t (l.map Fld.name) 0))) K) : WD T 167 [v, .string (bs t)] K R := by
  refine WD.gc0 (WD.of follows t167 (by simp) ?_)
  obtain ⟨hr, hn, _⟩ := hv0
  obtain ⟨ad, rfl⟩ := hr.sl
  rw [List.length_map] at hr ⊢
  simp (disch := omega) only [kB, kcx, kdm, kdn, kel, aop, resultsL, resultOf, Nat.reduceEqDiff, reduceCtorEq, eq1, apartOK, apart2, AObj.live, Int.reduceEq, Int.reduceLT, Int.reduceLE, Int.reduceAdd, Int.reduceSub, Int.reduceMul, Int.reduceToNat, cutCells, Nat.reduceAdd, Nat.reduceLeDiff, Nat.reduceLT, Nat.reduceMul, Nat.reduceSub]
  refine fieldAt_l hr hn trivial (hb.app _) (by simp) (by rw [hget_base0]; rfl) ?_
  intro K' hb2
  have hb3 : Base K K' := (Base.app0 _).trans hb2
  simp (disch := omega) only [kB, kcx, kdm, kdn, kel, aop, resultsL, resultOf, Nat.reduceEqDiff, reduceCtorEq, eq1, apartOK, apart2, AObj.live, Int.reduceEq, Int.reduceLT, Int.reduceLE, Int.reduceAdd, Int.reduceSub, Int.reduceMul, Int.reduceToNat, cutCells, Nat.reduceAdd, Nat.reduceLeDiff, Nat.reduceLT, Nat.reduceMul, Nat.reduceSub]
  exact ⟨_, rfl, hb3.ext, .int, h⟩

end Go.Proofs.YtpllhhaeclnngaaGreat.Ev

/- At which place a thing of that name stands: the document; is a text in a list. Printed by gen_y3.py. -/
namespace Go.Proofs.YtpllhhaeclnngaaGreat.Ev
set_option maxRecDepth 100000
set_option linter.unusedSimpArgs false
set_option linter.unusedVariables false
variable {R : FRes → Heap → Prop} {H K : Heap}

def rheaderAtI (K : Heap) (bx : Nat) (t : List UInt8) (l : List Hdr) : Nat → Env → Heap → Prop := fun z e K' =>
  ∃ i : Nat, i ≤ l.length ∧ z = l.length - i ∧ K' = K ∧ ixT t (l.map Hdr.name) 0 = ixT t ((l.map Hdr.name).drop i) i ∧ (∃ x : Nat → Value, e = [x 0, .string (bs t), .pointer (some ⟨bx, 0, none⟩), x 3, x 4, .int .i64 (i : Int), x 6, x 7, x 8, x 9, x 10, x 11, x 12, x 13, x 14, x 15, x 16, x 17, x 18, x 19, x 20, x 21])

theorem rheaderAt_s {s : Sch} (hs : s.OK H) (hb : Base H K) {t : List UInt8} (h : R (.ret (.int .i64 (ixT t (s.headers.map Hdr.name) 0))) K) : WD T 116 [.agg s.cells.toArray, .string (bs t)] K R := by
  refine WD.gc0 (WD.of follows t116 (by simp) ?_)
  obtain ⟨o0, o1, o2, o3, o4, o5⟩ := hs.one
  obtain ⟨hr, hn, hok⟩ := hs.hs
  unfold few at hn
  obtain ⟨ad, hv⟩ := hr.sl
  rw [List.length_map] at hv
  simp only [Sch.cells]
  simp only [hv] at hr o0 ⊢
  generalize s.headers = l at *
  simp (disch := omega) only [kB, kcx, kdm, kdn, kel, aop, resultsL, resultOf, Nat.reduceEqDiff, reduceCtorEq, eq1, apartOK, apart2, AObj.live, Int.reduceEq, Int.reduceLT, Int.reduceLE, Int.reduceAdd, Int.reduceSub, Int.reduceMul, Int.reduceToNat, cutCells, Nat.reduceAdd, Nat.reduceLeDiff, Nat.reduceLT, Nat.reduceMul, Nat.reduceSub, o0, o1, o2, o3, o4, o5]
  refine WLoop.inv (rheaderAtI (K ++ [_]) K.length t l) ?_ l.length _ _ ⟨0, Nat.zero_le _, by omega, rfl, by simp, by exact ex_env rfl⟩
  rintro z e K' ⟨i, hi, rfl, rfl, hx, ⟨x, rfl⟩⟩
  by_cases hlt : i < l.length
  · have c0 : (i : Int) < (l.length : Int) := by omega
    obtain ⟨b, u0, w0, rfl, hbl, hrow0, _, _, hat⟩ := hr.at Hdr.len hlt
    have hrow : hget K b = .row (l.map Hdr.cells).flatten u0 w0 := by rw [hb.2 b hbl]; exact hrow0
    have hbl2 : b < K.length := Nat.lt_of_lt_of_le hbl hb.1
    have h0 := hat 0 (by decide)
    have w2 : IntKind.i64.wrap ((i : Int) + 1) = ((i + 1 : Nat) : Int) := by rw [show (i : Int) + 1 = ((i + 1 : Nat) : Int) by omega]; exact wr_i64 (by omega) (by omega)
    rw [ixT_drop (by simpa using hlt), List.getElem_map] at hx
    generalize l[i] = x at *
    simp only [Hdr.cells, List.getElem?_cons_zero, Nat.add_zero] at h0
    by_cases he : x.name = t
    · rw [if_pos he] at hx
      rw [hx] at h
      simp (disch := omega) only [kB, kcx, kdm, kdn, kel, aop, resultsL, resultOf, Nat.reduceEqDiff, reduceCtorEq, eq1, apartOK, apart2, AObj.live, Int.reduceEq, Int.reduceLT, Int.reduceLE, Int.reduceAdd, Int.reduceSub, Int.reduceMul, Int.reduceToNat, cutCells, Nat.reduceAdd, Nat.reduceLeDiff, Nat.reduceLT, Nat.reduceMul, Nat.reduceSub, c0, hrow, h0, decide_eq_true he]
      exact ⟨_, rfl, ⟨_, rfl⟩, .int, h⟩
    · rw [if_neg he] at hx
      simp (disch := omega) only [kB, kcx, kdm, kdn, kel, aop, resultsL, resultOf, Nat.reduceEqDiff, reduceCtorEq, eq1, apartOK, apart2, AObj.live, Int.reduceEq, Int.reduceLT, Int.reduceLE, Int.reduceAdd, Int.reduceSub, Int.reduceMul, Int.reduceToNat, cutCells, Nat.reduceAdd, Nat.reduceLeDiff, Nat.reduceLT, Nat.reduceMul, Nat.reduceSub, c0, hrow, h0, decide_eq_false he, w2]
      exact ⟨l.length - (i + 1), by omega, i + 1, by omega, rfl, rfl, hx, by exact ex_env rfl⟩
  · have c0 : ¬ (i : Int) < (l.length : Int) := by omega
    rw [ixT_end (by simp; omega)] at hx
    rw [hx] at h
    simp (disch := omega) only [kB, kcx, kdm, kdn, kel, aop, resultsL, resultOf, Nat.reduceEqDiff, reduceCtorEq, eq1, apartOK, apart2, AObj.live, Int.reduceEq, Int.reduceLT, Int.reduceLE, Int.reduceAdd, Int.reduceSub, Int.reduceMul, Int.reduceToNat, cutCells, Nat.reduceAdd, Nat.reduceLeDiff, Nat.reduceLT, Nat.reduceMul, Nat.reduceSub, c0]
    exact ⟨_, rfl, ⟨_, rfl⟩, .int, h⟩

def ractionAtI (K : Heap) (bx : Nat) (t : List UInt8) (l : List Act) : Nat → Env → Heap → Prop := fun z e K' =>
  ∃ i : Nat, i ≤ l.length ∧ z = l.length - i ∧ K' = K ∧ ixT t (l.map Act.name) 0 = ixT t ((l.map Act.name).drop i) i ∧ (∃ x : Nat → Value, e = [x 0, .string (bs t), .pointer (some ⟨bx, 0, none⟩), x 3, x 4, .int .i64 (i : Int), x 6, x 7, x 8, x 9, x 10, x 11, x 12, x 13, x 14, x 15, x 16, x 17, x 18, x 19, x 20, x 21])

theorem ractionAt_s {s : Sch} (hs : s.OK H) (hb : Base H K) {t : List UInt8} (h : R (.ret (.int .i64 (ixT t (s.actions.map Act.name) 0))) K) : WD T 117 [.agg s.cells.toArray, .string (bs t)] K R := by
  refine WD.gc0 (WD.of follows t117 (by simp) ?_)
  obtain ⟨o0, o1, o2, o3, o4, o5⟩ := hs.one
  obtain ⟨hr, hn, hok⟩ := hs.acs
  unfold few at hn
  obtain ⟨ad, hv⟩ := hr.sl
  rw [List.length_map] at hv
  simp only [Sch.cells]
  simp only [hv] at hr o3 ⊢
  generalize s.actions = l at *
  simp (disch := omega) only [kB, kcx, kdm, kdn, kel, aop, resultsL, resultOf, Nat.reduceEqDiff, reduceCtorEq, eq1, apartOK, apart2, AObj.live, Int.reduceEq, Int.reduceLT, Int.reduceLE, Int.reduceAdd, Int.reduceSub, Int.reduceMul, Int.reduceToNat, cutCells, Nat.reduceAdd, Nat.reduceLeDiff, Nat.reduceLT, Nat.reduceMul, Nat.reduceSub, o0, o1, o2, o3, o4, o5]
  refine WLoop.inv (ractionAtI (K ++ [_]) K.length t l) ?_ l.length _ _ ⟨0, Nat.zero_le _, by omega, rfl, by simp, by exact ex_env rfl⟩
  rintro z e K' ⟨i, hi, rfl, rfl, hx, ⟨x, rfl⟩⟩
  by_cases hlt : i < l.length
  · have c0 : (i : Int) < (l.length : Int) := by omega
    obtain ⟨b, u0, w0, rfl, hbl, hrow0, _, _, hat⟩ := hr.at Act.len hlt
    have hrow : hget K b = .row (l.map Act.cells).flatten u0 w0 := by rw [hb.2 b hbl]; exact hrow0
    have hbl2 : b < K.length := Nat.lt_of_lt_of_le hbl hb.1
    have h0 := hat 0 (by decide)
    have w2 : IntKind.i64.wrap ((i : Int) + 1) = ((i + 1 : Nat) : Int) := by rw [show (i : Int) + 1 = ((i + 1 : Nat) : Int) by omega]; exact wr_i64 (by omega) (by omega)
    rw [ixT_drop (by simpa using hlt), List.getElem_map] at hx
    generalize l[i] = x at *
    simp only [Act.cells, List.getElem?_cons_zero, Nat.add_zero] at h0
    by_cases he : x.name = t
    · rw [if_pos he] at hx
      rw [hx] at h
      simp (disch := omega) only [kB, kcx, kdm, kdn, kel, aop, resultsL, resultOf, Nat.reduceEqDiff, reduceCtorEq, eq1, apartOK, apart2, AObj.live, Int.reduceEq, Int.reduceLT, Int.reduceLE, Int.reduceAdd, Int.reduceSub, Int.reduceMul, Int.reduceToNat, cutCells, Nat.reduceAdd, Nat.reduceLeDiff, Nat.reduceLT, Nat.reduceMul, Nat.reduceSub, c0, hrow, h0, decide_eq_true he]
      exact ⟨_, rfl, ⟨_, rfl⟩, .int, h⟩
    · rw [if_neg he] at hx
      simp (disch := omega) only [kB, kcx, kdm, kdn, kel, aop, resultsL, resultOf, Nat.reduceEqDiff, reduceCtorEq, eq1, apartOK, apart2, AObj.live, Int.reduceEq, Int.reduceLT, Int.reduceLE, Int.reduceAdd, Int.reduceSub, Int.reduceMul, Int.reduceToNat, cutCells, Nat.reduceAdd, Nat.reduceLeDiff, Nat.reduceLT, Nat.reduceMul, Nat.reduceSub, c0, hrow, h0, decide_eq_false he, w2]
      exact ⟨l.length - (i + 1), by omega, i + 1, by omega, rfl, rfl, hx, by exact ex_env rfl⟩
  · have c0 : ¬ (i : Int) < (l.length : Int) := by omega
    rw [ixT_end (by simp; omega)] at hx
    rw [hx] at h
    simp (disch := omega) only [kB, kcx, kdm, kdn, kel, aop, resultsL, resultOf, Nat.reduceEqDiff, reduceCtorEq, eq1, apartOK, apart2, AObj.live, Int.reduceEq, Int.reduceLT, Int.reduceLE, Int.reduceAdd, Int.reduceSub, Int.reduceMul, Int.reduceToNat, cutCells, Nat.reduceAdd, Nat.reduceLeDiff, Nat.reduceLT, Nat.reduceMul, Nat.reduceSub, c0]
    exact ⟨_, rfl, ⟨_, rfl⟩, .int, h⟩

def rtableAtI (K : Heap) (bx : Nat) (t : List UInt8) (l : List Tbl) : Nat → Env → Heap → Prop := fun z e K' =>
  ∃ i : Nat, i ≤ l.length ∧ z = l.length - i ∧ K' = K ∧ ixT t (l.map Tbl.name) 0 = ixT t ((l.map Tbl.name).drop i) i ∧ (∃ x : Nat → Value, e = [x 0, .string (bs t), .pointer (some ⟨bx, 0, none⟩), x 3, x 4, .int .i64 (i : Int), x 6, x 7, x 8, x 9, x 10, x 11, x 12, x 13, x 14, x 15, x 16, x 17, x 18, x 19, x 20, x 21])

theorem rtableAt_s {s : Sch} (hs : s.OK H) (hb : Base H K) {t : List UInt8} (h : R (.ret (.int .i64 (ixT t (s.tables.map Tbl.name) 0))) K) : WD T 118 [.agg s.cells.toArray, .string (bs t)] K R := by
  refine WD.gc0 (WD.of follows t118 (by simp) ?_)
  obtain ⟨o0, o1, o2, o3, o4, o5⟩ := hs.one
  obtain ⟨hr, hn, hok⟩ := hs.ts
  unfold few at hn
  obtain ⟨ad, hv⟩ := hr.sl
  rw [List.length_map] at hv
  simp only [Sch.cells]
  simp only [hv] at hr o4 ⊢
  generalize s.tables = l at *
  simp (disch := omega) only [kB, kcx, kdm, kdn, kel, aop, resultsL, resultOf, Nat.reduceEqDiff, reduceCtorEq, eq1, apartOK, apart2, AObj.live, Int.reduceEq, Int.reduceLT, Int.reduceLE, Int.reduceAdd, Int.reduceSub, Int.reduceMul, Int.reduceToNat, cutCells, Nat.reduceAdd, Nat.reduceLeDiff, Nat.reduceLT, Nat.reduceMul, Nat.reduceSub, o0, o1, o2, o3, o4, o5]
  refine WLoop.inv (rtableAtI (K ++ [_]) K.length t l) ?_ l.length _ _ ⟨0, Nat.zero_le _, by omega, rfl, by simp, by exact ex_env rfl⟩
  rintro z e K' ⟨i, hi, rfl, rfl, hx, ⟨x, rfl⟩⟩
  by_cases hlt : i < l.length
  · have c0 : (i : Int) < (l.length : Int) := by omega
    obtain ⟨b, u0, w0, rfl, hbl, hrow0, _, _, hat⟩ := hr.at Tbl.len hlt
    have hrow : hget K b = .row (l.map Tbl.cells).flatten u0 w0 := by rw [hb.2 b hbl]; exact hrow0
    have hbl2 : b < K.length := Nat.lt_of_lt_of_le hbl hb.1
    have h0 := hat 0 (by decide)
    have w2 : IntKind.i64.wrap ((i : Int) + 1) = ((i + 1 : Nat) : Int) := by rw [show (i : Int) + 1 = ((i + 1 : Nat) : Int) by omega]; exact wr_i64 (by omega) (by omega)
    rw [ixT_drop (by simpa using hlt), List.getElem_map] at hx
    generalize l[i] = x at *
    simp only [Tbl.cells, List.getElem?_cons_zero, Nat.add_zero] at h0
    by_cases he : x.name = t
    · rw [if_pos he] at hx
      rw [hx] at h
      simp (disch := omega) only [kB, kcx, kdm, kdn, kel, aop, resultsL, resultOf, Nat.reduceEqDiff, reduceCtorEq, eq1, apartOK, apart2, AObj.live, Int.reduceEq, Int.reduceLT, Int.reduceLE, Int.reduceAdd, Int.reduceSub, Int.reduceMul, Int.reduceToNat, cutCells, Nat.reduceAdd, Nat.reduceLeDiff, Nat.reduceLT, Nat.reduceMul, Nat.reduceSub, c0, hrow, h0, decide_eq_true he]
      exact ⟨_, rfl, ⟨_, rfl⟩, .int, h⟩
    · rw [if_neg he] at hx
      simp (disch := omega) only [kB, kcx, kdm, kdn, kel, aop, resultsL, resultOf, Nat.reduceEqDiff, reduceCtorEq, eq1, apartOK, apart2, AObj.live, Int.reduceEq, Int.reduceLT, Int.reduceLE, Int.reduceAdd, Int.reduceSub, Int.reduceMul, Int.reduceToNat, cutCells, Nat.reduceAdd, Nat.reduceLeDiff, Nat.reduceLT, Nat.reduceMul, Nat.reduceSub, c0, hrow, h0, decide_eq_false he, w2]
      exact ⟨l.length - (i + 1), by omega, i + 1, by omega, rfl, rfl, hx, by exact ex_env rfl⟩
  · have c0 : ¬ (i : Int) < (l.length : Int) := by omega
    rw [ixT_end (by simp; omega)] at hx
    rw [hx] at h
    simp (disch := omega) only [kB, kcx, kdm, kdn, kel, aop, resultsL, resultOf, Nat.reduceEqDiff, reduceCtorEq, eq1, apartOK, apart2, AObj.live, Int.reduceEq, Int.reduceLT, Int.reduceLE, Int.reduceAdd, Int.reduceSub, Int.reduceMul, Int.reduceToNat, cutCells, Nat.reduceAdd, Nat.reduceLeDiff, Nat.reduceLT, Nat.reduceMul, Nat.reduceSub, c0]
    exact ⟨_, rfl, ⟨_, rfl⟩, .int, h⟩

def rfieldI (K : Heap) (ad : Option Addr) (t : List UInt8) (l : List Fld) : Nat → Env → Heap → Prop := fun z e K' =>
  ∃ i : Nat, i ≤ l.length ∧ z = l.length - i ∧ K' = K ∧ ixT t (l.map Fld.name) 0 = ixT t ((l.map Fld.name).drop i) i ∧ (∃ x : Nat → Value, e = [.slice ad l.length l.length, .string (bs t), x 2, x 3, x 4, .int .i64 (i : Int), x 6, x 7, x 8, x 9, x 10, x 11, x 12, x 13, x 14, x 15, x 16, x 17, x 18, x 19])

theorem rfield_s {v : Value} {l : List Fld} (hv0 : FldL H v l) (hb : Base H K) {t : List UInt8} (h : R (.ret (.int .i64 (ixT t (l.map Fld.name) 0))) K) : WD T 171 [v, .string (bs t)] K R := by
  refine WD.of follows t171 (by simp) ?_
  obtain ⟨hr, hn, _⟩ := hv0
  unfold few at hn
  obtain ⟨ad, rfl⟩ := hr.sl
  rw [List.length_map] at hr ⊢
  simp (disch := omega) only [kB, kcx, kdm, kdn, kel, aop, resultsL, resultOf, Nat.reduceEqDiff, reduceCtorEq, eq1, apartOK, apart2, AObj.live, Int.reduceEq, Int.reduceLT, Int.reduceLE, Int.reduceAdd, Int.reduceSub, Int.reduceMul, Int.reduceToNat, cutCells, Nat.reduceAdd, Nat.reduceLeDiff, Nat.reduceLT, Nat.reduceMul, Nat.reduceSub]
  refine WLoop.inv (rfieldI K ad t l) ?_ l.length _ _ ⟨0, Nat.zero_le _, by omega, rfl, by simp, by exact ex_env rfl⟩
  rintro z e K' ⟨i, hi, rfl, rfl, hx, ⟨x, rfl⟩⟩
  by_cases hlt : i < l.length
  · have c0 : (i : Int) < (l.length : Int) := by omega
    obtain ⟨b, u0, w0, rfl, hbl, hrow0, _, _, hat⟩ := hr.at Fld.len hlt
    have hrow : hget K' b = .row (l.map Fld.cells).flatten u0 w0 := by rw [hb.2 b hbl]; exact hrow0
    have h0 := hat 0 (by decide)
    have w2 : IntKind.i64.wrap ((i : Int) + 1) = ((i + 1 : Nat) : Int) := by rw [show (i : Int) + 1 = ((i + 1 : Nat) : Int) by omega]; exact wr_i64 (by omega) (by omega)
    rw [ixT_drop (by simpa using hlt), List.getElem_map] at hx
    generalize l[i] = x at *
    simp only [Fld.cells, List.getElem?_cons_zero, Nat.add_zero] at h0
    by_cases he : x.name = t
    · rw [if_pos he] at hx
      rw [hx] at h
      simp (disch := omega) only [kB, kcx, kdm, kdn, kel, aop, resultsL, resultOf, Nat.reduceEqDiff, reduceCtorEq, eq1, apartOK, apart2, AObj.live, Int.reduceEq, Int.reduceLT, Int.reduceLE, Int.reduceAdd, Int.reduceSub, Int.reduceMul, Int.reduceToNat, cutCells, Nat.reduceAdd, Nat.reduceLeDiff, Nat.reduceLT, Nat.reduceMul, Nat.reduceSub, c0, hrow, h0, decide_eq_true he]
      exact h
    · rw [if_neg he] at hx
      simp (disch := omega) only [kB, kcx, kdm, kdn, kel, aop, resultsL, resultOf, Nat.reduceEqDiff, reduceCtorEq, eq1, apartOK, apart2, AObj.live, Int.reduceEq, Int.reduceLT, Int.reduceLE, Int.reduceAdd, Int.reduceSub, Int.reduceMul, Int.reduceToNat, cutCells, Nat.reduceAdd, Nat.reduceLeDiff, Nat.reduceLT, Nat.reduceMul, Nat.reduceSub, c0, hrow, h0, decide_eq_false he, w2]
      exact ⟨l.length - (i + 1), by omega, i + 1, by omega, rfl, rfl, hx, by exact ex_env rfl⟩
  · have c0 : ¬ (i : Int) < (l.length : Int) := by omega
    rw [ixT_end (by simp; omega)] at hx
    rw [hx] at h
    simp (disch := omega) only [kB, kcx, kdm, kdn, kel, aop, resultsL, resultOf, Nat.reduceEqDiff, reduceCtorEq, eq1, apartOK, apart2, AObj.live, Int.reduceEq, Int.reduceLT, Int.reduceLE, Int.reduceAdd, Int.reduceSub, Int.reduceMul, Int.reduceToNat, cutCells, Nat.reduceAdd, Nat.reduceLeDiff, Nat.reduceLT, Nat.reduceMul, Nat.reduceSub, c0]
    exact h

def hasI (n : Nat) (K : Heap) (ad : Option Addr) (t : List UInt8) (L : List (List UInt8)) : Nat → Env → Heap → Prop := fun z e K' =>
  ∃ i : Nat, i ≤ L.length ∧ z = L.length - i ∧ K' = K ∧ (∀ j (hj : j < L.length), j < i → L[j] ≠ t) ∧ (∃ x : Nat → Value, e = [.slice ad L.length L.length, .string (bs t), x 2, x 3, x 4, .int .i64 (i : Int), x 6, x 7, x 8, x 9, x 10, x 11, x 12, x 13, x 14, x 15, x 16, x 17])

theorem rhas_s {v : Value} {L : List (List UInt8)} (hv0 : TxL H v L) (hb : Base H K) {t : List UInt8} (h : R (.ret (.bool (decide (t ∈ L)))) K) : WD T 121 [v, .string (bs t)] K R := by
  refine WD.of follows t121 (by simp) ?_
  obtain ⟨hr, hn⟩ := hv0
  unfold few at hn
  obtain ⟨ad, rfl⟩ := hr.sl
  rw [List.length_map] at hr ⊢
  simp (disch := omega) only [kB, kcx, kdm, kdn, kel, aop, resultsL, resultOf, Nat.reduceEqDiff, reduceCtorEq, eq1, apartOK, apart2, AObj.live, Int.reduceEq, Int.reduceLT, Int.reduceLE, Int.reduceAdd, Int.reduceSub, Int.reduceMul, Int.reduceToNat, cutCells, Nat.reduceAdd, Nat.reduceLeDiff, Nat.reduceLT, Nat.reduceMul, Nat.reduceSub]
  refine WLoop.inv (hasI 0 K ad t L) ?_ L.length _ _ ⟨0, Nat.zero_le _, by omega, rfl, fun j hj h0 => by omega, by exact ex_env rfl⟩
  rintro z e K' ⟨i, hi, rfl, rfl, hno, ⟨x, rfl⟩⟩
  by_cases hlt : i < L.length
  · have c0 : (i : Int) < (L.length : Int) := by omega
    obtain ⟨b, u0, w0, rfl, hbl, hrow0, _, _, hat⟩ := hr.at (u := 1) txC_len hlt
    have hrow : hget K' b = .row (L.map txC).flatten u0 w0 := by rw [hb.2 b hbl]; exact hrow0
    have h0 := hat 0 (by decide)
    simp only [txC, Nat.mul_one, Nat.add_zero, List.getElem?_cons_zero] at h0
    have w2 : IntKind.i64.wrap ((i : Int) + 1) = ((i + 1 : Nat) : Int) := by rw [show (i : Int) + 1 = ((i + 1 : Nat) : Int) by omega]; exact wr_i64 (by omega) (by omega)
    by_cases he : L[i] = t
    · have hin : t ∈ L := by rw [← he]; exact List.getElem_mem hlt
      simp (disch := omega) only [kB, kcx, kdm, kdn, kel, aop, resultsL, resultOf, Nat.reduceEqDiff, reduceCtorEq, eq1, apartOK, apart2, AObj.live, Int.reduceEq, Int.reduceLT, Int.reduceLE, Int.reduceAdd, Int.reduceSub, Int.reduceMul, Int.reduceToNat, cutCells, Nat.reduceAdd, Nat.reduceLeDiff, Nat.reduceLT, Nat.reduceMul, Nat.reduceSub, c0, hrow, h0, decide_eq_true he]
      simpa [hin] using h
    · simp (disch := omega) only [kB, kcx, kdm, kdn, kel, aop, resultsL, resultOf, Nat.reduceEqDiff, reduceCtorEq, eq1, apartOK, apart2, AObj.live, Int.reduceEq, Int.reduceLT, Int.reduceLE, Int.reduceAdd, Int.reduceSub, Int.reduceMul, Int.reduceToNat, cutCells, Nat.reduceAdd, Nat.reduceLeDiff, Nat.reduceLT, Nat.reduceMul, Nat.reduceSub, c0, hrow, h0, decide_eq_false he, w2]
      exact ⟨L.length - (i + 1), by omega, i + 1, by omega, rfl, rfl, fun j hj h1 => by
        by_cases q : j = i
        · subst q; exact he
        · exact hno j hj (by omega), by exact ex_env rfl⟩
  · have c0 : ¬ (i : Int) < (L.length : Int) := by omega
    have hin : ¬ t ∈ L := fun h => by
      obtain ⟨j, hj, rfl⟩ := List.getElem_of_mem h
      exact hno j hj (by omega) rfl
    simp (disch := omega) only [kB, kcx, kdm, kdn, kel, aop, resultsL, resultOf, Nat.reduceEqDiff, reduceCtorEq, eq1, apartOK, apart2, AObj.live, Int.reduceEq, Int.reduceLT, Int.reduceLE, Int.reduceAdd, Int.reduceSub, Int.reduceMul, Int.reduceToNat, cutCells, Nat.reduceAdd, Nat.reduceLeDiff, Nat.reduceLT, Nat.reduceMul, Nat.reduceSub, c0]
    simpa [hin] using h

def ctnI (K : Heap) (ad : Option Addr) (t : List UInt8) (L : List (List UInt8)) : Nat → Env → Heap → Prop := fun z e K' =>
  ∃ i : Nat, i ≤ L.length ∧ z = L.length - i ∧ K' = K ∧ (∀ j (hj : j < L.length), j < i → L[j] ≠ t) ∧ (∃ x : Nat → Value, e = [.slice ad L.length L.length, .string (bs t), x 2, x 3, x 4, x 5, x 6, .int .i64 (L.length : Int), .int .i64 (i : Int), x 9, x 10, x 11, x 12, x 13, x 14, x 15, x 16, x 17, x 18])

theorem ctn_s {v : Value} {L : List (List UInt8)} (hv0 : TxL H v L) (hb : Base H K) {t : List UInt8} (h : R (.ret (.bool (decide (t ∈ L)))) K) : WD T 100 [v, .string (bs t)] K R := by
  refine WD.of follows t100 (by simp) ?_
  obtain ⟨hr, hn⟩ := hv0
  unfold few at hn
  obtain ⟨ad, rfl⟩ := hr.sl
  rw [List.length_map] at hr ⊢
  simp (disch := omega) only [kB, kcx, kdm, kdn, kel, aop, resultsL, resultOf, Nat.reduceEqDiff, reduceCtorEq, eq1, apartOK, apart2, AObj.live, Int.reduceEq, Int.reduceLT, Int.reduceLE, Int.reduceAdd, Int.reduceSub, Int.reduceMul, Int.reduceToNat, cutCells, Nat.reduceAdd, Nat.reduceLeDiff, Nat.reduceLT, Nat.reduceMul, Nat.reduceSub]
  refine WD.of follows t154 (by simp) ?_
  simp (disch := omega) only [kB, kcx, kdm, kdn, kel, aop, resultsL, resultOf, Nat.reduceEqDiff, reduceCtorEq, eq1, apartOK, apart2, AObj.live, Int.reduceEq, Int.reduceLT, Int.reduceLE, Int.reduceAdd, Int.reduceSub, Int.reduceMul, Int.reduceToNat, cutCells, Nat.reduceAdd, Nat.reduceLeDiff, Nat.reduceLT, Nat.reduceMul, Nat.reduceSub]
  refine WLoop.inv (ctnI K ad t L) ?_ L.length _ _ ⟨0, Nat.zero_le _, by omega, rfl, fun j hj h0 => by omega, by exact ex_env rfl⟩
  rintro z e K' ⟨i, hi, rfl, rfl, hno, ⟨x, rfl⟩⟩
  by_cases hlt : i < L.length
  · have c0 : (i : Int) < (L.length : Int) := by omega
    obtain ⟨b, u0, w0, rfl, hbl, hrow0, _, _, hat⟩ := hr.at (u := 1) txC_len hlt
    have hrow : hget K' b = .row (L.map txC).flatten u0 w0 := by rw [hb.2 b hbl]; exact hrow0
    have h0 := hat 0 (by decide)
    simp only [txC, Nat.mul_one, Nat.add_zero, List.getElem?_cons_zero] at h0
    have w2 : IntKind.i64.wrap ((i : Int) + 1) = ((i + 1 : Nat) : Int) := by rw [show (i : Int) + 1 = ((i + 1 : Nat) : Int) by omega]; exact wr_i64 (by omega) (by omega)
    by_cases he : L[i] = t
    · have hin : t ∈ L := by rw [← he]; exact List.getElem_mem hlt
      have c3 : (0 : Int) ≤ (i : Int) := by omega
      simp (disch := omega) only [kB, kcx, kdm, kdn, kel, aop, resultsL, resultOf, Nat.reduceEqDiff, reduceCtorEq, eq1, apartOK, apart2, AObj.live, Int.reduceEq, Int.reduceLT, Int.reduceLE, Int.reduceAdd, Int.reduceSub, Int.reduceMul, Int.reduceToNat, cutCells, Nat.reduceAdd, Nat.reduceLeDiff, Nat.reduceLT, Nat.reduceMul, Nat.reduceSub, c0, hrow, h0, decide_eq_true he.symm, c3]
      simpa [hin] using h
    · simp (disch := omega) only [kB, kcx, kdm, kdn, kel, aop, resultsL, resultOf, Nat.reduceEqDiff, reduceCtorEq, eq1, apartOK, apart2, AObj.live, Int.reduceEq, Int.reduceLT, Int.reduceLE, Int.reduceAdd, Int.reduceSub, Int.reduceMul, Int.reduceToNat, cutCells, Nat.reduceAdd, Nat.reduceLeDiff, Nat.reduceLT, Nat.reduceMul, Nat.reduceSub, c0, hrow, h0, decide_eq_false (fun q => he (Eq.symm q)), w2]
      exact ⟨L.length - (i + 1), by omega, i + 1, by omega, rfl, rfl, fun j hj h1 => by
        by_cases q : j = i
        · subst q; exact he
        · exact hno j hj (by omega), by exact ex_env rfl⟩
  · have c0 : ¬ (i : Int) < (L.length : Int) := by omega
    have hin : ¬ t ∈ L := fun h => by
      obtain ⟨j, hj, rfl⟩ := List.getElem_of_mem h
      exact hno j hj (by omega) rfl
    simp (disch := omega) only [kB, kcx, kdm, kdn, kel, aop, resultsL, resultOf, Nat.reduceEqDiff, reduceCtorEq, eq1, apartOK, apart2, AObj.live, Int.reduceEq, Int.reduceLT, Int.reduceLE, Int.reduceAdd, Int.reduceSub, Int.reduceMul, Int.reduceToNat, cutCells, Nat.reduceAdd, Nat.reduceLeDiff, Nat.reduceLT, Nat.reduceMul, Nat.reduceSub, c0]
    simpa [hin] using h

end Go.Proofs.YtpllhhaeclnngaaGreat.Ev

/- The field to which a reference leads, and its width: the program and the document. -/
namespace Go.Proofs.YtpllhhaeclnngaaGreat.Ev
set_option maxRecDepth 100000
set_option linter.unusedSimpArgs false
set_option linter.unusedVariables false
variable {R : FRes → Heap → Prop} {H K : Heap}

def metaT : List UInt8 := [109, 101, 116, 97]
/-- The thing of that name, the first one. -/
def named {α : Type} (f : α → List UInt8) (l : List α) (t : List UInt8) : Option α := if ixT t (l.map f) 0 < 0 then none else l[(ixT t (l.map f) 0).toNat]?
theorem named_cases {α : Type} (f : α → List UInt8) (l : List α) (t : List UInt8) : (ixT t (l.map f) 0 = -1 ∧ named f l t = none) ∨ ∃ j, ∃ h : j < l.length, ixT t (l.map f) 0 = (j : Int) ∧ named f l t = some l[j] ∧ f l[j] = t := by
  unfold named
  rcases ixT_get t (l.map f) 0 with ⟨e, _⟩ | ⟨j, hj, e, hg⟩
  · exact .inl ⟨e, by rw [e]; rfl⟩
  · rw [List.length_map] at hj
    rw [Nat.zero_add] at e
    refine .inr ⟨j, hj, e, ?_, by simpa using hg⟩
    rw [e, if_neg (by omega), Int.toNat_natCast, List.getElem?_eq_getElem hj]

def fldOf (s : Sch) (r : Rf) : Option Fld :=
  if r.head = [] then none else if r.head = metaT then named Fld.name s.mets r.name else (named Hdr.name s.headers r.head).bind fun h => named Fld.name h.fields r.name
def fldV : Option Fld → Value
  | some f => .agg f.cells.toArray
  | none => .agg #[.string (bs []), .int .i64 0]
theorem fldV_scoped {n : Nat} {o : Option Fld} {b : Bool} : Scoped n (.tuple #[fldV o, .bool b]) := by
  refine .tup2 ?_ .bool
  cases o with
  | none => exact .agg (l := [.string (bs []), .int .i64 0]) (by intro v hv; simp at hv; rcases hv with rfl | rfl; exact .string; exact .int)
  | some f => exact .agg (l := f.cells) (by intro v hv; simp [Fld.cells] at hv; rcases hv with rfl | rfl; exact .string; exact .int)

theorem fld_mem {s : Sch} (hs : s.OK H) {r : Rf} {f : Fld} (h : fldOf s r = some f) : I64 f.width := by
  unfold fldOf at h
  split at h
  · cases h
  · split at h
    · rcases named_cases Fld.name s.mets r.name with ⟨_, e⟩ | ⟨j, hj, _, e, _⟩
      · rw [e] at h; cases h
      · rw [e] at h; cases h; exact hs.ms.2.2 _ (List.getElem_mem hj)
    · rcases named_cases Hdr.name s.headers r.head with ⟨_, e⟩ | ⟨j, hj, _, e, _⟩
      · rw [e] at h; cases h
      · rw [e] at h
        simp only [Option.bind_some] at h
        have ho := hs.hs.2.2 _ (List.getElem_mem hj)
        rcases named_cases Fld.name s.headers[j].fields r.name with ⟨_, e⟩ | ⟨k, hk, _, e, _⟩
        · rw [e] at h; cases h
        · rw [e] at h; cases h; exact ho.2.2 _ (List.getElem_mem hk)

set_option maxHeartbeats 1000000 in
theorem fieldOf_s {s : Sch} (hs : s.OK H) (hb : Base H K) {r : Rf} (h : R (.ret (.tuple #[fldV (fldOf s r), .bool (fldOf s r).isSome])) K) : WD T 126 [.agg s.cells.toArray, .agg r.cells.toArray] K R := by
  refine WD.gc0 (WD.of follows t126 (by simp) ?_)
  obtain ⟨o0, o1, o2, o3, o4, o5⟩ := hs.one
  have hcl := hs
  have key : ∀ o, fldOf s r = o → R (.ret (.tuple #[fldV o, .bool o.isSome])) K := fun o e => by rw [← e]; exact h
  simp only [Sch.cells, Rf.cells]
  by_cases c1 : r.head = []
  · have hh := key none (by rw [fldOf, if_pos c1])
    simp (disch := omega) only [kB, kcx, kdm, kdn, kel, aop, resultsL, resultOf, Nat.reduceEqDiff, reduceCtorEq, eq1, apartOK, apart2, AObj.live, Int.reduceEq, Int.reduceLT, Int.reduceLE, Int.reduceAdd, Int.reduceSub, Int.reduceMul, Int.reduceToNat, cutCells, Nat.reduceAdd, Nat.reduceLeDiff, Nat.reduceLT, Nat.reduceMul, Nat.reduceSub, o0, o1, o2, o3, o4, o5, decide_eq_true c1]
    exact ⟨_, rfl, ⟨_, rfl⟩, fldV_scoped (o := none), hh⟩
  · have tail : ∀ (v : Value) (l : List Fld), FldL H v l → fldOf s r = named Fld.name l r.name → ∀ (e : Env) (K' : Heap), Base K K' → K.length + 2 < K'.length → hget K' (K.length + 1) = .row [.string (bs r.head), .string (bs r.name)] 0 true → hget K' (K.length + 2) = .row [.string (bs []), .int .i64 0] 0 true → (∃ x : Nat → Value, e = [x 0, x 1, x 2, .pointer (some ⟨K.length + 1, 0, none⟩), .pointer (some ⟨K.length + 2, 0, none⟩), x 5, v, x 7, x 8, x 9, x 10, x 11, x 12, x 13, x 14, x 15, x 16, x 17, x 18, x 19, x 20, x 21, x 22, x 23, x 24, x 25, x 26, x 27, x 28, x 29, x 30, x 31, x 32, x 33, x 34, x 35, x 36, x 37, x 38, x 39, x 40, x 41]) →
        WC T (g126.body.at [1, 1, 1]) e K' (retK [.cellN 4 2, .tmp 5] (fun r_1 H1 => ∃ v, r_1 = .ret v ∧ (∃ g, H1 = K ++ g) ∧ Scoped K.length v ∧ R (.ret v) K)) := by
      intro v l hl hf e K' hbk hlen hr3 hr4 he
      obtain ⟨x, rfl⟩ := he
      simp only [AFunc.body, g126, ACode.at]
      obtain ⟨ad, rfl⟩ := hl.1.sl
      simp (disch := omega) only [kB, kcx, kdm, kdn, kel, aop, resultsL, resultOf, Nat.reduceEqDiff, reduceCtorEq, eq1, apartOK, apart2, AObj.live, Int.reduceEq, Int.reduceLT, Int.reduceLE, Int.reduceAdd, Int.reduceSub, Int.reduceMul, Int.reduceToNat, cutCells, Nat.reduceAdd, Nat.reduceLeDiff, Nat.reduceLT, Nat.reduceMul, Nat.reduceSub, hr3]
      refine fieldAt_s hl (hb.trans hbk) ?_
      rcases named_cases Fld.name l r.name with ⟨e1, e2⟩ | ⟨j, hj, e1, e2, _⟩
      · have hh := key none (by rw [hf, e2])
        rw [e1]
        simp (disch := omega) only [kB, kcx, kdm, kdn, kel, aop, resultsL, resultOf, Nat.reduceEqDiff, reduceCtorEq, eq1, apartOK, apart2, AObj.live, Int.reduceEq, Int.reduceLT, Int.reduceLE, Int.reduceAdd, Int.reduceSub, Int.reduceMul, Int.reduceToNat, cutCells, Nat.reduceAdd, Nat.reduceLeDiff, Nat.reduceLT, Nat.reduceMul, Nat.reduceSub, hr4]
        exact ⟨_, rfl, (hbk.set (by omega)).ext, fldV_scoped (o := none), hh⟩
      · have hh := key (some l[j]) (by rw [hf, e2])
        rw [e1]
        obtain ⟨b, u0, w0, rfl, hbl, hrow0, hcut, hle, hat⟩ := hl.1.at Fld.len hj
        have hrow : hget K' b = .row (l.map Fld.cells).flatten u0 w0 := by rw [(hb.trans hbk).2 b hbl]; exact hrow0
        have c3 : (0 : Int) ≤ (j : Int) := by omega
        have c5 : (j : Int) < (l.length : Int) := by omega
        rw [List.length_map]
        generalize l[j] = y at *
        simp only [Fld.cells] at hcut
        simp (disch := omega) only [kB, kcx, kdm, kdn, kel, aop, resultsL, resultOf, Nat.reduceEqDiff, reduceCtorEq, eq1, apartOK, apart2, AObj.live, Int.reduceEq, Int.reduceLT, Int.reduceLE, Int.reduceAdd, Int.reduceSub, Int.reduceMul, Int.reduceToNat, cutCells, Nat.reduceAdd, Nat.reduceLeDiff, Nat.reduceLT, Nat.reduceMul, Nat.reduceSub, hr4, hrow, hcut, hle, c3, c5]
        exact ⟨_, rfl, (hbk.set (by omega)).ext, fldV_scoped (o := some y), hh⟩
    obtain ⟨Z, hZ⟩ : ∃ Z, Z = WC T (g126.body.at [1, 1, 1]) := ⟨_, rfl⟩
    rw [← hZ] at tail
    have hZ' := hZ.symm
    simp only [AFunc.body, g126, ACode.at] at hZ'
    by_cases c2 : r.head = metaT
    · have c6 : decide (r.head = [109, 101, 116, 97]) = true := decide_eq_true c2
      simp (disch := omega) only [kB, kcx, kdm, kdn, kel, aop, resultsL, resultOf, Nat.reduceEqDiff, reduceCtorEq, eq1, apartOK, apart2, AObj.live, Int.reduceEq, Int.reduceLT, Int.reduceLE, Int.reduceAdd, Int.reduceSub, Int.reduceMul, Int.reduceToNat, cutCells, Nat.reduceAdd, Nat.reduceLeDiff, Nat.reduceLT, Nat.reduceMul, Nat.reduceSub, o0, o1, o2, o3, o4, o5, decide_eq_false c1, c6, hZ']
      refine tail s.mv s.mets hs.ms (by rw [fldOf, if_neg c1, if_pos c2]) _ _ (Base.app0 _) (by simp) (by rw [hget_base]; rfl) (by rw [hget_base]; rfl) (by exact ex_env rfl)
    · have c6 : decide (r.head = [109, 101, 116, 97]) = false := decide_eq_false c2
      simp (disch := omega) only [kB, kcx, kdm, kdn, kel, aop, resultsL, resultOf, Nat.reduceEqDiff, reduceCtorEq, eq1, apartOK, apart2, AObj.live, Int.reduceEq, Int.reduceLT, Int.reduceLE, Int.reduceAdd, Int.reduceSub, Int.reduceMul, Int.reduceToNat, cutCells, Nat.reduceAdd, Nat.reduceLeDiff, Nat.reduceLT, Nat.reduceMul, Nat.reduceSub, o0, o1, o2, o3, o4, o5, decide_eq_false c1, c6, hZ']
      refine headerAt_s hs (hb.app _) ?_
      rcases named_cases Hdr.name s.headers r.head with ⟨e1, e2⟩ | ⟨j, hj, e1, e2, _⟩
      · have hh := key none (by rw [fldOf, if_neg c1, if_neg c2, e2]; rfl)
        rw [e1]
        simp (disch := omega) only [kB, kcx, kdm, kdn, kel, aop, resultsL, resultOf, Nat.reduceEqDiff, reduceCtorEq, eq1, apartOK, apart2, AObj.live, Int.reduceEq, Int.reduceLT, Int.reduceLE, Int.reduceAdd, Int.reduceSub, Int.reduceMul, Int.reduceToNat, cutCells, Nat.reduceAdd, Nat.reduceLeDiff, Nat.reduceLT, Nat.reduceMul, Nat.reduceSub, hZ']
        exact ⟨_, rfl, ⟨_, rfl⟩, fldV_scoped (o := none), hh⟩
      · rw [e1]
        have hok := hs.hs.2.2 _ (List.getElem_mem hj)
        obtain ⟨hr, hn, _⟩ := hs.hs
        obtain ⟨ad, hv⟩ := hr.sl
        rw [hv] at hr
        obtain ⟨b, u0, w0, rfl, hbl, hrow0, hcut, hle, hat⟩ := hr.at Hdr.len hj
        have hrow : hget K b = .row (s.headers.map Hdr.cells).flatten u0 w0 := by rw [hb.2 b hbl]; exact hrow0
        have hbl2 : b < K.length := Nat.lt_of_lt_of_le hbl hb.1
        have c3 : (0 : Int) ≤ (j : Int) := by omega
        have c4 : ¬ (j : Int) < 0 := by omega
        have c5 : (j : Int) < (s.headers.length : Int) := by omega
        have h1 := hat 1 (by decide)
        simp only [Hdr.cells, List.getElem?_cons_succ, List.getElem?_cons_zero] at h1
        rw [List.length_map] at hv
        simp (disch := omega) only [kB, kcx, kdm, kdn, kel, aop, resultsL, resultOf, Nat.reduceEqDiff, reduceCtorEq, eq1, apartOK, apart2, AObj.live, Int.reduceEq, Int.reduceLT, Int.reduceLE, Int.reduceAdd, Int.reduceSub, Int.reduceMul, Int.reduceToNat, cutCells, Nat.reduceAdd, Nat.reduceLeDiff, Nat.reduceLT, Nat.reduceMul, Nat.reduceSub, hZ', c3, c4, c5, hv, hrow, h1]
        refine tail s.headers[j].fv s.headers[j].fields hok (by rw [fldOf, if_neg c1, if_neg c2, e2]; rfl) _ _ (Base.app0 _) (by simp) (by rw [hget_base]; rfl) (by rw [hget_base]; rfl) (by exact ex_env rfl)

/-- A reference's width, if it is one. -/
def widthV (o : Option Fld) : Int := match o with
  | some f => if f.width < 1 ∨ 128 < f.width then 0 else f.width
  | none => 0

set_option maxHeartbeats 1000000 in
theorem width_s {s : Sch} (hs : s.OK H) (hb : Base H K) {r : Rf} (h : R (.ret (.int .i64 (widthV (fldOf s r)))) K) : WD T 50 [.agg s.cells.toArray, .agg r.cells.toArray] K R := by
  refine WD.gc0 (WD.of follows t50 (by simp) ?_)
  obtain ⟨o0, o1, o2, o3, o4, o5⟩ := hs.one
  simp only [Sch.cells, Rf.cells]
  simp (disch := omega) only [kB, kcx, kdm, kdn, kel, aop, resultsL, resultOf, Nat.reduceEqDiff, reduceCtorEq, eq1, apartOK, apart2, AObj.live, Int.reduceEq, Int.reduceLT, Int.reduceLE, Int.reduceAdd, Int.reduceSub, Int.reduceMul, Int.reduceToNat, cutCells, Nat.reduceAdd, Nat.reduceLeDiff, Nat.reduceLT, Nat.reduceMul, Nat.reduceSub, o0, o1, o2, o3, o4, o5]
  refine fieldOf_s (r := r) hs (hb.app _) ?_
  cases hf : fldOf s r with
  | none =>
    rw [hf] at h
    simp only [fldV, widthV] at h ⊢
    simp (disch := omega) only [kB, kcx, kdm, kdn, kel, aop, resultsL, resultOf, Nat.reduceEqDiff, reduceCtorEq, eq1, apartOK, apart2, AObj.live, Int.reduceEq, Int.reduceLT, Int.reduceLE, Int.reduceAdd, Int.reduceSub, Int.reduceMul, Int.reduceToNat, cutCells, Nat.reduceAdd, Nat.reduceLeDiff, Nat.reduceLT, Nat.reduceMul, Nat.reduceSub]
    exact ⟨_, rfl, ⟨_, rfl⟩, .int, h⟩
  | some f =>
    rw [hf] at h
    simp only [fldV, widthV, Fld.cells] at h ⊢
    by_cases c1 : f.width < 1
    · rw [if_pos (.inl c1)] at h
      simp (disch := omega) only [kB, kcx, kdm, kdn, kel, aop, resultsL, resultOf, Nat.reduceEqDiff, reduceCtorEq, eq1, apartOK, apart2, AObj.live, Int.reduceEq, Int.reduceLT, Int.reduceLE, Int.reduceAdd, Int.reduceSub, Int.reduceMul, Int.reduceToNat, cutCells, Nat.reduceAdd, Nat.reduceLeDiff, Nat.reduceLT, Nat.reduceMul, Nat.reduceSub, c1]
      exact ⟨_, rfl, ⟨_, rfl⟩, .int, h⟩
    · by_cases c2 : 128 < f.width
      · rw [if_pos (.inr c2)] at h
        simp (disch := omega) only [kB, kcx, kdm, kdn, kel, aop, resultsL, resultOf, Nat.reduceEqDiff, reduceCtorEq, eq1, apartOK, apart2, AObj.live, Int.reduceEq, Int.reduceLT, Int.reduceLE, Int.reduceAdd, Int.reduceSub, Int.reduceMul, Int.reduceToNat, cutCells, Nat.reduceAdd, Nat.reduceLeDiff, Nat.reduceLT, Nat.reduceMul, Nat.reduceSub, c1, c2]
        exact ⟨_, rfl, ⟨_, rfl⟩, .int, h⟩
      · rw [if_neg (by omega)] at h
        simp (disch := omega) only [kB, kcx, kdm, kdn, kel, aop, resultsL, resultOf, Nat.reduceEqDiff, reduceCtorEq, eq1, apartOK, apart2, AObj.live, Int.reduceEq, Int.reduceLT, Int.reduceLE, Int.reduceAdd, Int.reduceSub, Int.reduceMul, Int.reduceToNat, cutCells, Nat.reduceAdd, Nat.reduceLeDiff, Nat.reduceLT, Nat.reduceMul, Nat.reduceSub, c1, c2]
        exact ⟨_, rfl, ⟨_, rfl⟩, .int, h⟩

end Go.Proofs.YtpllhhaeclnngaaGreat.Ev

/- The field to which a reference leads, and its width: the document. -/
namespace Go.Proofs.YtpllhhaeclnngaaGreat.Ev
set_option maxRecDepth 100000
set_option linter.unusedSimpArgs false
set_option linter.unusedVariables false
variable {R : FRes → Heap → Prop} {H K : Heap}

/-- Where a field stands: in the metadata, in a header, nowhere. -/
def PL (s : Sch) (r : Rf) (hi fi : Int) (ok : Bool) : Prop :=
  (ok = false ∧ hi = 0 ∧ fi = 0 ∧ fldOf s r = none) ∨ (ok = true ∧ hi = -1 ∧ ∃ j, ∃ h : j < s.mets.length, fi = (j : Int) ∧ fldOf s r = some s.mets[j]) ∨
    (ok = true ∧ ∃ k, ∃ hk : k < s.headers.length, hi = (k : Int) ∧ ∃ j, ∃ h : j < s.headers[k].fields.length, fi = (j : Int) ∧ fldOf s r = some s.headers[k].fields[j])

set_option maxHeartbeats 1000000 in
theorem place_s {s : Sch} (hs : s.OK H) (hb : Base H K) {r : Rf} (h : ∀ hi fi ok, PL s r hi fi ok → R (.ret (.tuple #[.int .i64 hi, .int .i64 fi, .bool ok])) K) : WD T 173 [.agg s.cells.toArray, .agg r.cells.toArray] K R := by
  refine WD.gc0 (WD.of follows t173 (by simp) ?_)
  obtain ⟨o0, o1, o2, o3, o4, o5⟩ := hs.one
  simp only [Sch.cells, Rf.cells]
  have sc : ∀ (a b : Int) (c : Bool), Scoped K.length (.tuple #[.int .i64 a, .int .i64 b, .bool c]) := fun a b c => .tup3 .int .int .bool
  by_cases c1 : r.head = []
  · have hh := h 0 0 false (.inl ⟨rfl, rfl, rfl, by rw [fldOf, if_pos c1]⟩)
    simp (disch := omega) only [kB, kcx, kdm, kdn, kel, aop, resultsL, resultOf, Nat.reduceEqDiff, reduceCtorEq, eq1, apartOK, apart2, AObj.live, Int.reduceEq, Int.reduceLT, Int.reduceLE, Int.reduceAdd, Int.reduceSub, Int.reduceMul, Int.reduceToNat, cutCells, Nat.reduceAdd, Nat.reduceLeDiff, Nat.reduceLT, Nat.reduceMul, Nat.reduceSub, o0, o1, o2, o3, o4, o5, decide_eq_true c1]
    exact ⟨_, rfl, ⟨_, rfl⟩, sc _ _ _, hh⟩
  · by_cases c2 : r.head = metaT
    · have c6 : decide (r.head = [109, 101, 116, 97]) = true := decide_eq_true c2
      simp (disch := omega) only [kB, kcx, kdm, kdn, kel, aop, resultsL, resultOf, Nat.reduceEqDiff, reduceCtorEq, eq1, apartOK, apart2, AObj.live, Int.reduceEq, Int.reduceLT, Int.reduceLE, Int.reduceAdd, Int.reduceSub, Int.reduceMul, Int.reduceToNat, cutCells, Nat.reduceAdd, Nat.reduceLeDiff, Nat.reduceLT, Nat.reduceMul, Nat.reduceSub, o0, o1, o2, o3, o4, o5, decide_eq_false c1, c6]
      refine rfield_s hs.ms (hb.app _) ?_
      rcases named_cases Fld.name s.mets r.name with ⟨e1, e2⟩ | ⟨j, hj, e1, e2, _⟩
      · have hh := h 0 0 false (.inl ⟨rfl, rfl, rfl, by rw [fldOf, if_neg c1, if_pos c2, e2]⟩)
        rw [e1]
        simp (disch := omega) only [kB, kcx, kdm, kdn, kel, aop, resultsL, resultOf, Nat.reduceEqDiff, reduceCtorEq, eq1, apartOK, apart2, AObj.live, Int.reduceEq, Int.reduceLT, Int.reduceLE, Int.reduceAdd, Int.reduceSub, Int.reduceMul, Int.reduceToNat, cutCells, Nat.reduceAdd, Nat.reduceLeDiff, Nat.reduceLT, Nat.reduceMul, Nat.reduceSub]
        exact ⟨_, rfl, ⟨_, rfl⟩, sc _ _ _, hh⟩
      · have hh := h (-1) j true (.inr (.inl ⟨rfl, rfl, j, hj, rfl, by rw [fldOf, if_neg c1, if_pos c2, e2]⟩))
        rw [e1]
        have c4 : ¬ (j : Int) < 0 := by omega
        simp (disch := omega) only [kB, kcx, kdm, kdn, kel, aop, resultsL, resultOf, Nat.reduceEqDiff, reduceCtorEq, eq1, apartOK, apart2, AObj.live, Int.reduceEq, Int.reduceLT, Int.reduceLE, Int.reduceAdd, Int.reduceSub, Int.reduceMul, Int.reduceToNat, cutCells, Nat.reduceAdd, Nat.reduceLeDiff, Nat.reduceLT, Nat.reduceMul, Nat.reduceSub, c4]
        exact ⟨_, rfl, ⟨_, rfl⟩, sc _ _ _, hh⟩
    · have c6 : decide (r.head = [109, 101, 116, 97]) = false := decide_eq_false c2
      simp (disch := omega) only [kB, kcx, kdm, kdn, kel, aop, resultsL, resultOf, Nat.reduceEqDiff, reduceCtorEq, eq1, apartOK, apart2, AObj.live, Int.reduceEq, Int.reduceLT, Int.reduceLE, Int.reduceAdd, Int.reduceSub, Int.reduceMul, Int.reduceToNat, cutCells, Nat.reduceAdd, Nat.reduceLeDiff, Nat.reduceLT, Nat.reduceMul, Nat.reduceSub, o0, o1, o2, o3, o4, o5, decide_eq_false c1, c6]
      refine rheaderAt_s hs (hb.app _) ?_
      rcases named_cases Hdr.name s.headers r.head with ⟨e1, e2⟩ | ⟨k, hk, e1, e2, _⟩
      · have hh := h 0 0 false (.inl ⟨rfl, rfl, rfl, by rw [fldOf, if_neg c1, if_neg c2, e2]; rfl⟩)
        rw [e1]
        simp (disch := omega) only [kB, kcx, kdm, kdn, kel, aop, resultsL, resultOf, Nat.reduceEqDiff, reduceCtorEq, eq1, apartOK, apart2, AObj.live, Int.reduceEq, Int.reduceLT, Int.reduceLE, Int.reduceAdd, Int.reduceSub, Int.reduceMul, Int.reduceToNat, cutCells, Nat.reduceAdd, Nat.reduceLeDiff, Nat.reduceLT, Nat.reduceMul, Nat.reduceSub]
        exact ⟨_, rfl, ⟨_, rfl⟩, sc _ _ _, hh⟩
      · rw [e1]
        have hok := hs.hs.2.2 _ (List.getElem_mem hk)
        obtain ⟨hr, hn, _⟩ := hs.hs
        obtain ⟨ad, hv⟩ := hr.sl
        rw [hv] at hr
        obtain ⟨b, u0, w0, rfl, hbl, hrow0, hcut, hle, hat⟩ := hr.at Hdr.len hk
        have hrow : hget K b = .row (s.headers.map Hdr.cells).flatten u0 w0 := by rw [hb.2 b hbl]; exact hrow0
        have hbl2 : b < K.length := Nat.lt_of_lt_of_le hbl hb.1
        have c3 : (0 : Int) ≤ (k : Int) := by omega
        have c4 : ¬ (k : Int) < 0 := by omega
        have c5 : (k : Int) < (s.headers.length : Int) := by omega
        have h1 := hat 1 (by decide)
        simp only [Hdr.cells, List.getElem?_cons_succ, List.getElem?_cons_zero] at h1
        rw [List.length_map] at hv
        simp (disch := omega) only [kB, kcx, kdm, kdn, kel, aop, resultsL, resultOf, Nat.reduceEqDiff, reduceCtorEq, eq1, apartOK, apart2, AObj.live, Int.reduceEq, Int.reduceLT, Int.reduceLE, Int.reduceAdd, Int.reduceSub, Int.reduceMul, Int.reduceToNat, cutCells, Nat.reduceAdd, Nat.reduceLeDiff, Nat.reduceLT, Nat.reduceMul, Nat.reduceSub, c3, c4, c5, hv, hrow, h1]
        refine rfield_s hok (hb.app _) ?_
        rcases named_cases Fld.name s.headers[k].fields r.name with ⟨e3, e4⟩ | ⟨j, hj, e3, e4, _⟩
        · have hh := h 0 0 false (.inl ⟨rfl, rfl, rfl, by rw [fldOf, if_neg c1, if_neg c2, e2]; exact e4⟩)
          rw [e3]
          simp (disch := omega) only [kB, kcx, kdm, kdn, kel, aop, resultsL, resultOf, Nat.reduceEqDiff, reduceCtorEq, eq1, apartOK, apart2, AObj.live, Int.reduceEq, Int.reduceLT, Int.reduceLE, Int.reduceAdd, Int.reduceSub, Int.reduceMul, Int.reduceToNat, cutCells, Nat.reduceAdd, Nat.reduceLeDiff, Nat.reduceLT, Nat.reduceMul, Nat.reduceSub]
          exact ⟨_, rfl, ⟨_, rfl⟩, sc _ _ _, hh⟩
        · have hh := h k j true (.inr (.inr ⟨rfl, k, hk, rfl, j, hj, rfl, by rw [fldOf, if_neg c1, if_neg c2, e2]; exact e4⟩))
          rw [e3]
          have c7 : ¬ (j : Int) < 0 := by omega
          simp (disch := omega) only [kB, kcx, kdm, kdn, kel, aop, resultsL, resultOf, Nat.reduceEqDiff, reduceCtorEq, eq1, apartOK, apart2, AObj.live, Int.reduceEq, Int.reduceLT, Int.reduceLE, Int.reduceAdd, Int.reduceSub, Int.reduceMul, Int.reduceToNat, cutCells, Nat.reduceAdd, Nat.reduceLeDiff, Nat.reduceLT, Nat.reduceMul, Nat.reduceSub, c7]
          exact ⟨_, rfl, ⟨_, rfl⟩, sc _ _ _, hh⟩

def rwV : Option Fld → Int
  | some f => f.width
  | none => 0

set_option maxHeartbeats 1000000 in
theorem rwide_s {s : Sch} (hs : s.OK H) (hb : Base H K) {r : Rf} (h : R (.ret (.tuple #[.int .i64 (rwV (fldOf s r)), .bool (fldOf s r).isSome])) K) : WD T 155 [.agg s.cells.toArray, .agg r.cells.toArray] K R := by
  refine WD.gc0 (WD.of follows t155 (by simp) ?_)
  obtain ⟨o0, o1, o2, o3, o4, o5⟩ := hs.one
  have sc : ∀ (a : Int) (c : Bool), Scoped K.length (.tuple #[.int .i64 a, .bool c]) := fun a c => .tup2 .int .bool
  simp only [Sch.cells, Rf.cells]
  simp (disch := omega) only [kB, kcx, kdm, kdn, kel, aop, resultsL, resultOf, Nat.reduceEqDiff, reduceCtorEq, eq1, apartOK, apart2, AObj.live, Int.reduceEq, Int.reduceLT, Int.reduceLE, Int.reduceAdd, Int.reduceSub, Int.reduceMul, Int.reduceToNat, cutCells, Nat.reduceAdd, Nat.reduceLeDiff, Nat.reduceLT, Nat.reduceMul, Nat.reduceSub, o0, o1, o2, o3, o4, o5]
  refine place_s (r := r) hs (hb.app _) ?_
  rintro hi fi ok (⟨rfl, rfl, rfl, e⟩ | ⟨rfl, rfl, j, hj, rfl, e⟩ | ⟨rfl, k, hk, rfl, j, hj, rfl, e⟩)
  · rw [e] at h
    simp (disch := omega) only [kB, kcx, kdm, kdn, kel, aop, resultsL, resultOf, Nat.reduceEqDiff, reduceCtorEq, eq1, apartOK, apart2, AObj.live, Int.reduceEq, Int.reduceLT, Int.reduceLE, Int.reduceAdd, Int.reduceSub, Int.reduceMul, Int.reduceToNat, cutCells, Nat.reduceAdd, Nat.reduceLeDiff, Nat.reduceLT, Nat.reduceMul, Nat.reduceSub]
    exact ⟨_, rfl, ⟨_, rfl⟩, sc _ _, h⟩
  · rw [e] at h
    obtain ⟨hr, hn, _⟩ := hs.ms
    obtain ⟨ad, hv⟩ := hr.sl
    rw [hv] at hr
    obtain ⟨b, u0, w0, rfl, hbl, hrow0, hcut, hle, hat⟩ := hr.at Fld.len hj
    have hrow : hget K b = .row (s.mets.map Fld.cells).flatten u0 w0 := by rw [hb.2 b hbl]; exact hrow0
    have hbl2 : b < K.length := Nat.lt_of_lt_of_le hbl hb.1
    have c3 : (0 : Int) ≤ (j : Int) := by omega
    have c5 : (j : Int) < (s.mets.length : Int) := by omega
    have h1 := hat 1 (by decide)
    simp only [Fld.cells, List.getElem?_cons_succ, List.getElem?_cons_zero] at h1
    rw [List.length_map] at hv
    simp (disch := omega) only [kB, kcx, kdm, kdn, kel, aop, resultsL, resultOf, Nat.reduceEqDiff, reduceCtorEq, eq1, apartOK, apart2, AObj.live, Int.reduceEq, Int.reduceLT, Int.reduceLE, Int.reduceAdd, Int.reduceSub, Int.reduceMul, Int.reduceToNat, cutCells, Nat.reduceAdd, Nat.reduceLeDiff, Nat.reduceLT, Nat.reduceMul, Nat.reduceSub, c3, c5, hv, hrow, h1]
    exact ⟨_, rfl, ⟨_, rfl⟩, sc _ _, h⟩
  · rw [e] at h
    have hok := hs.hs.2.2 _ (List.getElem_mem hk)
    obtain ⟨hr, hn, _⟩ := hs.hs
    obtain ⟨ad, hv⟩ := hr.sl
    rw [hv] at hr
    obtain ⟨b, u0, w0, rfl, hbl, hrow0, hcut, hle, hat⟩ := hr.at Hdr.len hk
    have hrow : hget K b = .row (s.headers.map Hdr.cells).flatten u0 w0 := by rw [hb.2 b hbl]; exact hrow0
    have hbl2 : b < K.length := Nat.lt_of_lt_of_le hbl hb.1
    have c3 : (0 : Int) ≤ (k : Int) := by omega
    have c4 : ¬ (k : Int) < 0 := by omega
    have c5 : (k : Int) < (s.headers.length : Int) := by omega
    have h1 := hat 1 (by decide)
    simp only [Hdr.cells, List.getElem?_cons_succ, List.getElem?_cons_zero] at h1
    rw [List.length_map] at hv
    generalize s.headers[k] = hd at *
    obtain ⟨gr, gn, _⟩ := hok
    obtain ⟨ad2, hv2⟩ := gr.sl
    rw [hv2] at gr
    obtain ⟨b2, u2, w2', rfl, hbl3, hrow2, _, hle2, hat2⟩ := gr.at Fld.len hj
    have hrow3 : hget K b2 = .row (hd.fields.map Fld.cells).flatten u2 w2' := by rw [hb.2 b2 hbl3]; exact hrow2
    have hbl4 : b2 < K.length := Nat.lt_of_lt_of_le hbl3 hb.1
    have d3 : (0 : Int) ≤ (j : Int) := by omega
    have d5 : (j : Int) < (hd.fields.length : Int) := by omega
    have h3 := hat2 1 (by decide)
    simp only [Fld.cells, List.getElem?_cons_succ, List.getElem?_cons_zero] at h3
    rw [List.length_map] at hv2
    rw [hv2] at h1
    simp (disch := omega) only [kB, kcx, kdm, kdn, kel, aop, resultsL, resultOf, Nat.reduceEqDiff, reduceCtorEq, eq1, apartOK, apart2, AObj.live, Int.reduceEq, Int.reduceLT, Int.reduceLE, Int.reduceAdd, Int.reduceSub, Int.reduceMul, Int.reduceToNat, cutCells, Nat.reduceAdd, Nat.reduceLeDiff, Nat.reduceLT, Nat.reduceMul, Nat.reduceSub, c3, c4, c5, hv, hrow, h1, d3, d5, hrow3, h3]
    exact ⟨_, rfl, ⟨_, rfl⟩, sc _ _, h⟩

set_option maxHeartbeats 1000000 in
theorem rwidth_s {s : Sch} (hs : s.OK H) (hb : Base H K) {r : Rf} (h : R (.ret (.int .i64 (widthV (fldOf s r)))) K) : WD T 102 [.agg s.cells.toArray, .agg r.cells.toArray] K R := by
  refine WD.gc0 (WD.of follows t102 (by simp) ?_)
  obtain ⟨o0, o1, o2, o3, o4, o5⟩ := hs.one
  simp only [Sch.cells, Rf.cells]
  simp (disch := omega) only [kB, kcx, kdm, kdn, kel, aop, resultsL, resultOf, Nat.reduceEqDiff, reduceCtorEq, eq1, apartOK, apart2, AObj.live, Int.reduceEq, Int.reduceLT, Int.reduceLE, Int.reduceAdd, Int.reduceSub, Int.reduceMul, Int.reduceToNat, cutCells, Nat.reduceAdd, Nat.reduceLeDiff, Nat.reduceLT, Nat.reduceMul, Nat.reduceSub, o0, o1, o2, o3, o4, o5]
  refine rwide_s (r := r) hs (hb.app _) ?_
  cases hf : fldOf s r with
  | none =>
    rw [hf] at h
    simp only [rwV, widthV] at h ⊢
    simp (disch := omega) only [kB, kcx, kdm, kdn, kel, aop, resultsL, resultOf, Nat.reduceEqDiff, reduceCtorEq, eq1, apartOK, apart2, AObj.live, Int.reduceEq, Int.reduceLT, Int.reduceLE, Int.reduceAdd, Int.reduceSub, Int.reduceMul, Int.reduceToNat, cutCells, Nat.reduceAdd, Nat.reduceLeDiff, Nat.reduceLT, Nat.reduceMul, Nat.reduceSub]
    exact ⟨_, rfl, ⟨_, rfl⟩, .int, h⟩
  | some f =>
    rw [hf] at h
    simp only [rwV, widthV] at h ⊢
    by_cases c1 : f.width < 1
    · rw [if_pos (.inl c1)] at h
      simp (disch := omega) only [kB, kcx, kdm, kdn, kel, aop, resultsL, resultOf, Nat.reduceEqDiff, reduceCtorEq, eq1, apartOK, apart2, AObj.live, Int.reduceEq, Int.reduceLT, Int.reduceLE, Int.reduceAdd, Int.reduceSub, Int.reduceMul, Int.reduceToNat, cutCells, Nat.reduceAdd, Nat.reduceLeDiff, Nat.reduceLT, Nat.reduceMul, Nat.reduceSub, c1]
      exact ⟨_, rfl, ⟨_, rfl⟩, .int, h⟩
    · by_cases c2 : 128 < f.width
      · rw [if_pos (.inr c2)] at h
        simp (disch := omega) only [kB, kcx, kdm, kdn, kel, aop, resultsL, resultOf, Nat.reduceEqDiff, reduceCtorEq, eq1, apartOK, apart2, AObj.live, Int.reduceEq, Int.reduceLT, Int.reduceLE, Int.reduceAdd, Int.reduceSub, Int.reduceMul, Int.reduceToNat, cutCells, Nat.reduceAdd, Nat.reduceLeDiff, Nat.reduceLT, Nat.reduceMul, Nat.reduceSub, c1, c2]
        exact ⟨_, rfl, ⟨_, rfl⟩, .int, h⟩
      · rw [if_neg (by omega)] at h
        simp (disch := omega) only [kB, kcx, kdm, kdn, kel, aop, resultsL, resultOf, Nat.reduceEqDiff, reduceCtorEq, eq1, apartOK, apart2, AObj.live, Int.reduceEq, Int.reduceLT, Int.reduceLE, Int.reduceAdd, Int.reduceSub, Int.reduceMul, Int.reduceToNat, cutCells, Nat.reduceAdd, Nat.reduceLeDiff, Nat.reduceLT, Nat.reduceMul, Nat.reduceSub, c1, c2]
        exact ⟨_, rfl, ⟨_, rfl⟩, .int, h⟩

end Go.Proofs.YtpllhhaeclnngaaGreat.Ev

/- The kind of a table; does a value fit in a width: the program and the document. -/
namespace Go.Proofs.YtpllhhaeclnngaaGreat.Ev
set_option maxRecDepth 100000
set_option linter.unusedSimpArgs false
set_option linter.unusedVariables false
variable {R : FRes → Heap → Prop} {H K : Heap}

/-- Is there a key of that kind? -/
def anyK (l : List Ky) (k : Int) : Bool := l.any fun y => decide (y.kind = k)
def kindV (l : List Ky) : Int := if anyK l 3 = true ∨ anyK l 4 = true then 3 else if anyK l 2 = true then 2 else 1

def ixkI (K0 : Heap) (bx : Nat) (k : Int) (ad : Option Addr) (l : List Ky) : Nat → Env → Heap → Prop := fun z e K' =>
  ∃ i : Nat, i ≤ l.length ∧ z = l.length - i ∧ Base K0 K' ∧ hget K' bx = .row [.int .i64 k] 0 true ∧ anyK l k = anyK (l.drop i) k ∧
    (∃ x : Nat → Value, e = [.slice ad l.length l.length, .func (.func 107) #[] #[.pointer (some ⟨bx, 0, none⟩)], x 2, x 3, x 4, x 5, x 6, .int .i64 (l.length : Int), .int .i64 (i : Int), x 9, x 10, x 11, x 12, x 13, x 14, x 15, x 16, x 17, x 18])

theorem anyk_s {ad : Option Addr} {l : List Ky} {k : Int} {bx : Nat} (hr : RoSl H (.slice ad l.length l.length) (l.map Ky.cells)) (hn : few 40 l.length) {K0 : Heap} (hb : Base H K0) (hbx : bx < K0.length) (hg : hget K0 bx = .row [.int .i64 k] 0 true)
    (h : ∀ K', Base K0 K' → R (.ret (.bool (anyK l k))) K') : WD T 106 [.slice ad l.length l.length, .func (.func 107) #[] #[.pointer (some ⟨bx, 0, none⟩)]] K0 R := by
  unfold few at hn
  refine WD.of follows t106 (by simp) ?_
  simp (disch := omega) only [kB, kcx, kdm, kdn, kel, aop, resultsL, resultOf, Nat.reduceEqDiff, reduceCtorEq, eq1, apartOK, apart2, AObj.live, Int.reduceEq, Int.reduceLT, Int.reduceLE, Int.reduceAdd, Int.reduceSub, Int.reduceMul, Int.reduceToNat, cutCells, Nat.reduceAdd, Nat.reduceLeDiff, Nat.reduceLT, Nat.reduceMul, Nat.reduceSub]
  refine WD.of follows t157 (by simp) ?_
  simp (disch := omega) only [kB, kcx, kdm, kdn, kel, aop, resultsL, resultOf, Nat.reduceEqDiff, reduceCtorEq, eq1, apartOK, apart2, AObj.live, Int.reduceEq, Int.reduceLT, Int.reduceLE, Int.reduceAdd, Int.reduceSub, Int.reduceMul, Int.reduceToNat, cutCells, Nat.reduceAdd, Nat.reduceLeDiff, Nat.reduceLT, Nat.reduceMul, Nat.reduceSub]
  refine WLoop.inv (ixkI K0 bx k ad l) ?_ l.length _ _ ⟨0, Nat.zero_le _, by omega, Base.refl, hg, rfl, by exact ex_env rfl⟩
  rintro z e K' ⟨i, hi, rfl, hb2, hg2, hx, ⟨x, rfl⟩⟩
  by_cases hlt : i < l.length
  · have c0 : (i : Int) < (l.length : Int) := by omega
    obtain ⟨b, u0, w0, rfl, hbl, hrow0, hcut, hle, _⟩ := hr.at Ky.len hlt
    have hrow : hget K' b = .row (l.map Ky.cells).flatten u0 w0 := by rw [(hb.trans hb2).2 b hbl]; exact hrow0
    have w2 : IntKind.i64.wrap ((i : Int) + 1) = ((i + 1 : Nat) : Int) := by rw [show (i : Int) + 1 = ((i + 1 : Nat) : Int) by omega]; exact wr_i64 (by omega) (by omega)
    have c3 : bx < K'.length := by have := hb2.1; omega
    rw [List.drop_eq_getElem_cons hlt] at hx
    generalize l[i] = x at *
    simp only [anyK, List.any_cons] at hx
    simp (disch := omega) only [kB, kcx, kdm, kdn, kel, aop, resultsL, resultOf, Nat.reduceEqDiff, reduceCtorEq, eq1, apartOK, apart2, AObj.live, Int.reduceEq, Int.reduceLT, Int.reduceLE, Int.reduceAdd, Int.reduceSub, Int.reduceMul, Int.reduceToNat, cutCells, Nat.reduceAdd, Nat.reduceLeDiff, Nat.reduceLT, Nat.reduceMul, Nat.reduceSub, c0, hrow, hcut, hle]
    refine WD.of follows t107 (by simp) ?_
    simp only [Ky.cells]
    by_cases he : x.kind = k
    · have ha : anyK l k = true := by rw [anyK, hx, decide_eq_true he, Bool.true_or]
      have c4 : (0 : Int) ≤ (i : Int) := by omega
      have hh := h (K' ++ [.row x.cells 0 true]) (hb2.app _)
      rw [ha] at hh
      simp only [Ky.cells] at hh
      simp (disch := omega) only [kB, kcx, kdm, kdn, kel, aop, resultsL, resultOf, Nat.reduceEqDiff, reduceCtorEq, eq1, apartOK, apart2, AObj.live, Int.reduceEq, Int.reduceLT, Int.reduceLE, Int.reduceAdd, Int.reduceSub, Int.reduceMul, Int.reduceToNat, cutCells, Nat.reduceAdd, Nat.reduceLeDiff, Nat.reduceLT, Nat.reduceMul, Nat.reduceSub, hg2, decide_eq_true he, c4]
      exact hh
    · rw [decide_eq_false he, Bool.false_or] at hx
      simp (disch := omega) only [kB, kcx, kdm, kdn, kel, aop, resultsL, resultOf, Nat.reduceEqDiff, reduceCtorEq, eq1, apartOK, apart2, AObj.live, Int.reduceEq, Int.reduceLT, Int.reduceLE, Int.reduceAdd, Int.reduceSub, Int.reduceMul, Int.reduceToNat, cutCells, Nat.reduceAdd, Nat.reduceLeDiff, Nat.reduceLT, Nat.reduceMul, Nat.reduceSub, hg2, decide_eq_false he, w2]
      exact ⟨l.length - (i + 1), by omega, i + 1, by omega, rfl, hb2.app _, by rw [hget_old c3]; exact hg2, hx, by exact ex_env rfl⟩
  · have c0 : ¬ (i : Int) < (l.length : Int) := by omega
    rw [List.drop_eq_nil_of_le (by omega)] at hx
    have hh := h _ hb2
    rw [hx] at hh
    simp (disch := omega) only [kB, kcx, kdm, kdn, kel, aop, resultsL, resultOf, Nat.reduceEqDiff, reduceCtorEq, eq1, apartOK, apart2, AObj.live, Int.reduceEq, Int.reduceLT, Int.reduceLE, Int.reduceAdd, Int.reduceSub, Int.reduceMul, Int.reduceToNat, cutCells, Nat.reduceAdd, Nat.reduceLeDiff, Nat.reduceLT, Nat.reduceMul, Nat.reduceSub, c0]
    exact hh

theorem hask_s {ad : Option Addr} {l : List Ky} {k : Int} {bx : Nat} {c0 c2 c3 c4 c5 c6 : Value} (hr : RoSl H (.slice ad l.length l.length) (l.map Ky.cells)) (hn : few 40 l.length) {K0 : Heap} (hb : Base H K0) (hbx : bx < K0.length) (hg : hget K0 bx = .row [c0, .slice ad l.length l.length, c2, c3, c4, c5, c6] 0 true)
    (h : R (.ret (.bool (anyK l k))) K0) : WD T 105 [.int .i64 k, .pointer (some ⟨bx, 0, none⟩)] K0 R := by
  refine WD.gc0 (WD.of follows t105 (by simp) ?_)
  simp (disch := omega) only [kB, kcx, kdm, kdn, kel, aop, resultsL, resultOf, Nat.reduceEqDiff, reduceCtorEq, eq1, apartOK, apart2, AObj.live, Int.reduceEq, Int.reduceLT, Int.reduceLE, Int.reduceAdd, Int.reduceSub, Int.reduceMul, Int.reduceToNat, cutCells, Nat.reduceAdd, Nat.reduceLeDiff, Nat.reduceLT, Nat.reduceMul, Nat.reduceSub, hg]
  refine anyk_s hr hn (hb.app _) (by simp) (by rw [hget_base0]; rfl) ?_
  intro K' hb2
  simp (disch := omega) only [kB, kcx, kdm, kdn, kel, aop, resultsL, resultOf, Nat.reduceEqDiff, reduceCtorEq, eq1, apartOK, apart2, AObj.live, Int.reduceEq, Int.reduceLT, Int.reduceLE, Int.reduceAdd, Int.reduceSub, Int.reduceMul, Int.reduceToNat, cutCells, Nat.reduceAdd, Nat.reduceLeDiff, Nat.reduceLT, Nat.reduceMul, Nat.reduceSub]
  exact ⟨_, rfl, ((Base.app0 _).trans hb2).ext, .bool, h⟩

theorem kind_s {t : Tbl} (ht : t.OK H) (hb : Base H K) (h : R (.ret (.int .i64 (kindV t.keys))) K) : WD T 22 [.agg t.cells.toArray] K R := by
  refine WD.gc0 (WD.of follows t22 (by simp) ?_)
  obtain ⟨o1, o2, o3⟩ := ht.one
  obtain ⟨⟨hr, hn, _⟩, _⟩ := ht
  obtain ⟨ad, hv⟩ := hr.sl
  rw [List.length_map] at hv
  simp only [Tbl.cells]
  rw [hv] at hr o1 ⊢
  simp (disch := omega) only [kB, kcx, kdm, kdn, kel, aop, resultsL, resultOf, Nat.reduceEqDiff, reduceCtorEq, eq1, apartOK, apart2, AObj.live, Int.reduceEq, Int.reduceLT, Int.reduceLE, Int.reduceAdd, Int.reduceSub, Int.reduceMul, Int.reduceToNat, cutCells, Nat.reduceAdd, Nat.reduceLeDiff, Nat.reduceLT, Nat.reduceMul, Nat.reduceSub, o1, o2, o3]
  refine hask_s hr hn (hb.app _) (by simp) (by rw [hget_base0]; rfl) ?_
  by_cases a3 : anyK t.keys 3 = true
  · rw [kindV, if_pos (.inl a3)] at h
    rw [a3]
    simp (disch := omega) only [kB, kcx, kdm, kdn, kel, aop, resultsL, resultOf, Nat.reduceEqDiff, reduceCtorEq, eq1, apartOK, apart2, AObj.live, Int.reduceEq, Int.reduceLT, Int.reduceLE, Int.reduceAdd, Int.reduceSub, Int.reduceMul, Int.reduceToNat, cutCells, Nat.reduceAdd, Nat.reduceLeDiff, Nat.reduceLT, Nat.reduceMul, Nat.reduceSub]
    exact ⟨_, rfl, ⟨_, rfl⟩, .int, h⟩
  · have a3' := a3
    rw [Bool.not_eq_true] at a3'
    rw [a3']
    simp (disch := omega) only [kB, kcx, kdm, kdn, kel, aop, resultsL, resultOf, Nat.reduceEqDiff, reduceCtorEq, eq1, apartOK, apart2, AObj.live, Int.reduceEq, Int.reduceLT, Int.reduceLE, Int.reduceAdd, Int.reduceSub, Int.reduceMul, Int.reduceToNat, cutCells, Nat.reduceAdd, Nat.reduceLeDiff, Nat.reduceLT, Nat.reduceMul, Nat.reduceSub]
    refine hask_s hr hn (hb.app _) (by simp) (by rw [hget_base0]; rfl) ?_
    by_cases a4 : anyK t.keys 4 = true
    · rw [kindV, if_pos (.inr a4)] at h
      rw [a4]
      simp (disch := omega) only [kB, kcx, kdm, kdn, kel, aop, resultsL, resultOf, Nat.reduceEqDiff, reduceCtorEq, eq1, apartOK, apart2, AObj.live, Int.reduceEq, Int.reduceLT, Int.reduceLE, Int.reduceAdd, Int.reduceSub, Int.reduceMul, Int.reduceToNat, cutCells, Nat.reduceAdd, Nat.reduceLeDiff, Nat.reduceLT, Nat.reduceMul, Nat.reduceSub]
      exact ⟨_, rfl, ⟨_, rfl⟩, .int, h⟩
    · have a4' := a4
      rw [Bool.not_eq_true] at a4'
      rw [a4']
      rw [kindV, if_neg (fun q => q.elim a3 a4)] at h
      simp (disch := omega) only [kB, kcx, kdm, kdn, kel, aop, resultsL, resultOf, Nat.reduceEqDiff, reduceCtorEq, eq1, apartOK, apart2, AObj.live, Int.reduceEq, Int.reduceLT, Int.reduceLE, Int.reduceAdd, Int.reduceSub, Int.reduceMul, Int.reduceToNat, cutCells, Nat.reduceAdd, Nat.reduceLeDiff, Nat.reduceLT, Nat.reduceMul, Nat.reduceSub]
      refine hask_s hr hn (hb.app _) (by simp) (by rw [hget_base0]; rfl) ?_
      by_cases a2 : anyK t.keys 2 = true
      · rw [if_pos a2] at h
        rw [a2]
        simp (disch := omega) only [kB, kcx, kdm, kdn, kel, aop, resultsL, resultOf, Nat.reduceEqDiff, reduceCtorEq, eq1, apartOK, apart2, AObj.live, Int.reduceEq, Int.reduceLT, Int.reduceLE, Int.reduceAdd, Int.reduceSub, Int.reduceMul, Int.reduceToNat, cutCells, Nat.reduceAdd, Nat.reduceLeDiff, Nat.reduceLT, Nat.reduceMul, Nat.reduceSub]
        exact ⟨_, rfl, ⟨_, rfl⟩, .int, h⟩
      · rw [if_neg a2] at h
        rw [Bool.not_eq_true] at a2
        rw [a2]
        simp (disch := omega) only [kB, kcx, kdm, kdn, kel, aop, resultsL, resultOf, Nat.reduceEqDiff, reduceCtorEq, eq1, apartOK, apart2, AObj.live, Int.reduceEq, Int.reduceLT, Int.reduceLE, Int.reduceAdd, Int.reduceSub, Int.reduceMul, Int.reduceToNat, cutCells, Nat.reduceAdd, Nat.reduceLeDiff, Nat.reduceLT, Nat.reduceMul, Nat.reduceSub]
        exact ⟨_, rfl, ⟨_, rfl⟩, .int, h⟩

def rkI (K0 : Heap) (bx : Nat) (l : List Ky) : Nat → Env → Heap → Prop := fun z e K' =>
  ∃ i : Nat, i ≤ l.length ∧ z = l.length - i ∧ K' = K0 ∧ anyK (l.take i) 3 = false ∧ anyK (l.take i) 4 = false ∧
    (∃ x : Nat → Value, e = [x 0, .pointer (some ⟨bx, 0, none⟩), x 2, .int .i64 (if anyK (l.take i) 2 = true then 2 else 1), .int .i64 (i : Int), x 5, x 6, x 7, x 8, x 9, x 10, x 11, x 12, x 13, x 14, x 15, x 16, x 17, x 18, x 19, x 20, x 21, x 22, x 23])

theorem rkind_s {t : Tbl} (ht : t.OK H) (hb : Base H K) (h : R (.ret (.int .i64 (kindV t.keys))) K) : WD T 23 [.agg t.cells.toArray] K R := by
  refine WD.gc0 (WD.of follows t23 (by simp) ?_)
  obtain ⟨o1, o2, o3⟩ := ht.one
  obtain ⟨⟨hr, hn, _⟩, _⟩ := ht
  unfold few at hn
  obtain ⟨ad, hv⟩ := hr.sl
  rw [List.length_map] at hv
  simp only [Tbl.cells]
  rw [hv] at hr o1 ⊢
  generalize t.keys = l at *
  simp (disch := omega) only [kB, kcx, kdm, kdn, kel, aop, resultsL, resultOf, Nat.reduceEqDiff, reduceCtorEq, eq1, apartOK, apart2, AObj.live, Int.reduceEq, Int.reduceLT, Int.reduceLE, Int.reduceAdd, Int.reduceSub, Int.reduceMul, Int.reduceToNat, cutCells, Nat.reduceAdd, Nat.reduceLeDiff, Nat.reduceLT, Nat.reduceMul, Nat.reduceSub, o1, o2, o3]
  refine WLoop.inv (rkI (K ++ [_]) K.length l) ?_ l.length _ _ ⟨0, Nat.zero_le _, by omega, rfl, rfl, rfl, by exact ex_env rfl⟩
  rintro z e K' ⟨i, hi, rfl, rfl, h3, h4, ⟨x, rfl⟩⟩
  by_cases hlt : i < l.length
  · have c0 : (i : Int) < (l.length : Int) := by omega
    obtain ⟨b, u0, w0, rfl, hbl, hrow0, hcut, hle, hat⟩ := hr.at Ky.len hlt
    have hrow : hget K b = .row (l.map Ky.cells).flatten u0 w0 := by rw [hb.2 b hbl]; exact hrow0
    have hbl2 : b < K.length := Nat.lt_of_lt_of_le hbl hb.1
    have w2 : IntKind.i64.wrap ((i : Int) + 1) = ((i + 1 : Nat) : Int) := by rw [show (i : Int) + 1 = ((i + 1 : Nat) : Int) by omega]; exact wr_i64 (by omega) (by omega)
    have hg2 := hat 2 (by decide)
    have htk : ∀ k, anyK (l.take (i + 1)) k = (anyK (l.take i) k || decide (l[i].kind = k)) := fun k => by
      rw [anyK, List.take_add_one, List.getElem?_eq_getElem hlt, List.any_append]
      simp [anyK]
    have hin : ∀ k, l[i].kind = k → anyK l k = true := fun k hk => List.any_eq_true.2 ⟨l[i], List.getElem_mem hlt, by simpa using hk⟩
    generalize l[i] = x at *
    simp only [Ky.cells, List.getElem?_cons_succ, List.getElem?_cons_zero] at hg2
    by_cases k3 : x.kind = 3
    · rw [kindV, if_pos (.inl (hin 3 k3))] at h
      simp (disch := omega) only [kB, kcx, kdm, kdn, kel, aop, resultsL, resultOf, Nat.reduceEqDiff, reduceCtorEq, eq1, apartOK, apart2, AObj.live, Int.reduceEq, Int.reduceLT, Int.reduceLE, Int.reduceAdd, Int.reduceSub, Int.reduceMul, Int.reduceToNat, cutCells, Nat.reduceAdd, Nat.reduceLeDiff, Nat.reduceLT, Nat.reduceMul, Nat.reduceSub, c0, hrow, hg2, k3]
      exact ⟨_, rfl, ⟨_, rfl⟩, .int, h⟩
    · by_cases k4 : x.kind = 4
      · rw [kindV, if_pos (.inr (hin 4 k4))] at h
        simp (disch := omega) only [kB, kcx, kdm, kdn, kel, aop, resultsL, resultOf, Nat.reduceEqDiff, reduceCtorEq, eq1, apartOK, apart2, AObj.live, Int.reduceEq, Int.reduceLT, Int.reduceLE, Int.reduceAdd, Int.reduceSub, Int.reduceMul, Int.reduceToNat, cutCells, Nat.reduceAdd, Nat.reduceLeDiff, Nat.reduceLT, Nat.reduceMul, Nat.reduceSub, c0, hrow, hg2, k4]
        exact ⟨_, rfl, ⟨_, rfl⟩, .int, h⟩
      · have t3 := htk 3
        have t4 := htk 4
        have t2 := htk 2
        rw [h3, decide_eq_false k3] at t3
        rw [h4, decide_eq_false k4] at t4
        by_cases k2 : x.kind = 2
        · simp (disch := omega) only [kB, kcx, kdm, kdn, kel, aop, resultsL, resultOf, Nat.reduceEqDiff, reduceCtorEq, eq1, apartOK, apart2, AObj.live, Int.reduceEq, Int.reduceLT, Int.reduceLE, Int.reduceAdd, Int.reduceSub, Int.reduceMul, Int.reduceToNat, cutCells, Nat.reduceAdd, Nat.reduceLeDiff, Nat.reduceLT, Nat.reduceMul, Nat.reduceSub, c0, hrow, hg2, k2, w2]
          rw [decide_eq_true k2, Bool.or_true] at t2
          refine ⟨l.length - (i + 1), by omega, i + 1, by omega, rfl, rfl, t3, t4, ?_⟩
          rw [t2]
          exact ex_env rfl
        · simp (disch := omega) only [kB, kcx, kdm, kdn, kel, aop, resultsL, resultOf, Nat.reduceEqDiff, reduceCtorEq, eq1, apartOK, apart2, AObj.live, Int.reduceEq, Int.reduceLT, Int.reduceLE, Int.reduceAdd, Int.reduceSub, Int.reduceMul, Int.reduceToNat, cutCells, Nat.reduceAdd, Nat.reduceLeDiff, Nat.reduceLT, Nat.reduceMul, Nat.reduceSub, c0, hrow, hg2, k2, k3, k4, w2]
          rw [decide_eq_false k2, Bool.or_false] at t2
          refine ⟨l.length - (i + 1), by omega, i + 1, by omega, rfl, rfl, t3, t4, ?_⟩
          rw [t2]
          exact ex_env rfl
  · have c0 : ¬ (i : Int) < (l.length : Int) := by omega
    have hil : i = l.length := by omega
    rw [hil, List.take_length] at h3 h4
    have e2 : anyK (l.take i) 2 = anyK l 2 := by rw [hil, List.take_length]
    rw [kindV, h3, h4, if_neg (by simp)] at h
    rw [e2]
    simp (disch := omega) only [kB, kcx, kdm, kdn, kel, aop, resultsL, resultOf, Nat.reduceEqDiff, reduceCtorEq, eq1, apartOK, apart2, AObj.live, Int.reduceEq, Int.reduceLT, Int.reduceLE, Int.reduceAdd, Int.reduceSub, Int.reduceMul, Int.reduceToNat, cutCells, Nat.reduceAdd, Nat.reduceLeDiff, Nat.reduceLT, Nat.reduceMul, Nat.reduceSub, c0]
    exact ⟨_, rfl, ⟨_, rfl⟩, .int, h⟩

end Go.Proofs.YtpllhhaeclnngaaGreat.Ev

/- Does a value fit in a width: the program and the document. -/
namespace Go.Proofs.YtpllhhaeclnngaaGreat.Ev
set_option maxRecDepth 100000
set_option linter.unusedSimpArgs false
set_option linter.unusedVariables false
variable {R : FRes → Heap → Prop} {H K : Heap}

def W64 : Nat := 2 ^ 64
theorem W64_eq : W64 = 18446744073709551616 := rfl

theorem wr_u64n (n : Nat) : IntKind.wrap .u64 (n : Int) = ((n % W64 : Nat) : Int) := by
  simp [IntKind.wrap, IntKind.signed, IntKind.bits, W64]

theorem bin_shr64 {k' : IntKind} {a b : Nat} (hb : b ≤ 64) : binV .shr (.int .u64 (a : Int)) (.int k' (b : Int)) = some (.int .u64 ((a >>> b : Nat) : Int)) := by
  have e : pr (Op.shift .shr .u64 (a : Int) k' (b : Int)) = some (.int .u64 ((a : Int).fdiv (2 ^ min b 64))) := by
    simp only [Op.shift, if_neg (show ¬ ((b : Int) < 0) by omega), Int.toNat_natCast]
    rfl
  simp only [binV, intBin, if_neg (show ¬ ((b : Int) < 0) by omega), e, Nat.min_eq_left hb]
  rw [Int.fdiv_eq_ediv_of_nonneg _ (by exact_mod_cast Nat.zero_le _), Nat.shiftRight_eq_div_pow]
  norm_cast

theorem bin_shl64 {k' : IntKind} {a b : Nat} (hb : b ≤ 64) : binV .shl (.int .u64 (a : Int)) (.int k' (b : Int)) = some (.int .u64 (((a <<< b) % W64 : Nat) : Int)) := by
  have e : pr (Op.shift .shl .u64 (a : Int) k' (b : Int)) = some (.int .u64 (IntKind.wrap .u64 ((a : Int) * (2 ^ min b 64)))) := by
    simp only [Op.shift, if_neg (show ¬ ((b : Int) < 0) by omega), Int.toNat_natCast]
    rfl
  simp only [binV, intBin, if_neg (show ¬ ((b : Int) < 0) by omega), e, Nat.min_eq_left hb]
  rw [show ((a : Int) * 2 ^ b) = ((a * 2 ^ b : Nat) : Int) by norm_cast, wr_u64n, Nat.shiftLeft_eq]

theorem ofInt_nat (a : Nat) : (BitVec.ofInt IntKind.u64.bits (a : Int)).toNat = a % W64 := by
  rw [BitVec.ofInt_natCast, BitVec.toNat_ofNat]
  rfl

theorem bin_or64 {a b : Nat} (ha : a < 18446744073709551616) (hb : b < 18446744073709551616) : binV .or (.int .u64 (a : Int)) (.int .u64 (b : Int)) = some (.int .u64 ((a ||| b : Nat) : Int)) := by
  have e : pr (Op.intBits .or .u64 (a : Int) (b : Int)) = some (.int .u64 (IntKind.wrap .u64 ((BitVec.ofInt IntKind.u64.bits (a : Int) ||| BitVec.ofInt IntKind.u64.bits (b : Int)).toNat : Int))) := rfl
  simp only [binV, intBin, if_true, e]
  rw [BitVec.toNat_or, ofInt_nat, ofInt_nat, W64, Nat.mod_eq_of_lt (by omega), Nat.mod_eq_of_lt (by omega), wr_u64n, Nat.mod_eq_of_lt]
  exact Nat.or_lt_two_pow (n := 64) ha hb

/-- Does a value fit in a width? -/
def fitsN (b : Bt) (n : Nat) : Bool := if 64 < n then decide (n = 128) || decide (b.hi < 2 ^ (n - 64)) else decide (b.hi = 0) && (decide (n = 64) || decide (b.lo < 2 ^ n))
def fitsV (b : Bt) (w : Int) : Bool := if w < 1 ∨ 128 < w then false else fitsN b w.toNat

theorem shl_one {n : Nat} (h : n < 64) : (1 <<< n) % W64 = 2 ^ n := by
  rw [Nat.shiftLeft_eq, Nat.one_mul, W64]
  exact Nat.mod_eq_of_lt (Nat.pow_lt_pow_right (by decide) h)
theorem shr_zero {a n : Nat} : a >>> n = 0 ↔ a < 2 ^ n := by
  rw [Nat.shiftRight_eq_div_pow, Nat.div_eq_zero_iff]
  have := Nat.two_pow_pos n
  omega

set_option maxHeartbeats 1000000 in
theorem fits_s {b : Bt} (hb : b.OK) {w : Int} (hw : I64 w) (h : R (.ret (.bool (fitsV b w))) K) : WD T 128 [.agg b.cells.toArray, .int .i64 w] K R := by
  refine WD.gc0 (WD.of follows t128 (by simp) ?_)
  obtain ⟨h1, h2⟩ := hb
  unfold U64 at h1 h2
  simp only [Bt.cells]
  by_cases c1 : w < 1
  · rw [fitsV, if_pos (.inl c1)] at h
    simp (disch := omega) only [kB, kcx, kdm, kdn, kel, aop, resultsL, resultOf, Nat.reduceEqDiff, reduceCtorEq, eq1, apartOK, apart2, AObj.live, Int.reduceEq, Int.reduceLT, Int.reduceLE, Int.reduceAdd, Int.reduceSub, Int.reduceMul, Int.reduceToNat, cutCells, Nat.reduceAdd, Nat.reduceLeDiff, Nat.reduceLT, Nat.reduceMul, Nat.reduceSub, c1]
    exact ⟨_, rfl, ⟨_, rfl⟩, .bool, h⟩
  by_cases c2 : 128 < w
  · rw [fitsV, if_pos (.inr c2)] at h
    simp (disch := omega) only [kB, kcx, kdm, kdn, kel, aop, resultsL, resultOf, Nat.reduceEqDiff, reduceCtorEq, eq1, apartOK, apart2, AObj.live, Int.reduceEq, Int.reduceLT, Int.reduceLE, Int.reduceAdd, Int.reduceSub, Int.reduceMul, Int.reduceToNat, cutCells, Nat.reduceAdd, Nat.reduceLeDiff, Nat.reduceLT, Nat.reduceMul, Nat.reduceSub, c1, c2]
    exact ⟨_, rfl, ⟨_, rfl⟩, .bool, h⟩
  rw [fitsV, if_neg (by omega)] at h
  obtain ⟨n, rfl⟩ : ∃ n : Nat, w = (n : Int) := ⟨w.toNat, by omega⟩
  rw [Int.toNat_natCast] at h
  by_cases c3 : 64 < n
  · rw [fitsN, if_pos c3] at h
    have c4 : (64 : Int) < (n : Int) := by omega
    by_cases c5 : n = 128
    · subst c5
      rw [decide_eq_true rfl, Bool.true_or] at h
      have e : ((128 : Nat) : Int) = 128 := rfl
      rw [e]
      simp (disch := omega) only [kB, kcx, kdm, kdn, kel, aop, resultsL, resultOf, Nat.reduceEqDiff, reduceCtorEq, eq1, apartOK, apart2, AObj.live, Int.reduceEq, Int.reduceLT, Int.reduceLE, Int.reduceAdd, Int.reduceSub, Int.reduceMul, Int.reduceToNat, cutCells, Nat.reduceAdd, Nat.reduceLeDiff, Nat.reduceLT, Nat.reduceMul, Nat.reduceSub]
      exact ⟨_, rfl, ⟨_, rfl⟩, .bool, h⟩
    · have c6 : ¬ (n : Int) = 128 := by omega
      rw [decide_eq_false c5, Bool.false_or] at h
      have e := bin_shl64 (k' := .i64) (a := 1) (b := n - 64) (by omega)
      rw [shl_one (by omega), show ((1 : Nat) : Int) = 1 from rfl] at e
      have w3 : IntKind.i64.wrap ((n : Int) - 64) = ((n - 64 : Nat) : Int) := by rw [show (n : Int) - 64 = ((n - 64 : Nat) : Int) by omega]; exact wr_i64 (by omega) (by omega)
      have d1 : decide ((b.hi : Int) < ((2 ^ (n - 64) : Nat) : Int)) = decide (b.hi < 2 ^ (n - 64)) := by
        congr 1
        exact propext Int.ofNat_lt
      simp (disch := omega) only [kB, kcx, kdm, kdn, kel, aop, resultsL, resultOf, Nat.reduceEqDiff, reduceCtorEq, eq1, apartOK, apart2, AObj.live, Int.reduceEq, Int.reduceLT, Int.reduceLE, Int.reduceAdd, Int.reduceSub, Int.reduceMul, Int.reduceToNat, cutCells, Nat.reduceAdd, Nat.reduceLeDiff, Nat.reduceLT, Nat.reduceMul, Nat.reduceSub, c1, c2, c4, c6, w3, e, d1]
      exact ⟨_, rfl, ⟨_, rfl⟩, .bool, h⟩
  · rw [fitsN, if_neg c3] at h
    have c4 : ¬ (64 : Int) < (n : Int) := by omega
    by_cases c5 : b.hi = 0
    · have c6 : ((b.hi : Nat) : Int) = 0 := by omega
      rw [decide_eq_true c5, Bool.true_and] at h
      by_cases c7 : n = 64
      · subst c7
        rw [decide_eq_true rfl, Bool.true_or] at h
        have e : ((64 : Nat) : Int) = 64 := rfl
        rw [e]
        simp (disch := omega) only [kB, kcx, kdm, kdn, kel, aop, resultsL, resultOf, Nat.reduceEqDiff, reduceCtorEq, eq1, apartOK, apart2, AObj.live, Int.reduceEq, Int.reduceLT, Int.reduceLE, Int.reduceAdd, Int.reduceSub, Int.reduceMul, Int.reduceToNat, cutCells, Nat.reduceAdd, Nat.reduceLeDiff, Nat.reduceLT, Nat.reduceMul, Nat.reduceSub, c6]
        exact ⟨_, rfl, ⟨_, rfl⟩, .bool, h⟩
      · have c8 : ¬ (n : Int) = 64 := by omega
        rw [decide_eq_false c7, Bool.false_or] at h
        have e := bin_shl64 (k' := .i64) (a := 1) (b := n) (by omega)
        rw [shl_one (by omega), show ((1 : Nat) : Int) = 1 from rfl] at e
        have d1 : decide ((b.lo : Int) < ((2 ^ n : Nat) : Int)) = decide (b.lo < 2 ^ n) := by
          congr 1
          exact propext Int.ofNat_lt
        simp (disch := omega) only [kB, kcx, kdm, kdn, kel, aop, resultsL, resultOf, Nat.reduceEqDiff, reduceCtorEq, eq1, apartOK, apart2, AObj.live, Int.reduceEq, Int.reduceLT, Int.reduceLE, Int.reduceAdd, Int.reduceSub, Int.reduceMul, Int.reduceToNat, cutCells, Nat.reduceAdd, Nat.reduceLeDiff, Nat.reduceLT, Nat.reduceMul, Nat.reduceSub, c1, c2, c4, c6, c8, e, d1]
        exact ⟨_, rfl, ⟨_, rfl⟩, .bool, h⟩
    · have c6 : ¬ ((b.hi : Nat) : Int) = 0 := by omega
      rw [decide_eq_false c5, Bool.false_and] at h
      simp (disch := omega) only [kB, kcx, kdm, kdn, kel, aop, resultsL, resultOf, Nat.reduceEqDiff, reduceCtorEq, eq1, apartOK, apart2, AObj.live, Int.reduceEq, Int.reduceLT, Int.reduceLE, Int.reduceAdd, Int.reduceSub, Int.reduceMul, Int.reduceToNat, cutCells, Nat.reduceAdd, Nat.reduceLeDiff, Nat.reduceLT, Nat.reduceMul, Nat.reduceSub, c1, c2, c4, c6]
      exact ⟨_, rfl, ⟨_, rfl⟩, .bool, h⟩

set_option maxHeartbeats 1000000 in
theorem rfits_s {b : Bt} (hb : b.OK) {w : Int} (hw : I64 w) (h : R (.ret (.bool (fitsV b w))) K) : WD T 156 [.agg b.cells.toArray, .int .i64 w] K R := by
  refine WD.gc0 (WD.of follows t156 (by simp) ?_)
  obtain ⟨h1, h2⟩ := hb
  unfold U64 at h1 h2
  simp only [Bt.cells]
  by_cases c1 : w < 1
  · rw [fitsV, if_pos (.inl c1)] at h
    simp (disch := omega) only [kB, kcx, kdm, kdn, kel, aop, resultsL, resultOf, Nat.reduceEqDiff, reduceCtorEq, eq1, apartOK, apart2, AObj.live, Int.reduceEq, Int.reduceLT, Int.reduceLE, Int.reduceAdd, Int.reduceSub, Int.reduceMul, Int.reduceToNat, cutCells, Nat.reduceAdd, Nat.reduceLeDiff, Nat.reduceLT, Nat.reduceMul, Nat.reduceSub, c1]
    exact ⟨_, rfl, ⟨_, rfl⟩, .bool, h⟩
  by_cases c2 : 128 < w
  · rw [fitsV, if_pos (.inr c2)] at h
    simp (disch := omega) only [kB, kcx, kdm, kdn, kel, aop, resultsL, resultOf, Nat.reduceEqDiff, reduceCtorEq, eq1, apartOK, apart2, AObj.live, Int.reduceEq, Int.reduceLT, Int.reduceLE, Int.reduceAdd, Int.reduceSub, Int.reduceMul, Int.reduceToNat, cutCells, Nat.reduceAdd, Nat.reduceLeDiff, Nat.reduceLT, Nat.reduceMul, Nat.reduceSub, c1, c2]
    exact ⟨_, rfl, ⟨_, rfl⟩, .bool, h⟩
  rw [fitsV, if_neg (by omega)] at h
  obtain ⟨n, rfl⟩ : ∃ n : Nat, w = (n : Int) := ⟨w.toNat, by omega⟩
  rw [Int.toNat_natCast] at h
  by_cases c3 : n < 64
  · rw [fitsN, if_neg (by omega)] at h
    have c4 : (n : Int) < 64 := by omega
    by_cases c5 : b.hi = 0
    · have c6 : ((b.hi : Nat) : Int) = 0 := by omega
      rw [decide_eq_true c5, Bool.true_and, decide_eq_false (by omega : ¬ n = 64), Bool.false_or] at h
      have e := bin_shr64 (k' := .u64) (a := b.lo) (b := n) (by omega)
      have w3 : IntKind.u64.wrap (n : Int) = (n : Int) := wr_u64 (by omega) (by omega)
      have d1 : decide (((b.lo >>> n : Nat) : Int) = 0) = decide (b.lo < 2 ^ n) := by
        congr 1
        exact propext ((by omega : ((b.lo >>> n : Nat) : Int) = 0 ↔ b.lo >>> n = 0).trans shr_zero)
      simp (disch := omega) only [kB, kcx, kdm, kdn, kel, aop, resultsL, resultOf, Nat.reduceEqDiff, reduceCtorEq, eq1, apartOK, apart2, AObj.live, Int.reduceEq, Int.reduceLT, Int.reduceLE, Int.reduceAdd, Int.reduceSub, Int.reduceMul, Int.reduceToNat, cutCells, Nat.reduceAdd, Nat.reduceLeDiff, Nat.reduceLT, Nat.reduceMul, Nat.reduceSub, c1, c2, c4, c6, w3, e, d1]
      exact ⟨_, rfl, ⟨_, rfl⟩, .bool, h⟩
    · have c6 : ¬ ((b.hi : Nat) : Int) = 0 := by omega
      rw [decide_eq_false c5, Bool.false_and] at h
      simp (disch := omega) only [kB, kcx, kdm, kdn, kel, aop, resultsL, resultOf, Nat.reduceEqDiff, reduceCtorEq, eq1, apartOK, apart2, AObj.live, Int.reduceEq, Int.reduceLT, Int.reduceLE, Int.reduceAdd, Int.reduceSub, Int.reduceMul, Int.reduceToNat, cutCells, Nat.reduceAdd, Nat.reduceLeDiff, Nat.reduceLT, Nat.reduceMul, Nat.reduceSub, c1, c2, c4, c6]
      exact ⟨_, rfl, ⟨_, rfl⟩, .bool, h⟩
  · have c4 : ¬ (n : Int) < 64 := by omega
    by_cases c5 : n = 64
    · subst c5
      have e : ((64 : Nat) : Int) = 64 := rfl
      rw [fitsN, if_neg c3, decide_eq_true rfl, Bool.true_or, Bool.and_true] at h
      have d1 : decide (((b.hi : Nat) : Int) = 0) = decide (b.hi = 0) := by
        congr 1
        exact propext (by omega)
      rw [e]
      simp (disch := omega) only [kB, kcx, kdm, kdn, kel, aop, resultsL, resultOf, Nat.reduceEqDiff, reduceCtorEq, eq1, apartOK, apart2, AObj.live, Int.reduceEq, Int.reduceLT, Int.reduceLE, Int.reduceAdd, Int.reduceSub, Int.reduceMul, Int.reduceToNat, cutCells, Nat.reduceAdd, Nat.reduceLeDiff, Nat.reduceLT, Nat.reduceMul, Nat.reduceSub, d1]
      exact ⟨_, rfl, ⟨_, rfl⟩, .bool, h⟩
    · have c6 : ¬ (n : Int) = 64 := by omega
      rw [fitsN, if_pos (by omega)] at h
      by_cases c7 : n = 128
      · subst c7
        have e : ((128 : Nat) : Int) = 128 := rfl
        rw [decide_eq_true rfl, Bool.true_or] at h
        rw [e]
        simp (disch := omega) only [kB, kcx, kdm, kdn, kel, aop, resultsL, resultOf, Nat.reduceEqDiff, reduceCtorEq, eq1, apartOK, apart2, AObj.live, Int.reduceEq, Int.reduceLT, Int.reduceLE, Int.reduceAdd, Int.reduceSub, Int.reduceMul, Int.reduceToNat, cutCells, Nat.reduceAdd, Nat.reduceLeDiff, Nat.reduceLT, Nat.reduceMul, Nat.reduceSub]
        exact ⟨_, rfl, ⟨_, rfl⟩, .bool, h⟩
      · have c8 : (n : Int) < 128 := by omega
        rw [decide_eq_false c7, Bool.false_or] at h
        have e := bin_shr64 (k' := .u64) (a := b.hi) (b := n - 64) (by omega)
        have w3 : IntKind.i64.wrap ((n : Int) - 64) = ((n - 64 : Nat) : Int) := by rw [show (n : Int) - 64 = ((n - 64 : Nat) : Int) by omega]; exact wr_i64 (by omega) (by omega)
        have w4 : IntKind.u64.wrap ((n - 64 : Nat) : Int) = ((n - 64 : Nat) : Int) := wr_u64 (by omega) (by omega)
        have d1 : decide (((b.hi >>> (n - 64) : Nat) : Int) = 0) = decide (b.hi < 2 ^ (n - 64)) := by
          congr 1
          exact propext ((by omega : ((b.hi >>> (n - 64) : Nat) : Int) = 0 ↔ b.hi >>> (n - 64) = 0).trans shr_zero)
        simp (disch := omega) only [kB, kcx, kdm, kdn, kel, aop, resultsL, resultOf, Nat.reduceEqDiff, reduceCtorEq, eq1, apartOK, apart2, AObj.live, Int.reduceEq, Int.reduceLT, Int.reduceLE, Int.reduceAdd, Int.reduceSub, Int.reduceMul, Int.reduceToNat, cutCells, Nat.reduceAdd, Nat.reduceLeDiff, Nat.reduceLT, Nat.reduceMul, Nat.reduceSub, c1, c2, c4, c6, c8, w3, w4, e, d1]
        exact ⟨_, rfl, ⟨_, rfl⟩, .bool, h⟩

end Go.Proofs.YtpllhhaeclnngaaGreat.Ev
