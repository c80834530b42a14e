/- SchemaNames: which texts are names, by the program and by the document: whatever the inputs, the law answers true. Conditions: none. -/
import Derived.Test.YtpllhhaeclnngaaNms2
import Derived.Test.YtpllhhaeclnngaaProg
import Derived.ChangeArms
import Derived.ChangeStays
import Derived.ChangeOld
import Derived.ChangeShapes
import Derived.WideShapes
import Derived.DataReads
import Derived.RowKit
import Derived.Test.YtpllhhaeclnngaaRows
import Derived.ProofKit
import Derived.OpenShut
import Derived.SizedLaws
import Derived.JoinedOf
import Derived.MakeChecks
import Derived.Stop.Joined
/- The functions of the program in the evaluator's form, as its own look-up lays them (part 1). Conditions: none; these are definitions. -/
namespace Go.Proofs.Ytpllhhaeclnngaa.Ev
set_option maxRecDepth 100000
def g52 : AFunc := (.code 73 (.seq (.ops [⟨(some 4), (.box (.tmp 1)), none, []⟩]) (.seq (.ops [⟨(some 8), (.fAddr 2 (.tmp 4)), none, []⟩, ⟨(some 9), (.loadN 9 (.tmp 8)), none, []⟩, ⟨(some 6), (.alloc [(.int .i64 0), (.string (bs [])), (.string (bs [])), (.int .u64 0), (.int .u64 0), (.string (bs [])), (.string (bs [])), (.int .u64 0), (.int .u64 0)]), none, []⟩, ⟨none, (.store 9 (.tmp 6) (.tmp 9)), none, []⟩]) (.seq (.ops [⟨(some 7), (.alloc [(.int .i64 0), (.string (bs [])), (.string (bs [])), (.int .u64 0), (.int .u64 0), (.string (bs [])), (.string (bs [])), (.int .u64 0), (.int .u64 0)]), none, []⟩]) (.seq (.ops [⟨(some 10), (.fAddr 0 (.tmp 4)), none, []⟩, ⟨(some 11), (.load1 (.tmp 10)), none, []⟩]) (.block 0 (.seq (.ops [⟨(some 15), (.bin .eql (.tmp 11) (.const (.int .i64 1))), none, []⟩, ⟨(some 14), (.mov (.tmp 15)), none, []⟩]) (.cond (.tmp 14) (.seq (.ops [⟨(some 16), (.mov (.tmp 0)), none, []⟩, ⟨(some 17), (.loadN 9 (.tmp 6)), none, []⟩, ⟨(some 18), (.loadN 9 (.tmp 7)), none, []⟩, ⟨(some 19), (.eqs false 9 [(0, 1), (1, 2), (2, 2), (3, 1), (4, 1), (5, 2), (6, 2), (7, 1), (8, 1)] (.tmp 17) (.tmp 18)), none, []⟩, ⟨(some 20), (.callv (.func 46) [(.tmp 16), (.tmp 19), (.const (.int .i64 75))]), none, []⟩]) (.seq (.ops [⟨(some 21), (.mov (.tmp 0)), none, []⟩, ⟨(some 22), (.mov (.tmp 0)), none, []⟩, ⟨(some 23), (.nilChk (.tmp 22)), none, []⟩, ⟨(some 24), (.fAddr 0 (.tmp 23)), none, []⟩, ⟨(some 26), (.fAddr 1 (.tmp 4)), none, []⟩, ⟨(some 25), (.loadN 6 (.tmp 24)), none, []⟩, ⟨(some 27), (.load1 (.tmp 26)), none, []⟩, ⟨(some 28), (.callv (.func 40) [(.tmp 25), (.tmp 27)]), none, []⟩, ⟨(some 29), (.bin .geq (.tmp 28) (.const (.int .i64 0))), none, []⟩, ⟨(some 30), (.callv (.func 46) [(.tmp 21), (.tmp 29), (.const (.int .i64 72))]), none, []⟩]) (.seq (.ops [⟨(some 31), (.mov (.tmp 0)), none, []⟩, ⟨(some 32), (.mov (.tmp 2)), none, []⟩, ⟨(some 33), (.fAddr 1 (.tmp 4)), none, []⟩, ⟨(some 34), (.load1 (.tmp 33)), none, []⟩, ⟨(some 35), (.lookup (.prim 2) (.int .i64 0) false (.tmp 32) (.tmp 34)), none, []⟩, ⟨(some 36), (.bin .eql (.tmp 35) (.const (.int .i64 0))), none, []⟩, ⟨(some 37), (.callv (.func 46) [(.tmp 31), (.tmp 36), (.const (.int .i64 71))]), none, []⟩]) (.ops [⟨(some 38), (.mov (.tmp 2)), none, []⟩, ⟨(some 39), (.fAddr 1 (.tmp 4)), none, []⟩, ⟨(some 40), (.load1 (.tmp 39)), none, []⟩, ⟨none, (.mapUpd (.prim 2) (.tmp 38) (.tmp 40) (.const (.int .i64 1))), none, []⟩])))) (.seq (.ops [⟨(some 42), (.bin .eql (.tmp 11) (.const (.int .i64 3))), none, []⟩, ⟨(some 41), (.mov (.tmp 42)), none, []⟩]) (.cond (.tmp 41) (.ops [⟨(some 43), (.mov (.tmp 0)), none, []⟩, ⟨(some 44), (.loadN 9 (.tmp 6)), none, []⟩, ⟨(some 45), (.loadN 9 (.tmp 7)), none, []⟩, ⟨(some 46), (.eqs false 9 [(0, 1), (1, 2), (2, 2), (3, 1), (4, 1), (5, 2), (6, 2), (7, 1), (8, 1)] (.tmp 44) (.tmp 45)), none, []⟩, ⟨(some 47), (.mov (.tmp 46)), none, []⟩, ⟨(some 48), (.fAddr 1 (.tmp 4)), (some (47, true)), []⟩, ⟨(some 49), (.load1 (.tmp 48)), (some (47, true)), []⟩, ⟨(some 50), (.bin .eql (.tmp 49) (.const (.string (bs [])))), (some (47, true)), []⟩, ⟨(some 51), (.pick (.tmp 47) (.tmp 50) (.const (.bool false))), none, []⟩, ⟨(some 52), (.mov (.tmp 51)), none, []⟩, ⟨(some 53), (.fAddr 11 (.tmp 4)), (some (52, true)), []⟩, ⟨(some 54), (.load1 (.tmp 53)), (some (52, true)), []⟩, ⟨(some 55), (.lenSl (.tmp 54)), (some (52, true)), []⟩, ⟨(some 56), (.fAddr 12 (.tmp 4)), (some (52, true)), []⟩, ⟨(some 57), (.load1 (.tmp 56)), (some (52, true)), []⟩, ⟨(some 58), (.lenSl (.tmp 57)), (some (52, true)), []⟩, ⟨(some 59), (.bin .add (.tmp 55) (.tmp 58)), (some (52, true)), []⟩, ⟨(some 60), (.bin .eql (.tmp 59) (.const (.int .i64 0))), (some (52, true)), []⟩, ⟨(some 61), (.pick (.tmp 52) (.tmp 60) (.const (.bool false))), none, []⟩, ⟨(some 62), (.callv (.func 46) [(.tmp 43), (.tmp 61), (.const (.int .i64 75))]), none, []⟩]) (.seq (.ops [⟨(some 64), (.bin .eql (.tmp 11) (.const (.int .i64 2))), none, []⟩, ⟨(some 63), (.mov (.tmp 64)), none, []⟩]) (.cond (.tmp 63) (.seq (.ops [⟨(some 65), (.mov (.tmp 0)), none, []⟩, ⟨(some 66), (.fAddr 1 (.tmp 4)), none, []⟩, ⟨(some 67), (.load1 (.tmp 66)), none, []⟩, ⟨(some 68), (.bin .eql (.tmp 67) (.const (.string (bs [])))), none, []⟩, ⟨(some 69), (.callv (.func 46) [(.tmp 65), (.tmp 68), (.const (.int .i64 75))]), none, []⟩]) (.ops [⟨(some 70), (.mov (.tmp 0)), none, []⟩, ⟨(some 71), (.loadN 9 (.tmp 6)), none, []⟩, ⟨(some 72), (.callv (.func 92) [(.tmp 70), (.tmp 71)]), none, []⟩])) (.ops [⟨(some 12), (.mov (.tmp 0)), none, []⟩, ⟨(some 13), (.callv (.func 46) [(.tmp 12), (.const (.bool false)), (.const (.int .i64 75))]), none, []⟩])))))))))))) [])
def g53 : AFunc := (.code 8 (.seq (.ops [⟨(some 2), (.box (.tmp 0)), none, []⟩, ⟨(some 3), (.mov (.const (.bool false))), none, []⟩]) (.seq (.ops [⟨(some 4), (.fAddr 1 (.tmp 1)), none, []⟩, ⟨(some 5), (.load1 (.tmp 4)), none, []⟩, ⟨(some 6), (.mkFunc 55 [] [(.tmp 2)]), none, []⟩, ⟨(some 7), (.callv (.func 54) [(.tmp 5), (.tmp 6)]), none, []⟩, ⟨(some 3), (.mov (.tmp 7)), none, []⟩]) .ret)) [(.tmp 3)])
def g54 : AFunc := (.code 9 (.seq (.ops [⟨(some 4), (.mov (.const (.bool false))), none, []⟩]) (.seq (.ops [⟨(some 5), (.mov (.tmp 0)), none, []⟩, ⟨(some 6), (.mov (.tmp 1)), none, []⟩, ⟨(some 7), (.callv (.func 93) [(.tmp 5), (.tmp 6)]), none, []⟩, ⟨(some 8), (.bin .geq (.tmp 7) (.const (.int .i64 0))), none, []⟩, ⟨(some 4), (.mov (.tmp 8)), none, []⟩]) .ret)) [(.tmp 4)])
def g55 : AFunc := (.code 8 (.seq (.ops [⟨(some 2), (.box (.tmp 0)), none, []⟩, ⟨(some 3), (.mov (.const (.bool false))), none, []⟩]) (.seq (.ops [⟨(some 4), (.fAddr 2 (.tmp 2)), none, []⟩, ⟨(some 5), (.load1 (.tmp 4)), none, []⟩, ⟨(some 6), (.load1 (.tmp 1)), none, []⟩, ⟨(some 7), (.bin .eql (.tmp 5) (.tmp 6)), none, []⟩, ⟨(some 3), (.mov (.tmp 7)), none, []⟩]) .ret)) [(.tmp 3)])
def g56 : AFunc := (.code 42 (.seq (.ops [⟨(some 2), (.box (.tmp 0)), none, []⟩, ⟨(some 3), (.box (.tmp 1)), none, []⟩, ⟨(some 4), (.alloc [(.string (bs [])), (.int .i64 0)]), none, []⟩, ⟨(some 5), (.mov (.const (.bool false))), none, []⟩]) (.seq (.ops [⟨(some 9), (.fAddr 1 (.tmp 2)), none, []⟩, ⟨(some 10), (.load1 (.tmp 9)), none, []⟩, ⟨(some 6), (.mov (.tmp 10)), none, []⟩]) (.seq (.seq (.ops [⟨(some 11), (.fAddr 0 (.tmp 3)), none, []⟩, ⟨(some 12), (.load1 (.tmp 11)), none, []⟩]) (.block 0 (.seq (.ops [⟨(some 27), (.bin .eql (.tmp 12) (.const (.string (bs [])))), none, []⟩, ⟨(some 26), (.mov (.tmp 27)), none, []⟩]) (.cond (.tmp 26) (.seq (.ops [⟨(some 28), (.build [(.string (bs [])), (.int .i64 0)] []), none, []⟩, ⟨none, (.store 2 (.tmp 4) (.tmp 28)), none, []⟩, ⟨(some 5), (.mov (.const (.bool false))), none, []⟩]) .ret) (.seq (.ops [⟨(some 30), (.bin .eql (.tmp 12) (.const (.string (bs [109, 101, 116, 97])))), none, []⟩, ⟨(some 29), (.mov (.tmp 30)), none, []⟩]) (.cond (.tmp 29) .skip (.seq (.ops [⟨(some 13), (.loadN 6 (.tmp 2)), none, []⟩, ⟨(some 14), (.fAddr 0 (.tmp 3)), none, []⟩, ⟨(some 15), (.load1 (.tmp 14)), none, []⟩, ⟨(some 16), (.callv (.func 42) [(.tmp 13), (.tmp 15)]), none, []⟩, ⟨(some 7), (.mov (.tmp 16)), none, []⟩]) (.seq (.seq (.ops [⟨(some 17), (.mov (.tmp 7)), none, []⟩, ⟨(some 18), (.bin .lss (.tmp 17) (.const (.int .i64 0))), none, []⟩]) (.cond (.tmp 18) (.seq (.ops [⟨(some 19), (.build [(.string (bs [])), (.int .i64 0)] []), none, []⟩, ⟨none, (.store 2 (.tmp 4) (.tmp 19)), none, []⟩, ⟨(some 5), (.mov (.const (.bool false))), none, []⟩]) .ret) .skip)) (.ops [⟨(some 20), (.fAddr 0 (.tmp 2)), none, []⟩, ⟨(some 21), (.load1 (.tmp 20)), none, []⟩, ⟨(some 22), (.mov (.tmp 7)), none, []⟩, ⟨(some 23), (.iAddrSl 2 (.tmp 21) (.tmp 22)), none, []⟩, ⟨(some 24), (.fAddr 1 (.tmp 23)), none, []⟩, ⟨(some 25), (.load1 (.tmp 24)), none, []⟩, ⟨(some 6), (.mov (.tmp 25)), none, []⟩]))))))))) (.seq (.seq (.ops [⟨(some 31), (.mov (.tmp 6)), none, []⟩, ⟨(some 32), (.fAddr 1 (.tmp 3)), none, []⟩, ⟨(some 33), (.load1 (.tmp 32)), none, []⟩, ⟨(some 34), (.callv (.func 94) [(.tmp 31), (.tmp 33)]), none, []⟩, ⟨(some 8), (.mov (.tmp 34)), none, []⟩]) (.seq (.ops [⟨(some 35), (.mov (.tmp 8)), none, []⟩, ⟨(some 36), (.bin .geq (.tmp 35) (.const (.int .i64 0))), none, []⟩]) (.cond (.tmp 36) (.seq (.ops [⟨(some 37), (.mov (.tmp 6)), none, []⟩, ⟨(some 38), (.mov (.tmp 8)), none, []⟩, ⟨(some 39), (.iAddrSl 2 (.tmp 37) (.tmp 38)), none, []⟩, ⟨(some 40), (.loadN 2 (.tmp 39)), none, []⟩, ⟨none, (.store 2 (.tmp 4) (.tmp 40)), none, []⟩, ⟨(some 5), (.mov (.const (.bool true))), none, []⟩]) .ret) .skip))) (.seq (.ops [⟨(some 41), (.build [(.string (bs [])), (.int .i64 0)] []), none, []⟩, ⟨none, (.store 2 (.tmp 4) (.tmp 41)), none, []⟩, ⟨(some 5), (.mov (.const (.bool false))), none, []⟩]) .ret))))) [(.cellN 4 2), (.tmp 5)])
def g57 : AFunc := (.code 26 (.seq (.ops [⟨(some 4), (.mov (.const (.bool false))), none, []⟩]) (.seq (.seq (.ops [⟨(some 6), (.mov (.tmp 0)), none, []⟩, ⟨(some 7), (.lenSl (.tmp 6)), none, []⟩, ⟨(some 8), (.mov (.tmp 1)), none, []⟩, ⟨(some 9), (.lenSl (.tmp 8)), none, []⟩, ⟨(some 10), (.bin .neq (.tmp 7) (.tmp 9)), none, []⟩]) (.cond (.tmp 10) (.seq (.ops [⟨(some 4), (.mov (.const (.bool false))), none, []⟩]) .ret) .skip)) (.seq (.seq (.ops [⟨(some 11), (.mov (.tmp 0)), none, []⟩, ⟨(some 12), (.lenSl (.tmp 11)), none, []⟩, ⟨(some 13), (.mov (.const (.int .i64 0))), none, []⟩]) (.block 0 (.loop (.seq (.ops [⟨(some 14), (.bin .lss (.tmp 13) (.tmp 12)), none, []⟩]) (.seq (.cond (.tmp 14) .skip (.exit 0)) (.seq (.block 1 (.seq (.ops [⟨(some 15), (.mov (.tmp 13)), none, []⟩, ⟨(some 5), (.mov (.tmp 15)), none, []⟩]) (.seq (.ops [⟨(some 16), (.mov (.tmp 0)), none, []⟩, ⟨(some 17), (.mov (.tmp 5)), none, []⟩, ⟨(some 18), (.iAddrSl 2 (.tmp 16) (.tmp 17)), none, []⟩, ⟨(some 20), (.mov (.tmp 1)), none, []⟩, ⟨(some 21), (.mov (.tmp 5)), none, []⟩, ⟨(some 22), (.iAddrSl 2 (.tmp 20) (.tmp 21)), none, []⟩, ⟨(some 19), (.loadN 2 (.tmp 18)), none, []⟩, ⟨(some 23), (.loadN 2 (.tmp 22)), none, []⟩, ⟨(some 24), (.eqs true 2 [(0, 2), (1, 1)] (.tmp 19) (.tmp 23)), none, []⟩]) (.cond (.tmp 24) (.seq (.ops [⟨(some 4), (.mov (.const (.bool false))), none, []⟩]) .ret) .skip)))) (.ops [⟨(some 25), (.bin .add (.tmp 13) (.const (.int .i64 1))), none, []⟩, ⟨(some 13), (.mov (.tmp 25)), none, []⟩]))))))) (.seq (.ops [⟨(some 4), (.mov (.const (.bool true))), none, []⟩]) .ret)))) [(.tmp 4)])
def g58 : AFunc := (.code 32 (.seq (.ops [⟨(some 6), (.mov (.const (.bool false))), none, []⟩]) (.seq (.seq (.ops [⟨(some 10), (.mov (.tmp 0)), none, []⟩, ⟨(some 11), (.lenSl (.tmp 10)), none, []⟩, ⟨(some 12), (.mov (.tmp 1)), none, []⟩, ⟨(some 13), (.lenSl (.tmp 12)), none, []⟩, ⟨(some 14), (.bin .neq (.tmp 11) (.tmp 13)), none, []⟩]) (.cond (.tmp 14) (.seq (.ops [⟨(some 6), (.mov (.const (.bool false))), none, []⟩]) .ret) .skip)) (.seq (.seq (.ops [⟨(some 15), (.mov (.tmp 0)), none, []⟩, ⟨(some 16), (.lenSl (.tmp 15)), none, []⟩, ⟨(some 17), (.mov (.const (.int .i64 0))), none, []⟩]) (.block 0 (.loop (.seq (.ops [⟨(some 18), (.bin .lss (.tmp 17) (.tmp 16)), none, []⟩]) (.seq (.cond (.tmp 18) .skip (.exit 0)) (.seq (.block 1 (.seq (.ops [⟨(some 19), (.mov (.tmp 17)), none, []⟩, ⟨(some 20), (.iAddrSl 2 (.tmp 15) (.tmp 17)), none, []⟩, ⟨(some 21), (.loadN 2 (.tmp 20)), none, []⟩, ⟨(some 8), (.alloc [(.string (bs [])), (.slice none 0 0)]), none, []⟩, ⟨(some 7), (.mov (.tmp 19)), none, []⟩, ⟨none, (.store 2 (.tmp 8) (.tmp 21)), none, []⟩]) (.seq (.ops [⟨(some 22), (.mov (.tmp 1)), none, []⟩, ⟨(some 23), (.mov (.tmp 7)), none, []⟩, ⟨(some 24), (.iAddrSl 2 (.tmp 22) (.tmp 23)), none, []⟩, ⟨(some 25), (.loadN 2 (.tmp 24)), none, []⟩, ⟨(some 9), (.alloc [(.string (bs [])), (.slice none 0 0)]), none, []⟩, ⟨none, (.store 2 (.tmp 9) (.tmp 25)), none, []⟩]) (.seq (.ops [⟨(some 26), (.mov (.tmp 2)), none, []⟩, ⟨(some 27), (.loadN 2 (.tmp 8)), none, []⟩, ⟨(some 28), (.loadN 2 (.tmp 9)), none, []⟩, ⟨(some 29), (.callv (.tmp 26) [(.tmp 27), (.tmp 28)]), none, []⟩, ⟨(some 30), (.un .not (.tmp 29)), none, []⟩]) (.cond (.tmp 30) (.seq (.ops [⟨(some 6), (.mov (.const (.bool false))), none, []⟩]) .ret) .skip))))) (.ops [⟨(some 31), (.bin .add (.tmp 17) (.const (.int .i64 1))), none, []⟩, ⟨(some 17), (.mov (.tmp 31)), none, []⟩]))))))) (.seq (.ops [⟨(some 6), (.mov (.const (.bool true))), none, []⟩]) .ret)))) [(.tmp 6)])
def g59 : AFunc := (.code 17 (.seq (.ops [⟨(some 2), (.box (.tmp 0)), none, []⟩, ⟨(some 3), (.box (.tmp 1)), none, []⟩, ⟨(some 4), (.mov (.const (.bool false))), none, []⟩]) (.seq (.ops [⟨(some 5), (.fAddr 0 (.tmp 2)), none, []⟩, ⟨(some 6), (.load1 (.tmp 5)), none, []⟩, ⟨(some 7), (.fAddr 0 (.tmp 3)), none, []⟩, ⟨(some 8), (.load1 (.tmp 7)), none, []⟩, ⟨(some 9), (.bin .eql (.tmp 6) (.tmp 8)), none, []⟩, ⟨(some 10), (.mov (.tmp 9)), none, []⟩, ⟨(some 11), (.fAddr 1 (.tmp 2)), (some (10, true)), []⟩, ⟨(some 12), (.load1 (.tmp 11)), (some (10, true)), []⟩, ⟨(some 13), (.fAddr 1 (.tmp 3)), (some (10, true)), []⟩, ⟨(some 14), (.load1 (.tmp 13)), (some (10, true)), []⟩, ⟨(some 15), (.callv (.func 57) [(.tmp 12), (.tmp 14)]), (some (10, true)), []⟩, ⟨(some 16), (.pick (.tmp 10) (.tmp 15) (.const (.bool false))), none, []⟩, ⟨(some 4), (.mov (.tmp 16)), none, []⟩]) .ret)) [(.tmp 4)])
def g60 : AFunc := (.code 32 (.seq (.ops [⟨(some 6), (.mov (.const (.bool false))), none, []⟩]) (.seq (.seq (.ops [⟨(some 10), (.mov (.tmp 0)), none, []⟩, ⟨(some 11), (.lenSl (.tmp 10)), none, []⟩, ⟨(some 12), (.mov (.tmp 1)), none, []⟩, ⟨(some 13), (.lenSl (.tmp 12)), none, []⟩, ⟨(some 14), (.bin .neq (.tmp 11) (.tmp 13)), none, []⟩]) (.cond (.tmp 14) (.seq (.ops [⟨(some 6), (.mov (.const (.bool false))), none, []⟩]) .ret) .skip)) (.seq (.seq (.ops [⟨(some 15), (.mov (.tmp 0)), none, []⟩, ⟨(some 16), (.lenSl (.tmp 15)), none, []⟩, ⟨(some 17), (.mov (.const (.int .i64 0))), none, []⟩]) (.block 0 (.loop (.seq (.ops [⟨(some 18), (.bin .lss (.tmp 17) (.tmp 16)), none, []⟩]) (.seq (.cond (.tmp 18) .skip (.exit 0)) (.seq (.block 1 (.seq (.ops [⟨(some 19), (.mov (.tmp 17)), none, []⟩, ⟨(some 20), (.iAddrSl 6 (.tmp 15) (.tmp 17)), none, []⟩, ⟨(some 21), (.loadN 6 (.tmp 20)), none, []⟩, ⟨(some 8), (.alloc [(.string (bs [])), (.string (bs [])), (.string (bs [])), (.string (bs [])), (.slice none 0 0), (.string (bs []))]), none, []⟩, ⟨(some 7), (.mov (.tmp 19)), none, []⟩, ⟨none, (.store 6 (.tmp 8) (.tmp 21)), none, []⟩]) (.seq (.ops [⟨(some 22), (.mov (.tmp 1)), none, []⟩, ⟨(some 23), (.mov (.tmp 7)), none, []⟩, ⟨(some 24), (.iAddrSl 6 (.tmp 22) (.tmp 23)), none, []⟩, ⟨(some 25), (.loadN 6 (.tmp 24)), none, []⟩, ⟨(some 9), (.alloc [(.string (bs [])), (.string (bs [])), (.string (bs [])), (.string (bs [])), (.slice none 0 0), (.string (bs []))]), none, []⟩, ⟨none, (.store 6 (.tmp 9) (.tmp 25)), none, []⟩]) (.seq (.ops [⟨(some 26), (.mov (.tmp 2)), none, []⟩, ⟨(some 27), (.loadN 6 (.tmp 8)), none, []⟩, ⟨(some 28), (.loadN 6 (.tmp 9)), none, []⟩, ⟨(some 29), (.callv (.tmp 26) [(.tmp 27), (.tmp 28)]), none, []⟩, ⟨(some 30), (.un .not (.tmp 29)), none, []⟩]) (.cond (.tmp 30) (.seq (.ops [⟨(some 6), (.mov (.const (.bool false))), none, []⟩]) .ret) .skip))))) (.ops [⟨(some 31), (.bin .add (.tmp 17) (.const (.int .i64 1))), none, []⟩, ⟨(some 17), (.mov (.tmp 31)), none, []⟩]))))))) (.seq (.ops [⟨(some 6), (.mov (.const (.bool true))), none, []⟩]) .ret)))) [(.tmp 6)])
def g61 : AFunc := (.code 38 (.seq (.ops [⟨(some 2), (.box (.tmp 0)), none, []⟩, ⟨(some 3), (.box (.tmp 1)), none, []⟩, ⟨(some 4), (.mov (.const (.bool false))), none, []⟩]) (.seq (.ops [⟨(some 5), (.fAddr 0 (.tmp 2)), none, []⟩, ⟨(some 6), (.load1 (.tmp 5)), none, []⟩, ⟨(some 7), (.fAddr 0 (.tmp 3)), none, []⟩, ⟨(some 8), (.load1 (.tmp 7)), none, []⟩, ⟨(some 9), (.bin .eql (.tmp 6) (.tmp 8)), none, []⟩, ⟨(some 10), (.mov (.tmp 9)), none, []⟩, ⟨(some 11), (.fAddr 1 (.tmp 2)), (some (10, true)), []⟩, ⟨(some 12), (.load1 (.tmp 11)), (some (10, true)), []⟩, ⟨(some 13), (.fAddr 1 (.tmp 3)), (some (10, true)), []⟩, ⟨(some 14), (.load1 (.tmp 13)), (some (10, true)), []⟩, ⟨(some 15), (.bin .eql (.tmp 12) (.tmp 14)), (some (10, true)), []⟩, ⟨(some 16), (.pick (.tmp 10) (.tmp 15) (.const (.bool false))), none, []⟩, ⟨(some 17), (.mov (.tmp 16)), none, []⟩, ⟨(some 18), (.fAddr 2 (.tmp 2)), (some (17, true)), []⟩, ⟨(some 19), (.loadN 2 (.tmp 18)), (some (17, true)), []⟩, ⟨(some 20), (.fAddr 2 (.tmp 3)), (some (17, true)), []⟩, ⟨(some 21), (.loadN 2 (.tmp 20)), (some (17, true)), []⟩, ⟨(some 22), (.eqs false 2 [(0, 2), (1, 2)] (.tmp 19) (.tmp 21)), (some (17, true)), []⟩, ⟨(some 23), (.pick (.tmp 17) (.tmp 22) (.const (.bool false))), none, []⟩, ⟨(some 24), (.mov (.tmp 23)), none, []⟩, ⟨(some 25), (.fAddr 5 (.tmp 2)), (some (24, true)), []⟩, ⟨(some 26), (.load1 (.tmp 25)), (some (24, true)), []⟩, ⟨(some 27), (.fAddr 5 (.tmp 3)), (some (24, true)), []⟩, ⟨(some 28), (.load1 (.tmp 27)), (some (24, true)), []⟩, ⟨(some 29), (.bin .eql (.tmp 26) (.tmp 28)), (some (24, true)), []⟩, ⟨(some 30), (.pick (.tmp 24) (.tmp 29) (.const (.bool false))), none, []⟩, ⟨(some 31), (.mov (.tmp 30)), none, []⟩, ⟨(some 32), (.fAddr 4 (.tmp 2)), (some (31, true)), []⟩, ⟨(some 33), (.load1 (.tmp 32)), (some (31, true)), []⟩, ⟨(some 34), (.fAddr 4 (.tmp 3)), (some (31, true)), []⟩, ⟨(some 35), (.load1 (.tmp 34)), (some (31, true)), []⟩, ⟨(some 36), (.callv (.func 62) [(.tmp 33), (.tmp 35)]), (some (31, true)), []⟩, ⟨(some 37), (.pick (.tmp 31) (.tmp 36) (.const (.bool false))), none, []⟩, ⟨(some 4), (.mov (.tmp 37)), none, []⟩]) .ret)) [(.tmp 4)])
def g62 : AFunc := (.code 26 (.seq (.ops [⟨(some 4), (.mov (.const (.bool false))), none, []⟩]) (.seq (.seq (.ops [⟨(some 6), (.mov (.tmp 0)), none, []⟩, ⟨(some 7), (.lenSl (.tmp 6)), none, []⟩, ⟨(some 8), (.mov (.tmp 1)), none, []⟩, ⟨(some 9), (.lenSl (.tmp 8)), none, []⟩, ⟨(some 10), (.bin .neq (.tmp 7) (.tmp 9)), none, []⟩]) (.cond (.tmp 10) (.seq (.ops [⟨(some 4), (.mov (.const (.bool false))), none, []⟩]) .ret) .skip)) (.seq (.seq (.ops [⟨(some 11), (.mov (.tmp 0)), none, []⟩, ⟨(some 12), (.lenSl (.tmp 11)), none, []⟩, ⟨(some 13), (.mov (.const (.int .i64 0))), none, []⟩]) (.block 0 (.loop (.seq (.ops [⟨(some 14), (.bin .lss (.tmp 13) (.tmp 12)), none, []⟩]) (.seq (.cond (.tmp 14) .skip (.exit 0)) (.seq (.block 1 (.seq (.ops [⟨(some 15), (.mov (.tmp 13)), none, []⟩, ⟨(some 5), (.mov (.tmp 15)), none, []⟩]) (.seq (.ops [⟨(some 16), (.mov (.tmp 0)), none, []⟩, ⟨(some 17), (.mov (.tmp 5)), none, []⟩, ⟨(some 18), (.iAddrSl 5 (.tmp 16) (.tmp 17)), none, []⟩, ⟨(some 20), (.mov (.tmp 1)), none, []⟩, ⟨(some 21), (.mov (.tmp 5)), none, []⟩, ⟨(some 22), (.iAddrSl 5 (.tmp 20) (.tmp 21)), none, []⟩, ⟨(some 19), (.loadN 5 (.tmp 18)), none, []⟩, ⟨(some 23), (.loadN 5 (.tmp 22)), none, []⟩, ⟨(some 24), (.eqs true 5 [(0, 1), (1, 1), (2, 1), (3, 1), (4, 2)] (.tmp 19) (.tmp 23)), none, []⟩]) (.cond (.tmp 24) (.seq (.ops [⟨(some 4), (.mov (.const (.bool false))), none, []⟩]) .ret) .skip)))) (.ops [⟨(some 25), (.bin .add (.tmp 13) (.const (.int .i64 1))), none, []⟩, ⟨(some 13), (.mov (.tmp 25)), none, []⟩]))))))) (.seq (.ops [⟨(some 4), (.mov (.const (.bool true))), none, []⟩]) .ret)))) [(.tmp 4)])
def g63 : AFunc := (.code 32 (.seq (.ops [⟨(some 6), (.mov (.const (.bool false))), none, []⟩]) (.seq (.seq (.ops [⟨(some 10), (.mov (.tmp 0)), none, []⟩, ⟨(some 11), (.lenSl (.tmp 10)), none, []⟩, ⟨(some 12), (.mov (.tmp 1)), none, []⟩, ⟨(some 13), (.lenSl (.tmp 12)), none, []⟩, ⟨(some 14), (.bin .neq (.tmp 11) (.tmp 13)), none, []⟩]) (.cond (.tmp 14) (.seq (.ops [⟨(some 6), (.mov (.const (.bool false))), none, []⟩]) .ret) .skip)) (.seq (.seq (.ops [⟨(some 15), (.mov (.tmp 0)), none, []⟩, ⟨(some 16), (.lenSl (.tmp 15)), none, []⟩, ⟨(some 17), (.mov (.const (.int .i64 0))), none, []⟩]) (.block 0 (.loop (.seq (.ops [⟨(some 18), (.bin .lss (.tmp 17) (.tmp 16)), none, []⟩]) (.seq (.cond (.tmp 18) .skip (.exit 0)) (.seq (.block 1 (.seq (.ops [⟨(some 19), (.mov (.tmp 17)), none, []⟩, ⟨(some 20), (.iAddrSl 3 (.tmp 15) (.tmp 17)), none, []⟩, ⟨(some 21), (.loadN 3 (.tmp 20)), none, []⟩, ⟨(some 8), (.alloc [(.string (bs [])), (.slice none 0 0), (.slice none 0 0)]), none, []⟩, ⟨(some 7), (.mov (.tmp 19)), none, []⟩, ⟨none, (.store 3 (.tmp 8) (.tmp 21)), none, []⟩]) (.seq (.ops [⟨(some 22), (.mov (.tmp 1)), none, []⟩, ⟨(some 23), (.mov (.tmp 7)), none, []⟩, ⟨(some 24), (.iAddrSl 3 (.tmp 22) (.tmp 23)), none, []⟩, ⟨(some 25), (.loadN 3 (.tmp 24)), none, []⟩, ⟨(some 9), (.alloc [(.string (bs [])), (.slice none 0 0), (.slice none 0 0)]), none, []⟩, ⟨none, (.store 3 (.tmp 9) (.tmp 25)), none, []⟩]) (.seq (.ops [⟨(some 26), (.mov (.tmp 2)), none, []⟩, ⟨(some 27), (.loadN 3 (.tmp 8)), none, []⟩, ⟨(some 28), (.loadN 3 (.tmp 9)), none, []⟩, ⟨(some 29), (.callv (.tmp 26) [(.tmp 27), (.tmp 28)]), none, []⟩, ⟨(some 30), (.un .not (.tmp 29)), none, []⟩]) (.cond (.tmp 30) (.seq (.ops [⟨(some 6), (.mov (.const (.bool false))), none, []⟩]) .ret) .skip))))) (.ops [⟨(some 31), (.bin .add (.tmp 17) (.const (.int .i64 1))), none, []⟩, ⟨(some 17), (.mov (.tmp 31)), none, []⟩]))))))) (.seq (.ops [⟨(some 6), (.mov (.const (.bool true))), none, []⟩]) .ret)))) [(.tmp 6)])
def g64 : AFunc := (.code 24 (.seq (.ops [⟨(some 2), (.box (.tmp 0)), none, []⟩, ⟨(some 3), (.box (.tmp 1)), none, []⟩, ⟨(some 4), (.mov (.const (.bool false))), none, []⟩]) (.seq (.ops [⟨(some 5), (.fAddr 0 (.tmp 2)), none, []⟩, ⟨(some 6), (.load1 (.tmp 5)), none, []⟩, ⟨(some 7), (.fAddr 0 (.tmp 3)), none, []⟩, ⟨(some 8), (.load1 (.tmp 7)), none, []⟩, ⟨(some 9), (.bin .eql (.tmp 6) (.tmp 8)), none, []⟩, ⟨(some 10), (.mov (.tmp 9)), none, []⟩, ⟨(some 11), (.fAddr 1 (.tmp 2)), (some (10, true)), []⟩, ⟨(some 12), (.load1 (.tmp 11)), (some (10, true)), []⟩, ⟨(some 13), (.fAddr 1 (.tmp 3)), (some (10, true)), []⟩, ⟨(some 14), (.load1 (.tmp 13)), (some (10, true)), []⟩, ⟨(some 15), (.callv (.func 57) [(.tmp 12), (.tmp 14)]), (some (10, true)), []⟩, ⟨(some 16), (.pick (.tmp 10) (.tmp 15) (.const (.bool false))), none, []⟩, ⟨(some 17), (.mov (.tmp 16)), none, []⟩, ⟨(some 18), (.fAddr 2 (.tmp 2)), (some (17, true)), []⟩, ⟨(some 19), (.load1 (.tmp 18)), (some (17, true)), []⟩, ⟨(some 20), (.fAddr 2 (.tmp 3)), (some (17, true)), []⟩, ⟨(some 21), (.load1 (.tmp 20)), (some (17, true)), []⟩, ⟨(some 22), (.callv (.func 65) [(.tmp 19), (.tmp 21)]), (some (17, true)), []⟩, ⟨(some 23), (.pick (.tmp 17) (.tmp 22) (.const (.bool false))), none, []⟩, ⟨(some 4), (.mov (.tmp 23)), none, []⟩]) .ret)) [(.tmp 4)])
def g65 : AFunc := (.code 26 (.seq (.ops [⟨(some 4), (.mov (.const (.bool false))), none, []⟩]) (.seq (.seq (.ops [⟨(some 6), (.mov (.tmp 0)), none, []⟩, ⟨(some 7), (.lenSl (.tmp 6)), none, []⟩, ⟨(some 8), (.mov (.tmp 1)), none, []⟩, ⟨(some 9), (.lenSl (.tmp 8)), none, []⟩, ⟨(some 10), (.bin .neq (.tmp 7) (.tmp 9)), none, []⟩]) (.cond (.tmp 10) (.seq (.ops [⟨(some 4), (.mov (.const (.bool false))), none, []⟩]) .ret) .skip)) (.seq (.seq (.ops [⟨(some 11), (.mov (.tmp 0)), none, []⟩, ⟨(some 12), (.lenSl (.tmp 11)), none, []⟩, ⟨(some 13), (.mov (.const (.int .i64 0))), none, []⟩]) (.block 0 (.loop (.seq (.ops [⟨(some 14), (.bin .lss (.tmp 13) (.tmp 12)), none, []⟩]) (.seq (.cond (.tmp 14) .skip (.exit 0)) (.seq (.block 1 (.seq (.ops [⟨(some 15), (.mov (.tmp 13)), none, []⟩, ⟨(some 5), (.mov (.tmp 15)), none, []⟩]) (.seq (.ops [⟨(some 16), (.mov (.tmp 0)), none, []⟩, ⟨(some 17), (.mov (.tmp 5)), none, []⟩, ⟨(some 18), (.iAddrSl 12 (.tmp 16) (.tmp 17)), none, []⟩, ⟨(some 20), (.mov (.tmp 1)), none, []⟩, ⟨(some 21), (.mov (.tmp 5)), none, []⟩, ⟨(some 22), (.iAddrSl 12 (.tmp 20) (.tmp 21)), none, []⟩, ⟨(some 19), (.loadN 12 (.tmp 18)), none, []⟩, ⟨(some 23), (.loadN 12 (.tmp 22)), none, []⟩, ⟨(some 24), (.eqs true 12 [(0, 1), (1, 2), (2, 2), (3, 1), (4, 2), (5, 2), (6, 1), (7, 1), (8, 2), (9, 2), (10, 1), (11, 1)] (.tmp 19) (.tmp 23)), none, []⟩]) (.cond (.tmp 24) (.seq (.ops [⟨(some 4), (.mov (.const (.bool false))), none, []⟩]) .ret) .skip)))) (.ops [⟨(some 25), (.bin .add (.tmp 13) (.const (.int .i64 1))), none, []⟩, ⟨(some 13), (.mov (.tmp 25)), none, []⟩]))))))) (.seq (.ops [⟨(some 4), (.mov (.const (.bool true))), none, []⟩]) .ret)))) [(.tmp 4)])
def g66 : AFunc := (.code 32 (.seq (.ops [⟨(some 6), (.mov (.const (.bool false))), none, []⟩]) (.seq (.seq (.ops [⟨(some 10), (.mov (.tmp 0)), none, []⟩, ⟨(some 11), (.lenSl (.tmp 10)), none, []⟩, ⟨(some 12), (.mov (.tmp 1)), none, []⟩, ⟨(some 13), (.lenSl (.tmp 12)), none, []⟩, ⟨(some 14), (.bin .neq (.tmp 11) (.tmp 13)), none, []⟩]) (.cond (.tmp 14) (.seq (.ops [⟨(some 6), (.mov (.const (.bool false))), none, []⟩]) .ret) .skip)) (.seq (.seq (.ops [⟨(some 15), (.mov (.tmp 0)), none, []⟩, ⟨(some 16), (.lenSl (.tmp 15)), none, []⟩, ⟨(some 17), (.mov (.const (.int .i64 0))), none, []⟩]) (.block 0 (.loop (.seq (.ops [⟨(some 18), (.bin .lss (.tmp 17) (.tmp 16)), none, []⟩]) (.seq (.cond (.tmp 18) .skip (.exit 0)) (.seq (.block 1 (.seq (.ops [⟨(some 19), (.mov (.tmp 17)), none, []⟩, ⟨(some 20), (.iAddrSl 7 (.tmp 15) (.tmp 17)), none, []⟩, ⟨(some 21), (.loadN 7 (.tmp 20)), none, []⟩, ⟨(some 8), (.alloc [(.string (bs [])), (.slice none 0 0), (.slice none 0 0), (.int .i64 0), (.string (bs [])), (.slice none 0 0), (.bool false)]), none, []⟩, ⟨(some 7), (.mov (.tmp 19)), none, []⟩, ⟨none, (.store 7 (.tmp 8) (.tmp 21)), none, []⟩]) (.seq (.ops [⟨(some 22), (.mov (.tmp 1)), none, []⟩, ⟨(some 23), (.mov (.tmp 7)), none, []⟩, ⟨(some 24), (.iAddrSl 7 (.tmp 22) (.tmp 23)), none, []⟩, ⟨(some 25), (.loadN 7 (.tmp 24)), none, []⟩, ⟨(some 9), (.alloc [(.string (bs [])), (.slice none 0 0), (.slice none 0 0), (.int .i64 0), (.string (bs [])), (.slice none 0 0), (.bool false)]), none, []⟩, ⟨none, (.store 7 (.tmp 9) (.tmp 25)), none, []⟩]) (.seq (.ops [⟨(some 26), (.mov (.tmp 2)), none, []⟩, ⟨(some 27), (.loadN 7 (.tmp 8)), none, []⟩, ⟨(some 28), (.loadN 7 (.tmp 9)), none, []⟩, ⟨(some 29), (.callv (.tmp 26) [(.tmp 27), (.tmp 28)]), none, []⟩, ⟨(some 30), (.un .not (.tmp 29)), none, []⟩]) (.cond (.tmp 30) (.seq (.ops [⟨(some 6), (.mov (.const (.bool false))), none, []⟩]) .ret) .skip))))) (.ops [⟨(some 31), (.bin .add (.tmp 17) (.const (.int .i64 1))), none, []⟩, ⟨(some 17), (.mov (.tmp 31)), none, []⟩]))))))) (.seq (.ops [⟨(some 6), (.mov (.const (.bool true))), none, []⟩]) .ret)))) [(.tmp 6)])
def g67 : AFunc := (.code 56 (.seq (.ops [⟨(some 2), (.box (.tmp 0)), none, []⟩, ⟨(some 3), (.box (.tmp 1)), none, []⟩, ⟨(some 4), (.mov (.const (.bool false))), none, []⟩]) (.seq (.ops [⟨(some 5), (.fAddr 0 (.tmp 2)), none, []⟩, ⟨(some 6), (.load1 (.tmp 5)), none, []⟩, ⟨(some 7), (.fAddr 0 (.tmp 3)), none, []⟩, ⟨(some 8), (.load1 (.tmp 7)), none, []⟩, ⟨(some 9), (.bin .eql (.tmp 6) (.tmp 8)), none, []⟩, ⟨(some 10), (.mov (.tmp 9)), none, []⟩, ⟨(some 11), (.fAddr 3 (.tmp 2)), (some (10, true)), []⟩, ⟨(some 12), (.load1 (.tmp 11)), (some (10, true)), []⟩, ⟨(some 13), (.fAddr 3 (.tmp 3)), (some (10, true)), []⟩, ⟨(some 14), (.load1 (.tmp 13)), (some (10, true)), []⟩, ⟨(some 15), (.bin .eql (.tmp 12) (.tmp 14)), (some (10, true)), []⟩, ⟨(some 16), (.pick (.tmp 10) (.tmp 15) (.const (.bool false))), none, []⟩, ⟨(some 17), (.mov (.tmp 16)), none, []⟩, ⟨(some 18), (.fAddr 6 (.tmp 2)), (some (17, true)), []⟩, ⟨(some 19), (.load1 (.tmp 18)), (some (17, true)), []⟩, ⟨(some 20), (.fAddr 6 (.tmp 3)), (some (17, true)), []⟩, ⟨(some 21), (.load1 (.tmp 20)), (some (17, true)), []⟩, ⟨(some 22), (.eqb false (.tmp 19) (.tmp 21)), (some (17, true)), []⟩, ⟨(some 23), (.pick (.tmp 17) (.tmp 22) (.const (.bool false))), none, []⟩, ⟨(some 24), (.mov (.tmp 23)), none, []⟩, ⟨(some 25), (.fAddr 4 (.tmp 2)), (some (24, true)), []⟩, ⟨(some 26), (.fAddr 0 (.tmp 25)), (some (24, true)), []⟩, ⟨(some 27), (.load1 (.tmp 26)), (some (24, true)), []⟩, ⟨(some 28), (.fAddr 4 (.tmp 3)), (some (24, true)), []⟩, ⟨(some 29), (.fAddr 0 (.tmp 28)), (some (24, true)), []⟩, ⟨(some 30), (.load1 (.tmp 29)), (some (24, true)), []⟩, ⟨(some 31), (.bin .eql (.tmp 27) (.tmp 30)), (some (24, true)), []⟩, ⟨(some 32), (.pick (.tmp 24) (.tmp 31) (.const (.bool false))), none, []⟩, ⟨(some 33), (.mov (.tmp 32)), none, []⟩, ⟨(some 34), (.fAddr 1 (.tmp 2)), (some (33, true)), []⟩, ⟨(some 35), (.load1 (.tmp 34)), (some (33, true)), []⟩, ⟨(some 36), (.fAddr 1 (.tmp 3)), (some (33, true)), []⟩, ⟨(some 37), (.load1 (.tmp 36)), (some (33, true)), []⟩, ⟨(some 38), (.callv (.func 95) [(.tmp 35), (.tmp 37)]), (some (33, true)), []⟩, ⟨(some 39), (.pick (.tmp 33) (.tmp 38) (.const (.bool false))), none, []⟩, ⟨(some 40), (.mov (.tmp 39)), none, []⟩, ⟨(some 41), (.fAddr 2 (.tmp 2)), (some (40, true)), []⟩, ⟨(some 42), (.load1 (.tmp 41)), (some (40, true)), []⟩, ⟨(some 43), (.fAddr 2 (.tmp 3)), (some (40, true)), []⟩, ⟨(some 44), (.load1 (.tmp 43)), (some (40, true)), []⟩, ⟨(some 45), (.callv (.func 96) [(.tmp 42), (.tmp 44)]), (some (40, true)), []⟩, ⟨(some 46), (.pick (.tmp 40) (.tmp 45) (.const (.bool false))), none, []⟩, ⟨(some 47), (.mov (.tmp 46)), none, []⟩, ⟨(some 48), (.fAddr 4 (.tmp 2)), (some (47, true)), []⟩, ⟨(some 49), (.fAddr 1 (.tmp 48)), (some (47, true)), []⟩, ⟨(some 50), (.load1 (.tmp 49)), (some (47, true)), []⟩, ⟨(some 51), (.fAddr 4 (.tmp 3)), (some (47, true)), []⟩, ⟨(some 52), (.fAddr 1 (.tmp 51)), (some (47, true)), []⟩, ⟨(some 53), (.load1 (.tmp 52)), (some (47, true)), []⟩, ⟨(some 54), (.callv (.func 97) [(.tmp 50), (.tmp 53)]), (some (47, true)), []⟩, ⟨(some 55), (.pick (.tmp 47) (.tmp 54) (.const (.bool false))), none, []⟩, ⟨(some 4), (.mov (.tmp 55)), none, []⟩]) .ret)) [(.tmp 4)])
def g68 : AFunc := (.code 8 (.seq (.ops [⟨(some 4), (.mov (.const (.bool false))), none, []⟩]) (.seq (.ops [⟨(some 5), (.mov (.tmp 0)), none, []⟩, ⟨(some 6), (.mov (.tmp 1)), none, []⟩, ⟨(some 7), (.callv (.func 98) [(.tmp 5), (.tmp 6), (.func 99)]), none, []⟩, ⟨(some 4), (.mov (.tmp 7)), none, []⟩]) .ret)) [(.tmp 4)])
def g69 : AFunc := (.code 8 (.seq (.ops [⟨(some 2), (.mov (.const (.slice none 0 0))), none, []⟩]) (.seq (.seq (.ops [⟨(some 3), (.mov (.tmp 0)), none, []⟩, ⟨(some 4), (.eqp 1 false (.tmp 3) (.const (.slice none 0 0))), none, []⟩]) (.cond (.tmp 4) (.seq (.ops [⟨(some 2), (.mov (.const (.slice none 0 0))), none, []⟩]) .ret) .skip)) (.seq (.ops [⟨(some 5), (.buildSlice 2 0 [] []), none, []⟩, ⟨(some 6), (.mov (.tmp 0)), none, []⟩, ⟨(some 7), (.append 2 40 (.tmp 5) (.tmp 6)), none, []⟩, ⟨(some 2), (.mov (.tmp 7)), none, []⟩]) .ret))) [(.tmp 2)])
def g70 : AFunc := (.code 8 (.seq (.ops [⟨(some 2), (.mov (.const (.slice none 0 0))), none, []⟩]) (.seq (.seq (.ops [⟨(some 3), (.mov (.tmp 0)), none, []⟩, ⟨(some 4), (.eqp 1 false (.tmp 3) (.const (.slice none 0 0))), none, []⟩]) (.cond (.tmp 4) (.seq (.ops [⟨(some 2), (.mov (.const (.slice none 0 0))), none, []⟩]) .ret) .skip)) (.seq (.ops [⟨(some 5), (.buildSlice 6 0 [] []), none, []⟩, ⟨(some 6), (.mov (.tmp 0)), none, []⟩, ⟨(some 7), (.append 6 104 (.tmp 5) (.tmp 6)), none, []⟩, ⟨(some 2), (.mov (.tmp 7)), none, []⟩]) .ret))) [(.tmp 2)])
def g71 : AFunc := (.code 8 (.seq (.ops [⟨(some 2), (.mov (.const (.slice none 0 0))), none, []⟩]) (.seq (.seq (.ops [⟨(some 3), (.mov (.tmp 0)), none, []⟩, ⟨(some 4), (.eqp 1 false (.tmp 3) (.const (.slice none 0 0))), none, []⟩]) (.cond (.tmp 4) (.seq (.ops [⟨(some 2), (.mov (.const (.slice none 0 0))), none, []⟩]) .ret) .skip)) (.seq (.ops [⟨(some 5), (.buildSlice 5 0 [] []), none, []⟩, ⟨(some 6), (.mov (.tmp 0)), none, []⟩, ⟨(some 7), (.append 5 48 (.tmp 5) (.tmp 6)), none, []⟩, ⟨(some 2), (.mov (.tmp 7)), none, []⟩]) .ret))) [(.tmp 2)])
def g72 : AFunc := (.code 8 (.seq (.ops [⟨(some 2), (.mov (.const (.slice none 0 0))), none, []⟩]) (.seq (.seq (.ops [⟨(some 3), (.mov (.tmp 0)), none, []⟩, ⟨(some 4), (.eqp 1 false (.tmp 3) (.const (.slice none 0 0))), none, []⟩]) (.cond (.tmp 4) (.seq (.ops [⟨(some 2), (.mov (.const (.slice none 0 0))), none, []⟩]) .ret) .skip)) (.seq (.ops [⟨(some 5), (.buildSlice 3 0 [] []), none, []⟩, ⟨(some 6), (.mov (.tmp 0)), none, []⟩, ⟨(some 7), (.append 3 64 (.tmp 5) (.tmp 6)), none, []⟩, ⟨(some 2), (.mov (.tmp 7)), none, []⟩]) .ret))) [(.tmp 2)])
def g73 : AFunc := (.code 12 (.seq (.ops [⟨(some 1), (.box (.tmp 0)), none, []⟩, ⟨(some 2), (.alloc [(.string (bs [])), (.slice none 0 0), (.slice none 0 0)]), none, []⟩]) (.seq (.ops [⟨(some 3), (.fAddr 1 (.tmp 1)), none, []⟩, ⟨(some 4), (.load1 (.tmp 3)), none, []⟩, ⟨(some 5), (.callv (.func 43) [(.tmp 4)]), none, []⟩, ⟨(some 6), (.fAddr 1 (.tmp 1)), none, []⟩, ⟨none, (.store 1 (.tmp 6) (.tmp 5)), none, []⟩]) (.seq (.ops [⟨(some 7), (.fAddr 2 (.tmp 1)), none, []⟩, ⟨(some 8), (.load1 (.tmp 7)), none, []⟩, ⟨(some 9), (.callv (.func 100) [(.tmp 8)]), none, []⟩, ⟨(some 10), (.fAddr 2 (.tmp 1)), none, []⟩, ⟨none, (.store 1 (.tmp 10) (.tmp 9)), none, []⟩]) (.seq (.ops [⟨(some 11), (.loadN 3 (.tmp 1)), none, []⟩, ⟨none, (.store 3 (.tmp 2) (.tmp 11)), none, []⟩]) .ret)))) [(.cellN 2 3)])
def g74 : AFunc := (.code 8 (.seq (.ops [⟨(some 2), (.mov (.const (.slice none 0 0))), none, []⟩]) (.seq (.seq (.ops [⟨(some 3), (.mov (.tmp 0)), none, []⟩, ⟨(some 4), (.eqp 1 false (.tmp 3) (.const (.slice none 0 0))), none, []⟩]) (.cond (.tmp 4) (.seq (.ops [⟨(some 2), (.mov (.const (.slice none 0 0))), none, []⟩]) .ret) .skip)) (.seq (.ops [⟨(some 5), (.buildSlice 7 0 [] []), none, []⟩, ⟨(some 6), (.mov (.tmp 0)), none, []⟩, ⟨(some 7), (.append 7 120 (.tmp 5) (.tmp 6)), none, []⟩, ⟨(some 2), (.mov (.tmp 7)), none, []⟩]) .ret))) [(.tmp 2)])
def g75 : AFunc := (.code 33 (.seq (.ops [⟨(some 2), (.mov (.const (.slice none 0 0))), none, []⟩]) (.seq (.ops [⟨(some 4), (.mov (.tmp 0)), none, []⟩, ⟨(some 5), (.callv (.func 101) [(.tmp 4)]), none, []⟩, ⟨(some 0), (.mov (.tmp 5)), none, []⟩]) (.seq (.seq (.ops [⟨(some 6), (.mov (.tmp 0)), none, []⟩, ⟨(some 7), (.lenSl (.tmp 6)), none, []⟩, ⟨(some 8), (.mov (.const (.int .i64 0))), none, []⟩]) (.block 0 (.loop (.seq (.ops [⟨(some 9), (.bin .lss (.tmp 8) (.tmp 7)), none, []⟩]) (.seq (.cond (.tmp 9) .skip (.exit 0)) (.seq (.block 1 (.seq (.ops [⟨(some 10), (.mov (.tmp 8)), none, []⟩, ⟨(some 3), (.mov (.tmp 10)), none, []⟩]) (.seq (.ops [⟨(some 11), (.mov (.tmp 0)), none, []⟩, ⟨(some 12), (.mov (.tmp 3)), none, []⟩, ⟨(some 13), (.mov (.tmp 0)), none, []⟩, ⟨(some 14), (.mov (.tmp 3)), none, []⟩, ⟨(some 15), (.iAddrSl 13 (.tmp 13) (.tmp 14)), none, []⟩, ⟨(some 16), (.fAddr 11 (.tmp 15)), none, []⟩, ⟨(some 17), (.load1 (.tmp 16)), none, []⟩, ⟨(some 18), (.callv (.func 75) [(.tmp 17)]), none, []⟩, ⟨(some 19), (.iAddrSl 13 (.tmp 11) (.tmp 12)), none, []⟩, ⟨(some 20), (.fAddr 11 (.tmp 19)), none, []⟩, ⟨none, (.store 1 (.tmp 20) (.tmp 18)), none, []⟩]) (.ops [⟨(some 21), (.mov (.tmp 0)), none, []⟩, ⟨(some 22), (.mov (.tmp 3)), none, []⟩, ⟨(some 23), (.mov (.tmp 0)), none, []⟩, ⟨(some 24), (.mov (.tmp 3)), none, []⟩, ⟨(some 25), (.iAddrSl 13 (.tmp 23) (.tmp 24)), none, []⟩, ⟨(some 26), (.fAddr 12 (.tmp 25)), none, []⟩, ⟨(some 27), (.load1 (.tmp 26)), none, []⟩, ⟨(some 28), (.callv (.func 75) [(.tmp 27)]), none, []⟩, ⟨(some 29), (.iAddrSl 13 (.tmp 21) (.tmp 22)), none, []⟩, ⟨(some 30), (.fAddr 12 (.tmp 29)), none, []⟩, ⟨none, (.store 1 (.tmp 30) (.tmp 28)), none, []⟩])))) (.ops [⟨(some 31), (.bin .add (.tmp 8) (.const (.int .i64 1))), none, []⟩, ⟨(some 8), (.mov (.tmp 31)), none, []⟩]))))))) (.seq (.ops [⟨(some 32), (.mov (.tmp 0)), none, []⟩, ⟨(some 2), (.mov (.tmp 32)), none, []⟩]) .ret)))) [(.tmp 2)])
def g76 : AFunc := (.code 16 (.seq (.ops [⟨(some 4), (.box (.tmp 0)), none, []⟩, ⟨(some 6), (.mov (.const (.bool false))), none, []⟩]) (.seq (.ops [⟨(some 7), (.load1 (.tmp 2)), none, []⟩, ⟨(some 8), (.bin .add (.tmp 7) (.const (.int .i64 1))), none, []⟩, ⟨none, (.store 1 (.tmp 2) (.tmp 8)), none, []⟩]) (.seq (.ops [⟨(some 9), (.load1 (.tmp 3)), none, []⟩, ⟨(some 10), (.mov (.tmp 9)), none, []⟩, ⟨(some 11), (.mov (.tmp 1)), (some (10, false)), []⟩, ⟨(some 12), (.bin .gtr (.tmp 11) (.const (.int .i64 8))), (some (10, false)), []⟩, ⟨(some 13), (.pick (.tmp 10) (.const (.bool true)) (.tmp 12)), none, []⟩, ⟨none, (.store 1 (.tmp 3) (.tmp 13)), none, []⟩]) (.seq (.ops [⟨(some 14), (.load1 (.tmp 2)), none, []⟩, ⟨(some 15), (.bin .leq (.tmp 14) (.const (.int .i64 128))), none, []⟩, ⟨(some 6), (.mov (.tmp 15)), none, []⟩]) .ret)))) [(.tmp 6)])
def g77 : AFunc := (.code 19 (.seq (.ops [⟨(some 4), (.mov (.const (.int .i64 0))), none, []⟩]) (.seq (.seq (.ops [⟨(some 6), (.mov (.tmp 0)), none, []⟩, ⟨(some 7), (.lenSl (.tmp 6)), none, []⟩, ⟨(some 8), (.mov (.const (.int .i64 0))), none, []⟩]) (.block 0 (.loop (.seq (.ops [⟨(some 9), (.bin .lss (.tmp 8) (.tmp 7)), none, []⟩]) (.seq (.cond (.tmp 9) .skip (.exit 0)) (.seq (.block 1 (.seq (.ops [⟨(some 10), (.mov (.tmp 8)), none, []⟩, ⟨(some 5), (.mov (.tmp 10)), none, []⟩]) (.seq (.ops [⟨(some 11), (.mov (.tmp 1)), none, []⟩, ⟨(some 12), (.mov (.tmp 0)), none, []⟩, ⟨(some 13), (.mov (.tmp 5)), none, []⟩, ⟨(some 14), (.iAddrSl 1 (.tmp 12) (.tmp 13)), none, []⟩, ⟨(some 15), (.load1 (.tmp 14)), none, []⟩, ⟨(some 16), (.bin .eql (.tmp 11) (.tmp 15)), none, []⟩]) (.cond (.tmp 16) (.seq (.ops [⟨(some 17), (.mov (.tmp 5)), none, []⟩, ⟨(some 4), (.mov (.tmp 17)), none, []⟩]) .ret) .skip)))) (.ops [⟨(some 18), (.bin .add (.tmp 8) (.const (.int .i64 1))), none, []⟩, ⟨(some 8), (.mov (.tmp 18)), none, []⟩]))))))) (.seq (.ops [⟨(some 4), (.mov (.const (.int .i64 (-1)))), none, []⟩]) .ret))) [(.tmp 4)])
def g78 : AFunc := (.code 47 (.seq (.ops [⟨(some 6), (.mov (.const (.slice none 0 0))), none, []⟩]) (.seq (.seq (.ops [⟨(some 7), (.mov (.const (.int .i64 0))), none, []⟩]) (.block 0 (.loop (.seq (.seq (.ops [⟨(some 8), (.mov (.tmp 7)), none, []⟩, ⟨(some 9), (.mov (.tmp 1)), none, []⟩, ⟨(some 10), (.lenSl (.tmp 9)), none, []⟩, ⟨(some 11), (.bin .lss (.tmp 8) (.tmp 10)), none, []⟩, ⟨(some 12), (.mov (.tmp 11)), none, []⟩, ⟨(some 13), (.mov (.tmp 0)), (some (12, true)), []⟩, ⟨(some 14), (.lenSl (.tmp 13)), (some (12, true)), []⟩, ⟨(some 15), (.bin .leq (.tmp 14) (.const (.int .i64 128))), (some (12, true)), []⟩, ⟨(some 16), (.pick (.tmp 12) (.tmp 15) (.const (.bool false))), none, []⟩]) (.cond (.tmp 16) .skip (.exit 0))) (.seq (.block 1 (.seq (.ops [⟨(some 19), (.mov (.tmp 0)), none, []⟩, ⟨(some 20), (.mov (.tmp 1)), none, []⟩, ⟨(some 21), (.mov (.tmp 7)), none, []⟩, ⟨(some 22), (.iAddrSl 13 (.tmp 20) (.tmp 21)), none, []⟩, ⟨(some 23), (.loadN 13 (.tmp 22)), none, []⟩, ⟨(some 24), (.mov (.tmp 2)), none, []⟩, ⟨(some 25), (.build [(.int .i64 0), (.string (bs [])), (.int .i64 0), (.string (bs [])), (.string (bs [])), (.int .u64 0), (.int .u64 0), (.string (bs [])), (.string (bs [])), (.int .u64 0), (.int .u64 0), (.slice none 0 0), (.slice none 0 0), (.int .i64 0)] [(0, (13, (.tmp 23))), (13, (1, (.tmp 24)))]), none, []⟩, ⟨(some 26), (.buildSlice 14 1 [(.int .i64 0), (.string (bs [])), (.int .i64 0), (.string (bs [])), (.string (bs [])), (.int .u64 0), (.int .u64 0), (.string (bs [])), (.string (bs [])), (.int .u64 0), (.int .u64 0), (.slice none 0 0), (.slice none 0 0), (.int .i64 0)] [(0, (14, (.tmp 25)))]), none, []⟩, ⟨(some 27), (.append 14 184 (.tmp 19) (.tmp 26)), none, []⟩, ⟨(some 0), (.mov (.tmp 27)), none, []⟩]) (.seq (.ops [⟨(some 28), (.mov (.tmp 0)), none, []⟩, ⟨(some 29), (.mov (.tmp 1)), none, []⟩, ⟨(some 30), (.mov (.tmp 7)), none, []⟩, ⟨(some 31), (.iAddrSl 13 (.tmp 29) (.tmp 30)), none, []⟩, ⟨(some 32), (.fAddr 11 (.tmp 31)), none, []⟩, ⟨(some 33), (.load1 (.tmp 32)), none, []⟩, ⟨(some 34), (.mov (.tmp 2)), none, []⟩, ⟨(some 35), (.bin .add (.tmp 34) (.const (.int .i64 1))), none, []⟩, ⟨(some 36), (.callv (.func 78) [(.tmp 28), (.tmp 33), (.tmp 35)]), none, []⟩, ⟨(some 0), (.mov (.tmp 36)), none, []⟩]) (.ops [⟨(some 37), (.mov (.tmp 0)), none, []⟩, ⟨(some 38), (.mov (.tmp 1)), none, []⟩, ⟨(some 39), (.mov (.tmp 7)), none, []⟩, ⟨(some 40), (.iAddrSl 13 (.tmp 38) (.tmp 39)), none, []⟩, ⟨(some 41), (.fAddr 12 (.tmp 40)), none, []⟩, ⟨(some 42), (.load1 (.tmp 41)), none, []⟩, ⟨(some 43), (.mov (.tmp 2)), none, []⟩, ⟨(some 44), (.bin .add (.tmp 43) (.const (.int .i64 1))), none, []⟩, ⟨(some 45), (.callv (.func 78) [(.tmp 37), (.tmp 42), (.tmp 44)]), none, []⟩, ⟨(some 0), (.mov (.tmp 45)), none, []⟩])))) (.ops [⟨(some 17), (.mov (.tmp 7)), none, []⟩, ⟨(some 18), (.bin .add (.tmp 17) (.const (.int .i64 1))), none, []⟩, ⟨(some 7), (.mov (.tmp 18)), none, []⟩])))))) (.seq (.ops [⟨(some 46), (.mov (.tmp 0)), none, []⟩, ⟨(some 6), (.mov (.tmp 46)), none, []⟩]) .ret))) [(.tmp 6)])
def g79 : AFunc := (.code 8 (.seq (.ops [⟨(some 4), (.mov (.const (.int .i64 0))), none, []⟩]) (.seq (.ops [⟨(some 5), (.mov (.tmp 0)), none, []⟩, ⟨(some 6), (.mov (.tmp 1)), none, []⟩, ⟨(some 7), (.callv (.func 102) [(.tmp 5), (.tmp 6)]), none, []⟩, ⟨(some 4), (.mov (.tmp 7)), none, []⟩]) .ret)) [(.tmp 4)])
def g80 : AFunc := (.code 8 (.seq (.ops [⟨(some 2), (.box (.tmp 0)), none, []⟩, ⟨(some 3), (.mov (.const (.bool false))), none, []⟩]) (.seq (.ops [⟨(some 4), (.fAddr 0 (.tmp 2)), none, []⟩, ⟨(some 5), (.load1 (.tmp 4)), none, []⟩, ⟨(some 6), (.load1 (.tmp 1)), none, []⟩, ⟨(some 7), (.bin .eql (.tmp 5) (.tmp 6)), none, []⟩, ⟨(some 3), (.mov (.tmp 7)), none, []⟩]) .ret)) [(.tmp 3)])
def g81 : AFunc := (.code 8 (.seq (.ops [⟨(some 2), (.mov (.const (.slice none 0 0))), none, []⟩]) (.seq (.seq (.ops [⟨(some 3), (.mov (.tmp 0)), none, []⟩, ⟨(some 4), (.eqp 1 false (.tmp 3) (.const (.slice none 0 0))), none, []⟩]) (.cond (.tmp 4) (.seq (.ops [⟨(some 2), (.mov (.const (.slice none 0 0))), none, []⟩]) .ret) .skip)) (.seq (.ops [⟨(some 5), (.buildSlice 3 0 [] []), none, []⟩, ⟨(some 6), (.mov (.tmp 0)), none, []⟩, ⟨(some 7), (.append 3 40 (.tmp 5) (.tmp 6)), none, []⟩, ⟨(some 2), (.mov (.tmp 7)), none, []⟩]) .ret))) [(.tmp 2)])
def g82 : AFunc := (.code 8 (.seq (.ops [⟨(some 2), (.mov (.const (.slice none 0 0))), none, []⟩]) (.seq (.seq (.ops [⟨(some 3), (.mov (.tmp 0)), none, []⟩, ⟨(some 4), (.eqp 1 false (.tmp 3) (.const (.slice none 0 0))), none, []⟩]) (.cond (.tmp 4) (.seq (.ops [⟨(some 2), (.mov (.const (.slice none 0 0))), none, []⟩]) .ret) .skip)) (.seq (.ops [⟨(some 5), (.buildSlice 1 0 [] []), none, []⟩, ⟨(some 6), (.mov (.tmp 0)), none, []⟩, ⟨(some 7), (.append 1 16 (.tmp 5) (.tmp 6)), none, []⟩, ⟨(some 2), (.mov (.tmp 7)), none, []⟩]) .ret))) [(.tmp 2)])
def g83 : AFunc := (.code 8 (.seq (.ops [⟨(some 2), (.mov (.const (.slice none 0 0))), none, []⟩]) (.seq (.seq (.ops [⟨(some 3), (.mov (.tmp 0)), none, []⟩, ⟨(some 4), (.eqp 1 false (.tmp 3) (.const (.slice none 0 0))), none, []⟩]) (.cond (.tmp 4) (.seq (.ops [⟨(some 2), (.mov (.const (.slice none 0 0))), none, []⟩]) .ret) .skip)) (.seq (.ops [⟨(some 5), (.buildSlice 2 0 [] []), none, []⟩, ⟨(some 6), (.mov (.tmp 0)), none, []⟩, ⟨(some 7), (.append 2 16 (.tmp 5) (.tmp 6)), none, []⟩, ⟨(some 2), (.mov (.tmp 7)), none, []⟩]) .ret))) [(.tmp 2)])
def g84 : AFunc := (.code 8 (.seq (.ops [⟨(some 4), (.mov (.const (.int .i64 0))), none, []⟩]) (.seq (.ops [⟨(some 5), (.mov (.tmp 0)), none, []⟩, ⟨(some 6), (.mov (.tmp 1)), none, []⟩, ⟨(some 7), (.callv (.func 103) [(.tmp 5), (.tmp 6)]), none, []⟩, ⟨(some 4), (.mov (.tmp 7)), none, []⟩]) .ret)) [(.tmp 4)])
def g85 : AFunc := (.code 8 (.seq (.ops [⟨(some 2), (.box (.tmp 0)), none, []⟩, ⟨(some 3), (.mov (.const (.bool false))), none, []⟩]) (.seq (.ops [⟨(some 4), (.fAddr 0 (.tmp 2)), none, []⟩, ⟨(some 5), (.load1 (.tmp 4)), none, []⟩, ⟨(some 6), (.load1 (.tmp 1)), none, []⟩, ⟨(some 7), (.bin .eql (.tmp 5) (.tmp 6)), none, []⟩, ⟨(some 3), (.mov (.tmp 7)), none, []⟩]) .ret)) [(.tmp 3)])
def g86 : AFunc := (.code 18 (.seq (.ops [⟨(some 6), (.mov (.tmp 0)), none, []⟩, ⟨(some 7), (.mov (.tmp 1)), none, []⟩, ⟨(some 8), (.callv (.func 9) [(.tmp 7)]), none, []⟩, ⟨(some 9), (.callv (.func 46) [(.tmp 6), (.tmp 8), (.const (.int .i64 70))]), none, []⟩]) (.seq (.ops [⟨(some 10), (.mov (.tmp 0)), none, []⟩, ⟨(some 11), (.mov (.tmp 2)), none, []⟩, ⟨(some 12), (.mov (.tmp 1)), none, []⟩, ⟨(some 13), (.lookup (.prim 2) (.int .i64 0) false (.tmp 11) (.tmp 12)), none, []⟩, ⟨(some 14), (.bin .eql (.tmp 13) (.const (.int .i64 0))), none, []⟩, ⟨(some 15), (.callv (.func 46) [(.tmp 10), (.tmp 14), (.const (.int .i64 71))]), none, []⟩]) (.ops [⟨(some 16), (.mov (.tmp 2)), none, []⟩, ⟨(some 17), (.mov (.tmp 1)), none, []⟩, ⟨none, (.mapUpd (.prim 2) (.tmp 16) (.tmp 17) (.const (.int .i64 1))), none, []⟩]))) [])
def g87 : AFunc := (.code 37 (.seq (.ops [⟨(some 2), (.box (.tmp 0)), none, []⟩, ⟨(some 4), (.mov (.const (.bool false))), none, []⟩]) (.seq (.seq (.ops [⟨(some 5), (.mov (.tmp 1)), none, []⟩, ⟨(some 6), (.bin .lss (.tmp 5) (.const (.int .i64 1))), none, []⟩, ⟨(some 7), (.mov (.tmp 6)), none, []⟩, ⟨(some 8), (.mov (.tmp 1)), (some (7, false)), []⟩, ⟨(some 9), (.bin .gtr (.tmp 8) (.const (.int .i64 128))), (some (7, false)), []⟩, ⟨(some 10), (.pick (.tmp 7) (.const (.bool true)) (.tmp 9)), none, []⟩]) (.cond (.tmp 10) (.seq (.ops [⟨(some 4), (.mov (.const (.bool false))), none, []⟩]) .ret) .skip)) (.seq (.seq (.ops [⟨(some 11), (.mov (.tmp 1)), none, []⟩, ⟨(some 12), (.bin .gtr (.tmp 11) (.const (.int .i64 64))), none, []⟩]) (.cond (.tmp 12) (.seq (.ops [⟨(some 13), (.mov (.tmp 1)), none, []⟩, ⟨(some 14), (.bin .eql (.tmp 13) (.const (.int .i64 128))), none, []⟩, ⟨(some 15), (.mov (.tmp 14)), none, []⟩, ⟨(some 16), (.fAddr 0 (.tmp 2)), (some (15, false)), []⟩, ⟨(some 18), (.mov (.tmp 1)), (some (15, false)), []⟩, ⟨(some 19), (.bin .sub (.tmp 18) (.const (.int .i64 64))), (some (15, false)), []⟩, ⟨(some 20), (.bin .shl (.const (.int .u64 1)) (.tmp 19)), (some (15, false)), []⟩, ⟨(some 17), (.load1 (.tmp 16)), (some (15, false)), []⟩, ⟨(some 21), (.bin .lss (.tmp 17) (.tmp 20)), (some (15, false)), []⟩, ⟨(some 22), (.pick (.tmp 15) (.const (.bool true)) (.tmp 21)), none, []⟩, ⟨(some 4), (.mov (.tmp 22)), none, []⟩]) .ret) .skip)) (.seq (.ops [⟨(some 23), (.fAddr 0 (.tmp 2)), none, []⟩, ⟨(some 24), (.load1 (.tmp 23)), none, []⟩, ⟨(some 25), (.bin .eql (.tmp 24) (.const (.int .u64 0))), none, []⟩, ⟨(some 26), (.mov (.tmp 25)), none, []⟩, ⟨(some 27), (.mov (.tmp 1)), (some (26, true)), []⟩, ⟨(some 28), (.bin .eql (.tmp 27) (.const (.int .i64 64))), (some (26, true)), []⟩, ⟨(some 29), (.mov (.tmp 28)), (some (26, true)), []⟩, ⟨(some 30), (.fAddr 1 (.tmp 2)), (some (29, false)), []⟩, ⟨(some 32), (.mov (.tmp 1)), (some (29, false)), []⟩, ⟨(some 33), (.bin .shl (.const (.int .u64 1)) (.tmp 32)), (some (29, false)), []⟩, ⟨(some 31), (.load1 (.tmp 30)), (some (29, false)), []⟩, ⟨(some 34), (.bin .lss (.tmp 31) (.tmp 33)), (some (29, false)), []⟩, ⟨(some 35), (.pick (.tmp 29) (.const (.bool true)) (.tmp 34)), (some (26, true)), []⟩, ⟨(some 36), (.pick (.tmp 26) (.tmp 35) (.const (.bool false))), none, []⟩, ⟨(some 4), (.mov (.tmp 36)), none, []⟩]) .ret)))) [(.tmp 4)])
def g88 : AFunc := (.code 130 (.seq (.ops [⟨(some 16), .mkMap, none, []⟩, ⟨(some 2), (.mov (.tmp 16)), none, []⟩]) (.seq (.seq (.ops [⟨(some 17), (.mov (.tmp 0)), none, []⟩, ⟨(some 18), (.nilChk (.tmp 17)), none, []⟩, ⟨(some 19), (.fAddr 0 (.tmp 18)), none, []⟩, ⟨(some 20), (.fAddr 2 (.tmp 19)), none, []⟩, ⟨(some 21), (.load1 (.tmp 20)), none, []⟩, ⟨(some 22), (.lenSl (.tmp 21)), none, []⟩, ⟨(some 23), (.mov (.const (.int .i64 0))), none, []⟩]) (.block 0 (.loop (.seq (.ops [⟨(some 24), (.bin .lss (.tmp 23) (.tmp 22)), none, []⟩]) (.seq (.cond (.tmp 24) .skip (.exit 0)) (.seq (.block 1 (.seq (.ops [⟨(some 25), (.mov (.tmp 23)), none, []⟩, ⟨(some 26), (.iAddrSl 6 (.tmp 21) (.tmp 23)), none, []⟩, ⟨(some 27), (.loadN 6 (.tmp 26)), none, []⟩, ⟨(some 4), (.alloc [(.string (bs [])), (.string (bs [])), (.string (bs [])), (.string (bs [])), (.slice none 0 0), (.string (bs []))]), none, []⟩, ⟨(some 3), (.mov (.tmp 25)), none, []⟩, ⟨none, (.store 6 (.tmp 4) (.tmp 27)), none, []⟩]) (.ops [⟨(some 28), (.mov (.tmp 2)), none, []⟩, ⟨(some 29), (.fAddr 0 (.tmp 4)), none, []⟩, ⟨(some 30), (.load1 (.tmp 29)), none, []⟩, ⟨(some 31), (.mov (.tmp 3)), none, []⟩, ⟨(some 32), (.bin .add (.tmp 31) (.const (.int .i64 1))), none, []⟩, ⟨none, (.mapUpd (.prim 2) (.tmp 28) (.tmp 30) (.tmp 32)), none, []⟩]))) (.ops [⟨(some 33), (.bin .add (.tmp 23) (.const (.int .i64 1))), none, []⟩, ⟨(some 23), (.mov (.tmp 33)), none, []⟩]))))))) (.seq (.ops [⟨(some 34), (.mov (.tmp 0)), none, []⟩, ⟨(some 35), (.nilChk (.tmp 34)), none, []⟩, ⟨(some 36), (.fAddr 0 (.tmp 35)), none, []⟩, ⟨(some 37), (.fAddr 2 (.tmp 36)), none, []⟩, ⟨(some 38), (.load1 (.tmp 37)), none, []⟩, ⟨(some 39), (.lenSl (.tmp 38)), none, []⟩, ⟨(some 40), (.mov (.const (.int .i64 0))), none, []⟩]) (.block 2 (.loop (.seq (.ops [⟨(some 41), (.bin .lss (.tmp 40) (.tmp 39)), none, []⟩]) (.seq (.cond (.tmp 41) .skip (.exit 2)) (.seq (.block 3 (.seq (.ops [⟨(some 42), (.mov (.tmp 40)), none, []⟩, ⟨(some 43), (.iAddrSl 6 (.tmp 38) (.tmp 40)), none, []⟩, ⟨(some 44), (.loadN 6 (.tmp 43)), none, []⟩, ⟨(some 6), (.alloc [(.string (bs [])), (.string (bs [])), (.string (bs [])), (.string (bs [])), (.slice none 0 0), (.string (bs []))]), none, []⟩, ⟨(some 5), (.mov (.tmp 42)), none, []⟩, ⟨none, (.store 6 (.tmp 6) (.tmp 44)), none, []⟩]) (.seq (.ops [⟨(some 45), (.mov (.tmp 0)), none, []⟩, ⟨(some 46), (.fAddr 0 (.tmp 6)), none, []⟩, ⟨(some 47), (.load1 (.tmp 46)), none, []⟩, ⟨(some 48), (.bin .add (.const (.string (bs [115, 116, 97, 116, 101, 32]))) (.tmp 47)), none, []⟩, ⟨(some 49), (.nilChk (.tmp 45)), none, []⟩, ⟨(some 50), (.fAddr 6 (.tmp 49)), none, []⟩, ⟨none, (.store 1 (.tmp 50) (.tmp 48)), none, []⟩]) (.seq (.ops [⟨(some 51), (.mov (.tmp 0)), none, []⟩, ⟨(some 52), (.nilChk (.tmp 51)), none, []⟩, ⟨(some 53), (.fAddr 0 (.tmp 52)), none, []⟩, ⟨(some 54), (.fAddr 2 (.tmp 53)), none, []⟩, ⟨(some 55), (.load1 (.tmp 54)), none, []⟩, ⟨(some 56), (.lenSl (.tmp 55)), none, []⟩, ⟨(some 57), (.mkSlice 1 1 [(.bool false)] (.tmp 56) (.tmp 56)), none, []⟩, ⟨(some 7), (.mov (.tmp 57)), none, []⟩]) (.seq (.ops [⟨(some 58), (.mov (.tmp 5)), none, []⟩, ⟨(some 59), (.buildSlice 1 1 [(.int .i64 0)] [(0, (1, (.tmp 58)))]), none, []⟩, ⟨(some 8), (.mov (.tmp 59)), none, []⟩]) (.block 4 (.loop (.seq (.seq (.ops [⟨(some 60), (.mov (.tmp 8)), none, []⟩, ⟨(some 61), (.lenSl (.tmp 60)), none, []⟩, ⟨(some 62), (.bin .gtr (.tmp 61) (.const (.int .i64 0))), none, []⟩]) (.cond (.tmp 62) .skip (.exit 4))) (.block 5 (.seq (.ops [⟨(some 63), (.mov (.tmp 0)), none, []⟩, ⟨(some 64), (.nilChk (.tmp 63)), none, []⟩, ⟨(some 65), (.fAddr 0 (.tmp 64)), none, []⟩, ⟨(some 66), (.fAddr 2 (.tmp 65)), none, []⟩, ⟨(some 68), (.mov (.tmp 8)), none, []⟩, ⟨(some 69), (.mov (.tmp 8)), none, []⟩, ⟨(some 70), (.lenSl (.tmp 69)), none, []⟩, ⟨(some 71), (.bin .sub (.tmp 70) (.const (.int .i64 1))), none, []⟩, ⟨(some 72), (.iAddrSl 1 (.tmp 68) (.tmp 71)), none, []⟩, ⟨(some 67), (.load1 (.tmp 66)), none, []⟩, ⟨(some 73), (.load1 (.tmp 72)), none, []⟩, ⟨(some 74), (.iAddrSl 6 (.tmp 67) (.tmp 73)), none, []⟩, ⟨(some 75), (.loadN 6 (.tmp 74)), none, []⟩, ⟨(some 9), (.alloc [(.string (bs [])), (.string (bs [])), (.string (bs [])), (.string (bs [])), (.slice none 0 0), (.string (bs []))]), none, []⟩, ⟨none, (.store 6 (.tmp 9) (.tmp 75)), none, []⟩]) (.seq (.ops [⟨(some 76), (.mov (.tmp 8)), none, []⟩, ⟨(some 77), (.mov (.tmp 8)), none, []⟩, ⟨(some 78), (.lenSl (.tmp 77)), none, []⟩, ⟨(some 79), (.bin .sub (.tmp 78) (.const (.int .i64 1))), none, []⟩, ⟨(some 80), (.slSl 1 (.tmp 76) none (some (.tmp 79))), none, []⟩, ⟨(some 8), (.mov (.tmp 80)), none, []⟩]) (.seq (.ops [⟨(some 81), (.fAddr 5 (.tmp 9)), none, []⟩, ⟨(some 82), (.load1 (.tmp 81)), none, []⟩, ⟨(some 83), (.buildSlice 1 1 [(.string (bs []))] [(0, (1, (.tmp 82)))]), none, []⟩, ⟨(some 10), (.mov (.tmp 83)), none, []⟩]) (.seq (.seq (.ops [⟨(some 84), (.fAddr 4 (.tmp 9)), none, []⟩, ⟨(some 85), (.load1 (.tmp 84)), none, []⟩, ⟨(some 86), (.lenSl (.tmp 85)), none, []⟩, ⟨(some 87), (.mov (.const (.int .i64 0))), none, []⟩]) (.block 6 (.loop (.seq (.ops [⟨(some 88), (.bin .lss (.tmp 87) (.tmp 86)), none, []⟩]) (.seq (.cond (.tmp 88) .skip (.exit 6)) (.seq (.block 7 (.seq (.ops [⟨(some 89), (.iAddrSl 5 (.tmp 85) (.tmp 87)), none, []⟩, ⟨(some 90), (.loadN 5 (.tmp 89)), none, []⟩, ⟨(some 12), (.alloc [(.int .u64 0), (.int .u64 0), (.int .u64 0), (.int .u64 0), (.string (bs []))]), none, []⟩, ⟨none, (.store 5 (.tmp 12) (.tmp 90)), none, []⟩]) (.ops [⟨(some 91), (.mov (.tmp 10)), none, []⟩, ⟨(some 92), (.fAddr 4 (.tmp 12)), none, []⟩, ⟨(some 93), (.load1 (.tmp 92)), none, []⟩, ⟨(some 94), (.buildSlice 1 1 [(.string (bs []))] [(0, (1, (.tmp 93)))]), none, []⟩, ⟨(some 95), (.append 1 16 (.tmp 91) (.tmp 94)), none, []⟩, ⟨(some 10), (.mov (.tmp 95)), none, []⟩]))) (.ops [⟨(some 96), (.bin .add (.tmp 87) (.const (.int .i64 1))), none, []⟩, ⟨(some 87), (.mov (.tmp 96)), none, []⟩]))))))) (.seq (.ops [⟨(some 97), (.mov (.tmp 10)), none, []⟩, ⟨(some 98), (.lenSl (.tmp 97)), none, []⟩, ⟨(some 99), (.mov (.const (.int .i64 0))), none, []⟩]) (.block 8 (.loop (.seq (.ops [⟨(some 100), (.bin .lss (.tmp 99) (.tmp 98)), none, []⟩]) (.seq (.cond (.tmp 100) .skip (.exit 8)) (.seq (.block 9 (.seq (.ops [⟨(some 101), (.iAddrSl 1 (.tmp 97) (.tmp 99)), none, []⟩, ⟨(some 102), (.load1 (.tmp 101)), none, []⟩, ⟨(some 14), (.mov (.tmp 102)), none, []⟩]) (.seq (.ops [⟨(some 103), (.mov (.tmp 2)), none, []⟩, ⟨(some 104), (.mov (.tmp 14)), none, []⟩, ⟨(some 105), (.lookup (.prim 2) (.int .i64 0) false (.tmp 103) (.tmp 104)), none, []⟩, ⟨(some 106), (.bin .sub (.tmp 105) (.const (.int .i64 1))), none, []⟩, ⟨(some 15), (.mov (.tmp 106)), none, []⟩]) (.seq (.ops [⟨(some 107), (.mov (.tmp 0)), none, []⟩, ⟨(some 108), (.mov (.tmp 15)), none, []⟩, ⟨(some 109), (.mov (.tmp 5)), none, []⟩, ⟨(some 110), (.bin .neq (.tmp 108) (.tmp 109)), none, []⟩, ⟨(some 111), (.callv (.func 46) [(.tmp 107), (.tmp 110), (.const (.int .i64 78))]), none, []⟩]) (.seq (.ops [⟨(some 112), (.mov (.tmp 15)), none, []⟩, ⟨(some 113), (.bin .geq (.tmp 112) (.const (.int .i64 0))), none, []⟩, ⟨(some 114), (.mov (.tmp 113)), none, []⟩, ⟨(some 115), (.mov (.tmp 7)), (some (114, true)), []⟩, ⟨(some 116), (.mov (.tmp 15)), (some (114, true)), []⟩, ⟨(some 117), (.iAddrSl 1 (.tmp 115) (.tmp 116)), (some (114, true)), []⟩, ⟨(some 118), (.load1 (.tmp 117)), (some (114, true)), []⟩, ⟨(some 119), (.un .not (.tmp 118)), (some (114, true)), []⟩, ⟨(some 120), (.pick (.tmp 114) (.tmp 119) (.const (.bool false))), none, []⟩]) (.cond (.tmp 120) (.seq (.ops [⟨(some 121), (.mov (.tmp 7)), none, []⟩, ⟨(some 122), (.mov (.tmp 15)), none, []⟩, ⟨(some 123), (.iAddrSl 1 (.tmp 121) (.tmp 122)), none, []⟩, ⟨none, (.store 1 (.tmp 123) (.const (.bool true))), none, []⟩]) (.ops [⟨(some 124), (.mov (.tmp 8)), none, []⟩, ⟨(some 125), (.mov (.tmp 15)), none, []⟩, ⟨(some 126), (.buildSlice 1 1 [(.int .i64 0)] [(0, (1, (.tmp 125)))]), none, []⟩, ⟨(some 127), (.append 1 8 (.tmp 124) (.tmp 126)), none, []⟩, ⟨(some 8), (.mov (.tmp 127)), none, []⟩])) .skip)))))) (.ops [⟨(some 128), (.bin .add (.tmp 99) (.const (.int .i64 1))), none, []⟩, ⟨(some 99), (.mov (.tmp 128)), none, []⟩])))))))))))))))))))) (.ops [⟨(some 129), (.bin .add (.tmp 40) (.const (.int .i64 1))), none, []⟩, ⟨(some 40), (.mov (.tmp 129)), none, []⟩]))))))))) [])
def g89 : AFunc := (.code 158 (.seq (.ops [⟨(some 5), (.box (.tmp 2)), none, []⟩]) (.seq (.ops [⟨(some 6), (.mov (.const (.bool false))), none, []⟩]) (.seq (.ops [⟨(some 7), (.alloc [(.string (bs [])), (.string (bs [])), (.int .u64 0), (.int .u64 0)]), none, []⟩]) (.seq (.seq (.ops [⟨(some 14), (.fAddr 0 (.tmp 5)), none, []⟩, ⟨(some 15), (.load1 (.tmp 14)), none, []⟩]) (.block 0 (.seq (.ops [⟨(some 17), (.bin .eql (.tmp 15) (.const (.int .i64 1))), none, []⟩, ⟨(some 16), (.mov (.tmp 17)), none, []⟩]) (.cond (.tmp 16) (.ops [⟨(some 18), (.fAddr 3 (.tmp 5)), none, []⟩, ⟨(some 19), (.load1 (.tmp 18)), none, []⟩, ⟨(some 20), (.bin .geq (.tmp 19) (.const (.int .i64 0))), none, []⟩, ⟨(some 21), (.mov (.tmp 20)), none, []⟩, ⟨(some 22), (.fAddr 3 (.tmp 5)), (some (21, true)), []⟩, ⟨(some 23), (.load1 (.tmp 22)), (some (21, true)), []⟩, ⟨(some 24), (.bin .leq (.tmp 23) (.const (.int .i64 5))), (some (21, true)), []⟩, ⟨(some 25), (.pick (.tmp 21) (.tmp 24) (.const (.bool false))), none, []⟩, ⟨(some 26), (.mov (.tmp 25)), none, []⟩, ⟨(some 27), (.fAddr 4 (.tmp 5)), (some (26, true)), []⟩, ⟨(some 28), (.loadN 4 (.tmp 27)), (some (26, true)), []⟩, ⟨(some 29), (.callv (.func 104) [(.tmp 28)]), (some (26, true)), []⟩, ⟨(some 30), (.pick (.tmp 26) (.tmp 29) (.const (.bool false))), none, []⟩, ⟨(some 31), (.mov (.tmp 30)), none, []⟩, ⟨(some 32), (.fAddr 8 (.tmp 5)), (some (31, true)), []⟩, ⟨(some 33), (.loadN 4 (.tmp 32)), (some (31, true)), []⟩, ⟨(some 34), (.callv (.func 104) [(.tmp 33)]), (some (31, true)), []⟩, ⟨(some 35), (.pick (.tmp 31) (.tmp 34) (.const (.bool false))), none, []⟩, ⟨(some 36), (.mov (.tmp 35)), none, []⟩, ⟨(some 37), (.fAddr 3 (.tmp 5)), (some (36, true)), []⟩, ⟨(some 38), (.load1 (.tmp 37)), (some (36, true)), []⟩, ⟨(some 39), (.bin .neq (.tmp 38) (.const (.int .i64 0))), (some (36, true)), []⟩, ⟨(some 40), (.mov (.tmp 39)), (some (36, true)), []⟩, ⟨(some 41), (.fAddr 8 (.tmp 5)), (some (40, false)), []⟩, ⟨(some 42), (.loadN 4 (.tmp 41)), (some (40, false)), []⟩, ⟨(some 43), (.loadN 4 (.tmp 7)), (some (40, false)), []⟩, ⟨(some 44), (.eqs false 4 [(0, 2), (1, 2), (2, 1), (3, 1)] (.tmp 42) (.tmp 43)), (some (40, false)), []⟩, ⟨(some 45), (.pick (.tmp 40) (.const (.bool true)) (.tmp 44)), (some (36, true)), []⟩, ⟨(some 46), (.pick (.tmp 36) (.tmp 45) (.const (.bool false))), none, []⟩, ⟨(some 6), (.mov (.tmp 46)), none, []⟩]) (.seq (.seq (.ops [⟨(some 48), (.bin .eql (.tmp 15) (.const (.int .i64 2))), none, []⟩, ⟨(some 47), (.mov (.tmp 48)), none, []⟩]) (.cond (.tmp 47) .skip (.ops [⟨(some 49), (.bin .eql (.tmp 15) (.const (.int .i64 6))), none, []⟩, ⟨(some 47), (.mov (.tmp 49)), none, []⟩]))) (.cond (.tmp 47) (.ops [⟨(some 50), (.loadN 12 (.tmp 5)), none, []⟩, ⟨(some 51), (.fAddr 0 (.tmp 5)), none, []⟩, ⟨(some 52), (.load1 (.tmp 51)), none, []⟩, ⟨(some 53), (.build [(.int .i64 0), (.string (bs [])), (.string (bs [])), (.int .i64 0), (.string (bs [])), (.string (bs [])), (.int .u64 0), (.int .u64 0), (.string (bs [])), (.string (bs [])), (.int .u64 0), (.int .u64 0)] [(0, (1, (.tmp 52)))]), none, []⟩, ⟨(some 54), (.eqs false 12 [(0, 1), (1, 2), (2, 2), (3, 1), (4, 2), (5, 2), (6, 1), (7, 1), (8, 2), (9, 2), (10, 1), (11, 1)] (.tmp 50) (.tmp 53)), none, []⟩, ⟨(some 6), (.mov (.tmp 54)), none, []⟩]) (.seq (.seq (.ops [⟨(some 56), (.bin .eql (.tmp 15) (.const (.int .i64 3))), none, []⟩, ⟨(some 55), (.mov (.tmp 56)), none, []⟩]) (.cond (.tmp 55) .skip (.ops [⟨(some 57), (.bin .eql (.tmp 15) (.const (.int .i64 4))), none, []⟩, ⟨(some 55), (.mov (.tmp 57)), none, []⟩]))) (.cond (.tmp 55) (.ops [⟨(some 58), (.loadN 12 (.tmp 5)), none, []⟩, ⟨(some 59), (.fAddr 0 (.tmp 5)), none, []⟩, ⟨(some 60), (.load1 (.tmp 59)), none, []⟩, ⟨(some 61), (.fAddr 1 (.tmp 5)), none, []⟩, ⟨(some 62), (.fAddr 0 (.tmp 61)), none, []⟩, ⟨(some 63), (.load1 (.tmp 62)), none, []⟩, ⟨(some 64), (.build [(.string (bs [])), (.string (bs []))] [(0, (1, (.tmp 63)))]), none, []⟩, ⟨(some 65), (.build [(.int .i64 0), (.string (bs [])), (.string (bs [])), (.int .i64 0), (.string (bs [])), (.string (bs [])), (.int .u64 0), (.int .u64 0), (.string (bs [])), (.string (bs [])), (.int .u64 0), (.int .u64 0)] [(0, (1, (.tmp 60))), (1, (2, (.tmp 64)))]), none, []⟩, ⟨(some 66), (.eqs false 12 [(0, 1), (1, 2), (2, 2), (3, 1), (4, 2), (5, 2), (6, 1), (7, 1), (8, 2), (9, 2), (10, 1), (11, 1)] (.tmp 58) (.tmp 65)), none, []⟩, ⟨(some 6), (.mov (.tmp 66)), none, []⟩]) (.seq (.ops [⟨(some 68), (.bin .eql (.tmp 15) (.const (.int .i64 5))), none, []⟩, ⟨(some 67), (.mov (.tmp 68)), none, []⟩]) (.cond (.tmp 67) (.ops [⟨(some 69), (.loadN 12 (.tmp 5)), none, []⟩, ⟨(some 70), (.fAddr 0 (.tmp 5)), none, []⟩, ⟨(some 71), (.load1 (.tmp 70)), none, []⟩, ⟨(some 72), (.fAddr 1 (.tmp 5)), none, []⟩, ⟨(some 73), (.loadN 2 (.tmp 72)), none, []⟩, ⟨(some 74), (.build [(.int .i64 0), (.string (bs [])), (.string (bs [])), (.int .i64 0), (.string (bs [])), (.string (bs [])), (.int .u64 0), (.int .u64 0), (.string (bs [])), (.string (bs [])), (.int .u64 0), (.int .u64 0)] [(0, (1, (.tmp 71))), (1, (2, (.tmp 73)))]), none, []⟩, ⟨(some 75), (.eqs false 12 [(0, 1), (1, 2), (2, 2), (3, 1), (4, 2), (5, 2), (6, 1), (7, 1), (8, 2), (9, 2), (10, 1), (11, 1)] (.tmp 69) (.tmp 74)), none, []⟩, ⟨(some 6), (.mov (.tmp 75)), none, []⟩]) .skip)))))))))) (.seq (.ops [⟨(some 76), (.mov (.tmp 0)), none, []⟩, ⟨(some 77), (.mov (.tmp 6)), none, []⟩, ⟨(some 78), (.callv (.func 46) [(.tmp 76), (.tmp 77), (.const (.int .i64 75))]), none, []⟩]) (.seq (.ops [⟨(some 79), (.fAddr 0 (.tmp 5)), none, []⟩, ⟨(some 80), (.load1 (.tmp 79)), none, []⟩]) (.block 1 (.seq (.ops [⟨(some 82), (.bin .eql (.tmp 80) (.const (.int .i64 1))), none, []⟩, ⟨(some 81), (.mov (.tmp 82)), none, []⟩]) (.cond (.tmp 81) (.seq (.ops [⟨(some 84), (.mov (.tmp 0)), none, []⟩, ⟨(some 85), (.nilChk (.tmp 84)), none, []⟩, ⟨(some 86), (.fAddr 0 (.tmp 85)), none, []⟩, ⟨(some 88), (.fAddr 1 (.tmp 5)), none, []⟩, ⟨(some 87), (.loadN 6 (.tmp 86)), none, []⟩, ⟨(some 89), (.loadN 2 (.tmp 88)), none, []⟩, ⟨(some 90), (.callv (.func 56) [(.tmp 87), (.tmp 89)]), none, []⟩, ⟨(some 83), (.mov (.tmp 90)), none, []⟩, ⟨(some 91), (.extract (.tmp 83) 0), none, []⟩, ⟨(some 92), (.extract (.tmp 83) 1), none, []⟩, ⟨(some 8), (.alloc [(.string (bs [])), (.int .i64 0)]), none, []⟩, ⟨none, (.store 2 (.tmp 8) (.tmp 91)), none, []⟩, ⟨(some 9), (.mov (.tmp 92)), none, []⟩]) (.seq (.ops [⟨(some 93), (.mov (.tmp 0)), none, []⟩, ⟨(some 94), (.mov (.tmp 9)), none, []⟩, ⟨(some 95), (.callv (.func 46) [(.tmp 93), (.tmp 94), (.const (.int .i64 72))]), none, []⟩]) (.seq (.ops [⟨(some 96), (.mov (.tmp 0)), none, []⟩, ⟨(some 97), (.mov (.tmp 1)), none, []⟩, ⟨(some 98), (.fAddr 4 (.tmp 5)), none, []⟩, ⟨(some 99), (.loadN 4 (.tmp 98)), none, []⟩, ⟨(some 100), (.callv (.func 105) [(.tmp 96), (.tmp 97), (.tmp 99)]), none, []⟩, ⟨(some 10), (.mov (.tmp 100)), none, []⟩]) (.seq (.ops [⟨(some 101), (.mov (.tmp 0)), none, []⟩, ⟨(some 102), (.mov (.tmp 1)), none, []⟩, ⟨(some 103), (.fAddr 8 (.tmp 5)), none, []⟩, ⟨(some 104), (.loadN 4 (.tmp 103)), none, []⟩, ⟨(some 105), (.callv (.func 105) [(.tmp 101), (.tmp 102), (.tmp 104)]), none, []⟩, ⟨(some 11), (.mov (.tmp 105)), none, []⟩]) (.seq (.ops [⟨(some 106), (.mov (.tmp 0)), none, []⟩, ⟨(some 107), (.mov (.tmp 10)), none, []⟩, ⟨(some 108), (.fAddr 1 (.tmp 8)), none, []⟩, ⟨(some 109), (.load1 (.tmp 108)), none, []⟩, ⟨(some 110), (.callv (.tmp 107) [(.tmp 109)]), none, []⟩, ⟨(some 111), (.callv (.func 46) [(.tmp 106), (.tmp 110), (.const (.int .i64 73))]), none, []⟩]) (.ops [⟨(some 112), (.mov (.tmp 0)), none, []⟩, ⟨(some 113), (.mov (.tmp 11)), none, []⟩, ⟨(some 114), (.fAddr 1 (.tmp 8)), none, []⟩, ⟨(some 115), (.load1 (.tmp 114)), none, []⟩, ⟨(some 116), (.callv (.tmp 113) [(.tmp 115)]), none, []⟩, ⟨(some 117), (.callv (.func 46) [(.tmp 112), (.tmp 116), (.const (.int .i64 73))]), none, []⟩])))))) (.seq (.seq (.ops [⟨(some 119), (.bin .eql (.tmp 80) (.const (.int .i64 3))), none, []⟩, ⟨(some 118), (.mov (.tmp 119)), none, []⟩]) (.cond (.tmp 118) .skip (.ops [⟨(some 120), (.bin .eql (.tmp 80) (.const (.int .i64 4))), none, []⟩, ⟨(some 118), (.mov (.tmp 120)), none, []⟩]))) (.cond (.tmp 118) (.ops [⟨(some 121), (.mov (.tmp 0)), none, []⟩, ⟨(some 122), (.mov (.tmp 0)), none, []⟩, ⟨(some 123), (.nilChk (.tmp 122)), none, []⟩, ⟨(some 124), (.fAddr 0 (.tmp 123)), none, []⟩, ⟨(some 126), (.fAddr 1 (.tmp 5)), none, []⟩, ⟨(some 127), (.fAddr 0 (.tmp 126)), none, []⟩, ⟨(some 125), (.loadN 6 (.tmp 124)), none, []⟩, ⟨(some 128), (.load1 (.tmp 127)), none, []⟩, ⟨(some 129), (.callv (.func 42) [(.tmp 125), (.tmp 128)]), none, []⟩, ⟨(some 130), (.bin .geq (.tmp 129) (.const (.int .i64 0))), none, []⟩, ⟨(some 131), (.callv (.func 46) [(.tmp 121), (.tmp 130), (.const (.int .i64 72))]), none, []⟩]) (.seq (.ops [⟨(some 133), (.bin .eql (.tmp 80) (.const (.int .i64 5))), none, []⟩, ⟨(some 132), (.mov (.tmp 133)), none, []⟩]) (.cond (.tmp 132) (.seq (.ops [⟨(some 135), (.mov (.tmp 0)), none, []⟩, ⟨(some 136), (.nilChk (.tmp 135)), none, []⟩, ⟨(some 137), (.fAddr 0 (.tmp 136)), none, []⟩, ⟨(some 139), (.fAddr 1 (.tmp 5)), none, []⟩, ⟨(some 138), (.loadN 6 (.tmp 137)), none, []⟩, ⟨(some 140), (.loadN 2 (.tmp 139)), none, []⟩, ⟨(some 141), (.callv (.func 56) [(.tmp 138), (.tmp 140)]), none, []⟩, ⟨(some 134), (.mov (.tmp 141)), none, []⟩, ⟨(some 142), (.extract (.tmp 134) 0), none, []⟩, ⟨(some 143), (.extract (.tmp 134) 1), none, []⟩, ⟨(some 12), (.alloc [(.string (bs [])), (.int .i64 0)]), none, []⟩, ⟨none, (.store 2 (.tmp 12) (.tmp 142)), none, []⟩, ⟨(some 13), (.mov (.tmp 143)), none, []⟩]) (.seq (.ops [⟨(some 144), (.mov (.tmp 0)), none, []⟩, ⟨(some 145), (.mov (.tmp 13)), none, []⟩, ⟨(some 146), (.mov (.tmp 145)), none, []⟩, ⟨(some 147), (.fAddr 1 (.tmp 5)), (some (146, true)), []⟩, ⟨(some 148), (.fAddr 0 (.tmp 147)), (some (146, true)), []⟩, ⟨(some 149), (.load1 (.tmp 148)), (some (146, true)), []⟩, ⟨(some 150), (.bin .neq (.tmp 149) (.const (.string (bs [109, 101, 116, 97])))), (some (146, true)), []⟩, ⟨(some 151), (.pick (.tmp 146) (.tmp 150) (.const (.bool false))), none, []⟩, ⟨(some 152), (.callv (.func 46) [(.tmp 144), (.tmp 151), (.const (.int .i64 72))]), none, []⟩]) (.ops [⟨(some 153), (.mov (.tmp 0)), none, []⟩, ⟨(some 154), (.fAddr 1 (.tmp 12)), none, []⟩, ⟨(some 155), (.load1 (.tmp 154)), none, []⟩, ⟨(some 156), (.bin .eql (.tmp 155) (.const (.int .i64 16))), none, []⟩, ⟨(some 157), (.callv (.func 46) [(.tmp 153), (.tmp 156), (.const (.int .i64 73))]), none, []⟩]))) .skip))))))))))))) [])
def g90 : AFunc := (.code 9 (.seq (.ops [⟨(some 2), (.box (.tmp 0)), none, []⟩, ⟨(some 3), (.box (.tmp 1)), none, []⟩, ⟨(some 4), (.mov (.const (.int .i64 0))), none, []⟩]) (.seq (.ops [⟨(some 5), (.fAddr 3 (.tmp 2)), none, []⟩, ⟨(some 6), (.load1 (.tmp 5)), none, []⟩, ⟨(some 7), (.mkFunc 107 [] [(.tmp 3)]), none, []⟩, ⟨(some 8), (.callv (.func 106) [(.tmp 6), (.tmp 7)]), none, []⟩, ⟨(some 4), (.mov (.tmp 8)), none, []⟩]) .ret)) [(.tmp 4)])
def g91 : AFunc := (.code 70 (.seq (.ops [⟨(some 3), (.box (.tmp 0)), none, []⟩, ⟨(some 5), (.box (.tmp 2)), none, []⟩, ⟨(some 6), (.mov (.const (.int .i64 0))), none, []⟩]) (.seq (.ops [⟨(some 12), (.mov (.tmp 1)), none, []⟩, ⟨(some 15), (.fAddr 0 (.tmp 5)), none, []⟩, ⟨(some 11), (.loadN 6 (.tmp 3)), none, []⟩, ⟨(some 14), (.loadN 6 (.tmp 3)), none, []⟩, ⟨(some 16), (.load1 (.tmp 15)), none, []⟩, ⟨(some 13), (.callv (.func 40) [(.tmp 11), (.tmp 12)]), none, [(3, 1), (15, 1)]⟩, ⟨(some 17), (.callv (.func 90) [(.tmp 14), (.tmp 16)]), none, []⟩, ⟨(some 7), (.mov (.tmp 13)), none, []⟩, ⟨(some 8), (.mov (.tmp 17)), none, []⟩]) (.seq (.block 0 (.seq (.ops [⟨(some 19), (.mov (.tmp 7)), none, []⟩, ⟨(some 20), (.bin .lss (.tmp 19) (.const (.int .i64 0))), none, []⟩, ⟨(some 18), (.mov (.tmp 20)), none, []⟩]) (.cond (.tmp 18) (.seq (.ops [⟨(some 6), (.mov (.const (.int .i64 110))), none, []⟩]) .ret) (.seq (.ops [⟨(some 22), (.mov (.tmp 8)), none, []⟩, ⟨(some 23), (.bin .lss (.tmp 22) (.const (.int .i64 0))), none, []⟩, ⟨(some 24), (.mov (.tmp 23)), none, []⟩, ⟨(some 25), (.fAddr 4 (.tmp 3)), (some (24, false)), []⟩, ⟨(some 27), (.mov (.tmp 7)), (some (24, false)), []⟩, ⟨(some 31), (.fAddr 0 (.tmp 5)), (some (24, false)), []⟩, ⟨(some 26), (.load1 (.tmp 25)), (some (24, false)), []⟩, ⟨(some 28), (.iAddrSl 7 (.tmp 26) (.tmp 27)), (some (24, false)), []⟩, ⟨(some 29), (.fAddr 2 (.tmp 28)), (some (24, false)), []⟩, ⟨(some 30), (.load1 (.tmp 29)), (some (24, false)), []⟩, ⟨(some 32), (.load1 (.tmp 31)), (some (24, false)), []⟩, ⟨(some 33), (.callv (.func 35) [(.tmp 30), (.tmp 32)]), (some (24, false)), []⟩, ⟨(some 34), (.un .not (.tmp 33)), (some (24, false)), []⟩, ⟨(some 35), (.pick (.tmp 24) (.const (.bool true)) (.tmp 34)), none, []⟩, ⟨(some 21), (.mov (.tmp 35)), none, []⟩]) (.cond (.tmp 21) (.seq (.ops [⟨(some 6), (.mov (.const (.int .i64 113))), none, []⟩]) .ret) (.seq (.ops [⟨(some 37), (.fAddr 3 (.tmp 3)), none, []⟩, ⟨(some 39), (.mov (.tmp 8)), none, []⟩, ⟨(some 44), (.fAddr 1 (.tmp 5)), none, []⟩, ⟨(some 38), (.load1 (.tmp 37)), none, []⟩, ⟨(some 40), (.iAddrSl 3 (.tmp 38) (.tmp 39)), none, []⟩, ⟨(some 41), (.fAddr 1 (.tmp 40)), none, []⟩, ⟨(some 42), (.load1 (.tmp 41)), none, []⟩, ⟨(some 43), (.lenSl (.tmp 42)), none, []⟩, ⟨(some 45), (.load1 (.tmp 44)), none, []⟩, ⟨(some 46), (.lenSl (.tmp 45)), none, []⟩, ⟨(some 47), (.bin .neq (.tmp 43) (.tmp 46)), none, []⟩, ⟨(some 36), (.mov (.tmp 47)), none, []⟩]) (.cond (.tmp 36) (.seq (.ops [⟨(some 6), (.mov (.const (.int .i64 76))), none, []⟩]) .ret) .skip))))))) (.seq (.seq (.ops [⟨(some 48), (.fAddr 3 (.tmp 3)), none, []⟩, ⟨(some 49), (.load1 (.tmp 48)), none, []⟩, ⟨(some 50), (.mov (.tmp 8)), none, []⟩, ⟨(some 51), (.iAddrSl 3 (.tmp 49) (.tmp 50)), none, []⟩, ⟨(some 52), (.fAddr 1 (.tmp 51)), none, []⟩, ⟨(some 53), (.load1 (.tmp 52)), none, []⟩, ⟨(some 54), (.lenSl (.tmp 53)), none, []⟩, ⟨(some 55), (.mov (.const (.int .i64 0))), none, []⟩]) (.block 1 (.loop (.seq (.ops [⟨(some 56), (.bin .lss (.tmp 55) (.tmp 54)), none, []⟩]) (.seq (.cond (.tmp 56) .skip (.exit 1)) (.seq (.block 2 (.seq (.ops [⟨(some 57), (.mov (.tmp 55)), none, []⟩, ⟨(some 58), (.iAddrSl 2 (.tmp 53) (.tmp 55)), none, []⟩, ⟨(some 59), (.loadN 2 (.tmp 58)), none, []⟩, ⟨(some 10), (.alloc [(.string (bs [])), (.int .i64 0)]), none, []⟩, ⟨(some 9), (.mov (.tmp 57)), none, []⟩, ⟨none, (.store 2 (.tmp 10) (.tmp 59)), none, []⟩]) (.seq (.ops [⟨(some 60), (.fAddr 1 (.tmp 5)), none, []⟩, ⟨(some 62), (.mov (.tmp 9)), none, []⟩, ⟨(some 65), (.fAddr 1 (.tmp 10)), none, []⟩, ⟨(some 61), (.load1 (.tmp 60)), none, []⟩, ⟨(some 63), (.iAddrSl 2 (.tmp 61) (.tmp 62)), none, []⟩, ⟨(some 64), (.loadN 2 (.tmp 63)), none, []⟩, ⟨(some 66), (.load1 (.tmp 65)), none, []⟩, ⟨(some 67), (.callv (.func 87) [(.tmp 64), (.tmp 66)]), none, []⟩, ⟨(some 68), (.un .not (.tmp 67)), none, []⟩]) (.cond (.tmp 68) (.seq (.ops [⟨(some 6), (.mov (.const (.int .i64 76))), none, []⟩]) .ret) .skip)))) (.ops [⟨(some 69), (.bin .add (.tmp 55) (.const (.int .i64 1))), none, []⟩, ⟨(some 55), (.mov (.tmp 69)), none, []⟩]))))))) (.seq (.ops [⟨(some 6), (.mov (.const (.int .i64 0))), none, []⟩]) .ret))))) [(.tmp 6)])
def g92 : AFunc := (.code 106 (.seq (.ops [⟨(some 3), (.box (.tmp 1)), none, []⟩]) (.seq (.seq (.ops [⟨(some 10), (.fAddr 0 (.tmp 3)), none, []⟩, ⟨(some 11), (.load1 (.tmp 10)), none, []⟩, ⟨(some 12), (.bin .eql (.tmp 11) (.const (.int .i64 1))), none, []⟩]) (.cond (.tmp 12) (.seq (.ops [⟨(some 13), (.mov (.tmp 0)), none, []⟩, ⟨(some 14), (.loadN 9 (.tmp 3)), none, []⟩, ⟨(some 15), (.fAddr 0 (.tmp 3)), none, []⟩, ⟨(some 16), (.load1 (.tmp 15)), none, []⟩, ⟨(some 17), (.fAddr 1 (.tmp 3)), none, []⟩, ⟨(some 18), (.fAddr 0 (.tmp 17)), none, []⟩, ⟨(some 19), (.fAddr 0 (.tmp 18)), none, []⟩, ⟨(some 20), (.load1 (.tmp 19)), none, []⟩, ⟨(some 21), (.build [(.string (bs [])), (.string (bs []))] [(0, (1, (.tmp 20)))]), none, []⟩, ⟨(some 22), (.build [(.string (bs [])), (.string (bs [])), (.int .u64 0), (.int .u64 0)] [(0, (2, (.tmp 21)))]), none, []⟩, ⟨(some 23), (.build [(.int .i64 0), (.string (bs [])), (.string (bs [])), (.int .u64 0), (.int .u64 0), (.string (bs [])), (.string (bs [])), (.int .u64 0), (.int .u64 0)] [(0, (1, (.tmp 16))), (1, (4, (.tmp 22)))]), none, []⟩, ⟨(some 24), (.eqs false 9 [(0, 1), (1, 2), (2, 2), (3, 1), (4, 1), (5, 2), (6, 2), (7, 1), (8, 1)] (.tmp 14) (.tmp 23)), none, []⟩, ⟨(some 25), (.callv (.func 46) [(.tmp 13), (.tmp 24), (.const (.int .i64 75))]), none, []⟩]) (.seq (.ops [⟨(some 26), (.mov (.tmp 0)), none, []⟩, ⟨(some 27), (.mov (.tmp 0)), none, []⟩, ⟨(some 28), (.nilChk (.tmp 27)), none, []⟩, ⟨(some 29), (.fAddr 0 (.tmp 28)), none, []⟩, ⟨(some 31), (.fAddr 1 (.tmp 3)), none, []⟩, ⟨(some 32), (.fAddr 0 (.tmp 31)), none, []⟩, ⟨(some 33), (.fAddr 0 (.tmp 32)), none, []⟩, ⟨(some 30), (.loadN 6 (.tmp 29)), none, []⟩, ⟨(some 34), (.load1 (.tmp 33)), none, []⟩, ⟨(some 35), (.callv (.func 42) [(.tmp 30), (.tmp 34)]), none, []⟩, ⟨(some 36), (.bin .geq (.tmp 35) (.const (.int .i64 0))), none, []⟩, ⟨(some 37), (.callv (.func 46) [(.tmp 26), (.tmp 36), (.const (.int .i64 72))]), none, []⟩]) .ret)) .skip)) (.seq (.ops [⟨(some 38), (.mov (.tmp 0)), none, []⟩, ⟨(some 39), (.fAddr 0 (.tmp 3)), none, []⟩, ⟨(some 40), (.load1 (.tmp 39)), none, []⟩, ⟨(some 41), (.bin .geq (.tmp 40) (.const (.int .i64 2))), none, []⟩, ⟨(some 42), (.mov (.tmp 41)), none, []⟩, ⟨(some 43), (.fAddr 0 (.tmp 3)), (some (42, true)), []⟩, ⟨(some 44), (.load1 (.tmp 43)), (some (42, true)), []⟩, ⟨(some 45), (.bin .leq (.tmp 44) (.const (.int .i64 5))), (some (42, true)), []⟩, ⟨(some 46), (.pick (.tmp 42) (.tmp 45) (.const (.bool false))), none, []⟩, ⟨(some 47), (.mov (.tmp 46)), none, []⟩, ⟨(some 48), (.fAddr 1 (.tmp 3)), (some (47, true)), []⟩, ⟨(some 49), (.loadN 4 (.tmp 48)), (some (47, true)), []⟩, ⟨(some 50), (.callv (.func 104) [(.tmp 49)]), (some (47, true)), []⟩, ⟨(some 51), (.pick (.tmp 47) (.tmp 50) (.const (.bool false))), none, []⟩, ⟨(some 52), (.mov (.tmp 51)), none, []⟩, ⟨(some 53), (.fAddr 5 (.tmp 3)), (some (52, true)), []⟩, ⟨(some 54), (.loadN 4 (.tmp 53)), (some (52, true)), []⟩, ⟨(some 55), (.callv (.func 104) [(.tmp 54)]), (some (52, true)), []⟩, ⟨(some 56), (.pick (.tmp 52) (.tmp 55) (.const (.bool false))), none, []⟩, ⟨(some 57), (.callv (.func 46) [(.tmp 38), (.tmp 56), (.const (.int .i64 75))]), none, []⟩]) (.seq (.ops [⟨(some 58), (.mov (.tmp 0)), none, []⟩, ⟨(some 59), (.fAddr 1 (.tmp 3)), none, []⟩, ⟨(some 60), (.loadN 4 (.tmp 59)), none, []⟩, ⟨(some 61), (.callv (.func 105) [(.tmp 58), (.const (.slice none 0 0)), (.tmp 60)]), none, []⟩, ⟨(some 4), (.mov (.tmp 61)), none, []⟩]) (.seq (.ops [⟨(some 62), (.mov (.tmp 0)), none, []⟩, ⟨(some 63), (.fAddr 5 (.tmp 3)), none, []⟩, ⟨(some 64), (.loadN 4 (.tmp 63)), none, []⟩, ⟨(some 65), (.callv (.func 105) [(.tmp 62), (.const (.slice none 0 0)), (.tmp 64)]), none, []⟩, ⟨(some 5), (.mov (.tmp 65)), none, []⟩]) (.seq (.ops [⟨(some 67), (.mov (.tmp 0)), none, []⟩, ⟨(some 68), (.nilChk (.tmp 67)), none, []⟩, ⟨(some 69), (.fAddr 0 (.tmp 68)), none, []⟩, ⟨(some 71), (.fAddr 1 (.tmp 3)), none, []⟩, ⟨(some 72), (.fAddr 0 (.tmp 71)), none, []⟩, ⟨(some 70), (.loadN 6 (.tmp 69)), none, []⟩, ⟨(some 73), (.loadN 2 (.tmp 72)), none, []⟩, ⟨(some 74), (.callv (.func 56) [(.tmp 70), (.tmp 73)]), none, []⟩, ⟨(some 66), (.mov (.tmp 74)), none, []⟩, ⟨(some 75), (.extract (.tmp 66) 0), none, []⟩, ⟨(some 76), (.extract (.tmp 66) 1), none, []⟩, ⟨(some 6), (.alloc [(.string (bs [])), (.int .i64 0)]), none, []⟩, ⟨none, (.store 2 (.tmp 6) (.tmp 75)), none, []⟩, ⟨(some 7), (.mov (.tmp 76)), none, []⟩]) (.seq (.ops [⟨(some 78), (.mov (.tmp 0)), none, []⟩, ⟨(some 79), (.nilChk (.tmp 78)), none, []⟩, ⟨(some 80), (.fAddr 0 (.tmp 79)), none, []⟩, ⟨(some 82), (.fAddr 5 (.tmp 3)), none, []⟩, ⟨(some 83), (.fAddr 0 (.tmp 82)), none, []⟩, ⟨(some 81), (.loadN 6 (.tmp 80)), none, []⟩, ⟨(some 84), (.loadN 2 (.tmp 83)), none, []⟩, ⟨(some 85), (.callv (.func 56) [(.tmp 81), (.tmp 84)]), none, []⟩, ⟨(some 77), (.mov (.tmp 85)), none, []⟩, ⟨(some 86), (.extract (.tmp 77) 0), none, []⟩, ⟨(some 87), (.extract (.tmp 77) 1), none, []⟩, ⟨(some 8), (.alloc [(.string (bs [])), (.int .i64 0)]), none, []⟩, ⟨none, (.store 2 (.tmp 8) (.tmp 86)), none, []⟩, ⟨(some 9), (.mov (.tmp 87)), none, []⟩]) (.block 0 (.seq (.ops [⟨(some 91), (.mov (.tmp 7)), none, []⟩, ⟨(some 90), (.mov (.tmp 91)), none, []⟩]) (.cond (.tmp 90) (.ops [⟨(some 92), (.mov (.tmp 0)), none, []⟩, ⟨(some 93), (.mov (.tmp 5)), none, []⟩, ⟨(some 94), (.fAddr 1 (.tmp 6)), none, []⟩, ⟨(some 95), (.load1 (.tmp 94)), none, []⟩, ⟨(some 96), (.callv (.tmp 93) [(.tmp 95)]), none, []⟩, ⟨(some 97), (.callv (.func 46) [(.tmp 92), (.tmp 96), (.const (.int .i64 73))]), none, []⟩]) (.seq (.ops [⟨(some 99), (.mov (.tmp 9)), none, []⟩, ⟨(some 98), (.mov (.tmp 99)), none, []⟩]) (.cond (.tmp 98) (.ops [⟨(some 100), (.mov (.tmp 0)), none, []⟩, ⟨(some 101), (.mov (.tmp 4)), none, []⟩, ⟨(some 102), (.fAddr 1 (.tmp 8)), none, []⟩, ⟨(some 103), (.load1 (.tmp 102)), none, []⟩, ⟨(some 104), (.callv (.tmp 101) [(.tmp 103)]), none, []⟩, ⟨(some 105), (.callv (.func 46) [(.tmp 100), (.tmp 104), (.const (.int .i64 73))]), none, []⟩]) (.ops [⟨(some 88), (.mov (.tmp 0)), none, []⟩, ⟨(some 89), (.callv (.func 46) [(.tmp 88), (.const (.bool false)), (.const (.int .i64 73))]), none, []⟩]))))))))))))) [])
def g93 : AFunc := (.code 19 (.seq (.ops [⟨(some 4), (.mov (.const (.int .i64 0))), none, []⟩]) (.seq (.seq (.ops [⟨(some 6), (.mov (.tmp 0)), none, []⟩, ⟨(some 7), (.lenSl (.tmp 6)), none, []⟩, ⟨(some 8), (.mov (.const (.int .i64 0))), none, []⟩]) (.block 0 (.loop (.seq (.ops [⟨(some 9), (.bin .lss (.tmp 8) (.tmp 7)), none, []⟩]) (.seq (.cond (.tmp 9) .skip (.exit 0)) (.seq (.block 1 (.seq (.ops [⟨(some 10), (.mov (.tmp 8)), none, []⟩, ⟨(some 5), (.mov (.tmp 10)), none, []⟩]) (.seq (.ops [⟨(some 11), (.mov (.tmp 1)), none, []⟩, ⟨(some 12), (.mov (.tmp 0)), none, []⟩, ⟨(some 13), (.mov (.tmp 5)), none, []⟩, ⟨(some 14), (.iAddrSl 3 (.tmp 12) (.tmp 13)), none, []⟩, ⟨(some 15), (.loadN 3 (.tmp 14)), none, []⟩, ⟨(some 16), (.callv (.tmp 11) [(.tmp 15)]), none, []⟩]) (.cond (.tmp 16) (.seq (.ops [⟨(some 17), (.mov (.tmp 5)), none, []⟩, ⟨(some 4), (.mov (.tmp 17)), none, []⟩]) .ret) .skip)))) (.ops [⟨(some 18), (.bin .add (.tmp 8) (.const (.int .i64 1))), none, []⟩, ⟨(some 8), (.mov (.tmp 18)), none, []⟩]))))))) (.seq (.ops [⟨(some 4), (.mov (.const (.int .i64 (-1)))), none, []⟩]) .ret))) [(.tmp 4)])
def g94 : AFunc := (.code 8 (.seq (.ops [⟨(some 3), (.box (.tmp 1)), none, []⟩, ⟨(some 4), (.mov (.const (.int .i64 0))), none, []⟩]) (.seq (.ops [⟨(some 5), (.mov (.tmp 0)), none, []⟩, ⟨(some 6), (.mkFunc 109 [] [(.tmp 3)]), none, []⟩, ⟨(some 7), (.callv (.func 108) [(.tmp 5), (.tmp 6)]), none, []⟩, ⟨(some 4), (.mov (.tmp 7)), none, []⟩]) .ret)) [(.tmp 4)])
def g95 : AFunc := (.code 26 (.seq (.ops [⟨(some 4), (.mov (.const (.bool false))), none, []⟩]) (.seq (.seq (.ops [⟨(some 6), (.mov (.tmp 0)), none, []⟩, ⟨(some 7), (.lenSl (.tmp 6)), none, []⟩, ⟨(some 8), (.mov (.tmp 1)), none, []⟩, ⟨(some 9), (.lenSl (.tmp 8)), none, []⟩, ⟨(some 10), (.bin .neq (.tmp 7) (.tmp 9)), none, []⟩]) (.cond (.tmp 10) (.seq (.ops [⟨(some 4), (.mov (.const (.bool false))), none, []⟩]) .ret) .skip)) (.seq (.seq (.ops [⟨(some 11), (.mov (.tmp 0)), none, []⟩, ⟨(some 12), (.lenSl (.tmp 11)), none, []⟩, ⟨(some 13), (.mov (.const (.int .i64 0))), none, []⟩]) (.block 0 (.loop (.seq (.ops [⟨(some 14), (.bin .lss (.tmp 13) (.tmp 12)), none, []⟩]) (.seq (.cond (.tmp 14) .skip (.exit 0)) (.seq (.block 1 (.seq (.ops [⟨(some 15), (.mov (.tmp 13)), none, []⟩, ⟨(some 5), (.mov (.tmp 15)), none, []⟩]) (.seq (.ops [⟨(some 16), (.mov (.tmp 0)), none, []⟩, ⟨(some 17), (.mov (.tmp 5)), none, []⟩, ⟨(some 18), (.iAddrSl 3 (.tmp 16) (.tmp 17)), none, []⟩, ⟨(some 20), (.mov (.tmp 1)), none, []⟩, ⟨(some 21), (.mov (.tmp 5)), none, []⟩, ⟨(some 22), (.iAddrSl 3 (.tmp 20) (.tmp 21)), none, []⟩, ⟨(some 19), (.loadN 3 (.tmp 18)), none, []⟩, ⟨(some 23), (.loadN 3 (.tmp 22)), none, []⟩, ⟨(some 24), (.eqs true 3 [(0, 2), (1, 2), (2, 1)] (.tmp 19) (.tmp 23)), none, []⟩]) (.cond (.tmp 24) (.seq (.ops [⟨(some 4), (.mov (.const (.bool false))), none, []⟩]) .ret) .skip)))) (.ops [⟨(some 25), (.bin .add (.tmp 13) (.const (.int .i64 1))), none, []⟩, ⟨(some 13), (.mov (.tmp 25)), none, []⟩]))))))) (.seq (.ops [⟨(some 4), (.mov (.const (.bool true))), none, []⟩]) .ret)))) [(.tmp 4)])
def g96 : AFunc := (.code 26 (.seq (.ops [⟨(some 4), (.mov (.const (.bool false))), none, []⟩]) (.seq (.seq (.ops [⟨(some 6), (.mov (.tmp 0)), none, []⟩, ⟨(some 7), (.lenSl (.tmp 6)), none, []⟩, ⟨(some 8), (.mov (.tmp 1)), none, []⟩, ⟨(some 9), (.lenSl (.tmp 8)), none, []⟩, ⟨(some 10), (.bin .neq (.tmp 7) (.tmp 9)), none, []⟩]) (.cond (.tmp 10) (.seq (.ops [⟨(some 4), (.mov (.const (.bool false))), none, []⟩]) .ret) .skip)) (.seq (.seq (.ops [⟨(some 11), (.mov (.tmp 0)), none, []⟩, ⟨(some 12), (.lenSl (.tmp 11)), none, []⟩, ⟨(some 13), (.mov (.const (.int .i64 0))), none, []⟩]) (.block 0 (.loop (.seq (.ops [⟨(some 14), (.bin .lss (.tmp 13) (.tmp 12)), none, []⟩]) (.seq (.cond (.tmp 14) .skip (.exit 0)) (.seq (.block 1 (.seq (.ops [⟨(some 15), (.mov (.tmp 13)), none, []⟩, ⟨(some 5), (.mov (.tmp 15)), none, []⟩]) (.seq (.ops [⟨(some 16), (.mov (.tmp 0)), none, []⟩, ⟨(some 17), (.mov (.tmp 5)), none, []⟩, ⟨(some 18), (.iAddrSl 1 (.tmp 16) (.tmp 17)), none, []⟩, ⟨(some 20), (.mov (.tmp 1)), none, []⟩, ⟨(some 21), (.mov (.tmp 5)), none, []⟩, ⟨(some 22), (.iAddrSl 1 (.tmp 20) (.tmp 21)), none, []⟩, ⟨(some 19), (.load1 (.tmp 18)), none, []⟩, ⟨(some 23), (.load1 (.tmp 22)), none, []⟩, ⟨(some 24), (.bin .neq (.tmp 19) (.tmp 23)), none, []⟩]) (.cond (.tmp 24) (.seq (.ops [⟨(some 4), (.mov (.const (.bool false))), none, []⟩]) .ret) .skip)))) (.ops [⟨(some 25), (.bin .add (.tmp 13) (.const (.int .i64 1))), none, []⟩, ⟨(some 13), (.mov (.tmp 25)), none, []⟩]))))))) (.seq (.ops [⟨(some 4), (.mov (.const (.bool true))), none, []⟩]) .ret)))) [(.tmp 4)])
def g97 : AFunc := (.code 26 (.seq (.ops [⟨(some 4), (.mov (.const (.bool false))), none, []⟩]) (.seq (.seq (.ops [⟨(some 6), (.mov (.tmp 0)), none, []⟩, ⟨(some 7), (.lenSl (.tmp 6)), none, []⟩, ⟨(some 8), (.mov (.tmp 1)), none, []⟩, ⟨(some 9), (.lenSl (.tmp 8)), none, []⟩, ⟨(some 10), (.bin .neq (.tmp 7) (.tmp 9)), none, []⟩]) (.cond (.tmp 10) (.seq (.ops [⟨(some 4), (.mov (.const (.bool false))), none, []⟩]) .ret) .skip)) (.seq (.seq (.ops [⟨(some 11), (.mov (.tmp 0)), none, []⟩, ⟨(some 12), (.lenSl (.tmp 11)), none, []⟩, ⟨(some 13), (.mov (.const (.int .i64 0))), none, []⟩]) (.block 0 (.loop (.seq (.ops [⟨(some 14), (.bin .lss (.tmp 13) (.tmp 12)), none, []⟩]) (.seq (.cond (.tmp 14) .skip (.exit 0)) (.seq (.block 1 (.seq (.ops [⟨(some 15), (.mov (.tmp 13)), none, []⟩, ⟨(some 5), (.mov (.tmp 15)), none, []⟩]) (.seq (.ops [⟨(some 16), (.mov (.tmp 0)), none, []⟩, ⟨(some 17), (.mov (.tmp 5)), none, []⟩, ⟨(some 18), (.iAddrSl 2 (.tmp 16) (.tmp 17)), none, []⟩, ⟨(some 20), (.mov (.tmp 1)), none, []⟩, ⟨(some 21), (.mov (.tmp 5)), none, []⟩, ⟨(some 22), (.iAddrSl 2 (.tmp 20) (.tmp 21)), none, []⟩, ⟨(some 19), (.loadN 2 (.tmp 18)), none, []⟩, ⟨(some 23), (.loadN 2 (.tmp 22)), none, []⟩, ⟨(some 24), (.eqs true 2 [(0, 1), (1, 1)] (.tmp 19) (.tmp 23)), none, []⟩]) (.cond (.tmp 24) (.seq (.ops [⟨(some 4), (.mov (.const (.bool false))), none, []⟩]) .ret) .skip)))) (.ops [⟨(some 25), (.bin .add (.tmp 13) (.const (.int .i64 1))), none, []⟩, ⟨(some 13), (.mov (.tmp 25)), none, []⟩]))))))) (.seq (.ops [⟨(some 4), (.mov (.const (.bool true))), none, []⟩]) .ret)))) [(.tmp 4)])
def g98 : AFunc := (.code 32 (.seq (.ops [⟨(some 6), (.mov (.const (.bool false))), none, []⟩]) (.seq (.seq (.ops [⟨(some 10), (.mov (.tmp 0)), none, []⟩, ⟨(some 11), (.lenSl (.tmp 10)), none, []⟩, ⟨(some 12), (.mov (.tmp 1)), none, []⟩, ⟨(some 13), (.lenSl (.tmp 12)), none, []⟩, ⟨(some 14), (.bin .neq (.tmp 11) (.tmp 13)), none, []⟩]) (.cond (.tmp 14) (.seq (.ops [⟨(some 6), (.mov (.const (.bool false))), none, []⟩]) .ret) .skip)) (.seq (.seq (.ops [⟨(some 15), (.mov (.tmp 0)), none, []⟩, ⟨(some 16), (.lenSl (.tmp 15)), none, []⟩, ⟨(some 17), (.mov (.const (.int .i64 0))), none, []⟩]) (.block 0 (.loop (.seq (.ops [⟨(some 18), (.bin .lss (.tmp 17) (.tmp 16)), none, []⟩]) (.seq (.cond (.tmp 18) .skip (.exit 0)) (.seq (.block 1 (.seq (.ops [⟨(some 19), (.mov (.tmp 17)), none, []⟩, ⟨(some 20), (.iAddrSl 13 (.tmp 15) (.tmp 17)), none, []⟩, ⟨(some 21), (.loadN 13 (.tmp 20)), none, []⟩, ⟨(some 8), (.alloc [(.int .i64 0), (.string (bs [])), (.int .i64 0), (.string (bs [])), (.string (bs [])), (.int .u64 0), (.int .u64 0), (.string (bs [])), (.string (bs [])), (.int .u64 0), (.int .u64 0), (.slice none 0 0), (.slice none 0 0)]), none, []⟩, ⟨(some 7), (.mov (.tmp 19)), none, []⟩, ⟨none, (.store 13 (.tmp 8) (.tmp 21)), none, []⟩]) (.seq (.ops [⟨(some 22), (.mov (.tmp 1)), none, []⟩, ⟨(some 23), (.mov (.tmp 7)), none, []⟩, ⟨(some 24), (.iAddrSl 13 (.tmp 22) (.tmp 23)), none, []⟩, ⟨(some 25), (.loadN 13 (.tmp 24)), none, []⟩, ⟨(some 9), (.alloc [(.int .i64 0), (.string (bs [])), (.int .i64 0), (.string (bs [])), (.string (bs [])), (.int .u64 0), (.int .u64 0), (.string (bs [])), (.string (bs [])), (.int .u64 0), (.int .u64 0), (.slice none 0 0), (.slice none 0 0)]), none, []⟩, ⟨none, (.store 13 (.tmp 9) (.tmp 25)), none, []⟩]) (.seq (.ops [⟨(some 26), (.mov (.tmp 2)), none, []⟩, ⟨(some 27), (.loadN 13 (.tmp 8)), none, []⟩, ⟨(some 28), (.loadN 13 (.tmp 9)), none, []⟩, ⟨(some 29), (.callv (.tmp 26) [(.tmp 27), (.tmp 28)]), none, []⟩, ⟨(some 30), (.un .not (.tmp 29)), none, []⟩]) (.cond (.tmp 30) (.seq (.ops [⟨(some 6), (.mov (.const (.bool false))), none, []⟩]) .ret) .skip))))) (.ops [⟨(some 31), (.bin .add (.tmp 17) (.const (.int .i64 1))), none, []⟩, ⟨(some 17), (.mov (.tmp 31)), none, []⟩]))))))) (.seq (.ops [⟨(some 6), (.mov (.const (.bool true))), none, []⟩]) .ret)))) [(.tmp 6)])
def g99 : AFunc := (.code 38 (.seq (.ops [⟨(some 2), (.box (.tmp 0)), none, []⟩, ⟨(some 3), (.box (.tmp 1)), none, []⟩, ⟨(some 4), (.mov (.const (.bool false))), none, []⟩]) (.seq (.ops [⟨(some 5), (.fAddr 0 (.tmp 2)), none, []⟩, ⟨(some 6), (.load1 (.tmp 5)), none, []⟩, ⟨(some 7), (.fAddr 0 (.tmp 3)), none, []⟩, ⟨(some 8), (.load1 (.tmp 7)), none, []⟩, ⟨(some 9), (.bin .eql (.tmp 6) (.tmp 8)), none, []⟩, ⟨(some 10), (.mov (.tmp 9)), none, []⟩, ⟨(some 11), (.fAddr 1 (.tmp 2)), (some (10, true)), []⟩, ⟨(some 12), (.load1 (.tmp 11)), (some (10, true)), []⟩, ⟨(some 13), (.fAddr 1 (.tmp 3)), (some (10, true)), []⟩, ⟨(some 14), (.load1 (.tmp 13)), (some (10, true)), []⟩, ⟨(some 15), (.bin .eql (.tmp 12) (.tmp 14)), (some (10, true)), []⟩, ⟨(some 16), (.pick (.tmp 10) (.tmp 15) (.const (.bool false))), none, []⟩, ⟨(some 17), (.mov (.tmp 16)), none, []⟩, ⟨(some 18), (.fAddr 2 (.tmp 2)), (some (17, true)), []⟩, ⟨(some 19), (.loadN 9 (.tmp 18)), (some (17, true)), []⟩, ⟨(some 20), (.fAddr 2 (.tmp 3)), (some (17, true)), []⟩, ⟨(some 21), (.loadN 9 (.tmp 20)), (some (17, true)), []⟩, ⟨(some 22), (.eqs false 9 [(0, 1), (1, 2), (2, 2), (3, 1), (4, 1), (5, 2), (6, 2), (7, 1), (8, 1)] (.tmp 19) (.tmp 21)), (some (17, true)), []⟩, ⟨(some 23), (.pick (.tmp 17) (.tmp 22) (.const (.bool false))), none, []⟩, ⟨(some 24), (.mov (.tmp 23)), none, []⟩, ⟨(some 25), (.fAddr 11 (.tmp 2)), (some (24, true)), []⟩, ⟨(some 26), (.load1 (.tmp 25)), (some (24, true)), []⟩, ⟨(some 27), (.fAddr 11 (.tmp 3)), (some (24, true)), []⟩, ⟨(some 28), (.load1 (.tmp 27)), (some (24, true)), []⟩, ⟨(some 29), (.callv (.func 68) [(.tmp 26), (.tmp 28)]), (some (24, true)), []⟩, ⟨(some 30), (.pick (.tmp 24) (.tmp 29) (.const (.bool false))), none, []⟩, ⟨(some 31), (.mov (.tmp 30)), none, []⟩, ⟨(some 32), (.fAddr 12 (.tmp 2)), (some (31, true)), []⟩, ⟨(some 33), (.load1 (.tmp 32)), (some (31, true)), []⟩, ⟨(some 34), (.fAddr 12 (.tmp 3)), (some (31, true)), []⟩, ⟨(some 35), (.load1 (.tmp 34)), (some (31, true)), []⟩, ⟨(some 36), (.callv (.func 68) [(.tmp 33), (.tmp 35)]), (some (31, true)), []⟩, ⟨(some 37), (.pick (.tmp 31) (.tmp 36) (.const (.bool false))), none, []⟩, ⟨(some 4), (.mov (.tmp 37)), none, []⟩]) .ret)) [(.tmp 4)])
def g100 : AFunc := (.code 8 (.seq (.ops [⟨(some 2), (.mov (.const (.slice none 0 0))), none, []⟩]) (.seq (.seq (.ops [⟨(some 3), (.mov (.tmp 0)), none, []⟩, ⟨(some 4), (.eqp 1 false (.tmp 3) (.const (.slice none 0 0))), none, []⟩]) (.cond (.tmp 4) (.seq (.ops [⟨(some 2), (.mov (.const (.slice none 0 0))), none, []⟩]) .ret) .skip)) (.seq (.ops [⟨(some 5), (.buildSlice 12 0 [] []), none, []⟩, ⟨(some 6), (.mov (.tmp 0)), none, []⟩, ⟨(some 7), (.append 12 144 (.tmp 5) (.tmp 6)), none, []⟩, ⟨(some 2), (.mov (.tmp 7)), none, []⟩]) .ret))) [(.tmp 2)])
def g101 : AFunc := (.code 8 (.seq (.ops [⟨(some 2), (.mov (.const (.slice none 0 0))), none, []⟩]) (.seq (.seq (.ops [⟨(some 3), (.mov (.tmp 0)), none, []⟩, ⟨(some 4), (.eqp 1 false (.tmp 3) (.const (.slice none 0 0))), none, []⟩]) (.cond (.tmp 4) (.seq (.ops [⟨(some 2), (.mov (.const (.slice none 0 0))), none, []⟩]) .ret) .skip)) (.seq (.ops [⟨(some 5), (.buildSlice 13 0 [] []), none, []⟩, ⟨(some 6), (.mov (.tmp 0)), none, []⟩, ⟨(some 7), (.append 13 176 (.tmp 5) (.tmp 6)), none, []⟩, ⟨(some 2), (.mov (.tmp 7)), none, []⟩]) .ret))) [(.tmp 2)])
def g102 : AFunc := (.code 19 (.seq (.ops [⟨(some 4), (.mov (.const (.int .i64 0))), none, []⟩]) (.seq (.seq (.ops [⟨(some 6), (.mov (.tmp 0)), none, []⟩, ⟨(some 7), (.lenSl (.tmp 6)), none, []⟩, ⟨(some 8), (.mov (.const (.int .i64 0))), none, []⟩]) (.block 0 (.loop (.seq (.ops [⟨(some 9), (.bin .lss (.tmp 8) (.tmp 7)), none, []⟩]) (.seq (.cond (.tmp 9) .skip (.exit 0)) (.seq (.block 1 (.seq (.ops [⟨(some 10), (.mov (.tmp 8)), none, []⟩, ⟨(some 5), (.mov (.tmp 10)), none, []⟩]) (.seq (.ops [⟨(some 11), (.mov (.tmp 1)), none, []⟩, ⟨(some 12), (.mov (.tmp 0)), none, []⟩, ⟨(some 13), (.mov (.tmp 5)), none, []⟩, ⟨(some 14), (.iAddrSl 7 (.tmp 12) (.tmp 13)), none, []⟩, ⟨(some 15), (.loadN 7 (.tmp 14)), none, []⟩, ⟨(some 16), (.callv (.tmp 11) [(.tmp 15)]), none, []⟩]) (.cond (.tmp 16) (.seq (.ops [⟨(some 17), (.mov (.tmp 5)), none, []⟩, ⟨(some 4), (.mov (.tmp 17)), none, []⟩]) .ret) .skip)))) (.ops [⟨(some 18), (.bin .add (.tmp 8) (.const (.int .i64 1))), none, []⟩, ⟨(some 8), (.mov (.tmp 18)), none, []⟩]))))))) (.seq (.ops [⟨(some 4), (.mov (.const (.int .i64 (-1)))), none, []⟩]) .ret))) [(.tmp 4)])
def g103 : AFunc := (.code 19 (.seq (.ops [⟨(some 4), (.mov (.const (.int .i64 0))), none, []⟩]) (.seq (.seq (.ops [⟨(some 6), (.mov (.tmp 0)), none, []⟩, ⟨(some 7), (.lenSl (.tmp 6)), none, []⟩, ⟨(some 8), (.mov (.const (.int .i64 0))), none, []⟩]) (.block 0 (.loop (.seq (.ops [⟨(some 9), (.bin .lss (.tmp 8) (.tmp 7)), none, []⟩]) (.seq (.cond (.tmp 9) .skip (.exit 0)) (.seq (.block 1 (.seq (.ops [⟨(some 10), (.mov (.tmp 8)), none, []⟩, ⟨(some 5), (.mov (.tmp 10)), none, []⟩]) (.seq (.ops [⟨(some 11), (.mov (.tmp 1)), none, []⟩, ⟨(some 12), (.mov (.tmp 0)), none, []⟩, ⟨(some 13), (.mov (.tmp 5)), none, []⟩, ⟨(some 14), (.iAddrSl 2 (.tmp 12) (.tmp 13)), none, []⟩, ⟨(some 15), (.loadN 2 (.tmp 14)), none, []⟩, ⟨(some 16), (.callv (.tmp 11) [(.tmp 15)]), none, []⟩]) (.cond (.tmp 16) (.seq (.ops [⟨(some 17), (.mov (.tmp 5)), none, []⟩, ⟨(some 4), (.mov (.tmp 17)), none, []⟩]) .ret) .skip)))) (.ops [⟨(some 18), (.bin .add (.tmp 8) (.const (.int .i64 1))), none, []⟩, ⟨(some 8), (.mov (.tmp 18)), none, []⟩]))))))) (.seq (.ops [⟨(some 4), (.mov (.const (.int .i64 (-1)))), none, []⟩]) .ret))) [(.tmp 4)])
def g104 : AFunc := (.code 13 (.seq (.ops [⟨(some 1), (.box (.tmp 0)), none, []⟩, ⟨(some 2), (.mov (.const (.bool false))), none, []⟩]) (.seq (.ops [⟨(some 3), (.fAddr 0 (.tmp 1)), none, []⟩, ⟨(some 4), (.loadN 2 (.tmp 3)), none, []⟩, ⟨(some 5), (.build [(.string (bs [])), (.string (bs []))] []), none, []⟩, ⟨(some 6), (.eqs false 2 [(0, 2), (1, 2)] (.tmp 4) (.tmp 5)), none, []⟩, ⟨(some 7), (.mov (.tmp 6)), none, []⟩, ⟨(some 8), (.fAddr 2 (.tmp 1)), (some (7, false)), []⟩, ⟨(some 9), (.loadN 2 (.tmp 8)), (some (7, false)), []⟩, ⟨(some 10), (.build [(.int .u64 0), (.int .u64 0)] []), (some (7, false)), []⟩, ⟨(some 11), (.eqs false 2 [(0, 1), (1, 1)] (.tmp 9) (.tmp 10)), (some (7, false)), []⟩, ⟨(some 12), (.pick (.tmp 7) (.const (.bool true)) (.tmp 11)), none, []⟩, ⟨(some 2), (.mov (.tmp 12)), none, []⟩]) .ret)) [(.tmp 2)])
def g105 : AFunc := (.code 44 (.seq (.ops [⟨(some 5), (.box (.tmp 2)), none, []⟩, ⟨(some 6), (.mov (.const .nilFunc)), none, []⟩]) (.seq (.seq (.ops [⟨(some 10), (.fAddr 0 (.tmp 5)), none, []⟩, ⟨(some 11), (.loadN 2 (.tmp 10)), none, []⟩, ⟨(some 12), (.build [(.string (bs [])), (.string (bs []))] []), none, []⟩, ⟨(some 13), (.eqs false 2 [(0, 2), (1, 2)] (.tmp 11) (.tmp 12)), none, []⟩]) (.cond (.tmp 13) (.seq (.ops [⟨(some 14), (.mkFunc 110 [] [(.tmp 5)]), none, []⟩, ⟨(some 6), (.mov (.tmp 14)), none, []⟩]) .ret) .skip)) (.seq (.ops [⟨(some 16), (.mov (.tmp 0)), none, []⟩, ⟨(some 17), (.nilChk (.tmp 16)), none, []⟩, ⟨(some 18), (.fAddr 0 (.tmp 17)), none, []⟩, ⟨(some 20), (.fAddr 0 (.tmp 5)), none, []⟩, ⟨(some 19), (.loadN 6 (.tmp 18)), none, []⟩, ⟨(some 21), (.loadN 2 (.tmp 20)), none, []⟩, ⟨(some 22), (.callv (.func 56) [(.tmp 19), (.tmp 21)]), none, []⟩, ⟨(some 15), (.mov (.tmp 22)), none, []⟩, ⟨(some 23), (.extract (.tmp 15) 0), none, []⟩, ⟨(some 24), (.extract (.tmp 15) 1), none, []⟩, ⟨(some 7), (.alloc [(.string (bs [])), (.int .i64 0)]), none, []⟩, ⟨none, (.store 2 (.tmp 7) (.tmp 23)), none, []⟩, ⟨(some 8), (.mov (.tmp 24)), none, []⟩]) (.seq (.seq (.ops [⟨(some 25), (.fAddr 0 (.tmp 5)), none, []⟩, ⟨(some 26), (.fAddr 0 (.tmp 25)), none, []⟩, ⟨(some 27), (.load1 (.tmp 26)), none, []⟩, ⟨(some 28), (.bin .eql (.tmp 27) (.const (.string (bs [])))), none, []⟩]) (.cond (.tmp 28) (.seq (.ops [⟨(some 29), (.mov (.tmp 1)), none, []⟩, ⟨(some 30), (.fAddr 0 (.tmp 5)), none, []⟩, ⟨(some 31), (.fAddr 1 (.tmp 30)), none, []⟩, ⟨(some 32), (.load1 (.tmp 31)), none, []⟩, ⟨(some 33), (.callv (.func 94) [(.tmp 29), (.tmp 32)]), none, []⟩, ⟨(some 9), (.mov (.tmp 33)), none, []⟩]) (.seq (.ops [⟨(some 34), (.mov (.tmp 9)), none, []⟩, ⟨(some 35), (.bin .geq (.tmp 34) (.const (.int .i64 0))), none, []⟩]) (.cond (.tmp 35) (.ops [⟨(some 36), (.mov (.tmp 1)), none, []⟩, ⟨(some 37), (.mov (.tmp 9)), none, []⟩, ⟨(some 38), (.iAddrSl 2 (.tmp 36) (.tmp 37)), none, []⟩, ⟨(some 39), (.loadN 2 (.tmp 38)), none, []⟩, ⟨none, (.store 2 (.tmp 7) (.tmp 39)), none, []⟩, ⟨(some 8), (.mov (.const (.bool true))), none, []⟩]) .skip))) .skip)) (.seq (.ops [⟨(some 40), (.mov (.tmp 0)), none, []⟩, ⟨(some 41), (.mov (.tmp 8)), none, []⟩, ⟨(some 42), (.callv (.func 46) [(.tmp 40), (.tmp 41), (.const (.int .i64 72))]), none, []⟩]) (.seq (.ops [⟨(some 43), (.mkFunc 111 [] [(.tmp 7)]), none, []⟩, ⟨(some 6), (.mov (.tmp 43)), none, []⟩]) .ret)))))) [(.tmp 6)])
def g106 : AFunc := (.code 8 (.seq (.ops [⟨(some 4), (.mov (.const (.int .i64 0))), none, []⟩]) (.seq (.ops [⟨(some 5), (.mov (.tmp 0)), none, []⟩, ⟨(some 6), (.mov (.tmp 1)), none, []⟩, ⟨(some 7), (.callv (.func 112) [(.tmp 5), (.tmp 6)]), none, []⟩, ⟨(some 4), (.mov (.tmp 7)), none, []⟩]) .ret)) [(.tmp 4)])
def g107 : AFunc := (.code 8 (.seq (.ops [⟨(some 2), (.box (.tmp 0)), none, []⟩, ⟨(some 3), (.mov (.const (.bool false))), none, []⟩]) (.seq (.ops [⟨(some 4), (.fAddr 0 (.tmp 2)), none, []⟩, ⟨(some 5), (.load1 (.tmp 4)), none, []⟩, ⟨(some 6), (.load1 (.tmp 1)), none, []⟩, ⟨(some 7), (.bin .eql (.tmp 5) (.tmp 6)), none, []⟩, ⟨(some 3), (.mov (.tmp 7)), none, []⟩]) .ret)) [(.tmp 3)])
def g108 : AFunc := (.code 8 (.seq (.ops [⟨(some 4), (.mov (.const (.int .i64 0))), none, []⟩]) (.seq (.ops [⟨(some 5), (.mov (.tmp 0)), none, []⟩, ⟨(some 6), (.mov (.tmp 1)), none, []⟩, ⟨(some 7), (.callv (.func 113) [(.tmp 5), (.tmp 6)]), none, []⟩, ⟨(some 4), (.mov (.tmp 7)), none, []⟩]) .ret)) [(.tmp 4)])
def g109 : AFunc := (.code 8 (.seq (.ops [⟨(some 2), (.box (.tmp 0)), none, []⟩, ⟨(some 3), (.mov (.const (.bool false))), none, []⟩]) (.seq (.ops [⟨(some 4), (.fAddr 0 (.tmp 2)), none, []⟩, ⟨(some 5), (.load1 (.tmp 4)), none, []⟩, ⟨(some 6), (.load1 (.tmp 1)), none, []⟩, ⟨(some 7), (.bin .eql (.tmp 5) (.tmp 6)), none, []⟩, ⟨(some 3), (.mov (.tmp 7)), none, []⟩]) .ret)) [(.tmp 3)])
def g110 : AFunc := (.code 8 (.seq (.ops [⟨(some 3), (.mov (.const (.bool false))), none, []⟩]) (.seq (.ops [⟨(some 4), (.fAddr 2 (.tmp 1)), none, []⟩, ⟨(some 5), (.loadN 2 (.tmp 4)), none, []⟩, ⟨(some 6), (.mov (.tmp 0)), none, []⟩, ⟨(some 7), (.callv (.func 87) [(.tmp 5), (.tmp 6)]), none, []⟩, ⟨(some 3), (.mov (.tmp 7)), none, []⟩]) .ret)) [(.tmp 3)])
def g111 : AFunc := (.code 8 (.seq (.ops [⟨(some 3), (.mov (.const (.bool false))), none, []⟩]) (.seq (.ops [⟨(some 4), (.fAddr 1 (.tmp 1)), none, []⟩, ⟨(some 5), (.load1 (.tmp 4)), none, []⟩, ⟨(some 6), (.mov (.tmp 0)), none, []⟩, ⟨(some 7), (.bin .eql (.tmp 5) (.tmp 6)), none, []⟩, ⟨(some 3), (.mov (.tmp 7)), none, []⟩]) .ret)) [(.tmp 3)])
def g112 : AFunc := (.code 19 (.seq (.ops [⟨(some 4), (.mov (.const (.int .i64 0))), none, []⟩]) (.seq (.seq (.ops [⟨(some 6), (.mov (.tmp 0)), none, []⟩, ⟨(some 7), (.lenSl (.tmp 6)), none, []⟩, ⟨(some 8), (.mov (.const (.int .i64 0))), none, []⟩]) (.block 0 (.loop (.seq (.ops [⟨(some 9), (.bin .lss (.tmp 8) (.tmp 7)), none, []⟩]) (.seq (.cond (.tmp 9) .skip (.exit 0)) (.seq (.block 1 (.seq (.ops [⟨(some 10), (.mov (.tmp 8)), none, []⟩, ⟨(some 5), (.mov (.tmp 10)), none, []⟩]) (.seq (.ops [⟨(some 11), (.mov (.tmp 1)), none, []⟩, ⟨(some 12), (.mov (.tmp 0)), none, []⟩, ⟨(some 13), (.mov (.tmp 5)), none, []⟩, ⟨(some 14), (.iAddrSl 3 (.tmp 12) (.tmp 13)), none, []⟩, ⟨(some 15), (.loadN 3 (.tmp 14)), none, []⟩, ⟨(some 16), (.callv (.tmp 11) [(.tmp 15)]), none, []⟩]) (.cond (.tmp 16) (.seq (.ops [⟨(some 17), (.mov (.tmp 5)), none, []⟩, ⟨(some 4), (.mov (.tmp 17)), none, []⟩]) .ret) .skip)))) (.ops [⟨(some 18), (.bin .add (.tmp 8) (.const (.int .i64 1))), none, []⟩, ⟨(some 8), (.mov (.tmp 18)), none, []⟩]))))))) (.seq (.ops [⟨(some 4), (.mov (.const (.int .i64 (-1)))), none, []⟩]) .ret))) [(.tmp 4)])
def g113 : AFunc := (.code 19 (.seq (.ops [⟨(some 4), (.mov (.const (.int .i64 0))), none, []⟩]) (.seq (.seq (.ops [⟨(some 6), (.mov (.tmp 0)), none, []⟩, ⟨(some 7), (.lenSl (.tmp 6)), none, []⟩, ⟨(some 8), (.mov (.const (.int .i64 0))), none, []⟩]) (.block 0 (.loop (.seq (.ops [⟨(some 9), (.bin .lss (.tmp 8) (.tmp 7)), none, []⟩]) (.seq (.cond (.tmp 9) .skip (.exit 0)) (.seq (.block 1 (.seq (.ops [⟨(some 10), (.mov (.tmp 8)), none, []⟩, ⟨(some 5), (.mov (.tmp 10)), none, []⟩]) (.seq (.ops [⟨(some 11), (.mov (.tmp 1)), none, []⟩, ⟨(some 12), (.mov (.tmp 0)), none, []⟩, ⟨(some 13), (.mov (.tmp 5)), none, []⟩, ⟨(some 14), (.iAddrSl 2 (.tmp 12) (.tmp 13)), none, []⟩, ⟨(some 15), (.loadN 2 (.tmp 14)), none, []⟩, ⟨(some 16), (.callv (.tmp 11) [(.tmp 15)]), none, []⟩]) (.cond (.tmp 16) (.seq (.ops [⟨(some 17), (.mov (.tmp 5)), none, []⟩, ⟨(some 4), (.mov (.tmp 17)), none, []⟩]) .ret) .skip)))) (.ops [⟨(some 18), (.bin .add (.tmp 8) (.const (.int .i64 1))), none, []⟩, ⟨(some 8), (.mov (.tmp 18)), none, []⟩]))))))) (.seq (.ops [⟨(some 4), (.mov (.const (.int .i64 (-1)))), none, []⟩]) .ret))) [(.tmp 4)])
end Go.Proofs.Ytpllhhaeclnngaa.Ev

/- The table of the evaluator's functions; each is what the program's own function is laid as. Conditions: none. -/
namespace Go.Proofs.Ytpllhhaeclnngaa.Ev
set_option maxRecDepth 100000
noncomputable def T : Pg := ⟨Try.prog, Try.prog.globals.size⟩
theorem follows : T.P.follows .mixedOrders = true := by kernel_rfl
theorem t3 : Laid T 3 g3 := ⟨Try.f3, Try.func3, by kernel_rfl⟩
theorem t4 : Laid T 4 g4 := ⟨Try.f4, Try.func4, by kernel_rfl⟩
theorem t5 : Laid T 5 g5 := ⟨Try.f5, Try.func5, by kernel_rfl⟩
theorem t6 : Laid T 6 g6 := ⟨Try.f6, Try.func6, by kernel_rfl⟩
theorem t7 : Laid T 7 g7 := ⟨Try.f7, Try.func7, by kernel_rfl⟩
theorem t8 : Laid T 8 g8 := ⟨Try.f8, Try.func8, by kernel_rfl⟩
theorem t9 : Laid T 9 g9 := ⟨Try.f9, Try.func9, by kernel_rfl⟩
theorem t10 : Laid T 10 g10 := ⟨Try.f10, Try.func10, by kernel_rfl⟩
theorem t11 : Laid T 11 g11 := ⟨Try.f11, Try.func11, by kernel_rfl⟩
theorem t12 : Laid T 12 g12 := ⟨Try.f12, Try.func12, by kernel_rfl⟩
theorem t13 : Laid T 13 g13 := ⟨Try.f13, Try.func13, by kernel_rfl⟩
theorem t14 : Laid T 14 g14 := ⟨Try.f14, Try.func14, by kernel_rfl⟩
theorem t15 : Laid T 15 g15 := ⟨Try.f15, Try.func15, by kernel_rfl⟩
theorem t16 : Laid T 16 g16 := ⟨Try.f16, Try.func16, by kernel_rfl⟩
theorem t17 : Laid T 17 g17 := ⟨Try.f17, Try.func17, by kernel_rfl⟩
theorem t18 : Laid T 18 g18 := ⟨Try.f18, Try.func18, by kernel_rfl⟩
theorem t19 : Laid T 19 g19 := ⟨Try.f19, Try.func19, by kernel_rfl⟩
theorem t20 : Laid T 20 g20 := ⟨Try.f20, Try.func20, by kernel_rfl⟩
theorem t21 : Laid T 21 g21 := ⟨Try.f21, Try.func21, by kernel_rfl⟩
theorem t22 : Laid T 22 g22 := ⟨Try.f22, Try.func22, by kernel_rfl⟩
theorem t23 : Laid T 23 g23 := ⟨Try.f23, Try.func23, by kernel_rfl⟩
theorem t24 : Laid T 24 g24 := ⟨Try.f24, Try.func24, by kernel_rfl⟩
theorem t25 : Laid T 25 g25 := ⟨Try.f25, Try.func25, by kernel_rfl⟩
theorem t26 : Laid T 26 g26 := ⟨Try.f26, Try.func26, by kernel_rfl⟩
theorem t27 : Laid T 27 g27 := ⟨Try.f27, Try.func27, by kernel_rfl⟩
theorem t28 : Laid T 28 g28 := ⟨Try.f28, Try.func28, by kernel_rfl⟩
theorem t29 : Laid T 29 g29 := ⟨Try.f29, Try.func29, by kernel_rfl⟩
theorem t30 : Laid T 30 g30 := ⟨Try.f30, Try.func30, by kernel_rfl⟩
theorem t31 : Laid T 31 g31 := ⟨Try.f31, Try.func31, by kernel_rfl⟩
theorem t32 : Laid T 32 g32 := ⟨Try.f32, Try.func32, by kernel_rfl⟩
theorem t33 : Laid T 33 g33 := ⟨Try.f33, Try.func33, by kernel_rfl⟩
theorem t34 : Laid T 34 g34 := ⟨Try.f34, Try.func34, by kernel_rfl⟩
theorem t35 : Laid T 35 g35 := ⟨Try.f35, Try.func35, by kernel_rfl⟩
theorem t36 : Laid T 36 g36 := ⟨Try.f36, Try.func36, by kernel_rfl⟩
theorem t37 : Laid T 37 g37 := ⟨Try.f37, Try.func37, by kernel_rfl⟩
theorem t38 : Laid T 38 g38 := ⟨Try.f38, Try.func38, by kernel_rfl⟩
theorem t39 : Laid T 39 g39 := ⟨Try.f39, Try.func39, by kernel_rfl⟩
theorem t40 : Laid T 40 g40 := ⟨Try.f40, Try.func40, by kernel_rfl⟩
theorem t41 : Laid T 41 g41 := ⟨Try.f41, Try.func41, by kernel_rfl⟩
theorem t42 : Laid T 42 g42 := ⟨Try.f42, Try.func42, by kernel_rfl⟩
theorem t43 : Laid T 43 g43 := ⟨Try.f43, Try.func43, by kernel_rfl⟩
theorem t44 : Laid T 44 g44 := ⟨Try.f44, Try.func44, by kernel_rfl⟩
theorem t45 : Laid T 45 g45 := ⟨Try.f45, Try.func45, by kernel_rfl⟩
theorem t46 : Laid T 46 g46 := ⟨Try.f46, Try.func46, by kernel_rfl⟩
theorem t47 : Laid T 47 g47 := ⟨Try.f47, Try.func47, by kernel_rfl⟩
theorem t48 : Laid T 48 g48 := ⟨Try.f48, Try.func48, by kernel_rfl⟩
theorem t49 : Laid T 49 g49 := ⟨Try.f49, Try.func49, by kernel_rfl⟩
theorem t50 : Laid T 50 g50 := ⟨Try.f50, Try.func50, by kernel_rfl⟩
theorem t51 : Laid T 51 g51 := ⟨Try.f51, Try.func51, by kernel_rfl⟩
theorem t52 : Laid T 52 g52 := ⟨Try.f52, Try.func52, by kernel_rfl⟩
theorem t53 : Laid T 53 g53 := ⟨Try.f53, Try.func53, by kernel_rfl⟩
theorem t54 : Laid T 54 g54 := ⟨Try.f54, Try.func54, by kernel_rfl⟩
theorem t55 : Laid T 55 g55 := ⟨Try.f55, Try.func55, by kernel_rfl⟩
theorem t56 : Laid T 56 g56 := ⟨Try.f56, Try.func56, by kernel_rfl⟩
theorem t57 : Laid T 57 g57 := ⟨Try.f57, Try.func57, by kernel_rfl⟩
theorem t58 : Laid T 58 g58 := ⟨Try.f58, Try.func58, by kernel_rfl⟩
theorem t59 : Laid T 59 g59 := ⟨Try.f59, Try.func59, by kernel_rfl⟩
theorem t60 : Laid T 60 g60 := ⟨Try.f60, Try.func60, by kernel_rfl⟩
theorem t61 : Laid T 61 g61 := ⟨Try.f61, Try.func61, by kernel_rfl⟩
theorem t62 : Laid T 62 g62 := ⟨Try.f62, Try.func62, by kernel_rfl⟩
theorem t63 : Laid T 63 g63 := ⟨Try.f63, Try.func63, by kernel_rfl⟩
theorem t64 : Laid T 64 g64 := ⟨Try.f64, Try.func64, by kernel_rfl⟩
theorem t65 : Laid T 65 g65 := ⟨Try.f65, Try.func65, by kernel_rfl⟩
theorem t66 : Laid T 66 g66 := ⟨Try.f66, Try.func66, by kernel_rfl⟩
theorem t67 : Laid T 67 g67 := ⟨Try.f67, Try.func67, by kernel_rfl⟩
theorem t68 : Laid T 68 g68 := ⟨Try.f68, Try.func68, by kernel_rfl⟩
theorem t69 : Laid T 69 g69 := ⟨Try.f69, Try.func69, by kernel_rfl⟩
theorem t70 : Laid T 70 g70 := ⟨Try.f70, Try.func70, by kernel_rfl⟩
theorem t71 : Laid T 71 g71 := ⟨Try.f71, Try.func71, by kernel_rfl⟩
theorem t72 : Laid T 72 g72 := ⟨Try.f72, Try.func72, by kernel_rfl⟩
theorem t73 : Laid T 73 g73 := ⟨Try.f73, Try.func73, by kernel_rfl⟩
theorem t74 : Laid T 74 g74 := ⟨Try.f74, Try.func74, by kernel_rfl⟩
theorem t75 : Laid T 75 g75 := ⟨Try.f75, Try.func75, by kernel_rfl⟩
theorem t76 : Laid T 76 g76 := ⟨Try.f76, Try.func76, by kernel_rfl⟩
theorem t77 : Laid T 77 g77 := ⟨Try.f77, Try.func77, by kernel_rfl⟩
theorem t78 : Laid T 78 g78 := ⟨Try.f78, Try.func78, by kernel_rfl⟩
theorem t79 : Laid T 79 g79 := ⟨Try.f79, Try.func79, by kernel_rfl⟩
theorem t80 : Laid T 80 g80 := ⟨Try.f80, Try.func80, by kernel_rfl⟩
theorem t81 : Laid T 81 g81 := ⟨Try.f81, Try.func81, by kernel_rfl⟩
theorem t82 : Laid T 82 g82 := ⟨Try.f82, Try.func82, by kernel_rfl⟩
theorem t83 : Laid T 83 g83 := ⟨Try.f83, Try.func83, by kernel_rfl⟩
theorem t84 : Laid T 84 g84 := ⟨Try.f84, Try.func84, by kernel_rfl⟩
theorem t85 : Laid T 85 g85 := ⟨Try.f85, Try.func85, by kernel_rfl⟩
theorem t86 : Laid T 86 g86 := ⟨Try.f86, Try.func86, by kernel_rfl⟩
theorem t87 : Laid T 87 g87 := ⟨Try.f87, Try.func87, by kernel_rfl⟩
theorem t88 : Laid T 88 g88 := ⟨Try.f88, Try.func88, by kernel_rfl⟩
theorem t89 : Laid T 89 g89 := ⟨Try.f89, Try.func89, by kernel_rfl⟩
theorem t90 : Laid T 90 g90 := ⟨Try.f90, Try.func90, by kernel_rfl⟩
theorem t91 : Laid T 91 g91 := ⟨Try.f91, Try.func91, by kernel_rfl⟩
theorem t92 : Laid T 92 g92 := ⟨Try.f92, Try.func92, by kernel_rfl⟩
theorem t93 : Laid T 93 g93 := ⟨Try.f93, Try.func93, by kernel_rfl⟩
theorem t94 : Laid T 94 g94 := ⟨Try.f94, Try.func94, by kernel_rfl⟩
theorem t95 : Laid T 95 g95 := ⟨Try.f95, Try.func95, by kernel_rfl⟩
theorem t96 : Laid T 96 g96 := ⟨Try.f96, Try.func96, by kernel_rfl⟩
theorem t97 : Laid T 97 g97 := ⟨Try.f97, Try.func97, by kernel_rfl⟩
theorem t98 : Laid T 98 g98 := ⟨Try.f98, Try.func98, by kernel_rfl⟩
theorem t99 : Laid T 99 g99 := ⟨Try.f99, Try.func99, by kernel_rfl⟩
theorem t100 : Laid T 100 g100 := ⟨Try.f100, Try.func100, by kernel_rfl⟩
theorem t101 : Laid T 101 g101 := ⟨Try.f101, Try.func101, by kernel_rfl⟩
theorem t102 : Laid T 102 g102 := ⟨Try.f102, Try.func102, by kernel_rfl⟩
theorem t103 : Laid T 103 g103 := ⟨Try.f103, Try.func103, by kernel_rfl⟩
theorem t104 : Laid T 104 g104 := ⟨Try.f104, Try.func104, by kernel_rfl⟩
theorem t105 : Laid T 105 g105 := ⟨Try.f105, Try.func105, by kernel_rfl⟩
theorem t106 : Laid T 106 g106 := ⟨Try.f106, Try.func106, by kernel_rfl⟩
theorem t107 : Laid T 107 g107 := ⟨Try.f107, Try.func107, by kernel_rfl⟩
theorem t108 : Laid T 108 g108 := ⟨Try.f108, Try.func108, by kernel_rfl⟩
theorem t109 : Laid T 109 g109 := ⟨Try.f109, Try.func109, by kernel_rfl⟩
theorem t110 : Laid T 110 g110 := ⟨Try.f110, Try.func110, by kernel_rfl⟩
theorem t111 : Laid T 111 g111 := ⟨Try.f111, Try.func111, by kernel_rfl⟩
theorem t112 : Laid T 112 g112 := ⟨Try.f112, Try.func112, by kernel_rfl⟩
theorem t113 : Laid T 113 g113 := ⟨Try.f113, Try.func113, by kernel_rfl⟩
def Tab : Table := fun f =>
  match f with
  | 3 => some g3
  | 4 => some g4
  | 5 => some g5
  | 6 => some g6
  | 7 => some g7
  | 8 => some g8
  | 9 => some g9
  | 10 => some g10
  | 11 => some g11
  | 12 => some g12
  | 13 => some g13
  | 14 => some g14
  | 15 => some g15
  | 16 => some g16
  | 17 => some g17
  | 18 => some g18
  | 19 => some g19
  | 20 => some g20
  | 21 => some g21
  | 22 => some g22
  | 23 => some g23
  | 24 => some g24
  | 25 => some g25
  | 26 => some g26
  | 27 => some g27
  | 28 => some g28
  | 29 => some g29
  | 30 => some g30
  | 31 => some g31
  | 32 => some g32
  | 33 => some g33
  | 34 => some g34
  | 35 => some g35
  | 36 => some g36
  | 37 => some g37
  | 38 => some g38
  | 39 => some g39
  | 40 => some g40
  | 41 => some g41
  | 42 => some g42
  | 43 => some g43
  | 44 => some g44
  | 45 => some g45
  | 46 => some g46
  | 47 => some g47
  | 48 => some g48
  | 49 => some g49
  | 50 => some g50
  | 51 => some g51
  | 52 => some g52
  | 53 => some g53
  | 54 => some g54
  | 55 => some g55
  | 56 => some g56
  | 57 => some g57
  | 58 => some g58
  | 59 => some g59
  | 60 => some g60
  | 61 => some g61
  | 62 => some g62
  | 63 => some g63
  | 64 => some g64
  | 65 => some g65
  | 66 => some g66
  | 67 => some g67
  | 68 => some g68
  | 69 => some g69
  | 70 => some g70
  | 71 => some g71
  | 72 => some g72
  | 73 => some g73
  | 74 => some g74
  | 75 => some g75
  | 76 => some g76
  | 77 => some g77
  | 78 => some g78
  | 79 => some g79
  | 80 => some g80
  | 81 => some g81
  | 82 => some g82
  | 83 => some g83
  | 84 => some g84
  | 85 => some g85
  | 86 => some g86
  | 87 => some g87
  | 88 => some g88
  | 89 => some g89
  | 90 => some g90
  | 91 => some g91
  | 92 => some g92
  | 93 => some g93
  | 94 => some g94
  | 95 => some g95
  | 96 => some g96
  | 97 => some g97
  | 98 => some g98
  | 99 => some g99
  | 100 => some g100
  | 101 => some g101
  | 102 => some g102
  | 103 => some g103
  | 104 => some g104
  | 105 => some g105
  | 106 => some g106
  | 107 => some g107
  | 108 => some g108
  | 109 => some g109
  | 110 => some g110
  | 111 => some g111
  | 112 => some g112
  | 113 => some g113
  | _ => none
theorem table_ok : TableOK T.P T.G Tab := by
  intro f af h
  unfold Tab at h
  split at h
  · cases h; exact t3
  · cases h; exact t4
  · cases h; exact t5
  · cases h; exact t6
  · cases h; exact t7
  · cases h; exact t8
  · cases h; exact t9
  · cases h; exact t10
  · cases h; exact t11
  · cases h; exact t12
  · cases h; exact t13
  · cases h; exact t14
  · cases h; exact t15
  · cases h; exact t16
  · cases h; exact t17
  · cases h; exact t18
  · cases h; exact t19
  · cases h; exact t20
  · cases h; exact t21
  · cases h; exact t22
  · cases h; exact t23
  · cases h; exact t24
  · cases h; exact t25
  · cases h; exact t26
  · cases h; exact t27
  · cases h; exact t28
  · cases h; exact t29
  · cases h; exact t30
  · cases h; exact t31
  · cases h; exact t32
  · cases h; exact t33
  · cases h; exact t34
  · cases h; exact t35
  · cases h; exact t36
  · cases h; exact t37
  · cases h; exact t38
  · cases h; exact t39
  · cases h; exact t40
  · cases h; exact t41
  · cases h; exact t42
  · cases h; exact t43
  · cases h; exact t44
  · cases h; exact t45
  · cases h; exact t46
  · cases h; exact t47
  · cases h; exact t48
  · cases h; exact t49
  · cases h; exact t50
  · cases h; exact t51
  · cases h; exact t52
  · cases h; exact t53
  · cases h; exact t54
  · cases h; exact t55
  · cases h; exact t56
  · cases h; exact t57
  · cases h; exact t58
  · cases h; exact t59
  · cases h; exact t60
  · cases h; exact t61
  · cases h; exact t62
  · cases h; exact t63
  · cases h; exact t64
  · cases h; exact t65
  · cases h; exact t66
  · cases h; exact t67
  · cases h; exact t68
  · cases h; exact t69
  · cases h; exact t70
  · cases h; exact t71
  · cases h; exact t72
  · cases h; exact t73
  · cases h; exact t74
  · cases h; exact t75
  · cases h; exact t76
  · cases h; exact t77
  · cases h; exact t78
  · cases h; exact t79
  · cases h; exact t80
  · cases h; exact t81
  · cases h; exact t82
  · cases h; exact t83
  · cases h; exact t84
  · cases h; exact t85
  · cases h; exact t86
  · cases h; exact t87
  · cases h; exact t88
  · cases h; exact t89
  · cases h; exact t90
  · cases h; exact t91
  · cases h; exact t92
  · cases h; exact t93
  · cases h; exact t94
  · cases h; exact t95
  · cases h; exact t96
  · cases h; exact t97
  · cases h; exact t98
  · cases h; exact t99
  · cases h; exact t100
  · cases h; exact t101
  · cases h; exact t102
  · cases h; exact t103
  · cases h; exact t104
  · cases h; exact t105
  · cases h; exact t106
  · cases h; exact t107
  · cases h; exact t108
  · cases h; exact t109
  · cases h; exact t110
  · cases h; exact t111
  · cases h; exact t112
  · cases h; exact t113
  · cases h
end Go.Proofs.Ytpllhhaeclnngaa.Ev

/- A call that is evaluated over nothing. -/
namespace Go.Proofs.Ytpllhhaeclnngaa.Ev
set_option maxRecDepth 100000
set_option linter.unusedSimpArgs false
set_option linter.unusedVariables false
variable {R : FRes → Heap → Prop} {H : Heap}

def isTrue : Option (FRes × Heap) → Bool
  | some (.ret (.bool true), _) => true
  | _ => false
theorem of_isTrue {x : Option (FRes × Heap)} (h : isTrue x = true) : ∃ H1, x = some (.ret (.bool true), H1) := by
  unfold isTrue at h
  split at h
  · exact ⟨_, rfl⟩
  · cases h

def H0 : Heap := []
theorem globs : T.G ≤ H0.length := by
  have : T.G = 0 := by unfold T; kernel_rfl
  rw [this]
  exact Nat.le_refl _

/-- A call that is evaluated over nothing. -/
theorem WD.frameD {f : FuncId} {args : List Value} {H0 H : Heap} {v : Value} (hp : ∃ g, H = H0 ++ g) (hG : T.G ≤ H0.length) (hro : ∀ o ∈ H0, o = .dead)
    (hargs : ∀ a ∈ args, closedV a = true) (hv : Scoped T.G v) (h : WD T f args H0 (fun r _ => r = .ret v)) {R : FRes → Heap → Prop} (hR : R (.ret v) H) : WD T f args H R := by
  obtain ⟨g, rfl⟩ := hp
  intro ρ w args' hr ha
  have hr0 : Rel T.G ρ H0 w := by
    refine ⟨fun b o ho => ?_, fun b c o u hb hc hne hw hl => ?_, hr.glob, hG⟩
    · obtain rfl := hro o (List.mem_of_getElem? ho)
      exact trivial
    · obtain rfl := hro o (List.mem_of_getElem? hb)
      cases hw
  have ha0 : VL H0.length ρ args args'.toList := ⟨ha.1, fun i x y hx hy => (ha.2 i x y hx hy).narrow (.closed (hargs x (List.mem_of_getElem? hx)))⟩
  have nofoot : ∀ c, ¬ Foot ρ H0 c := by
    rintro c ⟨b, o, hb, hw, _⟩
    obtain rfl := hro o (List.mem_of_getElem? hb)
    cases hw
  have hkk : ∀ en w1, (∃ r H1, r = .ret v ∧ RetOK T.G ρ H0 w r H1 en w1) → ∃ r H1, R r H1 ∧ RetOK T.G ρ (H0 ++ g) w r H1 en w1 := by
    rintro en w1 ⟨r, H1, rfl, ρ1, hs, v', rfl, hvr⟩
    have hold : ∀ c, c < w.heap.size → w1.heap[c]? = w.heap[c]? := fun c hc => hs.frame c hc (nofoot c)
    refine ⟨_, _, hR, ρ, ⟨⟨fun b o ho => ?_, hr.inj, hr.glob, hr.many⟩, Nat.le_refl _, fun _ _ => rfl, hs.os, hs.tape, hs.output, hs.size, fun c hc _ => hold c hc, fun c hc => .inl hc, hs.loops, fun c u hu hl => .inl ⟨u, hu, hl⟩⟩, v', rfl, ?_⟩
    · exact (hr.obj b o ho).mono (Nat.le_refl _) rfl (fun _ _ => rfl) (fun hl => hold _ (lt_of_live (hr.obj b o ho) hl))
    · have h1 : VR T.G ρ1 v v' := hvr.narrow hv
      refine (h1.mono (Nat.le_refl _) fun b hb => ?_).mono (by have := hr.many; omega) fun _ _ => rfl
      exact (hr.glob b hb).trans (hs.rel.glob b hb).symm
  rcases h ρ w args' hr0 ha0 with ⟨v', h1, h2⟩ | ⟨h1, h2⟩
  · exact .inl ⟨v', h1, hkk _ _ h2⟩
  · exact .inr ⟨h1, h2.mono hkk⟩


end Go.Proofs.Ytpllhhaeclnngaa.Ev

/- Which texts are names: the program's IsName. -/
namespace Go.Proofs.Ytpllhhaeclnngaa.Ev
set_option maxRecDepth 100000
set_option linter.unusedSimpArgs false
set_option linter.unusedVariables false
variable {R : FRes → Heap → Prop} {H : Heap}

/-- Does a text stand in another one? -/
def hasSub (p s : List UInt8) : Bool := (List.range (s.length + 1 - p.length)).any fun i => decide ((s.drop i).take p.length = p)

theorem hasSub_true {p s : List UInt8} : hasSub p s = true ↔ ∃ i, i + p.length ≤ s.length ∧ (s.drop i).take p.length = p := by
  unfold hasSub
  rw [List.any_eq_true]
  constructor
  · rintro ⟨i, hi, h⟩
    rw [List.mem_range] at hi
    exact ⟨i, by omega, of_decide_eq_true h⟩
  · rintro ⟨i, hi, h⟩
    exact ⟨i, by rw [List.mem_range]; omega, decide_eq_true h⟩

def ctI (s p : List UInt8) (H : Heap) : Nat → Env → Heap → Prop := fun z e K =>
  ∃ i : Nat, i ≤ s.length + 1 ∧ z = s.length + 1 - i ∧ K = H ∧ (∀ j, j < i → (s.drop j).take p.length ≠ p) ∧ (∃ x : Nat → Value, e = [.string (bs s), .string (bs p), x 2, x 3, x 4, .int .i64 (i : Int), x 6, x 7, x 8, x 9, x 10, x 11, x 12, x 13, x 14, x 15, x 16, x 17, x 18, x 19, x 20, x 21, x 22, x 23])

theorem contains_s {s p : List UInt8} (hs : s.length ≤ 1000000) (hp : p.length ≤ 1000000) (h : R (.ret (.bool (hasSub p s))) H) : WD T 30 [.string (bs s), .string (bs p)] H R := by
  refine WD.of follows t30 (by simp) ?_
  simp (disch := omega) only [kB, kcx, kdm, kdn, kel, aop, resultsL, resultOf, Nat.reduceEqDiff, reduceCtorEq, eq1, apartOK, apart2, AObj.live, Int.reduceEq, Int.reduceLT, Int.reduceLE, Int.reduceAdd, Int.reduceSub, Int.reduceMul, Int.reduceToNat, cutCells, Nat.reduceAdd, Nat.reduceLeDiff, Nat.reduceLT, Nat.reduceMul, Nat.reduceSub]
  refine WLoop.inv (ctI s p H) ?_ (s.length + 1) _ _ ⟨0, by omega, by omega, rfl, fun j hj => by omega, by exact ex_env rfl⟩
  rintro z e K ⟨i, hi, rfl, rfl, hno, ⟨x, rfl⟩⟩
  have w1 : IntKind.i64.wrap ((i : Int) + (p.length : Int)) = ((i + p.length : Nat) : Int) := by rw [← Int.natCast_add]; exact wr_i64 (by omega) (by omega)
  have w2 : IntKind.i64.wrap ((i : Int) + 1) = ((i + 1 : Nat) : Int) := by rw [show (i : Int) + 1 = ((i + 1 : Nat) : Int) by omega]; exact wr_i64 (by omega) (by omega)
  by_cases hle : i + p.length ≤ s.length
  · have c0 : ((i + p.length : Nat) : Int) ≤ (s.length : Int) := by omega
    have c1 : (i : Int) ≤ ((i + p.length : Nat) : Int) := by omega
    have hcut : (s.take (i + p.length)).drop i = (s.drop i).take p.length := by rw [List.drop_take]; congr 1; omega
    by_cases hq : (s.drop i).take p.length = p
    · rw [hasSub_true.2 ⟨i, hle, hq⟩] at h
      simp (disch := omega) only [kB, kcx, kdm, kdn, kel, aop, resultsL, resultOf, Nat.reduceEqDiff, reduceCtorEq, eq1, apartOK, apart2, AObj.live, Int.reduceEq, Int.reduceLT, Int.reduceLE, Int.reduceAdd, Int.reduceSub, Int.reduceMul, Int.reduceToNat, cutCells, Nat.reduceAdd, Nat.reduceLeDiff, Nat.reduceLT, Nat.reduceMul, Nat.reduceSub, w1, c0, c1, hcut, hq]
      exact h
    · simp (disch := omega) only [kB, kcx, kdm, kdn, kel, aop, resultsL, resultOf, Nat.reduceEqDiff, reduceCtorEq, eq1, apartOK, apart2, AObj.live, Int.reduceEq, Int.reduceLT, Int.reduceLE, Int.reduceAdd, Int.reduceSub, Int.reduceMul, Int.reduceToNat, cutCells, Nat.reduceAdd, Nat.reduceLeDiff, Nat.reduceLT, Nat.reduceMul, Nat.reduceSub, w1, c0, c1, hcut, hq, w2]
      refine ⟨s.length + 1 - (i + 1), by omega, i + 1, by omega, rfl, rfl, fun j hj => ?_, by exact ex_env rfl⟩
      by_cases hji : j = i
      · rw [hji]; exact hq
      · exact hno j (by omega)
  · have c0 : ¬ ((i + p.length : Nat) : Int) ≤ (s.length : Int) := by omega
    have : hasSub p s = false := by
      cases hb : hasSub p s with
      | false => rfl
      | true =>
        obtain ⟨j, hj1, hj2⟩ := hasSub_true.1 hb
        exact absurd hj2 (hno j (by omega))
    rw [this] at h
    simp (disch := omega) only [kB, kcx, kdm, kdn, kel, aop, resultsL, resultOf, Nat.reduceEqDiff, reduceCtorEq, eq1, apartOK, apart2, AObj.live, Int.reduceEq, Int.reduceLT, Int.reduceLE, Int.reduceAdd, Int.reduceSub, Int.reduceMul, Int.reduceToNat, cutCells, Nat.reduceAdd, Nat.reduceLeDiff, Nat.reduceLT, Nat.reduceMul, Nat.reduceSub, w1, c0]
    exact h

/-- The words that are no names. -/
def wordsL : List (List UInt8) := [[97, 99, 99, 101, 112, 116], [97, 99, 116, 105, 111, 110], [97, 100, 100], [97, 103, 97, 105, 110], [97, 112, 112, 108, 121], [99, 97, 110], [99, 111, 110, 116, 114, 111, 108], [100, 101, 102, 97, 117, 108, 116], [100, 114, 111, 112], [101, 108, 115, 101], [101, 120, 97, 99, 116], [101, 120, 105, 116], [102, 105, 120, 101, 100], [104, 101, 97, 100, 101, 114], [105, 102], [107, 101, 121], [109, 101, 116, 97], [111, 110], [112, 114, 101, 102, 105, 120], [114, 97, 110, 103, 101], [114, 101, 106, 101, 99, 116], [114, 101, 109, 111, 118, 101], [115, 105, 122, 101], [115, 116, 97, 116, 101], [115, 117, 109], [116, 97, 98, 108, 101], [116, 97, 107, 101], [116, 101, 114, 110, 97, 114, 121], [118, 97, 108, 105, 100]]
def resT : List UInt8 := 32 :: wordsL.flatMap (fun w => w ++ [32])

theorem sub_word {t : List UInt8} (h0 : t ≠ []) (h : ∀ c ∈ t, c ≠ 32) : hasSub (32 :: (t ++ [32])) resT = wordsL.contains t := by
  have key : ∀ i ∈ List.range resT.length, resT[i]? = some 32 → ((resT.drop (i + 1)).takeWhile fun c => decide (c ≠ 32)) = [] ∨ ((resT.drop (i + 1)).takeWhile fun c => decide (c ≠ 32)) ∈ wordsL := by decide +kernel
  have key2 : ∀ w ∈ wordsL, hasSub (32 :: (w ++ [32])) resT = true := by decide +kernel
  rw [Bool.eq_iff_iff, List.contains_iff_mem]
  constructor
  · intro hs
    obtain ⟨i, h1, h2⟩ := hasSub_true.1 hs
    have hlt : i < resT.length := by simp at h1; omega
    have hd : resT.drop i = 32 :: (t ++ [32]) ++ (resT.drop i).drop (32 :: (t ++ [32])).length := by
      have := List.take_append_drop (32 :: (t ++ [32])).length (resT.drop i)
      rw [h2] at this
      exact this.symm
    have h3 : resT[i]? = some 32 := by
      have := congrArg (·[0]?) hd
      simpa using this
    have h4 : resT.drop (i + 1) = t ++ 32 :: (resT.drop i).drop (32 :: (t ++ [32])).length := by
      rw [← List.drop_drop, hd]
      simp
    have h5 : (resT.drop (i + 1)).takeWhile (fun c => decide (c ≠ 32)) = t := by
      rw [h4, List.takeWhile_append_of_pos (fun c hc => decide_eq_true (h c hc))]
      simp
    rcases key i (List.mem_range.2 hlt) h3 with q | q
    · rw [h5] at q; exact absurd q h0
    · rwa [h5] at q
  · exact key2 t

end Go.Proofs.Ytpllhhaeclnngaa.Ev

/- The program's IsName. -/
namespace Go.Proofs.Ytpllhhaeclnngaa.Ev
set_option maxRecDepth 100000
set_option linter.unusedSimpArgs false
set_option linter.unusedVariables false
variable {R : FRes → Heap → Prop} {H : Heap}

def smallC (b : Nat) : Bool := decide (97 ≤ b ∧ b ≤ 122)
/-- May such a letter stand there in a name? -/
def okC (i b : Nat) : Bool := smallC b || (decide (i ≠ 0) && (decide (b = 95) || decide (48 ≤ b ∧ b ≤ 57)))
def okFrom : Nat → List UInt8 → Bool
  | _, [] => true
  | i, c :: l => okC i c.toNat && okFrom (i + 1) l
theorem okFrom_iff : ∀ (l : List UInt8) (k : Nat), okFrom k l = true ↔ ∀ (j : Nat) (c : UInt8), l[j]? = some c → okC (k + j) c.toNat = true
  | [], k => by simp [okFrom]
  | c :: l, k => by
    rw [okFrom, Bool.and_eq_true, okFrom_iff l (k + 1)]
    constructor
    · rintro ⟨h1, h2⟩ j d hj
      cases j with
      | zero => simp at hj; rw [← hj]; exact h1
      | succ j => simp at hj; rw [show k + (j + 1) = k + 1 + j by omega]; exact h2 j d hj
    · intro h
      exact ⟨h 0 c rfl, fun j d hj => by rw [show k + 1 + j = k + (j + 1) by omega]; exact h (j + 1) d (by simpa using hj)⟩

/-- Is it a name? -/
def isNm (l : List UInt8) : Bool := decide (l ≠ [] ∧ l.length ≤ 32) && okFrom 0 l && !wordsL.contains l

theorem ok_no32 {l : List UInt8} (h : okFrom 0 l = true) : ∀ c ∈ l, c ≠ 32 := by
  rintro c hc rfl
  obtain ⟨j, hj, he⟩ := List.getElem_of_mem hc
  have := (okFrom_iff l 0).1 h j 32 (by simp [← he])
  simp [okC, smallC] at this

theorem res_eq : ([32, 97, 99, 99, 101, 112, 116, 32, 97, 99, 116, 105, 111, 110, 32, 97, 100, 100, 32, 97, 103, 97, 105, 110, 32, 97, 112, 112, 108, 121, 32, 99, 97, 110, 32, 99, 111, 110, 116, 114, 111, 108, 32, 100, 101, 102, 97, 117, 108, 116, 32, 100, 114, 111, 112, 32, 101, 108, 115, 101, 32, 101, 120, 97, 99, 116, 32, 101, 120, 105, 116, 32, 102, 105, 120, 101, 100, 32, 104, 101, 97, 100, 101, 114, 32, 105, 102, 32, 107, 101, 121, 32, 109, 101, 116, 97, 32, 111, 110, 32, 112, 114, 101, 102, 105, 120, 32, 114, 97, 110, 103, 101, 32, 114, 101, 106, 101, 99, 116, 32, 114, 101, 109, 111, 118, 101, 32, 115, 105, 122, 101, 32, 115, 116, 97, 116, 101, 32, 115, 117, 109, 32, 116, 97, 98, 108, 101, 32, 116, 97, 107, 101, 32, 116, 101, 114, 110, 97, 114, 121, 32, 118, 97, 108, 105, 100, 32] : List UInt8) = resT := by decide +kernel

def nmI (l : List UInt8) (H : Heap) : Nat → Env → Heap → Prop := fun z e K =>
  ∃ i : Nat, i ≤ l.length ∧ z = l.length - i ∧ K = H ++ [.row (l.map fun c => .int .u8 (c.toNat : Int)) 1 true] ∧ (∀ (j : Nat) (c : UInt8), j < i → l[j]? = some c → okC j c.toNat = true) ∧
    (∃ x : Nat → Value, e = [.string (bs l), x 1, x 2, x 3, x 4, x 5, x 6, x 7, x 8, x 9, x 10, x 11, x 12, x 13, .slice (some ⟨H.length, 0, none⟩) l.length l.length, .int .i64 (l.length : Int), .int .i64 (i : Int), x 17, x 18, x 19, x 20, x 21, x 22, x 23, x 24, x 25, x 26, x 27, x 28, x 29, x 30, x 31, x 32, x 33, x 34, x 35, x 36, x 37, x 38, x 39, x 40, x 41, x 42, x 43, x 44, x 45, x 46, x 47, x 48, x 49, x 50])

set_option maxHeartbeats 4000000 in
theorem isName_s {l : List UInt8} (h : R (.ret (.bool (isNm l))) H) : WD T 9 [.string (bs l)] H R := by
  refine WD.gc0 (WD.of follows t9 (by simp) ?_)
  have fin : ∀ b : Bool, isNm l = b → ∃ v, FRes.ret (.bool b) = .ret v ∧ (∃ g, H = H ++ g) ∧ Scoped H.length v ∧ R (.ret v) H := fun b hb => by
    rw [hb] at h
    exact ⟨_, rfl, ⟨[], by simp⟩, .closed rfl, h⟩
  by_cases h0 : l = []
  · have hf : isNm l = false := by subst h0; rfl
    rw [hf] at h
    subst h0
    simp (disch := omega) only [kB, kcx, kdm, kdn, kel, aop, resultsL, resultOf, Nat.reduceEqDiff, reduceCtorEq, eq1, apartOK, apart2, AObj.live, Int.reduceEq, Int.reduceLT, Int.reduceLE, Int.reduceAdd, Int.reduceSub, Int.reduceMul, Int.reduceToNat, cutCells, Nat.reduceAdd, Nat.reduceLeDiff, Nat.reduceLT, Nat.reduceMul, Nat.reduceSub]
    exact ⟨_, rfl, ⟨[], by simp⟩, .closed rfl, h⟩
  by_cases h32 : 32 < l.length
  · have hf : isNm l = false := by unfold isNm; rw [decide_eq_false (fun q => by omega)]; rfl
    rw [hf] at h
    have c1 : (32 : Int) < (l.length : Int) := by omega
    simp (disch := omega) only [kB, kcx, kdm, kdn, kel, aop, resultsL, resultOf, Nat.reduceEqDiff, reduceCtorEq, eq1, apartOK, apart2, AObj.live, Int.reduceEq, Int.reduceLT, Int.reduceLE, Int.reduceAdd, Int.reduceSub, Int.reduceMul, Int.reduceToNat, cutCells, Nat.reduceAdd, Nat.reduceLeDiff, Nat.reduceLT, Nat.reduceMul, Nat.reduceSub, h0, c1]
    exact ⟨_, rfl, ⟨[], by simp⟩, .closed rfl, h⟩
  have c1 : ¬ (32 : Int) < (l.length : Int) := by omega
  have hlen : decide (l ≠ [] ∧ l.length ≤ 32) = true := decide_eq_true ⟨h0, by omega⟩
  simp (disch := omega) only [kB, kcx, kdm, kdn, kel, aop, resultsL, resultOf, Nat.reduceEqDiff, reduceCtorEq, eq1, apartOK, apart2, AObj.live, Int.reduceEq, Int.reduceLT, Int.reduceLE, Int.reduceAdd, Int.reduceSub, Int.reduceMul, Int.reduceToNat, cutCells, Nat.reduceAdd, Nat.reduceLeDiff, Nat.reduceLT, Nat.reduceMul, Nat.reduceSub, h0, c1]
  refine WLoop.inv (nmI l H) ?_ l.length _ _ ⟨0, Nat.zero_le _, by omega, rfl, fun j c hj => by omega, by exact ex_env rfl⟩
  rintro z e K ⟨i, hi, rfl, rfl, hok, ⟨x, rfl⟩⟩
  by_cases hlt : i < l.length
  · have c0 : (i : Int) < (l.length : Int) := by omega
    have hg : l[i]? = some l[i] := List.getElem?_eq_getElem hlt
    have hgm : (l.map fun c => Value.int .u8 (c.toNat : Int))[i]? = some (.int .u8 ((l[i].toNat : Nat) : Int)) := by rw [List.getElem?_map, hg]; rfl
    have w2 : IntKind.i64.wrap ((i : Int) + 1) = ((i + 1 : Nat) : Int) := by rw [show (i : Int) + 1 = ((i + 1 : Nat) : Int) by omega]; exact wr_i64 (by omega) (by omega)
    have next : okC i (l[i]).toNat = true → ∀ e : Env, (∃ x : Nat → Value, e = [.string (bs l), x 1, x 2, x 3, x 4, x 5, x 6, x 7, x 8, x 9, x 10, x 11, x 12, x 13, .slice (some ⟨H.length, 0, none⟩) l.length l.length, .int .i64 (l.length : Int), .int .i64 ((i + 1 : Nat) : Int), x 17, x 18, x 19, x 20, x 21, x 22, x 23, x 24, x 25, x 26, x 27, x 28, x 29, x 30, x 31, x 32, x 33, x 34, x 35, x 36, x 37, x 38, x 39, x 40, x 41, x 42, x 43, x 44, x 45, x 46, x 47, x 48, x 49, x 50]) → ∃ m, m < l.length - i ∧ nmI l H m e (H ++ [.row (l.map fun c => .int .u8 (c.toNat : Int)) 1 true]) := fun ho e he => by
      refine ⟨l.length - (i + 1), by omega, i + 1, by omega, rfl, rfl, fun j c hj hc => ?_, he⟩
      by_cases hji : j = i
      · subst hji; rw [hg] at hc; cases hc; exact ho
      · exact hok j c (by omega) hc
    have bad : okC i (l[i]).toNat = false → ∃ v, FRes.ret (.bool false) = .ret v ∧ (∃ g, H ++ [.row (l.map fun c => .int .u8 (c.toNat : Int)) 1 true] = H ++ g) ∧ Scoped H.length v ∧ R (.ret v) H := fun ho => by
      have hf : isNm l = false := by
        have : okFrom 0 l = false := by
          cases hq : okFrom 0 l with
          | false => rfl
          | true =>
            have := (okFrom_iff l 0).1 hq i l[i] hg
            rw [Nat.zero_add, ho] at this
            cases this
        unfold isNm
        rw [this, Bool.and_false, Bool.false_and]
      rw [hf] at h
      exact ⟨_, rfl, ⟨_, rfl⟩, .closed rfl, h⟩
    by_cases a1 : 97 ≤ l[i].toNat
    · have x1 : (97 : Int) ≤ ((l[i].toNat : Nat) : Int) := by omega
      by_cases a2 : l[i].toNat ≤ 122
      · have x2 : ((l[i].toNat : Nat) : Int) ≤ 122 := by omega
        simp (disch := omega) only [kB, kcx, kdm, kdn, kel, aop, resultsL, resultOf, Nat.reduceEqDiff, reduceCtorEq, eq1, apartOK, apart2, AObj.live, Int.reduceEq, Int.reduceLT, Int.reduceLE, Int.reduceAdd, Int.reduceSub, Int.reduceMul, Int.reduceToNat, cutCells, Nat.reduceAdd, Nat.reduceLeDiff, Nat.reduceLT, Nat.reduceMul, Nat.reduceSub, c0, hgm, x1, x2, w2]
        exact next (by unfold okC smallC; simp [a1, a2]) _ (by exact ex_env rfl)
      · have x2 : ¬ ((l[i].toNat : Nat) : Int) ≤ 122 := by omega
        by_cases i0 : i = 0
        · have z0 : ((i : Int) = 0) = True := eq_true (by omega)
          simp (disch := omega) only [kB, kcx, kdm, kdn, kel, aop, resultsL, resultOf, Nat.reduceEqDiff, reduceCtorEq, eq1, apartOK, apart2, AObj.live, Int.reduceEq, Int.reduceLT, Int.reduceLE, Int.reduceAdd, Int.reduceSub, Int.reduceMul, Int.reduceToNat, cutCells, Nat.reduceAdd, Nat.reduceLeDiff, Nat.reduceLT, Nat.reduceMul, Nat.reduceSub, c0, hgm, x1, x2, z0]
          exact bad (by unfold okC; rw [show smallC l[i].toNat = false from decide_eq_false (by omega), decide_eq_false (show ¬ i ≠ 0 from fun q => q i0)]; rfl)
        have z0 : ((i : Int) = 0) = False := eq_false (by omega)
        have d1 : ¬ l[i].toNat = 95 := by omega
        have y1 : (((l[i].toNat : Nat) : Int) = 95) = False := eq_false (by omega)
        have y2 : ¬ ((l[i].toNat : Nat) : Int) < 48 := by omega
        have y3 : (57 : Int) < ((l[i].toNat : Nat) : Int) := by omega
        simp (disch := omega) only [kB, kcx, kdm, kdn, kel, aop, resultsL, resultOf, Nat.reduceEqDiff, reduceCtorEq, eq1, apartOK, apart2, AObj.live, Int.reduceEq, Int.reduceLT, Int.reduceLE, Int.reduceAdd, Int.reduceSub, Int.reduceMul, Int.reduceToNat, cutCells, Nat.reduceAdd, Nat.reduceLeDiff, Nat.reduceLT, Nat.reduceMul, Nat.reduceSub, c0, hgm, x1, x2, z0, y1, y2, y3]
        exact bad (by unfold okC; rw [show smallC l[i].toNat = false from decide_eq_false (by omega), decide_eq_false d1, decide_eq_false (show ¬ (48 ≤ l[i].toNat ∧ l[i].toNat ≤ 57) by omega)]; simp)
    · have x1 : ¬ (97 : Int) ≤ ((l[i].toNat : Nat) : Int) := by omega
      by_cases i0 : i = 0
      · have z0 : ((i : Int) = 0) = True := eq_true (by omega)
        simp (disch := omega) only [kB, kcx, kdm, kdn, kel, aop, resultsL, resultOf, Nat.reduceEqDiff, reduceCtorEq, eq1, apartOK, apart2, AObj.live, Int.reduceEq, Int.reduceLT, Int.reduceLE, Int.reduceAdd, Int.reduceSub, Int.reduceMul, Int.reduceToNat, cutCells, Nat.reduceAdd, Nat.reduceLeDiff, Nat.reduceLT, Nat.reduceMul, Nat.reduceSub, c0, hgm, x1, z0]
        exact bad (by unfold okC; rw [show smallC l[i].toNat = false from decide_eq_false (by omega), decide_eq_false (show ¬ i ≠ 0 from fun q => q i0)]; rfl)
      have z0 : ((i : Int) = 0) = False := eq_false (by omega)
      by_cases d1 : l[i].toNat = 95
      · have y1 : (((l[i].toNat : Nat) : Int) = 95) = True := eq_true (by omega)
        simp (disch := omega) only [kB, kcx, kdm, kdn, kel, aop, resultsL, resultOf, Nat.reduceEqDiff, reduceCtorEq, eq1, apartOK, apart2, AObj.live, Int.reduceEq, Int.reduceLT, Int.reduceLE, Int.reduceAdd, Int.reduceSub, Int.reduceMul, Int.reduceToNat, cutCells, Nat.reduceAdd, Nat.reduceLeDiff, Nat.reduceLT, Nat.reduceMul, Nat.reduceSub, c0, hgm, x1, z0, y1, w2]
        exact next (by unfold okC; rw [decide_eq_true (show i ≠ 0 from i0), decide_eq_true d1]; simp) _ (by exact ex_env rfl)
      have y1 : (((l[i].toNat : Nat) : Int) = 95) = False := eq_false (by omega)
      by_cases d2 : l[i].toNat < 48
      · have y2 : ((l[i].toNat : Nat) : Int) < 48 := by omega
        simp (disch := omega) only [kB, kcx, kdm, kdn, kel, aop, resultsL, resultOf, Nat.reduceEqDiff, reduceCtorEq, eq1, apartOK, apart2, AObj.live, Int.reduceEq, Int.reduceLT, Int.reduceLE, Int.reduceAdd, Int.reduceSub, Int.reduceMul, Int.reduceToNat, cutCells, Nat.reduceAdd, Nat.reduceLeDiff, Nat.reduceLT, Nat.reduceMul, Nat.reduceSub, c0, hgm, x1, z0, y1, y2]
        exact bad (by unfold okC; rw [show smallC l[i].toNat = false from decide_eq_false (by omega), decide_eq_false d1, decide_eq_false (show ¬ (48 ≤ l[i].toNat ∧ l[i].toNat ≤ 57) by omega)]; simp)
      have y2 : ¬ ((l[i].toNat : Nat) : Int) < 48 := by omega
      by_cases d3 : 57 < l[i].toNat
      · have y3 : (57 : Int) < ((l[i].toNat : Nat) : Int) := by omega
        simp (disch := omega) only [kB, kcx, kdm, kdn, kel, aop, resultsL, resultOf, Nat.reduceEqDiff, reduceCtorEq, eq1, apartOK, apart2, AObj.live, Int.reduceEq, Int.reduceLT, Int.reduceLE, Int.reduceAdd, Int.reduceSub, Int.reduceMul, Int.reduceToNat, cutCells, Nat.reduceAdd, Nat.reduceLeDiff, Nat.reduceLT, Nat.reduceMul, Nat.reduceSub, c0, hgm, x1, z0, y1, y2, y3]
        exact bad (by unfold okC; rw [show smallC l[i].toNat = false from decide_eq_false (by omega), decide_eq_false d1, decide_eq_false (show ¬ (48 ≤ l[i].toNat ∧ l[i].toNat ≤ 57) by omega)]; simp)
      have y3 : ¬ (57 : Int) < ((l[i].toNat : Nat) : Int) := by omega
      simp (disch := omega) only [kB, kcx, kdm, kdn, kel, aop, resultsL, resultOf, Nat.reduceEqDiff, reduceCtorEq, eq1, apartOK, apart2, AObj.live, Int.reduceEq, Int.reduceLT, Int.reduceLE, Int.reduceAdd, Int.reduceSub, Int.reduceMul, Int.reduceToNat, cutCells, Nat.reduceAdd, Nat.reduceLeDiff, Nat.reduceLT, Nat.reduceMul, Nat.reduceSub, c0, hgm, x1, z0, y1, y2, y3, w2]
      exact next (by unfold okC; rw [decide_eq_true (show i ≠ 0 from i0), decide_eq_true (show 48 ≤ l[i].toNat ∧ l[i].toNat ≤ 57 by omega)]; simp) _ (by exact ex_env rfl)
  · have c0 : ¬ (i : Int) < (l.length : Int) := by omega
    have hall : okFrom 0 l = true := (okFrom_iff l 0).2 fun j c hc => by
      rw [Nat.zero_add]
      have := (List.getElem?_eq_some_iff.1 hc).1
      exact hok j c (by omega) hc
    have hc : isNm l = !hasSub (32 :: (l ++ [32])) resT := by
      unfold isNm
      rw [hlen, hall, sub_word h0 (ok_no32 hall)]
      rfl
    have hadd1 : binV .add (.string (bs [32])) (.string (bs l)) = some (.string (bs ([32] ++ l))) := bin_str_add (by simp; omega)
    have hadd2 : binV .add (.string (bs (32 :: l))) (.string (bs [32])) = some (.string (bs (32 :: (l ++ [32])))) := bin_str_add (by simp; omega)
    simp (disch := omega) only [kB, kcx, kdm, kdn, kel, aop, resultsL, resultOf, Nat.reduceEqDiff, reduceCtorEq, eq1, apartOK, apart2, AObj.live, Int.reduceEq, Int.reduceLT, Int.reduceLE, Int.reduceAdd, Int.reduceSub, Int.reduceMul, Int.reduceToNat, cutCells, Nat.reduceAdd, Nat.reduceLeDiff, Nat.reduceLT, Nat.reduceMul, Nat.reduceSub, c0, hadd1, hadd2]
    refine contains_s (by decide) (by simp; omega) ?_
    rw [res_eq]
    simp (disch := omega) only [kB, kcx, kdm, kdn, kel, aop, resultsL, resultOf, Nat.reduceEqDiff, reduceCtorEq, eq1, apartOK, apart2, AObj.live, Int.reduceEq, Int.reduceLT, Int.reduceLE, Int.reduceAdd, Int.reduceSub, Int.reduceMul, Int.reduceToNat, cutCells, Nat.reduceAdd, Nat.reduceLeDiff, Nat.reduceLT, Nat.reduceMul, Nat.reduceSub]
    obtain ⟨v, h1, h2, h3, h4⟩ := fin (!hasSub (32 :: (l ++ [32])) resT) hc
    exact ⟨_, rfl, ⟨_, rfl⟩, .closed rfl, by cases h1; exact h4⟩

end Go.Proofs.Ytpllhhaeclnngaa.Ev

/- Which texts are names: the document's IsName. -/
namespace Go.Proofs.Ytpllhhaeclnngaa.Ev
set_option maxRecDepth 100000
set_option linter.unusedSimpArgs false
set_option linter.unusedVariables false
variable {R : FRes → Heap → Prop} {H : Heap}

set_option maxHeartbeats 4000000 in
theorem reserved_s {l : List UInt8} (h : R (.ret (.bool (wordsL.contains l))) H) : WD T 31 [.string (bs l)] H R := by
  refine WD.of follows t31 (by simp) ?_
  by_cases h0 : l = [97, 99, 99, 101, 112, 116]
  · have q : (l = [97, 99, 99, 101, 112, 116]) = True := eq_true h0
    have hc : wordsL.contains l = true := by rw [h0]; decide
    rw [hc] at h
    simp (disch := omega) only [kB, kcx, kdm, kdn, kel, aop, resultsL, resultOf, Nat.reduceEqDiff, reduceCtorEq, eq1, apartOK, apart2, AObj.live, Int.reduceEq, Int.reduceLT, Int.reduceLE, Int.reduceAdd, Int.reduceSub, Int.reduceMul, Int.reduceToNat, cutCells, Nat.reduceAdd, Nat.reduceLeDiff, Nat.reduceLT, Nat.reduceMul, Nat.reduceSub, q]
    exact h
  by_cases h1 : l = [97, 99, 116, 105, 111, 110]
  · have q : (l = [97, 99, 116, 105, 111, 110]) = True := eq_true h1
    have hc : wordsL.contains l = true := by rw [h1]; decide
    rw [hc] at h
    simp (disch := omega) only [kB, kcx, kdm, kdn, kel, aop, resultsL, resultOf, Nat.reduceEqDiff, reduceCtorEq, eq1, apartOK, apart2, AObj.live, Int.reduceEq, Int.reduceLT, Int.reduceLE, Int.reduceAdd, Int.reduceSub, Int.reduceMul, Int.reduceToNat, cutCells, Nat.reduceAdd, Nat.reduceLeDiff, Nat.reduceLT, Nat.reduceMul, Nat.reduceSub, h0, q]
    exact h
  by_cases h2 : l = [97, 100, 100]
  · have q : (l = [97, 100, 100]) = True := eq_true h2
    have hc : wordsL.contains l = true := by rw [h2]; decide
    rw [hc] at h
    simp (disch := omega) only [kB, kcx, kdm, kdn, kel, aop, resultsL, resultOf, Nat.reduceEqDiff, reduceCtorEq, eq1, apartOK, apart2, AObj.live, Int.reduceEq, Int.reduceLT, Int.reduceLE, Int.reduceAdd, Int.reduceSub, Int.reduceMul, Int.reduceToNat, cutCells, Nat.reduceAdd, Nat.reduceLeDiff, Nat.reduceLT, Nat.reduceMul, Nat.reduceSub, h0, h1, q]
    exact h
  by_cases h3 : l = [97, 103, 97, 105, 110]
  · have q : (l = [97, 103, 97, 105, 110]) = True := eq_true h3
    have hc : wordsL.contains l = true := by rw [h3]; decide
    rw [hc] at h
    simp (disch := omega) only [kB, kcx, kdm, kdn, kel, aop, resultsL, resultOf, Nat.reduceEqDiff, reduceCtorEq, eq1, apartOK, apart2, AObj.live, Int.reduceEq, Int.reduceLT, Int.reduceLE, Int.reduceAdd, Int.reduceSub, Int.reduceMul, Int.reduceToNat, cutCells, Nat.reduceAdd, Nat.reduceLeDiff, Nat.reduceLT, Nat.reduceMul, Nat.reduceSub, h0, h1, h2, q]
    exact h
  by_cases h4 : l = [97, 112, 112, 108, 121]
  · have q : (l = [97, 112, 112, 108, 121]) = True := eq_true h4
    have hc : wordsL.contains l = true := by rw [h4]; decide
    rw [hc] at h
    simp (disch := omega) only [kB, kcx, kdm, kdn, kel, aop, resultsL, resultOf, Nat.reduceEqDiff, reduceCtorEq, eq1, apartOK, apart2, AObj.live, Int.reduceEq, Int.reduceLT, Int.reduceLE, Int.reduceAdd, Int.reduceSub, Int.reduceMul, Int.reduceToNat, cutCells, Nat.reduceAdd, Nat.reduceLeDiff, Nat.reduceLT, Nat.reduceMul, Nat.reduceSub, h0, h1, h2, h3, q]
    exact h
  by_cases h5 : l = [99, 97, 110]
  · have q : (l = [99, 97, 110]) = True := eq_true h5
    have hc : wordsL.contains l = true := by rw [h5]; decide
    rw [hc] at h
    simp (disch := omega) only [kB, kcx, kdm, kdn, kel, aop, resultsL, resultOf, Nat.reduceEqDiff, reduceCtorEq, eq1, apartOK, apart2, AObj.live, Int.reduceEq, Int.reduceLT, Int.reduceLE, Int.reduceAdd, Int.reduceSub, Int.reduceMul, Int.reduceToNat, cutCells, Nat.reduceAdd, Nat.reduceLeDiff, Nat.reduceLT, Nat.reduceMul, Nat.reduceSub, h0, h1, h2, h3, h4, q]
    exact h
  by_cases h6 : l = [99, 111, 110, 116, 114, 111, 108]
  · have q : (l = [99, 111, 110, 116, 114, 111, 108]) = True := eq_true h6
    have hc : wordsL.contains l = true := by rw [h6]; decide
    rw [hc] at h
    simp (disch := omega) only [kB, kcx, kdm, kdn, kel, aop, resultsL, resultOf, Nat.reduceEqDiff, reduceCtorEq, eq1, apartOK, apart2, AObj.live, Int.reduceEq, Int.reduceLT, Int.reduceLE, Int.reduceAdd, Int.reduceSub, Int.reduceMul, Int.reduceToNat, cutCells, Nat.reduceAdd, Nat.reduceLeDiff, Nat.reduceLT, Nat.reduceMul, Nat.reduceSub, h0, h1, h2, h3, h4, h5, q]
    exact h
  by_cases h7 : l = [100, 101, 102, 97, 117, 108, 116]
  · have q : (l = [100, 101, 102, 97, 117, 108, 116]) = True := eq_true h7
    have hc : wordsL.contains l = true := by rw [h7]; decide
    rw [hc] at h
    simp (disch := omega) only [kB, kcx, kdm, kdn, kel, aop, resultsL, resultOf, Nat.reduceEqDiff, reduceCtorEq, eq1, apartOK, apart2, AObj.live, Int.reduceEq, Int.reduceLT, Int.reduceLE, Int.reduceAdd, Int.reduceSub, Int.reduceMul, Int.reduceToNat, cutCells, Nat.reduceAdd, Nat.reduceLeDiff, Nat.reduceLT, Nat.reduceMul, Nat.reduceSub, h0, h1, h2, h3, h4, h5, h6, q]
    exact h
  by_cases h8 : l = [100, 114, 111, 112]
  · have q : (l = [100, 114, 111, 112]) = True := eq_true h8
    have hc : wordsL.contains l = true := by rw [h8]; decide
    rw [hc] at h
    simp (disch := omega) only [kB, kcx, kdm, kdn, kel, aop, resultsL, resultOf, Nat.reduceEqDiff, reduceCtorEq, eq1, apartOK, apart2, AObj.live, Int.reduceEq, Int.reduceLT, Int.reduceLE, Int.reduceAdd, Int.reduceSub, Int.reduceMul, Int.reduceToNat, cutCells, Nat.reduceAdd, Nat.reduceLeDiff, Nat.reduceLT, Nat.reduceMul, Nat.reduceSub, h0, h1, h2, h3, h4, h5, h6, h7, q]
    exact h
  by_cases h9 : l = [101, 108, 115, 101]
  · have q : (l = [101, 108, 115, 101]) = True := eq_true h9
    have hc : wordsL.contains l = true := by rw [h9]; decide
    rw [hc] at h
    simp (disch := omega) only [kB, kcx, kdm, kdn, kel, aop, resultsL, resultOf, Nat.reduceEqDiff, reduceCtorEq, eq1, apartOK, apart2, AObj.live, Int.reduceEq, Int.reduceLT, Int.reduceLE, Int.reduceAdd, Int.reduceSub, Int.reduceMul, Int.reduceToNat, cutCells, Nat.reduceAdd, Nat.reduceLeDiff, Nat.reduceLT, Nat.reduceMul, Nat.reduceSub, h0, h1, h2, h3, h4, h5, h6, h7, h8, q]
    exact h
  by_cases h10 : l = [101, 120, 97, 99, 116]
  · have q : (l = [101, 120, 97, 99, 116]) = True := eq_true h10
    have hc : wordsL.contains l = true := by rw [h10]; decide
    rw [hc] at h
    simp (disch := omega) only [kB, kcx, kdm, kdn, kel, aop, resultsL, resultOf, Nat.reduceEqDiff, reduceCtorEq, eq1, apartOK, apart2, AObj.live, Int.reduceEq, Int.reduceLT, Int.reduceLE, Int.reduceAdd, Int.reduceSub, Int.reduceMul, Int.reduceToNat, cutCells, Nat.reduceAdd, Nat.reduceLeDiff, Nat.reduceLT, Nat.reduceMul, Nat.reduceSub, h0, h1, h2, h3, h4, h5, h6, h7, h8, h9, q]
    exact h
  by_cases h11 : l = [101, 120, 105, 116]
  · have q : (l = [101, 120, 105, 116]) = True := eq_true h11
    have hc : wordsL.contains l = true := by rw [h11]; decide
    rw [hc] at h
    simp (disch := omega) only [kB, kcx, kdm, kdn, kel, aop, resultsL, resultOf, Nat.reduceEqDiff, reduceCtorEq, eq1, apartOK, apart2, AObj.live, Int.reduceEq, Int.reduceLT, Int.reduceLE, Int.reduceAdd, Int.reduceSub, Int.reduceMul, Int.reduceToNat, cutCells, Nat.reduceAdd, Nat.reduceLeDiff, Nat.reduceLT, Nat.reduceMul, Nat.reduceSub, h0, h1, h2, h3, h4, h5, h6, h7, h8, h9, h10, q]
    exact h
  by_cases h12 : l = [102, 105, 120, 101, 100]
  · have q : (l = [102, 105, 120, 101, 100]) = True := eq_true h12
    have hc : wordsL.contains l = true := by rw [h12]; decide
    rw [hc] at h
    simp (disch := omega) only [kB, kcx, kdm, kdn, kel, aop, resultsL, resultOf, Nat.reduceEqDiff, reduceCtorEq, eq1, apartOK, apart2, AObj.live, Int.reduceEq, Int.reduceLT, Int.reduceLE, Int.reduceAdd, Int.reduceSub, Int.reduceMul, Int.reduceToNat, cutCells, Nat.reduceAdd, Nat.reduceLeDiff, Nat.reduceLT, Nat.reduceMul, Nat.reduceSub, h0, h1, h2, h3, h4, h5, h6, h7, h8, h9, h10, h11, q]
    exact h
  by_cases h13 : l = [104, 101, 97, 100, 101, 114]
  · have q : (l = [104, 101, 97, 100, 101, 114]) = True := eq_true h13
    have hc : wordsL.contains l = true := by rw [h13]; decide
    rw [hc] at h
    simp (disch := omega) only [kB, kcx, kdm, kdn, kel, aop, resultsL, resultOf, Nat.reduceEqDiff, reduceCtorEq, eq1, apartOK, apart2, AObj.live, Int.reduceEq, Int.reduceLT, Int.reduceLE, Int.reduceAdd, Int.reduceSub, Int.reduceMul, Int.reduceToNat, cutCells, Nat.reduceAdd, Nat.reduceLeDiff, Nat.reduceLT, Nat.reduceMul, Nat.reduceSub, h0, h1, h2, h3, h4, h5, h6, h7, h8, h9, h10, h11, h12, q]
    exact h
  by_cases h14 : l = [105, 102]
  · have q : (l = [105, 102]) = True := eq_true h14
    have hc : wordsL.contains l = true := by rw [h14]; decide
    rw [hc] at h
    simp (disch := omega) only [kB, kcx, kdm, kdn, kel, aop, resultsL, resultOf, Nat.reduceEqDiff, reduceCtorEq, eq1, apartOK, apart2, AObj.live, Int.reduceEq, Int.reduceLT, Int.reduceLE, Int.reduceAdd, Int.reduceSub, Int.reduceMul, Int.reduceToNat, cutCells, Nat.reduceAdd, Nat.reduceLeDiff, Nat.reduceLT, Nat.reduceMul, Nat.reduceSub, h0, h1, h2, h3, h4, h5, h6, h7, h8, h9, h10, h11, h12, h13, q]
    exact h
  by_cases h15 : l = [107, 101, 121]
  · have q : (l = [107, 101, 121]) = True := eq_true h15
    have hc : wordsL.contains l = true := by rw [h15]; decide
    rw [hc] at h
    simp (disch := omega) only [kB, kcx, kdm, kdn, kel, aop, resultsL, resultOf, Nat.reduceEqDiff, reduceCtorEq, eq1, apartOK, apart2, AObj.live, Int.reduceEq, Int.reduceLT, Int.reduceLE, Int.reduceAdd, Int.reduceSub, Int.reduceMul, Int.reduceToNat, cutCells, Nat.reduceAdd, Nat.reduceLeDiff, Nat.reduceLT, Nat.reduceMul, Nat.reduceSub, h0, h1, h2, h3, h4, h5, h6, h7, h8, h9, h10, h11, h12, h13, h14, q]
    exact h
  by_cases h16 : l = [109, 101, 116, 97]
  · have q : (l = [109, 101, 116, 97]) = True := eq_true h16
    have hc : wordsL.contains l = true := by rw [h16]; decide
    rw [hc] at h
    simp (disch := omega) only [kB, kcx, kdm, kdn, kel, aop, resultsL, resultOf, Nat.reduceEqDiff, reduceCtorEq, eq1, apartOK, apart2, AObj.live, Int.reduceEq, Int.reduceLT, Int.reduceLE, Int.reduceAdd, Int.reduceSub, Int.reduceMul, Int.reduceToNat, cutCells, Nat.reduceAdd, Nat.reduceLeDiff, Nat.reduceLT, Nat.reduceMul, Nat.reduceSub, h0, h1, h2, h3, h4, h5, h6, h7, h8, h9, h10, h11, h12, h13, h14, h15, q]
    exact h
  by_cases h17 : l = [111, 110]
  · have q : (l = [111, 110]) = True := eq_true h17
    have hc : wordsL.contains l = true := by rw [h17]; decide
    rw [hc] at h
    simp (disch := omega) only [kB, kcx, kdm, kdn, kel, aop, resultsL, resultOf, Nat.reduceEqDiff, reduceCtorEq, eq1, apartOK, apart2, AObj.live, Int.reduceEq, Int.reduceLT, Int.reduceLE, Int.reduceAdd, Int.reduceSub, Int.reduceMul, Int.reduceToNat, cutCells, Nat.reduceAdd, Nat.reduceLeDiff, Nat.reduceLT, Nat.reduceMul, Nat.reduceSub, h0, h1, h2, h3, h4, h5, h6, h7, h8, h9, h10, h11, h12, h13, h14, h15, h16, q]
    exact h
  by_cases h18 : l = [112, 114, 101, 102, 105, 120]
  · have q : (l = [112, 114, 101, 102, 105, 120]) = True := eq_true h18
    have hc : wordsL.contains l = true := by rw [h18]; decide
    rw [hc] at h
    simp (disch := omega) only [kB, kcx, kdm, kdn, kel, aop, resultsL, resultOf, Nat.reduceEqDiff, reduceCtorEq, eq1, apartOK, apart2, AObj.live, Int.reduceEq, Int.reduceLT, Int.reduceLE, Int.reduceAdd, Int.reduceSub, Int.reduceMul, Int.reduceToNat, cutCells, Nat.reduceAdd, Nat.reduceLeDiff, Nat.reduceLT, Nat.reduceMul, Nat.reduceSub, h0, h1, h2, h3, h4, h5, h6, h7, h8, h9, h10, h11, h12, h13, h14, h15, h16, h17, q]
    exact h
  by_cases h19 : l = [114, 97, 110, 103, 101]
  · have q : (l = [114, 97, 110, 103, 101]) = True := eq_true h19
    have hc : wordsL.contains l = true := by rw [h19]; decide
    rw [hc] at h
    simp (disch := omega) only [kB, kcx, kdm, kdn, kel, aop, resultsL, resultOf, Nat.reduceEqDiff, reduceCtorEq, eq1, apartOK, apart2, AObj.live, Int.reduceEq, Int.reduceLT, Int.reduceLE, Int.reduceAdd, Int.reduceSub, Int.reduceMul, Int.reduceToNat, cutCells, Nat.reduceAdd, Nat.reduceLeDiff, Nat.reduceLT, Nat.reduceMul, Nat.reduceSub, h0, h1, h2, h3, h4, h5, h6, h7, h8, h9, h10, h11, h12, h13, h14, h15, h16, h17, h18, q]
    exact h
  by_cases h20 : l = [114, 101, 106, 101, 99, 116]
  · have q : (l = [114, 101, 106, 101, 99, 116]) = True := eq_true h20
    have hc : wordsL.contains l = true := by rw [h20]; decide
    rw [hc] at h
    simp (disch := omega) only [kB, kcx, kdm, kdn, kel, aop, resultsL, resultOf, Nat.reduceEqDiff, reduceCtorEq, eq1, apartOK, apart2, AObj.live, Int.reduceEq, Int.reduceLT, Int.reduceLE, Int.reduceAdd, Int.reduceSub, Int.reduceMul, Int.reduceToNat, cutCells, Nat.reduceAdd, Nat.reduceLeDiff, Nat.reduceLT, Nat.reduceMul, Nat.reduceSub, h0, h1, h2, h3, h4, h5, h6, h7, h8, h9, h10, h11, h12, h13, h14, h15, h16, h17, h18, h19, q]
    exact h
  by_cases h21 : l = [114, 101, 109, 111, 118, 101]
  · have q : (l = [114, 101, 109, 111, 118, 101]) = True := eq_true h21
    have hc : wordsL.contains l = true := by rw [h21]; decide
    rw [hc] at h
    simp (disch := omega) only [kB, kcx, kdm, kdn, kel, aop, resultsL, resultOf, Nat.reduceEqDiff, reduceCtorEq, eq1, apartOK, apart2, AObj.live, Int.reduceEq, Int.reduceLT, Int.reduceLE, Int.reduceAdd, Int.reduceSub, Int.reduceMul, Int.reduceToNat, cutCells, Nat.reduceAdd, Nat.reduceLeDiff, Nat.reduceLT, Nat.reduceMul, Nat.reduceSub, h0, h1, h2, h3, h4, h5, h6, h7, h8, h9, h10, h11, h12, h13, h14, h15, h16, h17, h18, h19, h20, q]
    exact h
  by_cases h22 : l = [115, 105, 122, 101]
  · have q : (l = [115, 105, 122, 101]) = True := eq_true h22
    have hc : wordsL.contains l = true := by rw [h22]; decide
    rw [hc] at h
    simp (disch := omega) only [kB, kcx, kdm, kdn, kel, aop, resultsL, resultOf, Nat.reduceEqDiff, reduceCtorEq, eq1, apartOK, apart2, AObj.live, Int.reduceEq, Int.reduceLT, Int.reduceLE, Int.reduceAdd, Int.reduceSub, Int.reduceMul, Int.reduceToNat, cutCells, Nat.reduceAdd, Nat.reduceLeDiff, Nat.reduceLT, Nat.reduceMul, Nat.reduceSub, h0, h1, h2, h3, h4, h5, h6, h7, h8, h9, h10, h11, h12, h13, h14, h15, h16, h17, h18, h19, h20, h21, q]
    exact h
  by_cases h23 : l = [115, 116, 97, 116, 101]
  · have q : (l = [115, 116, 97, 116, 101]) = True := eq_true h23
    have hc : wordsL.contains l = true := by rw [h23]; decide
    rw [hc] at h
    simp (disch := omega) only [kB, kcx, kdm, kdn, kel, aop, resultsL, resultOf, Nat.reduceEqDiff, reduceCtorEq, eq1, apartOK, apart2, AObj.live, Int.reduceEq, Int.reduceLT, Int.reduceLE, Int.reduceAdd, Int.reduceSub, Int.reduceMul, Int.reduceToNat, cutCells, Nat.reduceAdd, Nat.reduceLeDiff, Nat.reduceLT, Nat.reduceMul, Nat.reduceSub, h0, h1, h2, h3, h4, h5, h6, h7, h8, h9, h10, h11, h12, h13, h14, h15, h16, h17, h18, h19, h20, h21, h22, q]
    exact h
  by_cases h24 : l = [115, 117, 109]
  · have q : (l = [115, 117, 109]) = True := eq_true h24
    have hc : wordsL.contains l = true := by rw [h24]; decide
    rw [hc] at h
    simp (disch := omega) only [kB, kcx, kdm, kdn, kel, aop, resultsL, resultOf, Nat.reduceEqDiff, reduceCtorEq, eq1, apartOK, apart2, AObj.live, Int.reduceEq, Int.reduceLT, Int.reduceLE, Int.reduceAdd, Int.reduceSub, Int.reduceMul, Int.reduceToNat, cutCells, Nat.reduceAdd, Nat.reduceLeDiff, Nat.reduceLT, Nat.reduceMul, Nat.reduceSub, h0, h1, h2, h3, h4, h5, h6, h7, h8, h9, h10, h11, h12, h13, h14, h15, h16, h17, h18, h19, h20, h21, h22, h23, q]
    exact h
  by_cases h25 : l = [116, 97, 98, 108, 101]
  · have q : (l = [116, 97, 98, 108, 101]) = True := eq_true h25
    have hc : wordsL.contains l = true := by rw [h25]; decide
    rw [hc] at h
    simp (disch := omega) only [kB, kcx, kdm, kdn, kel, aop, resultsL, resultOf, Nat.reduceEqDiff, reduceCtorEq, eq1, apartOK, apart2, AObj.live, Int.reduceEq, Int.reduceLT, Int.reduceLE, Int.reduceAdd, Int.reduceSub, Int.reduceMul, Int.reduceToNat, cutCells, Nat.reduceAdd, Nat.reduceLeDiff, Nat.reduceLT, Nat.reduceMul, Nat.reduceSub, h0, h1, h2, h3, h4, h5, h6, h7, h8, h9, h10, h11, h12, h13, h14, h15, h16, h17, h18, h19, h20, h21, h22, h23, h24, q]
    exact h
  by_cases h26 : l = [116, 97, 107, 101]
  · have q : (l = [116, 97, 107, 101]) = True := eq_true h26
    have hc : wordsL.contains l = true := by rw [h26]; decide
    rw [hc] at h
    simp (disch := omega) only [kB, kcx, kdm, kdn, kel, aop, resultsL, resultOf, Nat.reduceEqDiff, reduceCtorEq, eq1, apartOK, apart2, AObj.live, Int.reduceEq, Int.reduceLT, Int.reduceLE, Int.reduceAdd, Int.reduceSub, Int.reduceMul, Int.reduceToNat, cutCells, Nat.reduceAdd, Nat.reduceLeDiff, Nat.reduceLT, Nat.reduceMul, Nat.reduceSub, h0, h1, h2, h3, h4, h5, h6, h7, h8, h9, h10, h11, h12, h13, h14, h15, h16, h17, h18, h19, h20, h21, h22, h23, h24, h25, q]
    exact h
  by_cases h27 : l = [116, 101, 114, 110, 97, 114, 121]
  · have q : (l = [116, 101, 114, 110, 97, 114, 121]) = True := eq_true h27
    have hc : wordsL.contains l = true := by rw [h27]; decide
    rw [hc] at h
    simp (disch := omega) only [kB, kcx, kdm, kdn, kel, aop, resultsL, resultOf, Nat.reduceEqDiff, reduceCtorEq, eq1, apartOK, apart2, AObj.live, Int.reduceEq, Int.reduceLT, Int.reduceLE, Int.reduceAdd, Int.reduceSub, Int.reduceMul, Int.reduceToNat, cutCells, Nat.reduceAdd, Nat.reduceLeDiff, Nat.reduceLT, Nat.reduceMul, Nat.reduceSub, h0, h1, h2, h3, h4, h5, h6, h7, h8, h9, h10, h11, h12, h13, h14, h15, h16, h17, h18, h19, h20, h21, h22, h23, h24, h25, h26, q]
    exact h
  by_cases h28 : l = [118, 97, 108, 105, 100]
  · have q : (l = [118, 97, 108, 105, 100]) = True := eq_true h28
    have hc : wordsL.contains l = true := by rw [h28]; decide
    rw [hc] at h
    simp (disch := omega) only [kB, kcx, kdm, kdn, kel, aop, resultsL, resultOf, Nat.reduceEqDiff, reduceCtorEq, eq1, apartOK, apart2, AObj.live, Int.reduceEq, Int.reduceLT, Int.reduceLE, Int.reduceAdd, Int.reduceSub, Int.reduceMul, Int.reduceToNat, cutCells, Nat.reduceAdd, Nat.reduceLeDiff, Nat.reduceLT, Nat.reduceMul, Nat.reduceSub, h0, h1, h2, h3, h4, h5, h6, h7, h8, h9, h10, h11, h12, h13, h14, h15, h16, h17, h18, h19, h20, h21, h22, h23, h24, h25, h26, h27, q]
    exact h
  have hc : wordsL.contains l = false := by
    cases hq : wordsL.contains l with
    | false => rfl
    | true =>
      rw [List.contains_iff_mem] at hq
      simp only [wordsL, List.mem_cons, List.not_mem_nil, or_false] at hq
      simp only [h0, h1, h2, h3, h4, h5, h6, h7, h8, h9, h10, h11, h12, h13, h14, h15, h16, h17, h18, h19, h20, h21, h22, h23, h24, h25, h26, h27, h28, or_self] at hq
  rw [hc] at h
  simp (disch := omega) only [kB, kcx, kdm, kdn, kel, aop, resultsL, resultOf, Nat.reduceEqDiff, reduceCtorEq, eq1, apartOK, apart2, AObj.live, Int.reduceEq, Int.reduceLT, Int.reduceLE, Int.reduceAdd, Int.reduceSub, Int.reduceMul, Int.reduceToNat, cutCells, Nat.reduceAdd, Nat.reduceLeDiff, Nat.reduceLT, Nat.reduceMul, Nat.reduceSub, h0, h1, h2, h3, h4, h5, h6, h7, h8, h9, h10, h11, h12, h13, h14, h15, h16, h17, h18, h19, h20, h21, h22, h23, h24, h25, h26, h27, h28]
  exact h

end Go.Proofs.Ytpllhhaeclnngaa.Ev

/- The document's IsName; the law SchemaNames. -/
namespace Go.Proofs.Ytpllhhaeclnngaa.Ev
set_option maxRecDepth 100000
set_option linter.unusedSimpArgs false
set_option linter.unusedVariables false
variable {R : FRes → Heap → Prop} {H : Heap}

def rnI (l : List UInt8) (H : Heap) : Nat → Env → Heap → Prop := fun z e K =>
  ∃ i : Nat, i ≤ l.length ∧ z = l.length - i ∧ K = H ∧ (∀ (j : Nat) (c : UInt8), j < i → l[j]? = some c → okC j c.toNat = true) ∧
    (∃ x : Nat → Value, e = [.string (bs l), x 1, x 2, .int .i64 (i : Int), x 4, x 5, x 6, x 7, x 8, x 9, x 10, x 11, x 12, x 13, x 14, x 15, x 16, x 17, x 18, x 19, x 20, x 21, x 22, x 23, x 24, x 25, x 26, x 27, x 28, x 29, x 30, x 31, x 32, x 33, x 34, x 35, x 36, x 37, x 38, x 39, x 40, x 41, x 42, x 43, x 44, x 45, x 46, x 47, x 48, x 49, x 50, x 51, x 52, x 53, x 54, x 55, x 56, x 57, x 58, x 59, x 60])

set_option maxHeartbeats 4000000 in
theorem risName_s {l : List UInt8} (h : R (.ret (.bool (isNm l))) H) : WD T 10 [.string (bs l)] H R := by
  refine WD.of follows t10 (by simp) ?_
  by_cases h0 : l = []
  · have hf : isNm l = false := by subst h0; rfl
    rw [hf] at h
    subst h0
    simp (disch := omega) only [kB, kcx, kdm, kdn, kel, aop, resultsL, resultOf, Nat.reduceEqDiff, reduceCtorEq, eq1, apartOK, apart2, AObj.live, Int.reduceEq, Int.reduceLT, Int.reduceLE, Int.reduceAdd, Int.reduceSub, Int.reduceMul, Int.reduceToNat, cutCells, Nat.reduceAdd, Nat.reduceLeDiff, Nat.reduceLT, Nat.reduceMul, Nat.reduceSub]
    exact h
  have c2 : ¬ (l.length : Int) < 1 := by
    have := List.length_pos_iff.2 h0
    omega
  by_cases h32 : 32 < l.length
  · have hf : isNm l = false := by unfold isNm; rw [decide_eq_false (fun q => by omega)]; rfl
    rw [hf] at h
    have c1 : (32 : Int) < (l.length : Int) := by omega
    simp (disch := omega) only [kB, kcx, kdm, kdn, kel, aop, resultsL, resultOf, Nat.reduceEqDiff, reduceCtorEq, eq1, apartOK, apart2, AObj.live, Int.reduceEq, Int.reduceLT, Int.reduceLE, Int.reduceAdd, Int.reduceSub, Int.reduceMul, Int.reduceToNat, cutCells, Nat.reduceAdd, Nat.reduceLeDiff, Nat.reduceLT, Nat.reduceMul, Nat.reduceSub, c2, c1]
    exact h
  have c1 : ¬ (32 : Int) < (l.length : Int) := by omega
  have hlen : decide (l ≠ [] ∧ l.length ≤ 32) = true := decide_eq_true ⟨h0, by omega⟩
  simp (disch := omega) only [kB, kcx, kdm, kdn, kel, aop, resultsL, resultOf, Nat.reduceEqDiff, reduceCtorEq, eq1, apartOK, apart2, AObj.live, Int.reduceEq, Int.reduceLT, Int.reduceLE, Int.reduceAdd, Int.reduceSub, Int.reduceMul, Int.reduceToNat, cutCells, Nat.reduceAdd, Nat.reduceLeDiff, Nat.reduceLT, Nat.reduceMul, Nat.reduceSub, c2, c1]
  refine WLoop.inv (rnI l H) ?_ l.length _ _ ⟨0, Nat.zero_le _, by omega, rfl, fun j c hj => by omega, by exact ex_env rfl⟩
  rintro z e K ⟨i, hi, rfl, rfl, hok, ⟨x, rfl⟩⟩
  by_cases hlt : i < l.length
  · have c0 : (i : Int) < (l.length : Int) := by omega
    have hg : l[i]? = some l[i] := List.getElem?_eq_getElem hlt
    have w2 : IntKind.i64.wrap ((i : Int) + 1) = ((i + 1 : Nat) : Int) := by rw [show (i : Int) + 1 = ((i + 1 : Nat) : Int) by omega]; exact wr_i64 (by omega) (by omega)
    have next : okC i (l[i]).toNat = true → ∀ e : Env, (∃ x : Nat → Value, e = [.string (bs l), x 1, x 2, .int .i64 ((i + 1 : Nat) : Int), x 4, x 5, x 6, x 7, x 8, x 9, x 10, x 11, x 12, x 13, x 14, x 15, x 16, x 17, x 18, x 19, x 20, x 21, x 22, x 23, x 24, x 25, x 26, x 27, x 28, x 29, x 30, x 31, x 32, x 33, x 34, x 35, x 36, x 37, x 38, x 39, x 40, x 41, x 42, x 43, x 44, x 45, x 46, x 47, x 48, x 49, x 50, x 51, x 52, x 53, x 54, x 55, x 56, x 57, x 58, x 59, x 60]) → ∃ m, m < l.length - i ∧ rnI l K m e K := fun ho e he => by
      refine ⟨l.length - (i + 1), by omega, i + 1, by omega, rfl, rfl, fun j c hj hc => ?_, he⟩
      by_cases hji : j = i
      · subst hji; rw [hg] at hc; cases hc; exact ho
      · exact hok j c (by omega) hc
    have bad : okC i (l[i]).toNat = false → R (.ret (.bool false)) K := fun ho => by
      have hf : isNm l = false := by
        have : okFrom 0 l = false := by
          cases hq : okFrom 0 l with
          | false => rfl
          | true =>
            have := (okFrom_iff l 0).1 hq i l[i] hg
            rw [Nat.zero_add, ho] at this
            cases this
        unfold isNm
        rw [this, Bool.and_false, Bool.false_and]
      rw [hf] at h
      exact h
    by_cases a1 : 97 ≤ l[i].toNat
    · by_cases a2 : l[i].toNat ≤ 122
      · have xa1 : (97 : Int) ≤ ((l[i].toNat : Nat) : Int) := by omega
        have xa2 : ((l[i].toNat : Nat) : Int) ≤ 122 := by omega
        have xe1 : (48 : Int) ≤ ((l[i].toNat : Nat) : Int) := by omega
        have xe2 : ¬ ((l[i].toNat : Nat) : Int) ≤ 57 := by omega
        have xe3 : (((l[i].toNat : Nat) : Int) = 95) = False := eq_false (by omega)
        simp (disch := omega) only [kB, kcx, kdm, kdn, kel, aop, resultsL, resultOf, Nat.reduceEqDiff, reduceCtorEq, eq1, apartOK, apart2, AObj.live, Int.reduceEq, Int.reduceLT, Int.reduceLE, Int.reduceAdd, Int.reduceSub, Int.reduceMul, Int.reduceToNat, cutCells, Nat.reduceAdd, Nat.reduceLeDiff, Nat.reduceLT, Nat.reduceMul, Nat.reduceSub, c0, hg, xa1, xa2, xe1, xe2, xe3, w2]
        exact next (by unfold okC smallC; simp [a1, a2]) _ (by exact ex_env rfl)
      · have xa1 : (97 : Int) ≤ ((l[i].toNat : Nat) : Int) := by omega
        have xa2 : ¬ ((l[i].toNat : Nat) : Int) ≤ 122 := by omega
        have xe1 : (48 : Int) ≤ ((l[i].toNat : Nat) : Int) := by omega
        have xe2 : ¬ ((l[i].toNat : Nat) : Int) ≤ 57 := by omega
        have xe3 : (((l[i].toNat : Nat) : Int) = 95) = False := eq_false (by omega)
        by_cases i0 : i = 0
        · have z0 : ((i : Int) = 0) = True := eq_true (by omega)
          simp (disch := omega) only [kB, kcx, kdm, kdn, kel, aop, resultsL, resultOf, Nat.reduceEqDiff, reduceCtorEq, eq1, apartOK, apart2, AObj.live, Int.reduceEq, Int.reduceLT, Int.reduceLE, Int.reduceAdd, Int.reduceSub, Int.reduceMul, Int.reduceToNat, cutCells, Nat.reduceAdd, Nat.reduceLeDiff, Nat.reduceLT, Nat.reduceMul, Nat.reduceSub, c0, hg, xa1, xa2, xe1, xe2, xe3, z0]
          exact bad (by unfold okC; rw [show smallC l[i].toNat = false from decide_eq_false (by omega), decide_eq_false (show ¬ i ≠ 0 from fun q => q i0)]; rfl)
        · have z0 : ((i : Int) = 0) = False := eq_false (by omega)
          simp (disch := omega) only [kB, kcx, kdm, kdn, kel, aop, resultsL, resultOf, Nat.reduceEqDiff, reduceCtorEq, eq1, apartOK, apart2, AObj.live, Int.reduceEq, Int.reduceLT, Int.reduceLE, Int.reduceAdd, Int.reduceSub, Int.reduceMul, Int.reduceToNat, cutCells, Nat.reduceAdd, Nat.reduceLeDiff, Nat.reduceLT, Nat.reduceMul, Nat.reduceSub, c0, hg, xa1, xa2, xe1, xe2, xe3, z0]
          exact bad (by unfold okC; rw [show smallC l[i].toNat = false from decide_eq_false (by omega), decide_eq_false (show ¬ l[i].toNat = 95 by omega), decide_eq_false (show ¬ (48 ≤ l[i].toNat ∧ l[i].toNat ≤ 57) by omega)]; simp)
    by_cases d1 : l[i].toNat = 95
    · have xa1 : ¬ (97 : Int) ≤ ((l[i].toNat : Nat) : Int) := by omega
      have xe1 : (48 : Int) ≤ ((l[i].toNat : Nat) : Int) := by omega
      have xe2 : ¬ ((l[i].toNat : Nat) : Int) ≤ 57 := by omega
      have xe3 : (((l[i].toNat : Nat) : Int) = 95) = True := eq_true (by omega)
      by_cases i0 : i = 0
      · have z0 : ((i : Int) = 0) = True := eq_true (by omega)
        simp (disch := omega) only [kB, kcx, kdm, kdn, kel, aop, resultsL, resultOf, Nat.reduceEqDiff, reduceCtorEq, eq1, apartOK, apart2, AObj.live, Int.reduceEq, Int.reduceLT, Int.reduceLE, Int.reduceAdd, Int.reduceSub, Int.reduceMul, Int.reduceToNat, cutCells, Nat.reduceAdd, Nat.reduceLeDiff, Nat.reduceLT, Nat.reduceMul, Nat.reduceSub, c0, hg, xa1, xe1, xe2, xe3, z0]
        exact bad (by unfold okC; rw [show smallC l[i].toNat = false from decide_eq_false (by omega), decide_eq_false (show ¬ i ≠ 0 from fun q => q i0)]; rfl)
      · have z0 : ((i : Int) = 0) = False := eq_false (by omega)
        simp (disch := omega) only [kB, kcx, kdm, kdn, kel, aop, resultsL, resultOf, Nat.reduceEqDiff, reduceCtorEq, eq1, apartOK, apart2, AObj.live, Int.reduceEq, Int.reduceLT, Int.reduceLE, Int.reduceAdd, Int.reduceSub, Int.reduceMul, Int.reduceToNat, cutCells, Nat.reduceAdd, Nat.reduceLeDiff, Nat.reduceLT, Nat.reduceMul, Nat.reduceSub, c0, hg, xa1, xe1, xe2, xe3, z0, w2]
        exact next (by unfold okC; rw [decide_eq_true (show i ≠ 0 from i0), decide_eq_true (show l[i].toNat = 95 by omega)]; simp) _ (by exact ex_env rfl)
    by_cases d2 : l[i].toNat < 48
    · have xa1 : ¬ (97 : Int) ≤ ((l[i].toNat : Nat) : Int) := by omega
      have xe1 : ¬ (48 : Int) ≤ ((l[i].toNat : Nat) : Int) := by omega
      have xe3 : (((l[i].toNat : Nat) : Int) = 95) = False := eq_false (by omega)
      by_cases i0 : i = 0
      · have z0 : ((i : Int) = 0) = True := eq_true (by omega)
        simp (disch := omega) only [kB, kcx, kdm, kdn, kel, aop, resultsL, resultOf, Nat.reduceEqDiff, reduceCtorEq, eq1, apartOK, apart2, AObj.live, Int.reduceEq, Int.reduceLT, Int.reduceLE, Int.reduceAdd, Int.reduceSub, Int.reduceMul, Int.reduceToNat, cutCells, Nat.reduceAdd, Nat.reduceLeDiff, Nat.reduceLT, Nat.reduceMul, Nat.reduceSub, c0, hg, xa1, xe1, xe3, z0]
        exact bad (by unfold okC; rw [show smallC l[i].toNat = false from decide_eq_false (by omega), decide_eq_false (show ¬ i ≠ 0 from fun q => q i0)]; rfl)
      · have z0 : ((i : Int) = 0) = False := eq_false (by omega)
        simp (disch := omega) only [kB, kcx, kdm, kdn, kel, aop, resultsL, resultOf, Nat.reduceEqDiff, reduceCtorEq, eq1, apartOK, apart2, AObj.live, Int.reduceEq, Int.reduceLT, Int.reduceLE, Int.reduceAdd, Int.reduceSub, Int.reduceMul, Int.reduceToNat, cutCells, Nat.reduceAdd, Nat.reduceLeDiff, Nat.reduceLT, Nat.reduceMul, Nat.reduceSub, c0, hg, xa1, xe1, xe3, z0]
        exact bad (by unfold okC; rw [show smallC l[i].toNat = false from decide_eq_false (by omega), decide_eq_false (show ¬ l[i].toNat = 95 by omega), decide_eq_false (show ¬ (48 ≤ l[i].toNat ∧ l[i].toNat ≤ 57) by omega)]; simp)
    by_cases d3 : l[i].toNat ≤ 57
    · have xa1 : ¬ (97 : Int) ≤ ((l[i].toNat : Nat) : Int) := by omega
      have xe1 : (48 : Int) ≤ ((l[i].toNat : Nat) : Int) := by omega
      have xe2 : ((l[i].toNat : Nat) : Int) ≤ 57 := by omega
      by_cases i0 : i = 0
      · have z0 : ((i : Int) = 0) = True := eq_true (by omega)
        simp (disch := omega) only [kB, kcx, kdm, kdn, kel, aop, resultsL, resultOf, Nat.reduceEqDiff, reduceCtorEq, eq1, apartOK, apart2, AObj.live, Int.reduceEq, Int.reduceLT, Int.reduceLE, Int.reduceAdd, Int.reduceSub, Int.reduceMul, Int.reduceToNat, cutCells, Nat.reduceAdd, Nat.reduceLeDiff, Nat.reduceLT, Nat.reduceMul, Nat.reduceSub, c0, hg, xa1, xe1, xe2, z0]
        exact bad (by unfold okC; rw [show smallC l[i].toNat = false from decide_eq_false (by omega), decide_eq_false (show ¬ i ≠ 0 from fun q => q i0)]; rfl)
      · have z0 : ((i : Int) = 0) = False := eq_false (by omega)
        simp (disch := omega) only [kB, kcx, kdm, kdn, kel, aop, resultsL, resultOf, Nat.reduceEqDiff, reduceCtorEq, eq1, apartOK, apart2, AObj.live, Int.reduceEq, Int.reduceLT, Int.reduceLE, Int.reduceAdd, Int.reduceSub, Int.reduceMul, Int.reduceToNat, cutCells, Nat.reduceAdd, Nat.reduceLeDiff, Nat.reduceLT, Nat.reduceMul, Nat.reduceSub, c0, hg, xa1, xe1, xe2, z0, w2]
        exact next (by unfold okC; rw [decide_eq_true (show i ≠ 0 from i0), decide_eq_true (show 48 ≤ l[i].toNat ∧ l[i].toNat ≤ 57 by omega)]; simp) _ (by exact ex_env rfl)
    have xa1 : ¬ (97 : Int) ≤ ((l[i].toNat : Nat) : Int) := by omega
    have xe1 : (48 : Int) ≤ ((l[i].toNat : Nat) : Int) := by omega
    have xe2 : ¬ ((l[i].toNat : Nat) : Int) ≤ 57 := by omega
    have xe3 : (((l[i].toNat : Nat) : Int) = 95) = False := eq_false (by omega)
    by_cases i0 : i = 0
    · have z0 : ((i : Int) = 0) = True := eq_true (by omega)
      simp (disch := omega) only [kB, kcx, kdm, kdn, kel, aop, resultsL, resultOf, Nat.reduceEqDiff, reduceCtorEq, eq1, apartOK, apart2, AObj.live, Int.reduceEq, Int.reduceLT, Int.reduceLE, Int.reduceAdd, Int.reduceSub, Int.reduceMul, Int.reduceToNat, cutCells, Nat.reduceAdd, Nat.reduceLeDiff, Nat.reduceLT, Nat.reduceMul, Nat.reduceSub, c0, hg, xa1, xe1, xe2, xe3, z0]
      exact bad (by unfold okC; rw [show smallC l[i].toNat = false from decide_eq_false (by omega), decide_eq_false (show ¬ i ≠ 0 from fun q => q i0)]; rfl)
    · have z0 : ((i : Int) = 0) = False := eq_false (by omega)
      simp (disch := omega) only [kB, kcx, kdm, kdn, kel, aop, resultsL, resultOf, Nat.reduceEqDiff, reduceCtorEq, eq1, apartOK, apart2, AObj.live, Int.reduceEq, Int.reduceLT, Int.reduceLE, Int.reduceAdd, Int.reduceSub, Int.reduceMul, Int.reduceToNat, cutCells, Nat.reduceAdd, Nat.reduceLeDiff, Nat.reduceLT, Nat.reduceMul, Nat.reduceSub, c0, hg, xa1, xe1, xe2, xe3, z0]
      exact bad (by unfold okC; rw [show smallC l[i].toNat = false from decide_eq_false (by omega), decide_eq_false (show ¬ l[i].toNat = 95 by omega), decide_eq_false (show ¬ (48 ≤ l[i].toNat ∧ l[i].toNat ≤ 57) by omega)]; simp)
  · have c0 : ¬ (i : Int) < (l.length : Int) := by omega
    have hall : okFrom 0 l = true := (okFrom_iff l 0).2 fun j c hc => by
      rw [Nat.zero_add]
      have := (List.getElem?_eq_some_iff.1 hc).1
      exact hok j c (by omega) hc
    have hc : isNm l = !wordsL.contains l := by
      unfold isNm
      rw [hlen, hall]
      rfl
    rw [hc] at h
    simp (disch := omega) only [kB, kcx, kdm, kdn, kel, aop, resultsL, resultOf, Nat.reduceEqDiff, reduceCtorEq, eq1, apartOK, apart2, AObj.live, Int.reduceEq, Int.reduceLT, Int.reduceLE, Int.reduceAdd, Int.reduceSub, Int.reduceMul, Int.reduceToNat, cutCells, Nat.reduceAdd, Nat.reduceLeDiff, Nat.reduceLT, Nat.reduceMul, Nat.reduceSub, c0]
    refine reserved_s ?_
    simp (disch := omega) only [kB, kcx, kdm, kdn, kel, aop, resultsL, resultOf, Nat.reduceEqDiff, reduceCtorEq, eq1, apartOK, apart2, AObj.live, Int.reduceEq, Int.reduceLT, Int.reduceLE, Int.reduceAdd, Int.reduceSub, Int.reduceMul, Int.reduceToNat, cutCells, Nat.reduceAdd, Nat.reduceLeDiff, Nat.reduceLT, Nat.reduceMul, Nat.reduceSub]
    exact h

end Go.Proofs.Ytpllhhaeclnngaa.Ev

/- The call that shows that the packages are awake; the law SchemaNumbers. -/
namespace Go.Proofs.Ytpllhhaeclnngaa.Ev
set_option maxRecDepth 100000
set_option linter.unusedSimpArgs false
set_option linter.unusedVariables false
variable {R : FRes → Heap → Prop} {H : Heap}

/-- IsName, known by what it answers. -/
def isNmL (args : List Value) (_ : Heap) : Option Value :=
  match args with
  | [.string s] => some (.bool (isNm s.data.toList))
  | _ => none
def Tab2 : Table := fun f => if f = 9 then some (.lib isNmL) else Tab f

theorem rel_nil {ρ : Nat → Place} {w : World} : Rel T.G ρ [] w :=
  ⟨fun b o h => (by simp at h), fun b c o u h => (by simp at h), fun g hg => (by have : T.G = 0 := (by unfold T; kernel_rfl); omega), (by have : T.G = 0 := (by unfold T; kernel_rfl); omega)⟩

theorem table_ok2 : TableOK T.P T.G Tab2 := by
  intro f af h
  unfold Tab2 at h
  by_cases hf : f = 9
  · rw [if_pos hf] at h
    cases h
    subst hf
    intro args H v hv
    unfold isNmL at hv
    split at hv
    case h_2 => cases hv
    rename_i s
    cases hv
    refine ⟨rfl, fun args' w => ?_, fun ρ w args' hr ha => ?_⟩
    · obtain ⟨_, _, hc, _⟩ := prepFn_inv t9
      exact hc.enter _ _
    · have hw : WD T 9 [.string s] [] (fun r _ => r = .ret (.bool (isNm s.data.toList))) := by
        have hs : Value.string s = .string (bs s.data.toList) := by simp [bs]
        rw [hs]
        exact isName_s rfl
      refine wd_true t9 hw rel_nil (args' := args') ⟨ha.1, fun i x y hx hy => (ha.2 i x y hx hy).narrow (.closed ?_)⟩ (by simp)
      have : x ∈ ([.string s] : List Value) := List.mem_of_getElem? hx
      simp at this
      subst this
      rfl
  · rw [if_neg hf] at h
    exact table_ok f af h

theorem shown_ev : isTrue (evalFn Tab2 100 8 [] []) = true := by kernel_rfl

theorem shown_s (h : R (.ret (.bool true)) H) : WD T 8 [] H R := by
  obtain ⟨H1, he⟩ := of_isTrue shown_ev
  exact WD.frameD (H0 := H0) ⟨H, rfl⟩ globs (fun o ho => by simp [H0] at ho) (by simp) .bool (WD.ev follows table_ok2 he rfl) h

/-- The law SchemaNumbers. -/
theorem numbers_w : WD T 3 [] H0 (fun r _ => r = .ret (.bool true)) := by
  refine WD.of follows t3 (by simp) ?_
  simp (disch := omega) only [kB, kcx, kdm, kdn, kel, aop, resultsL, resultOf, Nat.reduceEqDiff, reduceCtorEq, eq1, apartOK, apart2, AObj.live, Int.reduceEq, Int.reduceLT, Int.reduceLE, Int.reduceAdd, Int.reduceSub, Int.reduceMul, Int.reduceToNat, cutCells, Nat.reduceAdd, Nat.reduceLeDiff, Nat.reduceLT, Nat.reduceMul, Nat.reduceSub]
  refine shown_s ?_
  simp (disch := omega) only [kB, kcx, kdm, kdn, kel, aop, resultsL, resultOf, Nat.reduceEqDiff, reduceCtorEq, eq1, apartOK, apart2, AObj.live, Int.reduceEq, Int.reduceLT, Int.reduceLE, Int.reduceAdd, Int.reduceSub, Int.reduceMul, Int.reduceToNat, cutCells, Nat.reduceAdd, Nat.reduceLeDiff, Nat.reduceLT, Nat.reduceMul, Nat.reduceSub]

end Go.Proofs.Ytpllhhaeclnngaa.Ev

/- The law SchemaNames. -/
namespace Go.Proofs.Ytpllhhaeclnngaa.Ev
set_option maxRecDepth 100000
set_option linter.unusedSimpArgs false
set_option linter.unusedVariables false
variable {R : FRes → Heap → Prop} {H : Heap}

/-- A list of texts in memory. -/
def TxSl (H : Heap) (ad : Option Addr) (ls : List (List UInt8)) : Prop := ls ≠ [] → ∃ b, ad = some ⟨b, 0, none⟩ ∧ b < H.length ∧ hget H b = .row (ls.map fun l => .string (bs l)) 0 false

def nsI (H : Heap) (ad : Option Addr) (ls : List (List UInt8)) : Nat → Env → Heap → Prop := fun z e K =>
  ∃ i : Nat, i ≤ ls.length ∧ z = ls.length - i ∧ K = H ∧ (∃ x : Nat → Value, e = [.slice ad ls.length ls.length, x 1, x 2, .int .i64 (i : Int), x 4, x 5, x 6, x 7, x 8, x 9, x 10, x 11, x 12, x 13, x 14, x 15, x 16, x 17, x 18, x 19, x 20, x 21, x 22])

theorem names_w {ad : Option Addr} {ls : List (List UInt8)} (hn : ls.length ≤ 4611686018427387904) (hsl : TxSl H ad ls) :
    WD T 4 [.slice ad ls.length ls.length] H (fun r _ => r = .ret (.bool true)) := by
  refine WD.of follows t4 (by simp) ?_
  simp (disch := omega) only [kB, kcx, kdm, kdn, kel, aop, resultsL, resultOf, Nat.reduceEqDiff, reduceCtorEq, eq1, apartOK, apart2, AObj.live, Int.reduceEq, Int.reduceLT, Int.reduceLE, Int.reduceAdd, Int.reduceSub, Int.reduceMul, Int.reduceToNat, cutCells, Nat.reduceAdd, Nat.reduceLeDiff, Nat.reduceLT, Nat.reduceMul, Nat.reduceSub]
  refine shown_s ?_
  simp (disch := omega) only [kB, kcx, kdm, kdn, kel, aop, resultsL, resultOf, Nat.reduceEqDiff, reduceCtorEq, eq1, apartOK, apart2, AObj.live, Int.reduceEq, Int.reduceLT, Int.reduceLE, Int.reduceAdd, Int.reduceSub, Int.reduceMul, Int.reduceToNat, cutCells, Nat.reduceAdd, Nat.reduceLeDiff, Nat.reduceLT, Nat.reduceMul, Nat.reduceSub]
  refine WLoop.inv (nsI H ad ls) ?_ ls.length _ _ ⟨0, Nat.zero_le _, by omega, rfl, by exact ex_env rfl⟩
  rintro z e K ⟨i, hi, rfl, rfl, ⟨x, rfl⟩⟩
  by_cases hlt : i < ls.length
  · have c0 : (i : Int) < (ls.length : Int) := by omega
    obtain ⟨b, rfl, hb, hrow⟩ := hsl (fun q => by rw [q] at hlt; simp at hlt)
    have hg : ls[i]? = some ls[i] := List.getElem?_eq_getElem hlt
    have hgm : (ls.map fun l => Value.string (bs l))[i]? = some (.string (bs ls[i])) := by rw [List.getElem?_map, hg]; rfl
    have w2 : IntKind.i64.wrap ((i : Int) + 1) = ((i + 1 : Nat) : Int) := by rw [show (i : Int) + 1 = ((i + 1 : Nat) : Int) by omega]; exact wr_i64 (by omega) (by omega)
    have hfr := frz_ro [b] (H := K) (fun c hc => by simp at hc; subst hc; exact ⟨_, _, hrow⟩)
    simp (disch := omega) only [kB, kcx, kdm, kdn, kel, aop, resultsL, resultOf, Nat.reduceEqDiff, reduceCtorEq, eq1, apartOK, apart2, AObj.live, Int.reduceEq, Int.reduceLT, Int.reduceLE, Int.reduceAdd, Int.reduceSub, Int.reduceMul, Int.reduceToNat, cutCells, Nat.reduceAdd, Nat.reduceLeDiff, Nat.reduceLT, Nat.reduceMul, Nat.reduceSub, c0, hrow, hgm]
    refine WV.of (fun c hc => ?_) ?_
    · simp only [List.mem_cons, List.not_mem_nil, or_false] at hc
      subst hc
      rw [hrow]
      rfl
    rw [hfr.1]
    refine isName_s ?_
    rw [hfr.2]
    simp (disch := omega) only [kB, kcx, kdm, kdn, kel, aop, resultsL, resultOf, Nat.reduceEqDiff, reduceCtorEq, eq1, apartOK, apart2, AObj.live, Int.reduceEq, Int.reduceLT, Int.reduceLE, Int.reduceAdd, Int.reduceSub, Int.reduceMul, Int.reduceToNat, cutCells, Nat.reduceAdd, Nat.reduceLeDiff, Nat.reduceLT, Nat.reduceMul, Nat.reduceSub]
    refine risName_s ?_
    simp (disch := omega) only [kB, kcx, kdm, kdn, kel, aop, resultsL, resultOf, Nat.reduceEqDiff, reduceCtorEq, eq1, apartOK, apart2, AObj.live, Int.reduceEq, Int.reduceLT, Int.reduceLE, Int.reduceAdd, Int.reduceSub, Int.reduceMul, Int.reduceToNat, cutCells, Nat.reduceAdd, Nat.reduceLeDiff, Nat.reduceLT, Nat.reduceMul, Nat.reduceSub, beq_self_eq_true, bne_self_eq_false, w2]
    exact ⟨ls.length - (i + 1), by omega, i + 1, by omega, rfl, rfl, by exact ex_env rfl⟩
  · have c0 : ¬ (i : Int) < (ls.length : Int) := by omega
    simp (disch := omega) only [kB, kcx, kdm, kdn, kel, aop, resultsL, resultOf, Nat.reduceEqDiff, reduceCtorEq, eq1, apartOK, apart2, AObj.live, Int.reduceEq, Int.reduceLT, Int.reduceLE, Int.reduceAdd, Int.reduceSub, Int.reduceMul, Int.reduceToNat, cutCells, Nat.reduceAdd, Nat.reduceLeDiff, Nat.reduceLT, Nat.reduceMul, Nat.reduceSub, c0]

end Go.Proofs.Ytpllhhaeclnngaa.Ev

/- A law's arguments as its row reads them: rows of cells that nothing writes, and what stands in them. Conditions: none. -/
namespace Go.Proofs.Ytpllhhaeclnngaa.Ev
open Go.RowKit Go.ChangeShapes Go.WideShapes

/-- What data stands in some cells. -/
inductive Rep (P : Program) (H : Heap) {X : Type} : TypeId → DataW X → List Value → Prop where
  | bool {t : TypeId} (b : Bool) (hu : P.underlying t = some .bool) : Rep P H t (.lit (.bool b)) [.bool b]
  | int {t : TypeId} (k : IntKind) (n : Int) (hu : P.underlying t = some (.int k)) (hw : (Lit.int k n).wf = true) : Rep P H t (.lit (.int k n)) [.int k n]
  | str {t : TypeId} (l : List UInt8) (hu : P.underlying t = some .string) (hl : l.length ≤ maxLen) : Rep P H t (.lit (.string l)) [.string (bs l)]
  | struct {t : TypeId} {fs : Array Field} {ds : List (DataW X)} {ass : List (List Value)} (hu : P.underlying t = some (.struct fs)) (h1 : ds.length = fs.size) (h2 : ass.length = fs.size)
      (h : ∀ (i : Nat) (f : Field) (d : DataW X) (cz : List Value), fs[i]? = some f → ds[i]? = some d → ass[i]? = some cz → Rep P H f.type d cz)
      (hl : ∀ (i : Nat) (f : Field) (cz : List Value), fs[i]? = some f → ass[i]? = some cz → cz.length = P.cellsOf f.type) : Rep P H t (.agg ds) ass.flatten
  | nilS {t e : TypeId} (hu : P.underlying t = some (.slice e)) : Rep P H t .nil [.slice none 0 0]
  | empty {t e : TypeId} {sp : List (DataW X)} (hu : P.underlying t = some (.slice e)) : Rep P H t (.slice [] sp) [.slice (some ⟨0, 0, some 0⟩) 0 0]
  | slice {t e : TypeId} {b : Nat} {ds sp : List (DataW X)} {ass : List (List Value)} (hu : P.underlying t = some (.slice e)) (hne : ds ≠ []) (hb : hget H b = .row ass.flatten 0 false) (h2 : ass.length = ds.length)
      (h : ∀ (i : Nat) (d : DataW X) (cz : List Value), ds[i]? = some d → ass[i]? = some cz → Rep P H e d cz)
      (hl : ∀ (i : Nat) (cz : List Value), ass[i]? = some cz → cz.length = P.cellsOf e) : Rep P H t (.slice ds sp) [.slice (some ⟨b, 0, none⟩) ds.length ds.length]

theorem Rep.mono {P : Program} {H g : Heap} {X : Type} {t : TypeId} {d : DataW X} {cz : List Value} (h : Rep P H t d cz) : Rep P (H ++ g) t d cz := by
  induction h with
  | bool b hu => exact .bool b hu
  | int k n hu hw => exact .int k n hu hw
  | str l hu hl => exact .str l hu hl
  | struct hu h1 h2 h hl ih => exact .struct hu h1 h2 ih hl
  | nilS hu => exact .nilS hu
  | empty hu => exact .empty hu
  | slice hu hne hb h2 h hl ih => exact .slice hu hne (by rw [hget_old (hget_lt hb rfl)]; exact hb) h2 ih hl

/-- A set of types of plain data: numbers, texts, structs and lists of them. -/
def plainSet (P : Program) (L : List TypeId) : Bool := L.all fun t => decide (t < P.types.size) && match P.underlying t with
  | some .bool | some (.int _) | some .string => true
  | some (.struct fs) => fs.toList.all fun f => L.contains f.type
  | some (.slice e) => L.contains e && decide (0 < P.cellsOf e)
  | _ => false

def chunks : List Nat → List Value → List (List Value)
  | [], _ => []
  | n :: ns, cs => cs.take n :: chunks ns (cs.drop n)

theorem chunks_flat : ∀ (ns : List Nat) (cs : List Value), cs.length = ns.sum → (chunks ns cs).flatten = cs
  | [], cs, h => by simp at h; simp [chunks, h]
  | n :: ns, cs, h => by
    rw [chunks, List.flatten_cons, chunks_flat ns _ (by simp at h ⊢; omega), List.take_append_drop]

theorem chunks_len : ∀ (ns : List Nat) (cs : List Value), (chunks ns cs).length = ns.length
  | [], _ => rfl
  | n :: ns, cs => by rw [chunks, List.length_cons, List.length_cons, chunks_len ns]

theorem chunks_get : ∀ (ns : List Nat) (cs : List Value) (j n : Nat), ns[j]? = some n → (chunks ns cs)[j]? = some ((cs.drop (ns.take j).sum).take n)
  | [], _, j, n, h => by simp at h
  | m :: ns, cs, 0, n, h => by simp at h; simp [chunks, h]
  | m :: ns, cs, j + 1, n, h => by
    have h' : ns[j]? = some n := by simpa using h
    have := chunks_get ns (cs.drop m) j n h'
    simp only [chunks, List.getElem?_cons_succ, List.take_succ_cons, List.sum_cons]
    rw [this, List.drop_drop]

theorem VL.flat {n : Nat} {ρ : Nat → Place} : ∀ (xss yss : List (List Value)), xss.length = yss.length → (∀ (i : Nat) (xs ys : List Value), xss[i]? = some xs → yss[i]? = some ys → VL n ρ xs ys) → VL n ρ xss.flatten yss.flatten
  | [], [], _, _ => VL.nil
  | [], _ :: _, h, _ => by simp at h
  | _ :: _, [], h, _ => by simp at h
  | xs :: xss, ys :: yss, h, hh => by
    rw [List.flatten_cons, List.flatten_cons]
    exact (hh 0 xs ys rfl rfl).append (VL.flat xss yss (by simpa using h) fun i a b ha hb => hh (i + 1) a b (by simpa using ha) (by simpa using hb))

section
variable {X : Type} {enc : TypeId × Value → X} {P : Program} {G : Nat} {W : World} {base : Nat} {sp : Nat → Bool} {held : Bool} {L : List TypeId}

/-- Some cells can be told in a heap of the evaluator's. -/
def Opens (P : Program) (G : Nat) (W : World) (t : TypeId) (cs : List Value) (d : DataW X) : Prop :=
  ∀ (H : Heap) (ρ : Nat → Place), (∀ o ∈ H, o.wrt = false) → Rel G ρ H W → ∃ (g : Heap) (ρ' : Nat → Place) (cz : List Value), Rel G ρ' (H ++ g) W ∧ (∀ b, b < H.length → ρ' b = ρ b) ∧ (∀ o ∈ g, ∃ c, o = .row c 0 false) ∧ VL (H ++ g).length ρ' cz cs ∧ Rep P (H ++ g) t d cz

theorem ro_app {H g : Heap} (h : ∀ o ∈ H, o.wrt = false) (hg : ∀ o ∈ g, ∃ c, o = .row c 0 false) : ∀ o ∈ H ++ g, o.wrt = false := fun o ho => by
  rcases List.mem_append.1 ho with ho | ho
  · exact h o ho
  · obtain ⟨c, rfl⟩ := hg o ho; rfl

theorem opens_list : ∀ (l : List (TypeId × List Value × DataW X)), (∀ q ∈ l, Opens P G W q.1 q.2.1 q.2.2) → ∀ (H : Heap) (ρ : Nat → Place), (∀ o ∈ H, o.wrt = false) → Rel G ρ H W →
    ∃ (g : Heap) (ρ' : Nat → Place) (ass : List (List Value)), Rel G ρ' (H ++ g) W ∧ (∀ b, b < H.length → ρ' b = ρ b) ∧ (∀ o ∈ g, ∃ c, o = .row c 0 false) ∧ ass.length = l.length ∧
      ∀ (i : Nat) (q : TypeId × List Value × DataW X) (cz : List Value), l[i]? = some q → ass[i]? = some cz → VL (H ++ g).length ρ' cz q.2.1 ∧ Rep P (H ++ g) q.1 q.2.2 cz
  | [], _, H, ρ, _, hr => ⟨[], ρ, [], by simpa using hr, fun _ _ => rfl, fun o ho => (by cases ho), rfl, fun i q cz h => by simp at h⟩
  | q :: l, h, H, ρ, hro, hr => by
    obtain ⟨g, ρ1, cz, hr1, hs1, hg1, hv1, hp1⟩ := h q (by simp) H ρ hro hr
    obtain ⟨g2, ρ2, ass, hr2, hs2, hg2, hl2, hh⟩ := opens_list l (fun q hq => h q (by simp [hq])) (H ++ g) ρ1 (ro_app hro hg1) hr1
    rw [List.append_assoc] at hr2 hh
    refine ⟨g ++ g2, ρ2, cz :: ass, hr2, fun b hb => (hs2 b (by simp; omega)).trans (hs1 b hb), fun o ho => ?_, by simp [hl2], fun i q' cz' hq has => ?_⟩
    · rcases List.mem_append.1 ho with ho | ho
      · exact hg1 o ho
      · exact hg2 o ho
    · cases i with
      | zero =>
        simp at hq has
        subst hq; subst has
        refine ⟨hv1.mono (by simp) hs2, ?_⟩
        rw [← List.append_assoc]
        exact hp1.mono
      | succ i => exact hh i q' cz' (by simpa using hq) (by simpa using has)

theorem mem_plain (hP : plainSet P L = true) {t : TypeId} (ht : L.contains t = true) : (decide (t < P.types.size) && (match P.underlying t with
    | some .bool | some (.int _) | some .string => true
    | some (.struct fs) => fs.toList.all fun f => L.contains f.type
    | some (.slice e) => L.contains e && decide (0 < P.cellsOf e)
    | _ => false)) = true := by
  unfold plainSet at hP
  exact List.all_eq_true.1 hP t (List.contains_iff_mem.1 ht)

theorem flat_get {c : Nat} (hc : 0 < c) : ∀ (css : List (List Value)) (k j : Nat) (cs : List Value), (∀ (i : Nat) (cz : List Value), css[i]? = some cz → cz.length = c) → css[k]? = some cs → j < c → css.flatten[k * c + j]? = cs[j]?
  | [], k, j, cs, _, h, _ => by simp at h
  | a :: css, 0, j, cs, hl, h, hj => by
    have h1 := hl 0 a rfl
    simp at h
    subst h
    rw [List.flatten_cons, Nat.zero_mul, Nat.zero_add, List.getElem?_append_left (by omega)]
  | a :: css, k + 1, j, cs, hl, h, hj => by
    have h1 := hl 0 a rfl
    have := flat_get hc css k j cs (fun i cz hi => hl (i + 1) cz (by simpa using hi)) (by simpa using h) hj
    rw [List.flatten_cons, List.getElem?_append_right (by rw [h1, Nat.add_mul]; omega), h1, show (k + 1) * c + j - c = k * c + j by rw [Nat.add_mul]; omega]
    exact this

theorem flat_len {c : Nat} : ∀ (css : List (List Value)), (∀ (i : Nat) (cz : List Value), css[i]? = some cz → cz.length = c) → css.flatten.length = css.length * c
  | [], _ => by simp
  | a :: css, hl => by
    rw [List.flatten_cons, List.length_append, hl 0 a rfl, flat_len css (fun i cz hi => hl (i + 1) cz (by simpa using hi)), List.length_cons, Nat.add_mul]
    omega

/-- A row that nothing writes, new in the evaluator's heap. -/
theorem rel_row {H : Heap} {ρ : Nat → Place} (hro : ∀ o ∈ H, o.wrt = false) (hr : Rel G ρ H W) {a : Addr} {cs : List Value} {cells : Array Value} {t : TypeId} {fr : Nat × Nat} {ext0 : Nat} (hh : W.heap[a.block]? = some (.cells cells t fr))
    (hc : ∀ (i : Nat) (v : Value), cs[i]? = some v → ∃ v', cells[a.off + i]? = some v' ∧ VR H.length ρ v v') : Rel G (ext ρ H.length ⟨a.block, a.off, ext0⟩) (H ++ [.row cs 0 false]) W := by
  have cases_ : ∀ b u, (H ++ [AObj.row cs 0 false])[b]? = some u → (b < H.length ∧ H[b]? = some u) ∨ (b = H.length ∧ u = .row cs 0 false) := fun b u h => by
    by_cases hb : b < H.length
    · rw [List.getElem?_append_left hb] at h; exact .inl ⟨hb, h⟩
    · rw [List.getElem?_append_right (by omega)] at h
      obtain ⟨h1, h2⟩ := List.getElem?_eq_some_iff.1 h
      simp at h1
      have : b = H.length := by omega
      subst this
      simp at h2
      exact .inr ⟨rfl, h2.symm⟩
  have hlen : (H ++ [AObj.row cs 0 false]).length = H.length + 1 := by simp
  refine ⟨fun b u hu => ?_, fun b c u v hu hv hne hw hl => ?_, fun g hg => ?_, by rw [hlen]; have := hr.many; omega⟩
  · rcases cases_ b u hu with ⟨hb, hu⟩ | ⟨rfl, rfl⟩
    · exact (hr.obj b u hu).mono (by omega) (ext_lt hb) (fun c hc => ext_lt hc) (fun _ => rfl)
    · rw [OR, ext_same]
      refine ⟨cells, t, fr, hh, fun i v hi => ?_, fun h => by cases h⟩
      obtain ⟨v', h1, h2⟩ := hc i v hi
      exact ⟨v', h1, h2.mono (by omega) fun b hb => ext_lt hb⟩
  · rcases cases_ b u hu with ⟨hb, hu2⟩ | ⟨rfl, rfl⟩
    · rw [hro u (List.mem_of_getElem? hu2)] at hw
      cases hw
    · cases hw
  · rw [ext_lt (Nat.lt_of_lt_of_le hg hr.many)]; exact hr.glob g hg

theorem opens_trod (hl : laidOutB P = true) (hm : mapsRowed P = true) (hP : plainSet P L = true) : ∀ (n : Nat) (t : TypeId) (cs : List Value) (x : DataW X × List MemPlace), L.contains t = true →
    DataW.trod enc P W base (fun _ => true) held n t cs = some x → Opens P G W t cs x.1 := by
  intro n
  induction n with
  | zero => intro t cs x _ h; simp [DataW.trod] at h
  | succ n ih =>
    intro t cs x ht h
    have hk := mem_plain hP ht
    simp only [Bool.and_eq_true, decide_eq_true_eq] at hk
    obtain ⟨htp, hk⟩ := hk
    have K := kids_rows hl hm
    intro H ρ hro hr
    split at hk
    · rename_i hu
      obtain ⟨b, rfl, rfl⟩ := DataW.trod_bool hu h
      exact ⟨[], ρ, [.bool b], by simpa using hr, fun _ _ => rfl, fun o ho => (by cases ho), VL.cons (.bool b) VL.nil, .bool b hu⟩
    · rename_i k hu
      obtain ⟨m, rfl, rfl, hw⟩ := DataW.trod_int hu h
      exact ⟨[], ρ, [.int k m], by simpa using hr, fun _ _ => rfl, fun o ho => (by cases ho), VL.cons (.int k m) VL.nil, .int k m hu hw⟩
    · rename_i hu
      obtain ⟨s, rfl, rfl, hs⟩ := DataW.trod_string hu h
      exact ⟨[], ρ, [.string s], by simpa using hr, fun _ _ => rfl, fun o ho => (by cases ho), VL.cons (.string s) VL.nil, .str s.data.toList hu (by simpa using hs)⟩
    · rename_i fs hu
      obtain ⟨xs, m, hm1, rfl, hlen, hxl, hf⟩ := DataW.trod_struct hu h
      cases hm1
      obtain ⟨_, hsum, hoff⟩ := K.struct htp hu
      -- the fields, one by one
      have hget : ∀ (i : Nat) (f : Field) (y : DataW X × List MemPlace), fs[i]? = some f → xs[i]? = some y → DataW.trod enc P W base (fun _ => true) held n f.type ((cs.drop f.offset).take (P.cellsOf f.type)) = some y := fun i f y hfi hy => by
        rw [hf i f hfi, hy]
      let l : List (TypeId × List Value × DataW X) := (List.range fs.size).map fun i => ((fs[i]?.map (·.type)).getD 0, ((chunks (fs.toList.map fun f => P.cellsOf f.type) cs)[i]?).getD [], (xs[i]?.map (·.1)).getD .nil)
      have hl1 : ∀ i, i < fs.size → ∃ f y, fs[i]? = some f ∧ xs[i]? = some y ∧ l[i]? = some (f.type, (cs.drop f.offset).take (P.cellsOf f.type), y.1) := fun i hi => by
        have e1 : fs[i]? = some fs[i] := Array.getElem?_eq_getElem hi
        have e2 : xs[i]? = some (xs[i]'(by omega)) := List.getElem?_eq_getElem (by omega)
        refine ⟨_, _, e1, e2, ?_⟩
        have e3 : fs.toList[i]? = some fs[i] := by rw [Array.getElem?_toList]; exact e1
        have e4 := chunks_get (fs.toList.map fun f => P.cellsOf f.type) cs i (P.cellsOf fs[i].type) (by simp [hi])
        have e5 := hoff i _ e3
        rw [List.map_take] at e5
        rw [← e5] at e4
        simp only [l, List.getElem?_map, List.getElem?_range hi, Option.map_some, e1, e2, e4, Option.getD_some]
      have hlL : l.length = fs.size := by simp [l]
      obtain ⟨g, ρ', ass, hr', hs', hg', hal, hh⟩ := opens_list l (fun q hq => by
        obtain ⟨i, hi⟩ := List.getElem?_of_mem hq
        have hi2 : i < fs.size := by rw [← hlL]; exact (List.getElem?_eq_some_iff.1 hi).1
        obtain ⟨f, y, h1, h2, h3⟩ := hl1 i hi2
        rw [hi] at h3
        cases h3
        refine ih f.type _ y ?_ (hget i f y h1 h2)
        have hmem : f ∈ fs.toList := by
          have : fs.toList[i]? = some f := by simpa using h1
          exact List.mem_of_getElem? this
        exact List.all_eq_true.1 hk f hmem) H ρ hro hr
      refine ⟨g, ρ', ass.flatten, hr', hs', hg', ?_, ?_⟩
      · have hflat := chunks_flat (fs.toList.map fun f => P.cellsOf f.type) cs (by rw [hlen, hsum])
        rw [← hflat]
        refine VL.flat _ _ (by rw [hal, hlL, chunks_len]; simp) fun i a b ha hb => ?_
        have hi : i < fs.size := by rw [← hlL, ← hal]; exact (List.getElem?_eq_some_iff.1 ha).1
        obtain ⟨f, y, h1, h2, h3⟩ := hl1 i hi
        have e4 := chunks_get (fs.toList.map fun f => P.cellsOf f.type) cs i (P.cellsOf f.type) (by
          have : fs.toList[i]? = some f := by simpa using h1
          simp [this])
        have e5 := hoff i f (by simpa using h1)
        rw [List.map_take] at e5
        rw [← e5] at e4
        rw [hb] at e4
        cases e4
        exact (hh i _ a h3 ha).1
      · refine .struct hu (by simpa using hxl) (by rw [hal, hlL]) (fun i f d cz hfi hd ha => ?_) (fun i f cz hfi ha => ?_)
        · have hi : i < fs.size := (Array.getElem?_eq_some_iff.1 hfi).1
          obtain ⟨f', y, h1, h2, h3⟩ := hl1 i hi
          rw [hfi] at h1
          cases h1
          rw [List.getElem?_map, h2] at hd
          cases hd
          exact (hh i _ cz h3 ha).2
        · have hi : i < fs.size := (Array.getElem?_eq_some_iff.1 hfi).1
          obtain ⟨f', y, h1, h2, h3⟩ := hl1 i hi
          rw [hfi] at h1
          cases h1
          have := (hh i _ cz h3 ha).1.1
          rw [this]
          have e5 := hoff i f (by simpa using hfi)
          have hle : f.offset + P.cellsOf f.type ≤ cs.length := by
            rw [hlen, hsum, e5]
            have : fs.toList[i]? = some f := by simpa using hfi
            obtain ⟨h7, h8⟩ := List.getElem?_eq_some_iff.1 this
            have e6 : fs.toList = fs.toList.take i ++ f :: fs.toList.drop (i + 1) := by
              rw [← h8, ← List.drop_eq_getElem_cons h7, List.take_append_drop]
            conv => rhs; rw [e6]
            rw [List.map_append, List.sum_append, List.map_cons, List.sum_cons]
            omega
          rw [List.length_take, List.length_drop]
          omega
    · rename_i e hu
      simp only [Bool.and_eq_true, decide_eq_true_eq] at hk
      rcases DataW.trod_slice hu h with ⟨rfl, rfl⟩ | ⟨a, len, cap, elems, rest, m, hm1, rfl, rfl, hbase, hlc, hcm, hel, hge, _, _⟩
      · exact ⟨[], ρ, [.slice none 0 0], by simpa using hr, fun _ _ => rfl, fun o ho => (by cases ho), VL.cons .slNil VL.nil, .nilS hu⟩
      cases hm1
      by_cases h0 : elems = []
      · subst h0
        obtain rfl : len = 0 := by simpa using hel.symm
        exact ⟨[], ρ, [.slice (some ⟨0, 0, some 0⟩) 0 0], by simpa using hr, fun _ _ => rfl, fun o ho => (by cases ho), VL.cons (.slE 0 0 0 a cap) VL.nil, .empty hu⟩
      have hlen0 : 0 < len := by rw [← hel]; exact List.length_pos_iff.2 h0
      have hcell : ∀ i, i < len → ∃ csi y, W.cells? base (a.add (i * P.cellsOf e)) (P.cellsOf e) = some csi ∧ elems[i]? = some y ∧ DataW.trod enc P W base (fun _ => true) held n e csi = some y := fun i hi => by
        have h1 := hge i hi
        have h2 : elems[i]? = some (elems[i]'(by omega)) := List.getElem?_eq_getElem (by omega)
        rw [h2] at h1
        obtain ⟨csi, h3, h4⟩ := Option.bind_eq_some_iff.1 h1
        exact ⟨csi, _, h3, h2, h4⟩
      let css : List (List Value) := (List.range len).map fun i => (W.cells? base (a.add (i * P.cellsOf e)) (P.cellsOf e)).getD []
      have hcss : ∀ i, i < len → ∃ csi y, css[i]? = some csi ∧ W.cells? base (a.add (i * P.cellsOf e)) (P.cellsOf e) = some csi ∧ elems[i]? = some y ∧ DataW.trod enc P W base (fun _ => true) held n e csi = some y := fun i hi => by
        obtain ⟨csi, y, h1, h2, h3⟩ := hcell i hi
        exact ⟨csi, y, by simp [css, hi, h1], h1, h2, h3⟩
      have hcssL : css.length = len := by simp [css]
      let l : List (TypeId × List Value × DataW X) := (List.range len).map fun i => (e, (css[i]?).getD [], (elems[i]?.map (·.1)).getD .nil)
      have hl1 : ∀ i, i < len → ∃ csi y, css[i]? = some csi ∧ W.cells? base (a.add (i * P.cellsOf e)) (P.cellsOf e) = some csi ∧ elems[i]? = some y ∧ DataW.trod enc P W base (fun _ => true) held n e csi = some y ∧ l[i]? = some (e, csi, y.1) := fun i hi => by
        obtain ⟨csi, y, h1, h2, h3, h4⟩ := hcss i hi
        exact ⟨csi, y, h1, h2, h3, h4, by simp [l, hi, h1, h3]⟩
      have hlL : l.length = len := by simp [l]
      obtain ⟨g, ρ', ass, hr', hs', hg', hal, hh⟩ := opens_list l (fun q hq => by
        obtain ⟨i, hi⟩ := List.getElem?_of_mem hq
        have hi2 : i < len := by rw [← hlL]; exact (List.getElem?_eq_some_iff.1 hi).1
        obtain ⟨csi, y, h1, h2, h3, h4, h5⟩ := hl1 i hi2
        rw [hi] at h5
        cases h5
        exact ih e _ y hk.1 h4) H ρ hro hr
      have hasl : ∀ (i : Nat) (cz : List Value), ass[i]? = some cz → cz.length = P.cellsOf e := fun i cz ha => by
        have hi : i < len := by rw [← hlL, ← hal]; exact (List.getElem?_eq_some_iff.1 ha).1
        obtain ⟨csi, y, h1, h2, h3, h4, h5⟩ := hl1 i hi
        rw [(hh i _ cz h5 ha).1.1]
        exact (World.cells?_some h2).2.1
      -- the block itself
      obtain ⟨cs0, y0, g1, g2, _⟩ := hcell 0 hlen0
      obtain ⟨_, gl, gc⟩ := World.cells?_some g1
      have gc0 := gc 0 hk.2
      rw [Nat.zero_mul] at gc0
      have hadd : ∀ (k j : Nat), ((a.add k).add j) = if k + j = 0 then a else ⟨a.block, a.off + (k + j), none⟩ := fun k j => by
        unfold Addr.add
        by_cases hk0 : k = 0
        · subst hk0
          by_cases hj0 : j = 0
          · subst hj0; rfl
          · simp [hj0]
        · by_cases hj0 : j = 0
          · subst hj0; simp [hk0]
          · simp only [if_neg hk0, if_neg hj0, if_neg (show ¬ k + j = 0 by omega), Nat.add_assoc]
      have hblk : ∃ cells ty fr, W.heap[a.block]? = some (.cells cells ty fr) ∧ a.spot = none := by
        have h7 : W.cell? a = cs0[0]? := by simpa [hadd] using gc0
        have h8 : cs0[0]? = some (cs0[0]'(by omega)) := List.getElem?_eq_getElem (by omega)
        rw [h8] at h7
        unfold World.cell? at h7
        split at h7
        · rename_i c ty fr hc
          split at h7
          · cases h7
          · rename_i hsp
            exact ⟨c, ty, fr, hc, by simpa using hsp⟩
        · cases h7
      obtain ⟨cells, ty, fr, hh0, hsp⟩ := hblk
      have hcellat : ∀ (i : Nat) (v : Value), ass.flatten[i]? = some v → ∃ v', cells[a.off + i]? = some v' ∧ VR (H ++ g).length ρ' v v' := fun i v hv => by
        have hi : i < ass.flatten.length := (List.getElem?_eq_some_iff.1 hv).1
        rw [flat_len ass hasl, hal, hlL] at hi
        have hq : i / P.cellsOf e < len := (Nat.div_lt_iff_lt_mul hk.2).2 hi
        have hm2 : i % P.cellsOf e < P.cellsOf e := Nat.mod_lt _ hk.2
        have hid : i / P.cellsOf e * P.cellsOf e + i % P.cellsOf e = i := Nat.div_add_mod' i (P.cellsOf e)
        obtain ⟨csi, y, h1, h2, h3, h4, h5⟩ := hl1 _ hq
        have ha : ass[i / P.cellsOf e]? = some (ass[i / P.cellsOf e]'(by rw [hal, hlL]; exact hq)) := List.getElem?_eq_getElem _
        obtain ⟨hv1, _⟩ := hh _ _ _ h5 ha
        have hfg := flat_get hk.2 ass _ _ _ hasl ha hm2
        rw [hid, hv] at hfg
        obtain ⟨v', hv', hvr⟩ := hv1.get hfg.symm
        refine ⟨v', ?_, hvr⟩
        have h9 := (World.cells?_some h2).2.2 _ hm2
        rw [hadd, hid, hv'] at h9
        by_cases hi0 : i = 0
        · subst hi0
          simp only [if_true] at h9
          unfold World.cell? at h9
          rw [hh0, hsp] at h9
          simpa using h9
        · rw [if_neg hi0] at h9
          unfold World.cell? at h9
          simpa [hh0] using h9
      have hr2 := rel_row (a := a) (cs := ass.flatten) (ext0 := cap - len) (ro_app hro hg') hr' hh0 hcellat
      refine ⟨g ++ [.row ass.flatten 0 false], ext ρ' (H ++ g).length ⟨a.block, a.off, cap - len⟩, [.slice (some ⟨(H ++ g).length, 0, none⟩) len len], by rw [← List.append_assoc]; exact hr2, fun b hb => ?_, fun o ho => ?_, ?_, ?_⟩
      · rw [ext_lt (by rw [List.length_append]; omega)]; exact hs' b hb
      · rcases List.mem_append.1 ho with ho | ho
        · exact hg' o ho
        · rw [List.mem_singleton.1 ho]; exact ⟨_, rfl⟩
      · have := VR.sl (n := (H ++ (g ++ [AObj.row ass.flatten 0 false])).length) (ρ := ext ρ' (H ++ g).length ⟨a.block, a.off, cap - len⟩) (H ++ g).length 0 len len cap (by simp only [List.length_append, List.length_cons, List.length_nil]; omega) (Nat.le_refl _) hlc (by rw [ext_same]; show cap ≤ len + (cap - len); omega)
        rw [ext_same, Nat.add_zero] at this
        have ha2 : (⟨a.block, a.off, none⟩ : Addr) = a := by rw [← hsp]
        rw [ha2] at this
        exact VL.cons this VL.nil
      · have := Rep.slice (P := P) (H := H ++ (g ++ [AObj.row ass.flatten 0 false])) (t := t) (e := e) (b := (H ++ g).length) (ds := elems.map (·.1)) (sp := rest.map (·.1)) (ass := ass) hu (by simpa using h0) (by rw [← List.append_assoc]; exact hget_last _ _) (by rw [hal, hlL, List.length_map, hel])
          (fun i d cz hd ha => by
            have hi : i < len := by rw [← hlL, ← hal]; exact (List.getElem?_eq_some_iff.1 ha).1
            obtain ⟨csi, y, h1, h2, h3, h4, h5⟩ := hl1 i hi
            rw [List.getElem?_map, h3] at hd
            cases hd
            have := (hh i _ cz h5 ha).2
            rw [← List.append_assoc]
            exact this.mono) hasl
        rw [List.length_map, hel] at this
        exact this
    · cases hk

/-! ### The call's end -/

def slicesPos (P : Program) : Bool := (List.range P.types.size).all fun t => match P.underlying t with
  | some (.slice e) => decide (0 < P.cellsOf e)
  | _ => true

theorem args_stay {W' : World} (hl : laidOutB P = true) (hm : mapsRowed P = true) (hp : slicesPos P = true) (bel : Below W.heap.size W W') :
    ∀ {ts : List TypeId} {vs : List Value} {ds : List (DataW X)} {ps : List MemPlace}, (∀ t ∈ ts, t < P.types.size) → DataW.TrodAll enc P W 0 (fun _ => true) true ts vs ds ps →
      DataW.TrodAll enc P W' 0 (fun b => decide (b < W.heap.size)) true ts vs ds ps
  | [], vs, ds, ps, _, h => by
    obtain ⟨rfl, rfl, rfl⟩ := trodAll_nil h
    rfl
  | t :: ts, vs, ds, ps, ht, h => by
    obtain ⟨v, vs1, d, ds1, p, q, rfl, rfl, rfl, ⟨fuel, h1⟩, h2⟩ := trodAll_cons h
    have hlt := DataW.trod_lt fuel t v.cells.toList _ h1
    refine ⟨p, q, ⟨fuel, DataW.trod_stays (kids_rows hl hm) (fun {t e} htt hu => ?_) (fun h => by cases h) (ht t (by simp)) h1 (fun x hx => bel.same (hlt x hx)) (fun x hx => by simpa using hlt x hx)⟩, args_stay hl hm hp bel (fun u hu => ht u (by simp [hu])) h2, rfl⟩
    have := List.all_eq_true.1 hp t (List.mem_range.2 htt)
    simpa [hu] using this

/-! ### The call's arguments -/

/-- An argument tells some data. -/
def ArgRep (P : Program) (H : Heap) (t : TypeId) (d : DataW X) (a : Value) : Prop := ∃ cz, Rep P H t d cz ∧ (((∃ fs, P.underlying t = some (.struct fs)) ∧ a = .agg cz.toArray) ∨ cz = [a])

theorem ArgRep.mono {H g : Heap} {t : TypeId} {d : DataW X} {a : Value} (h : ArgRep P H t d a) : ArgRep P (H ++ g) t d a := by
  obtain ⟨cz, h1, h2⟩ := h
  exact ⟨cz, h1.mono, h2⟩

theorem vr_single {n : Nat} {ρ : Nat → Place} {a : Value} {v : Value} (h : VL n ρ [a] v.cells.toList) (hv : ∀ cs, v ≠ .agg cs) : VR n ρ a v := by
  have : v.cells.toList = [v] := by
    cases v <;> first | rfl | exact absurd rfl (hv _)
  rw [this] at h
  exact h.head

theorem open_args (hl : laidOutB P = true) (hm : mapsRowed P = true) (hP : plainSet P L = true) {r : Reach} {b0 : Nat} : ∀ {ts : List TypeId} {vs : List Value} {ds : List (DataW X)} {ps : List MemPlace},
    (∀ t ∈ ts, L.contains t = true) → DataW.TrodAll enc P W base (fun _ => true) held ts vs ds ps → (∀ (j : Nat) t v, ts[j]? = some t → vs[j]? = some v → Value.okWide P W r b0 t v) →
    ∀ (H : Heap) (ρ : Nat → Place), (∀ o ∈ H, o.wrt = false) → Rel G ρ H W → ∃ (g : Heap) (ρ' : Nat → Place) (avs : List Value), Rel G ρ' (H ++ g) W ∧ (∀ b, b < H.length → ρ' b = ρ b) ∧ (∀ o ∈ g, ∃ c, o = .row c 0 false) ∧
      VL (H ++ g).length ρ' avs vs ∧ avs.length = ts.length ∧ ∀ (j : Nat) t d a, ts[j]? = some t → ds[j]? = some d → avs[j]? = some a → ArgRep P (H ++ g) t d a
  | [], vs, ds, ps, _, h, _, H, ρ, hro, hr => by
    obtain ⟨rfl, rfl, rfl⟩ := trodAll_nil h
    exact ⟨[], ρ, [], by simpa using hr, fun _ _ => rfl, fun o ho => (by cases ho), VL.nil, rfl, fun j t d a h => by simp at h⟩
  | t :: ts, vs, ds, ps, hts, h, hok, H, ρ, hro, hr => by
    obtain ⟨v, vs1, d, ds1, p, q, rfl, rfl, rfl, ⟨fuel, h1⟩, h2⟩ := trodAll_cons h
    have htc := hts t (by simp)
    obtain ⟨g, ρ1, cz, hr1, hs1, hg1, hv1, hp1⟩ := opens_trod (G := G) hl hm hP fuel t _ _ htc h1 H ρ hro hr
    obtain ⟨g2, ρ2, avs, hr2, hs2, hg2, hv2, hl2, hh⟩ := open_args hl hm hP (fun u hu => hts u (by simp [hu])) h2 (fun j t v hj hv => hok (j + 1) t v (by simpa using hj) (by simpa using hv)) (H ++ g) ρ1 (ro_app hro hg1) hr1
    rw [List.append_assoc] at hr2 hh hv2
    have hval := hok 0 t v rfl rfl
    have hk := mem_plain hP htc
    simp only [Bool.and_eq_true, decide_eq_true_eq] at hk
    obtain ⟨_, hk⟩ := hk
    have single : (∀ cs, v ≠ .agg cs) → (∃ a, cz = [a]) → ∃ a, VR (H ++ g).length ρ1 a v ∧ ArgRep P (H ++ g) t d a := fun hna ⟨a, ha⟩ => by
      subst ha
      exact ⟨a, vr_single hv1 hna, [a], hp1, .inr rfl⟩
    have one : (∀ cs, v ≠ .agg cs) → ∃ a, cz = [a] := fun hna => by
      have : v.cells.toList = [v] := by
        cases v <;> first | rfl | exact absurd rfl (hna _)
      have h3 := hv1.1
      rw [this] at h3
      match cz, h3 with
      | [a], _ => exact ⟨a, rfl⟩
    have hex : ∃ a, VR (H ++ g).length ρ1 a v ∧ ArgRep P (H ++ g) t d a := by
      split at hk
      · rename_i hu
        obtain ⟨b, rfl⟩ := okWide_bool hu hval
        exact single (fun _ h => by cases h) (one fun _ h => by cases h)
      · rename_i k hu
        obtain ⟨b, rfl⟩ := okWide_int hu hval
        exact single (fun _ h => by cases h) (one fun _ h => by cases h)
      · rename_i hu
        obtain ⟨b, rfl⟩ := okWide_string hu hval
        exact single (fun _ h => by cases h) (one fun _ h => by cases h)
      · rename_i fs hu
        obtain ⟨cs, rfl, _⟩ := okWide_struct hu hval
        refine ⟨.agg cz.toArray, ?_, cz, hp1, .inl ⟨⟨fs, hu⟩, rfl⟩⟩
        have := hv1.agg
        simpa [Value.cells] using this
      · rename_i e hu
        obtain ⟨a, l, c, rfl⟩ := okWide_slice hu hval
        exact single (fun _ h => by cases h) (one fun _ h => by cases h)
      · cases hk
    obtain ⟨a, ha1, ha2⟩ := hex
    refine ⟨g ++ g2, ρ2, a :: avs, hr2, fun b hb => (hs2 b (by simp; omega)).trans (hs1 b hb), fun o ho => ?_, VL.cons (ha1.mono (by simp) hs2) hv2, by simp [hl2], fun j t' d' a' hj hd ha => ?_⟩
    · rcases List.mem_append.1 ho with ho | ho
      · exact hg1 o ho
      · exact hg2 o ho
    · cases j with
      | zero =>
        simp at hj hd ha
        subst hj; subst hd; subst ha
        rw [← List.append_assoc]
        exact ha2.mono
      | succ j => exact hh j t' d' a' (by simpa using hj) (by simpa using hd) (by simpa using ha)

/-! ### What an argument is -/

theorem Rep.inv_int {H : Heap} {t : TypeId} {k : IntKind} {d : DataW X} {cz : List Value} (hu : P.underlying t = some (.int k)) (h : Rep P H t d cz) : ∃ n, d = .lit (.int k n) ∧ cz = [.int k n] ∧ (Lit.int k n).wf = true := by
  cases h with
  | int k' n hu' hw => rw [hu] at hu'; cases hu'; exact ⟨n, rfl, rfl, hw⟩
  | bool b hu' => rw [hu] at hu'; cases hu'
  | str l hu' hl => rw [hu] at hu'; cases hu'
  | struct hu' => rw [hu] at hu'; cases hu'
  | nilS hu' => rw [hu] at hu'; cases hu'
  | empty hu' => rw [hu] at hu'; cases hu'
  | slice hu' => rw [hu] at hu'; cases hu'

theorem Rep.inv_bool {H : Heap} {t : TypeId} {d : DataW X} {cz : List Value} (hu : P.underlying t = some .bool) (h : Rep P H t d cz) : ∃ b, d = .lit (.bool b) ∧ cz = [.bool b] := by
  cases h with
  | int k' n hu' hw => rw [hu] at hu'; cases hu'
  | bool b hu' => exact ⟨b, rfl, rfl⟩
  | str l hu' hl => rw [hu] at hu'; cases hu'
  | struct hu' => rw [hu] at hu'; cases hu'
  | nilS hu' => rw [hu] at hu'; cases hu'
  | empty hu' => rw [hu] at hu'; cases hu'
  | slice hu' => rw [hu] at hu'; cases hu'

theorem Rep.inv_str {H : Heap} {t : TypeId} {d : DataW X} {cz : List Value} (hu : P.underlying t = some .string) (h : Rep P H t d cz) : ∃ l, d = .lit (.string l) ∧ cz = [.string (bs l)] ∧ l.length ≤ maxLen := by
  cases h with
  | int k' n hu' hw => rw [hu] at hu'; cases hu'
  | bool b hu' => rw [hu] at hu'; cases hu'
  | str l hu' hl => exact ⟨l, rfl, rfl, hl⟩
  | struct hu' => rw [hu] at hu'; cases hu'
  | nilS hu' => rw [hu] at hu'; cases hu'
  | empty hu' => rw [hu] at hu'; cases hu'
  | slice hu' => rw [hu] at hu'; cases hu'

theorem Rep.inv_struct {H : Heap} {t : TypeId} {fs : Array Field} {d : DataW X} {cz : List Value} (hu : P.underlying t = some (.struct fs)) (h : Rep P H t d cz) : ∃ (ds : List (DataW X)) (ass : List (List Value)), d = .agg ds ∧ cz = ass.flatten ∧ ds.length = fs.size ∧ ass.length = fs.size ∧
    ∀ (i : Nat) (f : Field) (d : DataW X) (cz : List Value), fs[i]? = some f → ds[i]? = some d → ass[i]? = some cz → Rep P H f.type d cz := by
  cases h with
  | int k' n hu' hw => rw [hu] at hu'; cases hu'
  | bool b hu' => rw [hu] at hu'; cases hu'
  | str l hu' hl => rw [hu] at hu'; cases hu'
  | struct hu' h1 h2 h3 h4 => rw [hu] at hu'; cases hu'; exact ⟨_, _, rfl, rfl, h1, h2, h3⟩
  | nilS hu' => rw [hu] at hu'; cases hu'
  | empty hu' => rw [hu] at hu'; cases hu'
  | slice hu' => rw [hu] at hu'; cases hu'

theorem Rep.inv_slice {H : Heap} {t e : TypeId} {d : DataW X} {cz : List Value} (hu : P.underlying t = some (.slice e)) (h : Rep P H t d cz) : (d = .nil ∧ cz = [.slice none 0 0]) ∨ (∃ sp, d = .slice [] sp ∧ cz = [.slice (some ⟨0, 0, some 0⟩) 0 0]) ∨
    ∃ (b : Nat) (ds sp : List (DataW X)) (ass : List (List Value)), d = .slice ds sp ∧ ds ≠ [] ∧ cz = [.slice (some ⟨b, 0, none⟩) ds.length ds.length] ∧ hget H b = .row ass.flatten 0 false ∧ ass.length = ds.length ∧
      (∀ (i : Nat) (d : DataW X) (cz : List Value), ds[i]? = some d → ass[i]? = some cz → Rep P H e d cz) ∧ (∀ (i : Nat) (cz : List Value), ass[i]? = some cz → cz.length = P.cellsOf e) := by
  cases h with
  | int k' n hu' hw => rw [hu] at hu'; cases hu'
  | bool b hu' => rw [hu] at hu'; cases hu'
  | str l hu' hl => rw [hu] at hu'; cases hu'
  | struct hu' => rw [hu] at hu'; cases hu'
  | nilS hu' => exact .inl ⟨rfl, rfl⟩
  | empty hu' => exact .inr (.inl ⟨_, rfl, rfl⟩)
  | slice hu' hne hb h2 h3 h4 => rw [hu] at hu'; cases hu'; exact .inr (.inr ⟨_, _, _, _, rfl, hne, rfl, hb, h2, h3, h4⟩)

/-- A struct of two fields. -/
theorem Rep.inv_two {H : Heap} {t : TypeId} {f0 f1 : Field} {d : DataW X} {cz : List Value} (hu : P.underlying t = some (.struct #[f0, f1])) (h : Rep P H t d cz) : ∃ d0 d1 a0 a1, d = .agg [d0, d1] ∧ cz = a0 ++ a1 ∧ Rep P H f0.type d0 a0 ∧ Rep P H f1.type d1 a1 := by
  obtain ⟨ds, ass, rfl, rfl, h1, h2, h3⟩ := h.inv_struct hu
  match ds, ass, h1, h2, h3 with
  | [d0, d1], [a0, a1], _, _, h3 => exact ⟨d0, d1, a0, a1, rfl, by simp, h3 0 f0 d0 a0 rfl rfl rfl, h3 1 f1 d1 a1 rfl rfl rfl⟩

/-- An unsigned number of 64 bits. -/
theorem Rep.inv_u64 {H : Heap} {t : TypeId} {d : DataW X} {cz : List Value} (hu : P.underlying t = some (.int .u64)) (h : Rep P H t d cz) : ∃ n : Nat, d = .lit (.int .u64 n) ∧ cz = [.int .u64 (n : Int)] ∧ n < 18446744073709551616 := by
  obtain ⟨n, rfl, rfl, hw⟩ := h.inv_int hu
  have hw : (0 : Int) ≤ n ∧ n ≤ 18446744073709551615 := by
    simpa [Lit.wf, IntKind.min, IntKind.max, IntKind.signed, IntKind.bits] using hw
  refine ⟨n.toNat, ?_, ?_, by omega⟩ <;> rw [Int.toNat_of_nonneg hw.1]

/-- A number of 64 bits. -/
theorem Rep.inv_i64 {H : Heap} {t : TypeId} {d : DataW X} {cz : List Value} (hu : P.underlying t = some (.int .i64)) (h : Rep P H t d cz) : ∃ n : Int, d = .lit (.int .i64 n) ∧ cz = [.int .i64 n] ∧ -9223372036854775808 ≤ n ∧ n < 9223372036854775808 := by
  obtain ⟨n, rfl, rfl, hw⟩ := h.inv_int hu
  have hw : (-9223372036854775808 : Int) ≤ n ∧ n ≤ 9223372036854775807 := by
    simpa [Lit.wf, IntKind.min, IntKind.max, IntKind.signed, IntKind.bits] using hw
  exact ⟨n, rfl, rfl, hw.1, by omega⟩

end

end Go.Proofs.Ytpllhhaeclnngaa.Ev

/- SchemaNames: which texts are names, by the program and by the document: whatever the inputs, the law answers true. Conditions: none. -/
namespace Go.Proofs.Ytpllhhaeclnngaa.Ev
open Go.ChangeShapes Go.WideShapes Go.ChangeAt Go.RowKit

theorem own : ownKnob Try.prog.godebug = none := by kernel_rfl

theorem VL.narrow {n m : Nat} {ρ ρ' : Nat → Place} {xs ys : List Value} (h : VL m ρ' xs ys) (hs : ∀ x ∈ xs, Scoped n x) (he : ∀ b, b < n → ρ' b = ρ b) : VL n ρ xs ys :=
  ⟨h.1, fun i x y hx hy => ((h.2 i x y hx hy).narrow (hs x (List.mem_of_getElem? hx))).mono (Nat.le_refl _) fun b hb => (he b hb).symm⟩

abbrev ρ0 : Nat → Place := fun b => ⟨b, 0, 0⟩
theorem H0_ro : ∀ o ∈ H0, o.wrt = false := fun o ho => by simp [H0] at ho

theorem texts_rep {X : Type} {H : Heap} : ∀ (ds : List (DataW X)) (ass : List (List Value)), ass.length = ds.length → (∀ (i : Nat) (d : DataW X) (cz : List Value), ds[i]? = some d → ass[i]? = some cz → Rep Try.prog H 9 d cz) → ∃ ls : List (List UInt8), ass.flatten = ls.map (fun l => Value.string (bs l)) ∧ ls.length = ds.length ∧ ∀ l ∈ ls, l.length ≤ maxLen
  | [], [], _, _ => ⟨[], rfl, rfl, fun l hl => by cases hl⟩
  | [], _ :: _, h, _ => by simp at h
  | _ :: _, [], h, _ => by simp at h
  | d :: ds, cz :: ass, h, hr => by
    obtain ⟨ls, h1, h2, h3⟩ := texts_rep ds ass (by simpa using h) fun i d' cz' hd hc => hr (i + 1) d' cz' (by simpa using hd) (by simpa using hc)
    obtain ⟨l, _, rfl, hl⟩ := (hr 0 d cz rfl rfl).inv_str Try.underlying9
    refine ⟨l :: ls, by rw [List.flatten_cons, h1]; rfl, by simp [h2], fun m hm => ?_⟩
    rcases List.mem_cons.1 hm with rfl | hm
    · exact hl
    · exact h3 m hm

/-- A list of texts. -/
theorem texts_arg {X : Type} {H : Heap} {d : DataW X} {a : Value} (h : ArgRep Try.prog H 23 d a) :
    ∃ (ad : Option Addr) (ls : List (List UInt8)), a = .slice ad ls.length ls.length ∧ (∀ l ∈ ls, l.length ≤ maxLen) ∧ TxSl H ad ls ∧ (d = .nil ∧ ls = [] ∨ ∃ ds sp, d = .slice ds sp ∧ ls.length = ds.length) := by
  obtain ⟨cs, hr, hcase⟩ := h
  have hne : ∀ {l}, cs = [l] → a = l := fun e => by
    rcases hcase with ⟨⟨fs, hf⟩, _⟩ | h
    · have := Try.underlying23
      rw [this] at hf; cases hf
    · rw [e] at h; simpa using h.symm
  rcases hr.inv_slice Try.underlying23 with ⟨rfl, e⟩ | ⟨sp, rfl, e⟩ | ⟨b, ds, sp, ass, rfl, hds, e, hb, h2, h3, h4⟩
  · exact ⟨none, [], hne e, (fun o ho => by cases ho), fun q => absurd rfl q, .inl ⟨rfl, rfl⟩⟩
  · exact ⟨some ⟨0, 0, some 0⟩, [], hne e, (fun o ho => by cases ho), fun q => absurd rfl q, .inr ⟨[], sp, rfl, rfl⟩⟩
  · obtain ⟨ls, hfl, hl, hlen⟩ := texts_rep ds ass h2 h3
    rw [hfl] at hb
    refine ⟨some ⟨b, 0, none⟩, ls, by rw [hne e, hl], hlen, fun _ => ⟨b, rfl, hget_lt hb rfl, hb⟩, .inr ⟨ds, sp, rfl, hl⟩⟩

set_option maxRecDepth 100000 in
theorem schemaNames_lifted (os : Os) (started : os.Started) (H : Type) (enc : TypeId × Value → H) :
    ReturnsInHanded {} Try.checked os 4 .any (Rows.schemaNamesSpec.pre6 enc Try.prog Try.f4 [] false)
      (Rows.schemaNamesSpec.post enc Try.prog Try.f4 false true false false) := by
  refine returnsInHanded_of_change_sized (C := Try.checked) own started (by kernel_rfl) Try.func4
    (ChangeSpec.witness6 (enc := enc) (C := Try.checked) (os := os) false ⟨#[], #[.slice none 0 0], []⟩ 8 (by kernel_rfl) (by kernel_rfl) (by kernel_rfl) (by kernel_rfl)) ?_
  intro W base args ds gs before hval0 hW _ hsz _
  have hval : ∀ (j : Nat) t v, Try.f4.params[j]? = some t → args[j]? = some v → Value.okWide Try.prog W .any base t v := hval0
  have hW' := hW
  obtain ⟨p, q, hA0, hV, rfl, hfz, hnd⟩ := hW
  have hA : DataW.TrodAll enc Try.prog W 0 (fun _ => true) true Try.f4.params.toList args.toList ds p := hA0
  have hsz' : (DataW.weightsEach Try.prog (Try.f4.params.toList ++ Rows.schemaNamesSpec.plain.varTypes Try.prog) (ds ++ gs)).all (· ≤ reachBytes) = true := hsz
  rw [Try.params4] at hA hval hsz'
  obtain ⟨rfl, rfl⟩ := trodVars_none hV
  obtain ⟨g, ρ', avs, hr, hs, hg, hvl, hlen, hrep⟩ := open_args (G := 0) (L := [23, 9]) (by kernel_rfl) (by kernel_rfl) (by kernel_rfl) (by decide) hA (fun j t v h1 h2 => hval j t v (by simpa using h1) (by simpa using h2)) [] (fun _ => ⟨0, 0, 0⟩) (fun o ho => by cases ho) (by have := rel_nil (ρ := fun _ => ⟨0, 0, 0⟩) (w := W); rwa [show T.G = 0 from by unfold T; kernel_rfl] at this)
  have hA1 := hA
  obtain ⟨v0, vs0, d0, ds0, p0, q0, hargs, rfl, rfl, h0, r0⟩ := trodAll_cons hA1
  obtain ⟨rfl, rfl, rfl⟩ := trodAll_nil r0
  obtain rfl : args = #[v0] := by cases args; simp_all
  match avs, hlen with
  | [a0], _ =>
  obtain ⟨ad, ls, rfl, hls, hsl, hds⟩ := texts_arg (hrep 0 23 d0 a0 rfl rfl rfl)
  have hlen : ls.length ≤ 4611686018427387904 := by
    rcases hds with ⟨_, rfl⟩ | ⟨ds, sp, rfl, e⟩
    · simp
    · have := sized_slice hsz' (j := 0) (t := 23) rfl rfl Try.underlying23
      have hb : Try.prog.bytesOf 9 = 16 := by kernel_rfl
      have hlt := reachBytes_lt
      rw [hb] at this
      omega
  have hG : T.G = 0 := by unfold T; kernel_rfl
  simp only [List.nil_append] at hr hvl hsl
  refine (wd_true t4 (H := g) (names_w hlen hsl) (by rw [hG]; exact hr) (args' := #[v0]) hvl (fun o ho => by obtain ⟨c, rfl⟩ := hg o ho; rfl)).mono fun e W' ⟨he, bel⟩ => ?_
  subst he
  exact ⟨_, rfl, _, _, _, [], _, [], hW', trodAll_mk1 (shut_bool Try.underlying4 _), args_stay (by kernel_rfl) (by kernel_rfl) (by kernel_rfl) bel (by decide) hA, rfl, bel.frame _, fun h => by cases h⟩

theorem schemaNames_holds : Rows.SchemaNamesSaid :=
  OpenClaim.holds_of_wide 4 Try.f4 rfl rfl rfl rfl rfl rfl rfl ⟨rfl, rfl, rfl, rfl, rfl⟩ rfl rfl rfl rfl rfl (by kernel_rfl) Try.func4 (by kernel_rfl)
    (of_decide_eq_true (by kernel_rfl)) (by unfold Func.isWrapper; first | (rw [if_pos (by decide +kernel)]; kernel_rfl) | (rw [if_neg (by decide +kernel)]; exact ⟨rfl, rfl⟩))
    (fun os started H enc _ => schemaNames_lifted os started H enc)

#print axioms schemaNames_holds
end Go.Proofs.Ytpllhhaeclnngaa.Ev
