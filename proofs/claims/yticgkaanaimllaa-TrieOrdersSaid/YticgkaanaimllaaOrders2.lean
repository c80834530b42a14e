/- Parts of the proof: EvTab0, EvTab1, EvTab, V0, V1, V2, V3, T1a, T2, T3, T4, P1, T5, T6. Conditions: none. -/
import Derived.Test.YticgkaanaimllaaOrders1
import Derived.Test.YticgkaanaimllaaProg
/- The functions of the program in the evaluator's form, as its own look-up lays them (part 0). Conditions: none; these are definitions. -/
namespace Go.Proofs.Yticgkaanaimllaa.Ev
set_option maxRecDepth 100000
def g5 : AFunc := (.code 234 (.seq (.ops [⟨(some 6), (.alloc [(.bool false)]), none, []⟩]) (.seq (.ops [⟨(some 33), (.callv (.func 9) []), none, []⟩, ⟨(some 7), (.mov (.tmp 33)), none, []⟩]) (.seq (.ops [⟨(some 35), (.mov (.tmp 0)), none, []⟩, ⟨(some 36), (.callv (.func 20) [(.tmp 35), (.const (.int .i64 4096))]), none, []⟩, ⟨(some 34), (.mov (.tmp 36)), none, []⟩, ⟨(some 37), (.extract (.tmp 34) 0), none, []⟩, ⟨(some 38), (.extract (.tmp 34) 1), none, []⟩, ⟨(some 8), (.mov (.tmp 37)), none, []⟩, ⟨(some 9), (.mov (.tmp 38)), none, []⟩]) (.seq (.ops [⟨(some 40), (.mov (.tmp 0)), none, []⟩, ⟨(some 41), (.callv (.func 20) [(.tmp 40), (.const (.int .i64 4096))]), none, []⟩, ⟨(some 39), (.mov (.tmp 41)), none, []⟩, ⟨(some 42), (.extract (.tmp 39) 0), none, []⟩, ⟨(some 43), (.extract (.tmp 39) 1), none, []⟩, ⟨(some 10), (.alloc [(.pointer none)]), none, []⟩, ⟨none, (.store 1 (.tmp 10) (.tmp 42)), none, []⟩, ⟨(some 11), (.mov (.tmp 43)), none, []⟩]) (.seq (.seq (.ops [⟨(some 44), (.mov (.tmp 7)), none, []⟩, ⟨(some 45), (.un .not (.tmp 44)), none, []⟩, ⟨(some 46), (.mov (.tmp 45)), none, []⟩, ⟨(some 47), (.mov (.tmp 8)), (some (46, false)), []⟩, ⟨(some 48), (.eqp 0 false (.tmp 47) (.const (.pointer none))), (some (46, false)), []⟩, ⟨(some 49), (.pick (.tmp 46) (.const (.bool true)) (.tmp 48)), none, []⟩, ⟨(some 50), (.mov (.tmp 49)), none, []⟩, ⟨(some 51), (.load1 (.tmp 10)), (some (50, false)), []⟩, ⟨(some 52), (.eqp 0 false (.tmp 51) (.const (.pointer none))), (some (50, false)), []⟩, ⟨(some 53), (.pick (.tmp 50) (.const (.bool true)) (.tmp 52)), none, []⟩]) (.cond (.tmp 53) (.seq (.ops [⟨(some 54), (.mov (.tmp 7)), none, []⟩, ⟨(some 55), (.mov (.tmp 54)), none, []⟩, ⟨(some 56), (.mov (.tmp 9)), (some (55, true)), []⟩, ⟨(some 57), (.bin .eql (.tmp 56) (.const (.int .i64 1))), (some (55, true)), []⟩, ⟨(some 58), (.pick (.tmp 55) (.tmp 57) (.const (.bool false))), none, []⟩, ⟨(some 59), (.mov (.tmp 58)), none, []⟩, ⟨(some 60), (.mov (.tmp 11)), (some (59, true)), []⟩, ⟨(some 61), (.bin .eql (.tmp 60) (.const (.int .i64 1))), (some (59, true)), []⟩, ⟨(some 62), (.pick (.tmp 59) (.tmp 61) (.const (.bool false))), none, []⟩, ⟨none, (.store 1 (.tmp 6) (.tmp 62)), none, []⟩]) .ret) .skip)) (.seq (.ops [⟨(some 63), (.mov (.tmp 1)), none, []⟩, ⟨(some 64), (.lenSl (.tmp 63)), none, []⟩, ⟨(some 12), (.mov (.tmp 64)), none, []⟩]) (.seq (.seq (.ops [⟨(some 65), (.mov (.tmp 12)), none, []⟩, ⟨(some 66), (.bin .gtr (.tmp 65) (.const (.int .i64 1000))), none, []⟩]) (.cond (.tmp 66) (.ops [⟨(some 12), (.mov (.const (.int .i64 1000))), none, []⟩]) .skip)) (.seq (.seq (.ops [⟨(some 13), (.mov (.const (.int .i64 0))), none, []⟩]) (.block 0 (.loop (.seq (.seq (.ops [⟨(some 67), (.mov (.tmp 13)), none, []⟩, ⟨(some 68), (.mov (.tmp 12)), none, []⟩, ⟨(some 69), (.bin .lss (.tmp 67) (.tmp 68)), none, []⟩]) (.cond (.tmp 69) .skip (.exit 0))) (.seq (.block 1 (.ops [⟨(some 72), (.mov (.tmp 8)), none, []⟩, ⟨(some 73), (.mov (.tmp 1)), none, []⟩, ⟨(some 74), (.mov (.tmp 13)), none, []⟩, ⟨(some 75), (.iAddrSl 5 (.tmp 73) (.tmp 74)), none, []⟩, ⟨(some 76), (.fAddr 1 (.tmp 75)), none, []⟩, ⟨(some 78), (.mov (.tmp 1)), none, []⟩, ⟨(some 79), (.mov (.tmp 13)), none, []⟩, ⟨(some 80), (.iAddrSl 5 (.tmp 78) (.tmp 79)), none, []⟩, ⟨(some 81), (.fAddr 3 (.tmp 80)), none, []⟩, ⟨(some 77), (.loadN 2 (.tmp 76)), none, []⟩, ⟨(some 82), (.load1 (.tmp 81)), none, []⟩, ⟨(some 83), (.build [(.int .u64 0), (.int .u64 0), (.int .i64 0)] [(0, (2, (.tmp 77))), (2, (1, (.tmp 82)))]), none, []⟩, ⟨(some 84), (.callv (.func 21) [(.tmp 72), (.tmp 83), (.const (.string (bs [120])))]), none, []⟩])) (.ops [⟨(some 70), (.mov (.tmp 13)), none, []⟩, ⟨(some 71), (.bin .add (.tmp 70) (.const (.int .i64 1))), none, []⟩, ⟨(some 13), (.mov (.tmp 71)), none, []⟩])))))) (.seq (.ops [⟨(some 14), (.mov (.const (.slice none 0 0))), none, []⟩]) (.seq (.seq (.ops [⟨(some 15), (.mov (.const (.int .i64 0))), none, []⟩]) (.block 2 (.loop (.seq (.seq (.ops [⟨(some 85), (.mov (.tmp 15)), none, []⟩, ⟨(some 86), (.mov (.tmp 2)), none, []⟩, ⟨(some 87), (.lenSl (.tmp 86)), none, []⟩, ⟨(some 88), (.bin .lss (.tmp 85) (.tmp 87)), none, []⟩, ⟨(some 89), (.mov (.tmp 88)), none, []⟩, ⟨(some 90), (.mov (.tmp 15)), (some (89, true)), []⟩, ⟨(some 91), (.bin .lss (.tmp 90) (.const (.int .i64 1000))), (some (89, true)), []⟩, ⟨(some 92), (.pick (.tmp 89) (.tmp 91) (.const (.bool false))), none, []⟩]) (.cond (.tmp 92) .skip (.exit 2))) (.seq (.block 3 (.seq (.ops [⟨(some 95), (.mov (.tmp 2)), none, []⟩, ⟨(some 96), (.mov (.tmp 15)), none, []⟩, ⟨(some 97), (.iAddrSl 5 (.tmp 95) (.tmp 96)), none, []⟩, ⟨(some 98), (.fAddr 1 (.tmp 97)), none, []⟩, ⟨(some 100), (.mov (.tmp 2)), none, []⟩, ⟨(some 101), (.mov (.tmp 15)), none, []⟩, ⟨(some 102), (.iAddrSl 5 (.tmp 100) (.tmp 101)), none, []⟩, ⟨(some 103), (.fAddr 3 (.tmp 102)), none, []⟩, ⟨(some 99), (.loadN 2 (.tmp 98)), none, []⟩, ⟨(some 104), (.load1 (.tmp 103)), none, []⟩, ⟨(some 105), (.build [(.int .u64 0), (.int .u64 0), (.int .i64 0)] [(0, (2, (.tmp 99))), (2, (1, (.tmp 104)))]), none, []⟩, ⟨(some 16), (.alloc [(.int .u64 0), (.int .u64 0), (.int .i64 0)]), none, []⟩, ⟨none, (.store 3 (.tmp 16) (.tmp 105)), none, []⟩]) (.seq (.ops [⟨(some 107), (.mov (.tmp 8)), none, []⟩, ⟨(some 108), (.loadN 3 (.tmp 16)), none, []⟩, ⟨(some 109), (.callv (.func 22) [(.tmp 107), (.tmp 108)]), none, []⟩, ⟨(some 106), (.mov (.tmp 109)), none, []⟩, ⟨(some 110), (.extract (.tmp 106) 0), none, []⟩, ⟨(some 111), (.extract (.tmp 106) 1), none, []⟩, ⟨(some 17), (.mov (.tmp 110)), none, []⟩, ⟨(some 18), (.mov (.tmp 111)), none, []⟩]) (.seq (.ops [⟨(some 112), (.load1 (.tmp 10)), none, []⟩, ⟨(some 113), (.loadN 3 (.tmp 16)), none, []⟩, ⟨(some 114), (.callv (.func 21) [(.tmp 112), (.tmp 113), (.const (.string (bs [111, 116, 104, 101, 114])))]), none, []⟩, ⟨(some 19), (.mov (.tmp 114)), none, []⟩]) (.seq (.ops [⟨(some 115), (.mov (.tmp 19)), none, []⟩, ⟨(some 116), (.bin .eql (.tmp 115) (.const (.int .i64 0))), none, []⟩, ⟨(some 117), (.mov (.tmp 116)), none, []⟩, ⟨(some 118), (.mov (.tmp 18)), (some (117, true)), []⟩, ⟨(some 119), (.un .not (.tmp 118)), (some (117, true)), []⟩, ⟨(some 120), (.pick (.tmp 117) (.tmp 119) (.const (.bool false))), none, []⟩]) (.cond (.tmp 120) (.ops [⟨(some 121), (.mov (.tmp 14)), none, []⟩, ⟨(some 122), (.loadN 3 (.tmp 16)), none, []⟩, ⟨(some 123), (.buildSlice 3 1 [(.int .u64 0), (.int .u64 0), (.int .i64 0)] [(0, (3, (.tmp 122)))]), none, []⟩, ⟨(some 124), (.append 3 24 (.tmp 121) (.tmp 123)), none, []⟩, ⟨(some 14), (.mov (.tmp 124)), none, []⟩]) .skip)))))) (.ops [⟨(some 93), (.mov (.tmp 15)), none, []⟩, ⟨(some 94), (.bin .add (.tmp 93) (.const (.int .i64 1))), none, []⟩, ⟨(some 15), (.mov (.tmp 94)), none, []⟩])))))) (.seq (.seq (.ops [⟨(some 125), (.mov (.tmp 12)), none, []⟩, ⟨(some 126), (.bin .sub (.tmp 125) (.const (.int .i64 1))), none, []⟩, ⟨(some 20), (.mov (.tmp 126)), none, []⟩]) (.block 4 (.loop (.seq (.seq (.ops [⟨(some 127), (.mov (.tmp 20)), none, []⟩, ⟨(some 128), (.bin .geq (.tmp 127) (.const (.int .i64 0))), none, []⟩]) (.cond (.tmp 128) .skip (.exit 4))) (.seq (.block 5 (.seq (.ops [⟨(some 131), (.mov (.tmp 1)), none, []⟩, ⟨(some 132), (.mov (.tmp 20)), none, []⟩, ⟨(some 133), (.iAddrSl 5 (.tmp 131) (.tmp 132)), none, []⟩, ⟨(some 134), (.fAddr 1 (.tmp 133)), none, []⟩, ⟨(some 136), (.mov (.tmp 1)), none, []⟩, ⟨(some 137), (.mov (.tmp 20)), none, []⟩, ⟨(some 138), (.iAddrSl 5 (.tmp 136) (.tmp 137)), none, []⟩, ⟨(some 139), (.fAddr 3 (.tmp 138)), none, []⟩, ⟨(some 135), (.loadN 2 (.tmp 134)), none, []⟩, ⟨(some 140), (.load1 (.tmp 139)), none, []⟩, ⟨(some 141), (.build [(.int .u64 0), (.int .u64 0), (.int .i64 0)] [(0, (2, (.tmp 135))), (2, (1, (.tmp 140)))]), none, []⟩, ⟨(some 21), (.alloc [(.int .u64 0), (.int .u64 0), (.int .i64 0)]), none, []⟩, ⟨none, (.store 3 (.tmp 21) (.tmp 141)), none, []⟩]) (.seq (.ops [⟨(some 142), (.load1 (.tmp 10)), none, []⟩, ⟨(some 143), (.loadN 3 (.tmp 21)), none, []⟩, ⟨(some 144), (.callv (.func 21) [(.tmp 142), (.tmp 143), (.const (.string (bs [120])))]), none, []⟩, ⟨(some 22), (.mov (.tmp 144)), none, []⟩]) (.seq (.ops [⟨(some 145), (.mov (.tmp 22)), none, []⟩, ⟨(some 146), (.bin .eql (.tmp 145) (.const (.int .i64 121))), none, []⟩]) (.cond (.tmp 146) (.seq (.ops [⟨(some 147), (.load1 (.tmp 10)), none, []⟩, ⟨(some 148), (.loadN 3 (.tmp 21)), none, []⟩, ⟨(some 149), (.callv (.func 23) [(.tmp 147), (.tmp 148), (.const (.string (bs [120])))]), none, []⟩, ⟨(some 23), (.mov (.tmp 149)), none, []⟩]) (.seq (.ops [⟨(some 150), (.mov (.tmp 23)), none, []⟩, ⟨(some 151), (.bin .neq (.tmp 150) (.const (.int .i64 0))), none, []⟩]) (.cond (.tmp 151) (.seq (.ops [⟨none, (.store 1 (.tmp 6) (.const (.bool false))), none, []⟩]) .ret) .skip))) .skip))))) (.ops [⟨(some 129), (.mov (.tmp 20)), none, []⟩, ⟨(some 130), (.bin .sub (.tmp 129) (.const (.int .i64 1))), none, []⟩, ⟨(some 20), (.mov (.tmp 130)), none, []⟩])))))) (.seq (.seq (.ops [⟨(some 24), (.mov (.const (.int .i64 0))), none, []⟩]) (.block 6 (.loop (.seq (.seq (.ops [⟨(some 152), (.mov (.tmp 24)), none, []⟩, ⟨(some 153), (.mov (.tmp 14)), none, []⟩, ⟨(some 154), (.lenSl (.tmp 153)), none, []⟩, ⟨(some 155), (.bin .lss (.tmp 152) (.tmp 154)), none, []⟩]) (.cond (.tmp 155) .skip (.exit 6))) (.seq (.block 7 (.seq (.ops [⟨(some 160), (.mov (.tmp 14)), none, []⟩, ⟨(some 161), (.mov (.tmp 24)), none, []⟩, ⟨(some 162), (.iAddrSl 3 (.tmp 160) (.tmp 161)), none, []⟩, ⟨(some 159), (.load1 (.tmp 10)), none, []⟩, ⟨(some 163), (.loadN 3 (.tmp 162)), none, []⟩, ⟨(some 164), (.callv (.func 24) [(.tmp 159), (.tmp 163)]), none, []⟩, ⟨(some 158), (.mov (.tmp 164)), none, []⟩, ⟨(some 165), (.extract (.tmp 158) 0), none, []⟩, ⟨(some 166), (.extract (.tmp 158) 1), none, []⟩, ⟨(some 25), (.mov (.tmp 165)), none, []⟩, ⟨(some 26), (.mov (.tmp 166)), none, []⟩]) (.seq (.ops [⟨(some 167), (.mov (.tmp 26)), none, []⟩, ⟨(some 168), (.un .not (.tmp 167)), none, []⟩, ⟨(some 169), (.mov (.tmp 168)), none, []⟩, ⟨(some 170), (.mov (.tmp 25)), (some (169, false)), []⟩, ⟨(some 171), (.bin .neq (.tmp 170) (.const (.string (bs [111, 116, 104, 101, 114])))), (some (169, false)), []⟩, ⟨(some 172), (.pick (.tmp 169) (.const (.bool true)) (.tmp 171)), none, []⟩]) (.cond (.tmp 172) (.seq (.ops [⟨none, (.store 1 (.tmp 6) (.const (.bool false))), none, []⟩]) .ret) .skip)))) (.ops [⟨(some 156), (.mov (.tmp 24)), none, []⟩, ⟨(some 157), (.bin .add (.tmp 156) (.const (.int .i64 1))), none, []⟩, ⟨(some 24), (.mov (.tmp 157)), none, []⟩])))))) (.seq (.seq (.ops [⟨(some 173), (.mov (.tmp 8)), none, []⟩, ⟨(some 175), (.load1 (.tmp 10)), none, []⟩, ⟨(some 174), (.callv (.func 25) [(.tmp 173)]), none, [(10, 1)]⟩, ⟨(some 176), (.callv (.func 25) [(.tmp 175)]), none, []⟩, ⟨(some 177), (.bin .neq (.tmp 174) (.tmp 176)), none, []⟩, ⟨(some 178), (.mov (.tmp 177)), none, []⟩, ⟨(some 179), (.mov (.tmp 8)), (some (178, false)), []⟩, ⟨(some 181), (.load1 (.tmp 10)), (some (178, false)), []⟩, ⟨(some 180), (.callv (.func 26) [(.tmp 179)]), (some (178, false)), [(10, 1)]⟩, ⟨(some 182), (.callv (.func 26) [(.tmp 181)]), (some (178, false)), []⟩, ⟨(some 183), (.bin .neq (.tmp 180) (.tmp 182)), (some (178, false)), []⟩, ⟨(some 184), (.pick (.tmp 178) (.const (.bool true)) (.tmp 183)), none, []⟩, ⟨(some 185), (.mov (.tmp 184)), none, []⟩, ⟨(some 186), (.mov (.tmp 8)), (some (185, false)), []⟩, ⟨(some 187), (.callv (.func 25) [(.tmp 186)]), (some (185, false)), []⟩, ⟨(some 188), (.bin .gtr (.tmp 187) (.const (.int .i64 0))), (some (185, false)), []⟩, ⟨(some 189), (.mov (.tmp 188)), (some (185, false)), []⟩, ⟨(some 190), (.mov (.tmp 8)), (some (189, true)), []⟩, ⟨(some 192), (.mov (.tmp 8)), (some (189, true)), []⟩, ⟨(some 191), (.callv (.func 26) [(.tmp 190)]), (some (189, true)), []⟩, ⟨(some 193), (.callv (.func 25) [(.tmp 192)]), (some (189, true)), []⟩, ⟨(some 194), (.bin .mul (.const (.int .i64 2)) (.tmp 193)), (some (189, true)), []⟩, ⟨(some 195), (.bin .geq (.tmp 191) (.tmp 194)), (some (189, true)), []⟩, ⟨(some 196), (.pick (.tmp 189) (.tmp 195) (.const (.bool false))), (some (185, false)), []⟩, ⟨(some 197), (.pick (.tmp 185) (.const (.bool true)) (.tmp 196)), none, []⟩, ⟨(some 198), (.mov (.tmp 197)), none, []⟩, ⟨(some 199), (.mov (.tmp 8)), (some (198, false)), []⟩, ⟨(some 201), (.mov (.tmp 8)), (some (198, false)), []⟩, ⟨(some 200), (.callv (.func 26) [(.tmp 199)]), (some (198, false)), []⟩, ⟨(some 202), (.callv (.func 25) [(.tmp 201)]), (some (198, false)), []⟩, ⟨(some 203), (.bin .lss (.tmp 200) (.tmp 202)), (some (198, false)), []⟩, ⟨(some 204), (.pick (.tmp 198) (.const (.bool true)) (.tmp 203)), none, []⟩]) (.cond (.tmp 204) (.seq (.ops [⟨none, (.store 1 (.tmp 6) (.const (.bool false))), none, []⟩]) .ret) .skip)) (.seq (.ops [⟨(some 205), (.mov (.tmp 8)), none, []⟩, ⟨(some 206), (.callv (.func 27) [(.tmp 205)]), none, []⟩, ⟨(some 27), (.mov (.tmp 206)), none, []⟩]) (.seq (.seq (.ops [⟨(some 207), (.mov (.tmp 27)), none, []⟩, ⟨(some 208), (.eqp 2 false (.tmp 207) (.const .nilFunc)), none, []⟩]) (.cond (.tmp 208) (.seq (.ops [⟨none, (.store 1 (.tmp 6) (.const (.bool false))), none, []⟩]) .ret) .skip)) (.seq (.ops [⟨(some 28), (.alloc [(.int .i64 0)]), none, []⟩, ⟨none, (.store 1 (.tmp 28) (.const (.int .i64 0))), none, []⟩]) (.seq (.seq (.ops [⟨(some 209), (.mov (.tmp 27)), none, []⟩]) (.block 8 (.range (.tmp 209) [210, 211] (.seq (.ops [⟨(some 29), (.alloc [(.int .u64 0), (.int .u64 0), (.int .i64 0)]), none, []⟩, ⟨none, (.store 3 (.tmp 29) (.tmp 210)), none, []⟩]) (.ops [⟨(some 30), (.mov (.tmp 211)), none, []⟩])) (.block 9 (.seq (.ops [⟨(some 213), (.load1 (.tmp 10)), none, []⟩, ⟨(some 214), (.loadN 3 (.tmp 29)), none, []⟩, ⟨(some 215), (.callv (.func 22) [(.tmp 213), (.tmp 214)]), none, []⟩, ⟨(some 212), (.mov (.tmp 215)), none, []⟩, ⟨(some 216), (.extract (.tmp 212) 0), none, []⟩, ⟨(some 217), (.extract (.tmp 212) 1), none, []⟩, ⟨(some 31), (.mov (.tmp 216)), none, []⟩, ⟨(some 32), (.mov (.tmp 217)), none, []⟩]) (.seq (.seq (.ops [⟨(some 218), (.mov (.tmp 32)), none, []⟩, ⟨(some 219), (.un .not (.tmp 218)), none, []⟩, ⟨(some 220), (.mov (.tmp 219)), none, []⟩, ⟨(some 221), (.mov (.tmp 30)), (some (220, false)), []⟩, ⟨(some 222), (.bin .neq (.tmp 221) (.const (.string (bs [120])))), (some (220, false)), []⟩, ⟨(some 223), (.pick (.tmp 220) (.const (.bool true)) (.tmp 222)), none, []⟩, ⟨(some 224), (.mov (.tmp 223)), none, []⟩, ⟨(some 225), (.mov (.tmp 31)), (some (224, false)), []⟩, ⟨(some 226), (.bin .neq (.tmp 225) (.const (.string (bs [120])))), (some (224, false)), []⟩, ⟨(some 227), (.pick (.tmp 224) (.const (.bool true)) (.tmp 226)), none, []⟩]) (.cond (.tmp 227) (.seq (.ops [⟨none, (.store 1 (.tmp 6) (.const (.bool false))), none, []⟩]) .ret) .skip)) (.ops [⟨(some 228), (.load1 (.tmp 28)), none, []⟩, ⟨(some 229), (.bin .add (.tmp 228) (.const (.int .i64 1))), none, []⟩, ⟨none, (.store 1 (.tmp 28) (.tmp 229)), none, []⟩]))))))) (.seq (.ops [⟨(some 231), (.mov (.tmp 8)), none, []⟩, ⟨(some 230), (.load1 (.tmp 28)), none, []⟩, ⟨(some 232), (.callv (.func 25) [(.tmp 231)]), none, [(28, 1)]⟩, ⟨(some 233), (.bin .eql (.tmp 230) (.tmp 232)), none, []⟩, ⟨none, (.store 1 (.tmp 6) (.tmp 233)), none, []⟩]) .ret)))))))))))))))))) [(.cell1 6)])
def g9 : AFunc := (.code 51 (.seq (.ops [⟨(some 0), (.mov (.const (.bool false))), none, []⟩]) (.seq (.ops [⟨(some 9), (.callv (.func 10) [(.const (.int .i64 8)), (.const (.int .i64 2))]), none, []⟩, ⟨(some 8), (.mov (.tmp 9)), none, []⟩, ⟨(some 10), (.extract (.tmp 8) 0), none, []⟩, ⟨(some 11), (.extract (.tmp 8) 1), none, []⟩, ⟨(some 1), (.mov (.tmp 10)), none, []⟩, ⟨(some 2), (.mov (.tmp 11)), none, []⟩]) (.seq (.seq (.ops [⟨(some 12), (.mov (.tmp 1)), none, []⟩, ⟨(some 13), (.eqp 0 false (.tmp 12) (.const (.pointer none))), none, []⟩, ⟨(some 14), (.mov (.tmp 13)), none, []⟩, ⟨(some 15), (.mov (.tmp 2)), (some (14, false)), []⟩, ⟨(some 16), (.bin .neq (.tmp 15) (.const (.int .i64 0))), (some (14, false)), []⟩, ⟨(some 17), (.pick (.tmp 14) (.const (.bool true)) (.tmp 16)), none, []⟩]) (.cond (.tmp 17) (.seq (.ops [⟨(some 0), (.mov (.const (.bool false))), none, []⟩]) .ret) .skip)) (.seq (.ops [⟨(some 18), (.mov (.tmp 1)), none, []⟩, ⟨(some 19), (.build [(.int .u64 0), (.int .u64 0)] [(1, (1, (.const (.int .u64 128))))]), none, []⟩, ⟨(some 20), (.build [(.int .u64 0), (.int .u64 0), (.int .i64 0)] [(0, (2, (.tmp 19))), (2, (1, (.const (.int .i64 1))))]), none, []⟩, ⟨(some 21), (.callv (.func 12) [(.tmp 18), (.tmp 20), (.const (.int .i64 7))]), none, []⟩, ⟨(some 3), (.mov (.tmp 21)), none, []⟩]) (.seq (.ops [⟨(some 22), (.mov (.tmp 1)), none, []⟩, ⟨(some 23), (.build [(.int .u64 0), (.int .u64 0)] [(1, (1, (.const (.int .u64 192))))]), none, []⟩, ⟨(some 24), (.build [(.int .u64 0), (.int .u64 0), (.int .i64 0)] [(0, (2, (.tmp 23))), (2, (1, (.const (.int .i64 2))))]), none, []⟩, ⟨(some 25), (.callv (.func 12) [(.tmp 22), (.tmp 24), (.const (.int .i64 9))]), none, []⟩, ⟨(some 4), (.mov (.tmp 25)), none, []⟩]) (.seq (.ops [⟨(some 27), (.mov (.tmp 1)), none, []⟩, ⟨(some 28), (.build [(.int .u64 0), (.int .u64 0)] [(1, (1, (.const (.int .u64 200))))]), none, []⟩, ⟨(some 29), (.callv (.func 14) [(.tmp 27), (.tmp 28)]), none, []⟩, ⟨(some 26), (.mov (.tmp 29)), none, []⟩, ⟨(some 30), (.extract (.tmp 26) 0), none, []⟩, ⟨(some 31), (.extract (.tmp 26) 1), none, []⟩, ⟨(some 32), (.extract (.tmp 26) 2), none, []⟩, ⟨(some 5), (.alloc [(.int .u64 0), (.int .u64 0), (.int .i64 0)]), none, []⟩, ⟨none, (.store 3 (.tmp 5) (.tmp 30)), none, []⟩, ⟨(some 6), (.mov (.tmp 31)), none, []⟩, ⟨(some 7), (.mov (.tmp 32)), none, []⟩]) (.seq (.ops [⟨(some 33), (.mov (.tmp 3)), none, []⟩, ⟨(some 34), (.bin .eql (.tmp 33) (.const (.int .i64 0))), none, []⟩, ⟨(some 35), (.mov (.tmp 34)), none, []⟩, ⟨(some 36), (.mov (.tmp 4)), (some (35, true)), []⟩, ⟨(some 37), (.bin .eql (.tmp 36) (.const (.int .i64 0))), (some (35, true)), []⟩, ⟨(some 38), (.pick (.tmp 35) (.tmp 37) (.const (.bool false))), none, []⟩, ⟨(some 39), (.mov (.tmp 38)), none, []⟩, ⟨(some 40), (.mov (.tmp 7)), (some (39, true)), []⟩, ⟨(some 41), (.pick (.tmp 39) (.tmp 40) (.const (.bool false))), none, []⟩, ⟨(some 42), (.mov (.tmp 41)), none, []⟩, ⟨(some 43), (.mov (.tmp 6)), (some (42, true)), []⟩, ⟨(some 44), (.bin .eql (.tmp 43) (.const (.int .i64 9))), (some (42, true)), []⟩, ⟨(some 45), (.pick (.tmp 42) (.tmp 44) (.const (.bool false))), none, []⟩, ⟨(some 46), (.mov (.tmp 45)), none, []⟩, ⟨(some 47), (.fAddr 2 (.tmp 5)), (some (46, true)), []⟩, ⟨(some 48), (.load1 (.tmp 47)), (some (46, true)), []⟩, ⟨(some 49), (.bin .eql (.tmp 48) (.const (.int .i64 2))), (some (46, true)), []⟩, ⟨(some 50), (.pick (.tmp 46) (.tmp 49) (.const (.bool false))), none, []⟩, ⟨(some 0), (.mov (.tmp 50)), none, []⟩]) .ret))))))) [(.tmp 0)])
def g10 : AFunc := (.code 24 (.seq (.ops [⟨(some 4), (.mov (.const (.pointer none))), none, []⟩, ⟨(some 5), (.mov (.const (.int .i64 0))), none, []⟩]) (.seq (.seq (.ops [⟨(some 6), (.mov (.tmp 0)), none, []⟩, ⟨(some 7), (.bin .lss (.tmp 6) (.const (.int .i64 1))), none, []⟩, ⟨(some 8), (.mov (.tmp 7)), none, []⟩, ⟨(some 9), (.mov (.tmp 0)), (some (8, false)), []⟩, ⟨(some 10), (.bin .gtr (.tmp 9) (.const (.int .i64 128))), (some (8, false)), []⟩, ⟨(some 11), (.pick (.tmp 8) (.const (.bool true)) (.tmp 10)), none, []⟩, ⟨(some 12), (.mov (.tmp 11)), none, []⟩, ⟨(some 13), (.mov (.tmp 1)), (some (12, false)), []⟩, ⟨(some 14), (.bin .lss (.tmp 13) (.const (.int .i64 1))), (some (12, false)), []⟩, ⟨(some 15), (.pick (.tmp 12) (.const (.bool true)) (.tmp 14)), none, []⟩, ⟨(some 16), (.mov (.tmp 15)), none, []⟩, ⟨(some 17), (.mov (.tmp 1)), (some (16, false)), []⟩, ⟨(some 18), (.bin .gtr (.tmp 17) (.const (.int .i64 4096))), (some (16, false)), []⟩, ⟨(some 19), (.pick (.tmp 16) (.const (.bool true)) (.tmp 18)), none, []⟩]) (.cond (.tmp 19) (.seq (.ops [⟨(some 4), (.mov (.const (.pointer none))), none, []⟩, ⟨(some 5), (.mov (.const (.int .i64 1))), none, []⟩]) .ret) .skip)) (.seq (.ops [⟨(some 20), (.mov (.tmp 0)), none, []⟩, ⟨(some 21), (.mov (.tmp 1)), none, []⟩, ⟨(some 22), (.build [(.int .i64 0), (.int .i64 0), (.int .i64 0), (.pointer none)] [(0, (1, (.tmp 20))), (1, (1, (.tmp 21)))]), none, []⟩, ⟨(some 23), (.box (.tmp 22)), none, []⟩, ⟨(some 4), (.mov (.tmp 23)), none, []⟩, ⟨(some 5), (.mov (.const (.int .i64 0))), none, []⟩]) .ret))) [(.tmp 4), (.tmp 5)])
def g11 : AFunc := (.code 33 (.seq (.ops [⟨(some 2), (.box (.tmp 0)), none, []⟩, ⟨(some 4), (.mov (.const (.string (bs [])))), none, []⟩, ⟨(some 5), (.mov (.const (.bool false))), none, []⟩]) (.seq (.ops [⟨(some 6), (.mov (.const (.slice none 0 0))), none, []⟩]) (.seq (.seq (.ops [⟨(some 7), (.mov (.const (.int .i64 127))), none, []⟩]) (.block 0 (.loop (.seq (.seq (.ops [⟨(some 10), (.mov (.tmp 7)), none, []⟩, ⟨(some 11), (.bin .geq (.tmp 10) (.const (.int .i64 0))), none, []⟩]) (.cond (.tmp 11) .skip (.exit 0))) (.seq (.block 1 (.seq (.ops [⟨(some 14), (.loadN 2 (.tmp 2)), none, []⟩, ⟨(some 15), (.mov (.tmp 7)), none, []⟩, ⟨(some 16), (.callv (.func 41) [(.tmp 14), (.tmp 15)]), none, []⟩, ⟨(some 8), (.mov (.tmp 16)), none, []⟩]) (.seq (.seq (.ops [⟨(some 17), (.mov (.tmp 7)), none, []⟩, ⟨(some 18), (.mov (.tmp 1)), none, []⟩, ⟨(some 19), (.bin .geq (.tmp 17) (.tmp 18)), none, []⟩, ⟨(some 20), (.mov (.tmp 19)), none, []⟩, ⟨(some 21), (.mov (.tmp 8)), (some (20, true)), []⟩, ⟨(some 22), (.pick (.tmp 20) (.tmp 21) (.const (.bool false))), none, []⟩]) (.cond (.tmp 22) (.seq (.ops [⟨(some 4), (.mov (.const (.string (bs [])))), none, []⟩, ⟨(some 5), (.mov (.const (.bool false))), none, []⟩]) .ret) .skip)) (.seq (.ops [⟨(some 23), (.mov (.tmp 7)), none, []⟩, ⟨(some 24), (.mov (.tmp 1)), none, []⟩, ⟨(some 25), (.bin .lss (.tmp 23) (.tmp 24)), none, []⟩]) (.cond (.tmp 25) (.seq (.ops [⟨(some 9), (.mov (.const (.int .u8 48))), none, []⟩]) (.seq (.seq (.ops [⟨(some 26), (.mov (.tmp 8)), none, []⟩]) (.cond (.tmp 26) (.ops [⟨(some 9), (.mov (.const (.int .u8 49))), none, []⟩]) .skip)) (.ops [⟨(some 27), (.mov (.tmp 6)), none, []⟩, ⟨(some 28), (.mov (.tmp 9)), none, []⟩, ⟨(some 29), (.buildSlice 1 1 [(.int .u8 0)] [(0, (1, (.tmp 28)))]), none, []⟩, ⟨(some 30), (.append 1 1 (.tmp 27) (.tmp 29)), none, []⟩, ⟨(some 6), (.mov (.tmp 30)), none, []⟩]))) .skip))))) (.ops [⟨(some 12), (.mov (.tmp 7)), none, []⟩, ⟨(some 13), (.bin .sub (.tmp 12) (.const (.int .i64 1))), none, []⟩, ⟨(some 7), (.mov (.tmp 13)), none, []⟩])))))) (.seq (.ops [⟨(some 31), (.mov (.tmp 6)), none, []⟩, ⟨(some 32), (.b2s (.tmp 31)), none, []⟩, ⟨(some 4), (.mov (.tmp 32)), none, []⟩, ⟨(some 5), (.mov (.const (.bool true))), none, []⟩]) .ret)))) [(.tmp 4), (.tmp 5)])
def g12 : AFunc := (.code 48 (.seq (.ops [⟨(some 4), (.box (.tmp 1)), none, []⟩, ⟨(some 6), (.mov (.const (.int .i64 0))), none, []⟩]) (.seq (.block 0 (.seq (.ops [⟨(some 8), (.mov (.tmp 0)), none, []⟩, ⟨(some 9), (.eqp 0 false (.tmp 8) (.const (.pointer none))), none, []⟩, ⟨(some 7), (.mov (.tmp 9)), none, []⟩]) (.cond (.tmp 7) (.seq (.ops [⟨(some 6), (.mov (.const (.int .i64 1))), none, []⟩]) .ret) (.seq (.ops [⟨(some 11), (.mov (.tmp 0)), none, []⟩, ⟨(some 12), (.loadN 3 (.tmp 4)), none, []⟩, ⟨(some 13), (.callv (.func 42) [(.tmp 11), (.tmp 12)]), none, []⟩, ⟨(some 14), (.un .not (.tmp 13)), none, []⟩, ⟨(some 10), (.mov (.tmp 14)), none, []⟩]) (.cond (.tmp 10) (.seq (.ops [⟨(some 6), (.mov (.const (.int .i64 111))), none, []⟩]) .ret) (.seq (.ops [⟨(some 16), (.mov (.tmp 0)), none, []⟩, ⟨(some 17), (.loadN 3 (.tmp 4)), none, []⟩, ⟨(some 18), (.callv (.func 43) [(.tmp 16), (.tmp 17)]), none, []⟩, ⟨(some 19), (.eqp 0 true (.tmp 18) (.const (.pointer none))), none, []⟩, ⟨(some 15), (.mov (.tmp 19)), none, []⟩]) (.cond (.tmp 15) (.seq (.ops [⟨(some 6), (.mov (.const (.int .i64 121))), none, []⟩]) .ret) (.seq (.ops [⟨(some 21), (.mov (.tmp 0)), none, []⟩, ⟨(some 22), (.nilChk (.tmp 21)), none, []⟩, ⟨(some 23), (.fAddr 2 (.tmp 22)), none, []⟩, ⟨(some 25), (.mov (.tmp 0)), none, []⟩, ⟨(some 26), (.nilChk (.tmp 25)), none, []⟩, ⟨(some 27), (.fAddr 1 (.tmp 26)), none, []⟩, ⟨(some 24), (.load1 (.tmp 23)), none, []⟩, ⟨(some 28), (.load1 (.tmp 27)), none, []⟩, ⟨(some 29), (.bin .geq (.tmp 24) (.tmp 28)), none, []⟩, ⟨(some 20), (.mov (.tmp 29)), none, []⟩]) (.cond (.tmp 20) (.seq (.ops [⟨(some 6), (.mov (.const (.int .i64 120))), none, []⟩]) .ret) .skip))))))))) (.seq (.ops [⟨(some 30), (.mov (.tmp 0)), none, []⟩, ⟨(some 31), (.nilChk (.tmp 30)), none, []⟩, ⟨(some 32), (.fAddr 2 (.tmp 31)), none, []⟩, ⟨(some 33), (.load1 (.tmp 32)), none, []⟩, ⟨(some 34), (.bin .add (.tmp 33) (.const (.int .i64 1))), none, []⟩, ⟨(some 35), (.nilChk (.tmp 30)), none, []⟩, ⟨(some 36), (.fAddr 2 (.tmp 35)), none, []⟩, ⟨none, (.store 1 (.tmp 36) (.tmp 34)), none, []⟩]) (.seq (.ops [⟨(some 37), (.mov (.tmp 0)), none, []⟩, ⟨(some 38), (.mov (.tmp 0)), none, []⟩, ⟨(some 39), (.mov (.tmp 0)), none, []⟩, ⟨(some 40), (.nilChk (.tmp 39)), none, []⟩, ⟨(some 41), (.fAddr 3 (.tmp 40)), none, []⟩, ⟨(some 44), (.mov (.tmp 2)), none, []⟩, ⟨(some 42), (.load1 (.tmp 41)), none, []⟩, ⟨(some 43), (.loadN 3 (.tmp 4)), none, []⟩, ⟨(some 45), (.callv (.func 44) [(.tmp 38), (.tmp 42), (.tmp 43), (.tmp 44)]), none, []⟩, ⟨(some 46), (.nilChk (.tmp 37)), none, []⟩, ⟨(some 47), (.fAddr 3 (.tmp 46)), none, []⟩, ⟨none, (.store 1 (.tmp 47) (.tmp 45)), none, []⟩]) (.seq (.ops [⟨(some 6), (.mov (.const (.int .i64 0))), none, []⟩]) .ret))))) [(.tmp 6)])
def g13 : AFunc := (.code 41 (.seq (.ops [⟨(some 3), (.box (.tmp 0)), none, []⟩, ⟨(some 6), (.mov (.const (.string (bs [])))), none, []⟩, ⟨(some 7), (.mov (.const (.bool false))), none, []⟩]) (.seq (.ops [⟨(some 12), (.loadN 2 (.tmp 3)), none, []⟩, ⟨(some 13), (.mov (.tmp 2)), none, []⟩, ⟨(some 14), (.callv (.func 11) [(.tmp 12), (.tmp 13)]), none, []⟩, ⟨(some 11), (.mov (.tmp 14)), none, []⟩, ⟨(some 15), (.extract (.tmp 11) 0), none, []⟩, ⟨(some 16), (.extract (.tmp 11) 1), none, []⟩, ⟨(some 8), (.mov (.tmp 15)), none, []⟩, ⟨(some 9), (.mov (.tmp 16)), none, []⟩]) (.seq (.seq (.ops [⟨(some 17), (.mov (.tmp 9)), none, []⟩, ⟨(some 18), (.un .not (.tmp 17)), none, []⟩, ⟨(some 19), (.mov (.tmp 18)), none, []⟩, ⟨(some 20), (.mov (.tmp 1)), (some (19, false)), []⟩, ⟨(some 21), (.bin .lss (.tmp 20) (.const (.int .i64 0))), (some (19, false)), []⟩, ⟨(some 22), (.pick (.tmp 19) (.const (.bool true)) (.tmp 21)), none, []⟩, ⟨(some 23), (.mov (.tmp 22)), none, []⟩, ⟨(some 24), (.mov (.tmp 1)), (some (23, false)), []⟩, ⟨(some 25), (.mov (.tmp 2)), (some (23, false)), []⟩, ⟨(some 26), (.bin .gtr (.tmp 24) (.tmp 25)), (some (23, false)), []⟩, ⟨(some 27), (.pick (.tmp 23) (.const (.bool true)) (.tmp 26)), none, []⟩]) (.cond (.tmp 27) (.seq (.ops [⟨(some 6), (.mov (.const (.string (bs [])))), none, []⟩, ⟨(some 7), (.mov (.const (.bool false))), none, []⟩]) .ret) .skip)) (.seq (.seq (.ops [⟨(some 28), (.mov (.tmp 1)), none, []⟩, ⟨(some 10), (.mov (.tmp 28)), none, []⟩]) (.block 0 (.loop (.seq (.seq (.ops [⟨(some 29), (.mov (.tmp 10)), none, []⟩, ⟨(some 30), (.mov (.tmp 2)), none, []⟩, ⟨(some 31), (.bin .lss (.tmp 29) (.tmp 30)), none, []⟩]) (.cond (.tmp 31) .skip (.exit 0))) (.seq (.block 1 (.seq (.ops [⟨(some 34), (.mov (.tmp 8)), none, []⟩, ⟨(some 35), (.mov (.tmp 10)), none, []⟩, ⟨(some 36), (.idxStr (.tmp 34) (.tmp 35)), none, []⟩, ⟨(some 37), (.bin .eql (.tmp 36) (.const (.int .u8 49))), none, []⟩]) (.cond (.tmp 37) (.seq (.ops [⟨(some 6), (.mov (.const (.string (bs [])))), none, []⟩, ⟨(some 7), (.mov (.const (.bool false))), none, []⟩]) .ret) .skip))) (.ops [⟨(some 32), (.mov (.tmp 10)), none, []⟩, ⟨(some 33), (.bin .add (.tmp 32) (.const (.int .i64 1))), none, []⟩, ⟨(some 10), (.mov (.tmp 33)), none, []⟩])))))) (.seq (.ops [⟨(some 38), (.mov (.tmp 8)), none, []⟩, ⟨(some 39), (.mov (.tmp 1)), none, []⟩, ⟨(some 40), (.slStr (.tmp 38) none (some (.tmp 39))), none, []⟩, ⟨(some 6), (.mov (.tmp 40)), none, []⟩, ⟨(some 7), (.mov (.const (.bool true))), none, []⟩]) .ret))))) [(.tmp 6), (.tmp 7)])
def g14 : AFunc := (.code 25 (.seq (.ops [⟨(some 3), (.box (.tmp 1)), none, []⟩, ⟨(some 4), (.alloc [(.int .u64 0), (.int .u64 0), (.int .i64 0)]), none, []⟩, ⟨(some 5), (.mov (.const (.int .i64 0))), none, []⟩, ⟨(some 6), (.mov (.const (.bool false))), none, []⟩]) (.seq (.ops [⟨(some 7), (.alloc [(.pointer none)]), none, []⟩]) (.seq (.ops [⟨(some 9), (.mov (.tmp 0)), none, []⟩, ⟨(some 10), (.loadN 2 (.tmp 3)), none, []⟩, ⟨(some 11), (.mkFunc 46 [] [(.tmp 7)]), none, []⟩, ⟨(some 12), (.callv (.func 45) [(.tmp 9), (.tmp 10), (.tmp 11)]), none, []⟩]) (.seq (.seq (.ops [⟨(some 13), (.load1 (.tmp 7)), none, []⟩, ⟨(some 14), (.eqp 0 false (.tmp 13) (.const (.pointer none))), none, []⟩]) (.cond (.tmp 14) (.seq (.ops [⟨(some 8), (.mov (.const (.int .i64 0))), none, []⟩]) (.seq (.ops [⟨(some 15), (.build [(.int .u64 0), (.int .u64 0), (.int .i64 0)] []), none, []⟩, ⟨(some 16), (.mov (.tmp 8)), none, []⟩, ⟨none, (.store 3 (.tmp 4) (.tmp 15)), none, []⟩, ⟨(some 5), (.mov (.tmp 16)), none, []⟩, ⟨(some 6), (.mov (.const (.bool false))), none, []⟩]) .ret)) .skip)) (.seq (.ops [⟨(some 17), (.load1 (.tmp 7)), none, []⟩, ⟨(some 18), (.nilChk (.tmp 17)), none, []⟩, ⟨(some 19), (.fAddr 0 (.tmp 18)), none, []⟩, ⟨(some 20), (.loadN 3 (.tmp 19)), none, []⟩, ⟨(some 21), (.load1 (.tmp 7)), none, [(4, 3)]⟩, ⟨(some 22), (.nilChk (.tmp 21)), none, []⟩, ⟨(some 23), (.fAddr 4 (.tmp 22)), none, []⟩, ⟨(some 24), (.load1 (.tmp 23)), none, [(4, 3)]⟩, ⟨none, (.store 3 (.tmp 4) (.tmp 20)), none, []⟩, ⟨(some 5), (.mov (.tmp 24)), none, []⟩, ⟨(some 6), (.mov (.const (.bool true))), none, []⟩]) .ret))))) [(.cellN 4 3), (.tmp 5), (.tmp 6)])
def g15 : AFunc := (.code 11 (.seq (.ops [⟨(some 3), (.box (.tmp 1)), none, []⟩, ⟨(some 4), (.mov (.const (.slice none 0 0))), none, []⟩]) (.seq (.ops [⟨(some 5), (.alloc [(.slice none 0 0)]), none, []⟩]) (.seq (.ops [⟨(some 6), (.mov (.tmp 0)), none, []⟩, ⟨(some 7), (.loadN 2 (.tmp 3)), none, []⟩, ⟨(some 8), (.mkFunc 47 [] [(.tmp 5)]), none, []⟩, ⟨(some 9), (.callv (.func 45) [(.tmp 6), (.tmp 7), (.tmp 8)]), none, []⟩]) (.seq (.ops [⟨(some 10), (.load1 (.tmp 5)), none, []⟩, ⟨(some 4), (.mov (.tmp 10)), none, []⟩]) .ret)))) [(.tmp 4)])
def g16 : AFunc := (.code 18 (.seq (.ops [⟨(some 3), (.box (.tmp 1)), none, []⟩, ⟨(some 4), (.mov (.const (.int .i64 0))), none, []⟩, ⟨(some 5), (.mov (.const (.bool false))), none, []⟩]) (.seq (.ops [⟨(some 8), (.mov (.tmp 0)), none, []⟩, ⟨(some 9), (.loadN 3 (.tmp 3)), none, []⟩, ⟨(some 10), (.callv (.func 43) [(.tmp 8), (.tmp 9)]), none, []⟩, ⟨(some 6), (.mov (.tmp 10)), none, []⟩]) (.seq (.seq (.ops [⟨(some 11), (.mov (.tmp 6)), none, []⟩, ⟨(some 12), (.eqp 0 false (.tmp 11) (.const (.pointer none))), none, []⟩]) (.cond (.tmp 12) (.seq (.ops [⟨(some 7), (.mov (.const (.int .i64 0))), none, []⟩]) (.seq (.ops [⟨(some 13), (.mov (.tmp 7)), none, []⟩, ⟨(some 4), (.mov (.tmp 13)), none, []⟩, ⟨(some 5), (.mov (.const (.bool false))), none, []⟩]) .ret)) .skip)) (.seq (.ops [⟨(some 14), (.mov (.tmp 6)), none, []⟩, ⟨(some 15), (.nilChk (.tmp 14)), none, []⟩, ⟨(some 16), (.fAddr 4 (.tmp 15)), none, []⟩, ⟨(some 17), (.load1 (.tmp 16)), none, []⟩, ⟨(some 4), (.mov (.tmp 17)), none, []⟩, ⟨(some 5), (.mov (.const (.bool true))), none, []⟩]) .ret)))) [(.tmp 4), (.tmp 5)])
def g17 : AFunc := (.code 5 (.seq (.ops [⟨(some 2), (.mov (.const .nilFunc)), none, []⟩]) (.seq (.ops [⟨(some 3), (.mov (.tmp 0)), none, []⟩, ⟨(some 4), (.callv (.func 48) [(.tmp 3), (.func 49)]), none, []⟩, ⟨(some 2), (.mov (.tmp 4)), none, []⟩]) .ret)) [(.tmp 2)])
def g18 : AFunc := (.code 8 (.seq (.ops [⟨(some 2), (.box (.tmp 0)), none, []⟩, ⟨(some 3), (.box (.tmp 1)), none, []⟩, ⟨(some 4), (.mov (.const .nilFunc)), none, []⟩]) (.seq (.ops [⟨(some 5), (.load1 (.tmp 2)), none, []⟩, ⟨(some 6), (.mkFunc 50 [] [(.tmp 2), (.tmp 3)]), none, []⟩, ⟨(some 7), (.callv (.func 48) [(.tmp 5), (.tmp 6)]), none, []⟩, ⟨(some 4), (.mov (.tmp 7)), none, []⟩]) .ret)) [(.tmp 4)])
def g19 : AFunc := (.code 9 (.seq (.ops [⟨(some 2), (.mov (.const (.int .i64 0))), none, []⟩]) (.seq (.seq (.ops [⟨(some 3), (.mov (.tmp 0)), none, []⟩, ⟨(some 4), (.eqp 0 false (.tmp 3) (.const (.pointer none))), none, []⟩]) (.cond (.tmp 4) (.seq (.ops [⟨(some 2), (.mov (.const (.int .i64 0))), none, []⟩]) .ret) .skip)) (.seq (.ops [⟨(some 5), (.mov (.tmp 0)), none, []⟩, ⟨(some 6), (.nilChk (.tmp 5)), none, []⟩, ⟨(some 7), (.fAddr 2 (.tmp 6)), none, []⟩, ⟨(some 8), (.load1 (.tmp 7)), none, []⟩, ⟨(some 2), (.mov (.tmp 8)), none, []⟩]) .ret))) [(.tmp 2)])
def g20 : AFunc := (.code 24 (.seq (.ops [⟨(some 4), (.mov (.const (.pointer none))), none, []⟩, ⟨(some 5), (.mov (.const (.int .i64 0))), none, []⟩]) (.seq (.seq (.ops [⟨(some 6), (.mov (.tmp 0)), none, []⟩, ⟨(some 7), (.bin .lss (.tmp 6) (.const (.int .i64 1))), none, []⟩, ⟨(some 8), (.mov (.tmp 7)), none, []⟩, ⟨(some 9), (.mov (.tmp 0)), (some (8, false)), []⟩, ⟨(some 10), (.bin .gtr (.tmp 9) (.const (.int .i64 128))), (some (8, false)), []⟩, ⟨(some 11), (.pick (.tmp 8) (.const (.bool true)) (.tmp 10)), none, []⟩, ⟨(some 12), (.mov (.tmp 11)), none, []⟩, ⟨(some 13), (.mov (.tmp 1)), (some (12, false)), []⟩, ⟨(some 14), (.bin .lss (.tmp 13) (.const (.int .i64 1))), (some (12, false)), []⟩, ⟨(some 15), (.pick (.tmp 12) (.const (.bool true)) (.tmp 14)), none, []⟩, ⟨(some 16), (.mov (.tmp 15)), none, []⟩, ⟨(some 17), (.mov (.tmp 1)), (some (16, false)), []⟩, ⟨(some 18), (.bin .gtr (.tmp 17) (.const (.int .i64 4096))), (some (16, false)), []⟩, ⟨(some 19), (.pick (.tmp 16) (.const (.bool true)) (.tmp 18)), none, []⟩]) (.cond (.tmp 19) (.seq (.ops [⟨(some 4), (.mov (.const (.pointer none))), none, []⟩, ⟨(some 5), (.mov (.const (.int .i64 1))), none, []⟩]) .ret) .skip)) (.seq (.ops [⟨(some 20), (.mov (.tmp 0)), none, []⟩, ⟨(some 21), (.mov (.tmp 1)), none, []⟩, ⟨(some 22), (.build [(.int .i64 0), (.int .i64 0), (.int .i64 0), (.pointer none)] [(0, (1, (.tmp 20))), (1, (1, (.tmp 21)))]), none, []⟩, ⟨(some 23), (.box (.tmp 22)), none, []⟩, ⟨(some 4), (.mov (.tmp 23)), none, []⟩, ⟨(some 5), (.mov (.const (.int .i64 0))), none, []⟩]) .ret))) [(.tmp 4), (.tmp 5)])
def g21 : AFunc := (.code 48 (.seq (.ops [⟨(some 4), (.box (.tmp 1)), none, []⟩, ⟨(some 6), (.mov (.const (.int .i64 0))), none, []⟩]) (.seq (.block 0 (.seq (.ops [⟨(some 8), (.mov (.tmp 0)), none, []⟩, ⟨(some 9), (.eqp 0 false (.tmp 8) (.const (.pointer none))), none, []⟩, ⟨(some 7), (.mov (.tmp 9)), none, []⟩]) (.cond (.tmp 7) (.seq (.ops [⟨(some 6), (.mov (.const (.int .i64 1))), none, []⟩]) .ret) (.seq (.ops [⟨(some 11), (.mov (.tmp 0)), none, []⟩, ⟨(some 12), (.loadN 3 (.tmp 4)), none, []⟩, ⟨(some 13), (.callv (.func 52) [(.tmp 11), (.tmp 12)]), none, []⟩, ⟨(some 14), (.un .not (.tmp 13)), none, []⟩, ⟨(some 10), (.mov (.tmp 14)), none, []⟩]) (.cond (.tmp 10) (.seq (.ops [⟨(some 6), (.mov (.const (.int .i64 111))), none, []⟩]) .ret) (.seq (.ops [⟨(some 16), (.mov (.tmp 0)), none, []⟩, ⟨(some 17), (.loadN 3 (.tmp 4)), none, []⟩, ⟨(some 18), (.callv (.func 53) [(.tmp 16), (.tmp 17)]), none, []⟩, ⟨(some 19), (.eqp 0 true (.tmp 18) (.const (.pointer none))), none, []⟩, ⟨(some 15), (.mov (.tmp 19)), none, []⟩]) (.cond (.tmp 15) (.seq (.ops [⟨(some 6), (.mov (.const (.int .i64 121))), none, []⟩]) .ret) (.seq (.ops [⟨(some 21), (.mov (.tmp 0)), none, []⟩, ⟨(some 22), (.nilChk (.tmp 21)), none, []⟩, ⟨(some 23), (.fAddr 2 (.tmp 22)), none, []⟩, ⟨(some 25), (.mov (.tmp 0)), none, []⟩, ⟨(some 26), (.nilChk (.tmp 25)), none, []⟩, ⟨(some 27), (.fAddr 1 (.tmp 26)), none, []⟩, ⟨(some 24), (.load1 (.tmp 23)), none, []⟩, ⟨(some 28), (.load1 (.tmp 27)), none, []⟩, ⟨(some 29), (.bin .geq (.tmp 24) (.tmp 28)), none, []⟩, ⟨(some 20), (.mov (.tmp 29)), none, []⟩]) (.cond (.tmp 20) (.seq (.ops [⟨(some 6), (.mov (.const (.int .i64 120))), none, []⟩]) .ret) .skip))))))))) (.seq (.ops [⟨(some 30), (.mov (.tmp 0)), none, []⟩, ⟨(some 31), (.nilChk (.tmp 30)), none, []⟩, ⟨(some 32), (.fAddr 2 (.tmp 31)), none, []⟩, ⟨(some 33), (.load1 (.tmp 32)), none, []⟩, ⟨(some 34), (.bin .add (.tmp 33) (.const (.int .i64 1))), none, []⟩, ⟨(some 35), (.nilChk (.tmp 30)), none, []⟩, ⟨(some 36), (.fAddr 2 (.tmp 35)), none, []⟩, ⟨none, (.store 1 (.tmp 36) (.tmp 34)), none, []⟩]) (.seq (.ops [⟨(some 37), (.mov (.tmp 0)), none, []⟩, ⟨(some 38), (.mov (.tmp 0)), none, []⟩, ⟨(some 39), (.mov (.tmp 0)), none, []⟩, ⟨(some 40), (.nilChk (.tmp 39)), none, []⟩, ⟨(some 41), (.fAddr 3 (.tmp 40)), none, []⟩, ⟨(some 44), (.mov (.tmp 2)), none, []⟩, ⟨(some 42), (.load1 (.tmp 41)), none, []⟩, ⟨(some 43), (.loadN 3 (.tmp 4)), none, []⟩, ⟨(some 45), (.callv (.func 54) [(.tmp 38), (.tmp 42), (.tmp 43), (.tmp 44)]), none, []⟩, ⟨(some 46), (.nilChk (.tmp 37)), none, []⟩, ⟨(some 47), (.fAddr 3 (.tmp 46)), none, []⟩, ⟨none, (.store 1 (.tmp 47) (.tmp 45)), none, []⟩]) (.seq (.ops [⟨(some 6), (.mov (.const (.int .i64 0))), none, []⟩]) .ret))))) [(.tmp 6)])
def g22 : AFunc := (.code 18 (.seq (.ops [⟨(some 3), (.box (.tmp 1)), none, []⟩, ⟨(some 4), (.mov (.const (.string (bs [])))), none, []⟩, ⟨(some 5), (.mov (.const (.bool false))), none, []⟩]) (.seq (.ops [⟨(some 8), (.mov (.tmp 0)), none, []⟩, ⟨(some 9), (.loadN 3 (.tmp 3)), none, []⟩, ⟨(some 10), (.callv (.func 53) [(.tmp 8), (.tmp 9)]), none, []⟩, ⟨(some 6), (.mov (.tmp 10)), none, []⟩]) (.seq (.seq (.ops [⟨(some 11), (.mov (.tmp 6)), none, []⟩, ⟨(some 12), (.eqp 0 false (.tmp 11) (.const (.pointer none))), none, []⟩]) (.cond (.tmp 12) (.seq (.ops [⟨(some 7), (.mov (.const (.string (bs [])))), none, []⟩]) (.seq (.ops [⟨(some 13), (.mov (.tmp 7)), none, []⟩, ⟨(some 4), (.mov (.tmp 13)), none, []⟩, ⟨(some 5), (.mov (.const (.bool false))), none, []⟩]) .ret)) .skip)) (.seq (.ops [⟨(some 14), (.mov (.tmp 6)), none, []⟩, ⟨(some 15), (.nilChk (.tmp 14)), none, []⟩, ⟨(some 16), (.fAddr 4 (.tmp 15)), none, []⟩, ⟨(some 17), (.load1 (.tmp 16)), none, []⟩, ⟨(some 4), (.mov (.tmp 17)), none, []⟩, ⟨(some 5), (.mov (.const (.bool true))), none, []⟩]) .ret)))) [(.tmp 4), (.tmp 5)])
def g23 : AFunc := (.code 25 (.seq (.ops [⟨(some 4), (.box (.tmp 1)), none, []⟩, ⟨(some 6), (.mov (.const (.int .i64 0))), none, []⟩]) (.seq (.block 0 (.seq (.ops [⟨(some 9), (.mov (.tmp 0)), none, []⟩, ⟨(some 10), (.eqp 0 false (.tmp 9) (.const (.pointer none))), none, []⟩, ⟨(some 8), (.mov (.tmp 10)), none, []⟩]) (.cond (.tmp 8) (.seq (.ops [⟨(some 6), (.mov (.const (.int .i64 1))), none, []⟩]) .ret) (.seq (.ops [⟨(some 12), (.mov (.tmp 0)), none, []⟩, ⟨(some 13), (.loadN 3 (.tmp 4)), none, []⟩, ⟨(some 14), (.callv (.func 52) [(.tmp 12), (.tmp 13)]), none, []⟩, ⟨(some 15), (.un .not (.tmp 14)), none, []⟩, ⟨(some 11), (.mov (.tmp 15)), none, []⟩]) (.cond (.tmp 11) (.seq (.ops [⟨(some 6), (.mov (.const (.int .i64 111))), none, []⟩]) .ret) .skip))))) (.seq (.ops [⟨(some 16), (.mov (.tmp 0)), none, []⟩, ⟨(some 17), (.loadN 3 (.tmp 4)), none, []⟩, ⟨(some 18), (.callv (.func 53) [(.tmp 16), (.tmp 17)]), none, []⟩, ⟨(some 7), (.mov (.tmp 18)), none, []⟩]) (.seq (.seq (.ops [⟨(some 19), (.mov (.tmp 7)), none, []⟩, ⟨(some 20), (.eqp 0 false (.tmp 19) (.const (.pointer none))), none, []⟩]) (.cond (.tmp 20) (.seq (.ops [⟨(some 6), (.mov (.const (.int .i64 122))), none, []⟩]) .ret) .skip)) (.seq (.ops [⟨(some 21), (.mov (.tmp 7)), none, []⟩, ⟨(some 22), (.mov (.tmp 2)), none, []⟩, ⟨(some 23), (.nilChk (.tmp 21)), none, []⟩, ⟨(some 24), (.fAddr 4 (.tmp 23)), none, []⟩, ⟨none, (.store 1 (.tmp 24) (.tmp 22)), none, []⟩]) (.seq (.ops [⟨(some 6), (.mov (.const (.int .i64 0))), none, []⟩]) .ret)))))) [(.tmp 6)])
def g24 : AFunc := (.code 34 (.seq (.ops [⟨(some 3), (.box (.tmp 1)), none, []⟩, ⟨(some 4), (.mov (.const (.string (bs [])))), none, []⟩, ⟨(some 5), (.mov (.const (.bool false))), none, []⟩]) (.seq (.ops [⟨(some 9), (.mov (.tmp 0)), none, []⟩, ⟨(some 10), (.loadN 3 (.tmp 3)), none, []⟩, ⟨(some 11), (.callv (.func 22) [(.tmp 9), (.tmp 10)]), none, []⟩, ⟨(some 8), (.mov (.tmp 11)), none, []⟩, ⟨(some 12), (.extract (.tmp 8) 0), none, []⟩, ⟨(some 13), (.extract (.tmp 8) 1), none, []⟩, ⟨(some 6), (.mov (.tmp 12)), none, []⟩, ⟨(some 7), (.mov (.tmp 13)), none, []⟩]) (.seq (.seq (.ops [⟨(some 14), (.mov (.tmp 7)), none, []⟩]) (.cond (.tmp 14) (.seq (.ops [⟨(some 15), (.mov (.tmp 0)), none, []⟩, ⟨(some 16), (.nilChk (.tmp 15)), none, []⟩, ⟨(some 17), (.fAddr 2 (.tmp 16)), none, []⟩, ⟨(some 18), (.load1 (.tmp 17)), none, []⟩, ⟨(some 19), (.bin .sub (.tmp 18) (.const (.int .i64 1))), none, []⟩, ⟨(some 20), (.nilChk (.tmp 15)), none, []⟩, ⟨(some 21), (.fAddr 2 (.tmp 20)), none, []⟩, ⟨none, (.store 1 (.tmp 21) (.tmp 19)), none, []⟩]) (.ops [⟨(some 22), (.mov (.tmp 0)), none, []⟩, ⟨(some 23), (.mov (.tmp 0)), none, []⟩, ⟨(some 24), (.mov (.tmp 0)), none, []⟩, ⟨(some 25), (.nilChk (.tmp 24)), none, []⟩, ⟨(some 26), (.fAddr 3 (.tmp 25)), none, []⟩, ⟨(some 27), (.load1 (.tmp 26)), none, []⟩, ⟨(some 28), (.loadN 3 (.tmp 3)), none, []⟩, ⟨(some 29), (.callv (.func 55) [(.tmp 23), (.tmp 27), (.tmp 28)]), none, []⟩, ⟨(some 30), (.nilChk (.tmp 22)), none, []⟩, ⟨(some 31), (.fAddr 3 (.tmp 30)), none, []⟩, ⟨none, (.store 1 (.tmp 31) (.tmp 29)), none, []⟩])) .skip)) (.seq (.ops [⟨(some 32), (.mov (.tmp 6)), none, []⟩, ⟨(some 33), (.mov (.tmp 7)), none, []⟩, ⟨(some 4), (.mov (.tmp 32)), none, []⟩, ⟨(some 5), (.mov (.tmp 33)), none, []⟩]) .ret)))) [(.tmp 4), (.tmp 5)])
def g25 : AFunc := (.code 9 (.seq (.ops [⟨(some 2), (.mov (.const (.int .i64 0))), none, []⟩]) (.seq (.seq (.ops [⟨(some 3), (.mov (.tmp 0)), none, []⟩, ⟨(some 4), (.eqp 0 false (.tmp 3) (.const (.pointer none))), none, []⟩]) (.cond (.tmp 4) (.seq (.ops [⟨(some 2), (.mov (.const (.int .i64 0))), none, []⟩]) .ret) .skip)) (.seq (.ops [⟨(some 5), (.mov (.tmp 0)), none, []⟩, ⟨(some 6), (.nilChk (.tmp 5)), none, []⟩, ⟨(some 7), (.fAddr 2 (.tmp 6)), none, []⟩, ⟨(some 8), (.load1 (.tmp 7)), none, []⟩, ⟨(some 2), (.mov (.tmp 8)), none, []⟩]) .ret))) [(.tmp 2)])
def g26 : AFunc := (.code 13 (.seq (.ops [⟨(some 2), (.mov (.const (.int .i64 0))), none, []⟩]) (.seq (.ops [⟨(some 3), (.alloc [(.int .i64 0)]), none, []⟩, ⟨none, (.store 1 (.tmp 3) (.const (.int .i64 0))), none, []⟩]) (.seq (.seq (.ops [⟨(some 4), (.mov (.tmp 0)), none, []⟩, ⟨(some 5), (.eqp 0 true (.tmp 4) (.const (.pointer none))), none, []⟩]) (.cond (.tmp 5) (.ops [⟨(some 6), (.mov (.tmp 0)), none, []⟩, ⟨(some 7), (.nilChk (.tmp 6)), none, []⟩, ⟨(some 8), (.fAddr 3 (.tmp 7)), none, []⟩, ⟨(some 9), (.load1 (.tmp 8)), none, []⟩, ⟨(some 10), (.mkFunc 57 [] [(.tmp 3)]), none, []⟩, ⟨(some 11), (.callv (.func 56) [(.tmp 9), (.tmp 10)]), none, []⟩]) .skip)) (.seq (.ops [⟨(some 12), (.load1 (.tmp 3)), none, []⟩, ⟨(some 2), (.mov (.tmp 12)), none, []⟩]) .ret)))) [(.tmp 2)])
def g27 : AFunc := (.code 5 (.seq (.ops [⟨(some 2), (.mov (.const .nilFunc)), none, []⟩]) (.seq (.ops [⟨(some 3), (.mov (.tmp 0)), none, []⟩, ⟨(some 4), (.callv (.func 58) [(.tmp 3), (.func 59)]), none, []⟩, ⟨(some 2), (.mov (.tmp 4)), none, []⟩]) .ret)) [(.tmp 2)])
def g35 : AFunc := (.code 10 (.seq (.ops [⟨(some 2), (.mov (.tmp 0)), none, []⟩, ⟨(some 3), (.eqp 0 true (.tmp 2) (.const (.pointer none))), none, []⟩]) (.cond (.tmp 3) (.ops [⟨(some 4), (.mov (.tmp 0)), none, []⟩, ⟨(some 5), (.mov (.tmp 0)), none, []⟩, ⟨(some 6), (.nilChk (.tmp 4)), none, []⟩, ⟨(some 7), (.fAddr 2 (.tmp 6)), none, []⟩, ⟨none, (.store 1 (.tmp 7) (.const (.int .i64 0))), none, []⟩, ⟨(some 8), (.nilChk (.tmp 5)), none, []⟩, ⟨(some 9), (.fAddr 3 (.tmp 8)), none, []⟩, ⟨none, (.store 1 (.tmp 9) (.const (.pointer none))), none, []⟩]) .skip)) [])
def g38 : AFunc := (.code 25 (.seq (.ops [⟨(some 4), (.box (.tmp 1)), none, []⟩, ⟨(some 6), (.mov (.const (.int .i64 0))), none, []⟩]) (.seq (.block 0 (.seq (.ops [⟨(some 9), (.mov (.tmp 0)), none, []⟩, ⟨(some 10), (.eqp 0 false (.tmp 9) (.const (.pointer none))), none, []⟩, ⟨(some 8), (.mov (.tmp 10)), none, []⟩]) (.cond (.tmp 8) (.seq (.ops [⟨(some 6), (.mov (.const (.int .i64 1))), none, []⟩]) .ret) (.seq (.ops [⟨(some 12), (.mov (.tmp 0)), none, []⟩, ⟨(some 13), (.loadN 3 (.tmp 4)), none, []⟩, ⟨(some 14), (.callv (.func 42) [(.tmp 12), (.tmp 13)]), none, []⟩, ⟨(some 15), (.un .not (.tmp 14)), none, []⟩, ⟨(some 11), (.mov (.tmp 15)), none, []⟩]) (.cond (.tmp 11) (.seq (.ops [⟨(some 6), (.mov (.const (.int .i64 111))), none, []⟩]) .ret) .skip))))) (.seq (.ops [⟨(some 16), (.mov (.tmp 0)), none, []⟩, ⟨(some 17), (.loadN 3 (.tmp 4)), none, []⟩, ⟨(some 18), (.callv (.func 43) [(.tmp 16), (.tmp 17)]), none, []⟩, ⟨(some 7), (.mov (.tmp 18)), none, []⟩]) (.seq (.seq (.ops [⟨(some 19), (.mov (.tmp 7)), none, []⟩, ⟨(some 20), (.eqp 0 false (.tmp 19) (.const (.pointer none))), none, []⟩]) (.cond (.tmp 20) (.seq (.ops [⟨(some 6), (.mov (.const (.int .i64 122))), none, []⟩]) .ret) .skip)) (.seq (.ops [⟨(some 21), (.mov (.tmp 7)), none, []⟩, ⟨(some 22), (.mov (.tmp 2)), none, []⟩, ⟨(some 23), (.nilChk (.tmp 21)), none, []⟩, ⟨(some 24), (.fAddr 4 (.tmp 23)), none, []⟩, ⟨none, (.store 1 (.tmp 24) (.tmp 22)), none, []⟩]) (.seq (.ops [⟨(some 6), (.mov (.const (.int .i64 0))), none, []⟩]) .ret)))))) [(.tmp 6)])
def g39 : AFunc := (.code 34 (.seq (.ops [⟨(some 3), (.box (.tmp 1)), none, []⟩, ⟨(some 4), (.mov (.const (.int .i64 0))), none, []⟩, ⟨(some 5), (.mov (.const (.bool false))), none, []⟩]) (.seq (.ops [⟨(some 9), (.mov (.tmp 0)), none, []⟩, ⟨(some 10), (.loadN 3 (.tmp 3)), none, []⟩, ⟨(some 11), (.callv (.func 16) [(.tmp 9), (.tmp 10)]), none, []⟩, ⟨(some 8), (.mov (.tmp 11)), none, []⟩, ⟨(some 12), (.extract (.tmp 8) 0), none, []⟩, ⟨(some 13), (.extract (.tmp 8) 1), none, []⟩, ⟨(some 6), (.mov (.tmp 12)), none, []⟩, ⟨(some 7), (.mov (.tmp 13)), none, []⟩]) (.seq (.seq (.ops [⟨(some 14), (.mov (.tmp 7)), none, []⟩]) (.cond (.tmp 14) (.seq (.ops [⟨(some 15), (.mov (.tmp 0)), none, []⟩, ⟨(some 16), (.nilChk (.tmp 15)), none, []⟩, ⟨(some 17), (.fAddr 2 (.tmp 16)), none, []⟩, ⟨(some 18), (.load1 (.tmp 17)), none, []⟩, ⟨(some 19), (.bin .sub (.tmp 18) (.const (.int .i64 1))), none, []⟩, ⟨(some 20), (.nilChk (.tmp 15)), none, []⟩, ⟨(some 21), (.fAddr 2 (.tmp 20)), none, []⟩, ⟨none, (.store 1 (.tmp 21) (.tmp 19)), none, []⟩]) (.ops [⟨(some 22), (.mov (.tmp 0)), none, []⟩, ⟨(some 23), (.mov (.tmp 0)), none, []⟩, ⟨(some 24), (.mov (.tmp 0)), none, []⟩, ⟨(some 25), (.nilChk (.tmp 24)), none, []⟩, ⟨(some 26), (.fAddr 3 (.tmp 25)), none, []⟩, ⟨(some 27), (.load1 (.tmp 26)), none, []⟩, ⟨(some 28), (.loadN 3 (.tmp 3)), none, []⟩, ⟨(some 29), (.callv (.func 70) [(.tmp 23), (.tmp 27), (.tmp 28)]), none, []⟩, ⟨(some 30), (.nilChk (.tmp 22)), none, []⟩, ⟨(some 31), (.fAddr 3 (.tmp 30)), none, []⟩, ⟨none, (.store 1 (.tmp 31) (.tmp 29)), none, []⟩])) .skip)) (.seq (.ops [⟨(some 32), (.mov (.tmp 6)), none, []⟩, ⟨(some 33), (.mov (.tmp 7)), none, []⟩, ⟨(some 4), (.mov (.tmp 32)), none, []⟩, ⟨(some 5), (.mov (.tmp 33)), none, []⟩]) .ret)))) [(.tmp 4), (.tmp 5)])
def g40 : AFunc := (.code 13 (.seq (.ops [⟨(some 2), (.mov (.const (.int .i64 0))), none, []⟩]) (.seq (.ops [⟨(some 3), (.alloc [(.int .i64 0)]), none, []⟩, ⟨none, (.store 1 (.tmp 3) (.const (.int .i64 0))), none, []⟩]) (.seq (.seq (.ops [⟨(some 4), (.mov (.tmp 0)), none, []⟩, ⟨(some 5), (.eqp 0 true (.tmp 4) (.const (.pointer none))), none, []⟩]) (.cond (.tmp 5) (.ops [⟨(some 6), (.mov (.tmp 0)), none, []⟩, ⟨(some 7), (.nilChk (.tmp 6)), none, []⟩, ⟨(some 8), (.fAddr 3 (.tmp 7)), none, []⟩, ⟨(some 9), (.load1 (.tmp 8)), none, []⟩, ⟨(some 10), (.mkFunc 72 [] [(.tmp 3)]), none, []⟩, ⟨(some 11), (.callv (.func 71) [(.tmp 9), (.tmp 10)]), none, []⟩]) .skip)) (.seq (.ops [⟨(some 12), (.load1 (.tmp 3)), none, []⟩, ⟨(some 2), (.mov (.tmp 12)), none, []⟩]) .ret)))) [(.tmp 2)])
def g41 : AFunc := (.code 23 (.seq (.ops [⟨(some 2), (.box (.tmp 0)), none, []⟩, ⟨(some 4), (.mov (.const (.bool false))), none, []⟩]) (.seq (.ops [⟨(some 6), (.fAddr 1 (.tmp 2)), none, []⟩, ⟨(some 7), (.load1 (.tmp 6)), none, []⟩, ⟨(some 5), (.mov (.tmp 7)), none, []⟩]) (.seq (.seq (.ops [⟨(some 8), (.mov (.tmp 1)), none, []⟩, ⟨(some 9), (.bin .gtr (.tmp 8) (.const (.int .i64 63))), none, []⟩]) (.cond (.tmp 9) (.seq (.ops [⟨(some 10), (.fAddr 0 (.tmp 2)), none, []⟩, ⟨(some 11), (.load1 (.tmp 10)), none, []⟩, ⟨(some 5), (.mov (.tmp 11)), none, []⟩]) (.ops [⟨(some 12), (.mov (.tmp 1)), none, []⟩, ⟨(some 13), (.bin .sub (.tmp 12) (.const (.int .i64 64))), none, []⟩, ⟨(some 1), (.mov (.tmp 13)), none, []⟩])) .skip)) (.seq (.block 0 (.loop (.seq (.seq (.ops [⟨(some 14), (.mov (.tmp 1)), none, []⟩, ⟨(some 15), (.bin .gtr (.tmp 14) (.const (.int .i64 0))), none, []⟩]) (.cond (.tmp 15) .skip (.exit 0))) (.block 1 (.seq (.ops [⟨(some 16), (.mov (.tmp 5)), none, []⟩, ⟨(some 17), (.bin .quo (.tmp 16) (.const (.int .u64 2))), none, []⟩, ⟨(some 5), (.mov (.tmp 17)), none, []⟩]) (.ops [⟨(some 18), (.mov (.tmp 1)), none, []⟩, ⟨(some 19), (.bin .sub (.tmp 18) (.const (.int .i64 1))), none, []⟩, ⟨(some 1), (.mov (.tmp 19)), none, []⟩])))))) (.seq (.ops [⟨(some 20), (.mov (.tmp 5)), none, []⟩, ⟨(some 21), (.bin .rem (.tmp 20) (.const (.int .u64 2))), none, []⟩, ⟨(some 22), (.bin .eql (.tmp 21) (.const (.int .u64 1))), none, []⟩, ⟨(some 4), (.mov (.tmp 22)), none, []⟩]) .ret))))) [(.tmp 4)])
def g42 : AFunc := (.code 50 (.seq (.ops [⟨(some 3), (.box (.tmp 1)), none, []⟩, ⟨(some 4), (.mov (.const (.bool false))), none, []⟩]) (.seq (.seq (.ops [⟨(some 7), (.mov (.tmp 0)), none, []⟩, ⟨(some 8), (.eqp 0 false (.tmp 7) (.const (.pointer none))), none, []⟩, ⟨(some 9), (.mov (.tmp 8)), none, []⟩, ⟨(some 10), (.fAddr 2 (.tmp 3)), (some (9, false)), []⟩, ⟨(some 11), (.load1 (.tmp 10)), (some (9, false)), []⟩, ⟨(some 12), (.bin .lss (.tmp 11) (.const (.int .i64 0))), (some (9, false)), []⟩, ⟨(some 13), (.pick (.tmp 9) (.const (.bool true)) (.tmp 12)), none, []⟩, ⟨(some 14), (.mov (.tmp 13)), none, []⟩, ⟨(some 15), (.fAddr 2 (.tmp 3)), (some (14, false)), []⟩, ⟨(some 17), (.mov (.tmp 0)), (some (14, false)), []⟩, ⟨(some 18), (.nilChk (.tmp 17)), (some (14, false)), []⟩, ⟨(some 19), (.fAddr 0 (.tmp 18)), (some (14, false)), []⟩, ⟨(some 16), (.load1 (.tmp 15)), (some (14, false)), []⟩, ⟨(some 20), (.load1 (.tmp 19)), (some (14, false)), []⟩, ⟨(some 21), (.bin .gtr (.tmp 16) (.tmp 20)), (some (14, false)), []⟩, ⟨(some 22), (.pick (.tmp 14) (.const (.bool true)) (.tmp 21)), none, []⟩, ⟨(some 23), (.mov (.tmp 22)), none, []⟩, ⟨(some 24), (.fAddr 0 (.tmp 3)), (some (23, false)), []⟩, ⟨(some 26), (.mov (.tmp 0)), (some (23, false)), []⟩, ⟨(some 27), (.nilChk (.tmp 26)), (some (23, false)), []⟩, ⟨(some 28), (.fAddr 0 (.tmp 27)), (some (23, false)), []⟩, ⟨(some 25), (.loadN 2 (.tmp 24)), (some (23, false)), []⟩, ⟨(some 29), (.load1 (.tmp 28)), (some (23, false)), []⟩, ⟨(some 30), (.callv (.func 73) [(.tmp 25), (.tmp 29)]), (some (23, false)), []⟩, ⟨(some 31), (.un .not (.tmp 30)), (some (23, false)), []⟩, ⟨(some 32), (.pick (.tmp 23) (.const (.bool true)) (.tmp 31)), none, []⟩]) (.cond (.tmp 32) (.seq (.ops [⟨(some 4), (.mov (.const (.bool false))), none, []⟩]) .ret) .skip)) (.seq (.ops [⟨(some 34), (.mov (.tmp 0)), none, []⟩, ⟨(some 35), (.nilChk (.tmp 34)), none, []⟩, ⟨(some 36), (.fAddr 0 (.tmp 35)), none, []⟩, ⟨(some 38), (.fAddr 2 (.tmp 3)), none, []⟩, ⟨(some 37), (.load1 (.tmp 36)), none, []⟩, ⟨(some 39), (.load1 (.tmp 38)), none, []⟩, ⟨(some 40), (.callv (.func 74) [(.tmp 37), (.tmp 39)]), none, []⟩, ⟨(some 33), (.mov (.tmp 40)), none, []⟩, ⟨(some 41), (.extract (.tmp 33) 0), none, []⟩, ⟨(some 42), (.extract (.tmp 33) 1), none, []⟩, ⟨(some 5), (.alloc [(.int .u64 0), (.int .u64 0)]), none, []⟩, ⟨none, (.store 2 (.tmp 5) (.tmp 41)), none, []⟩, ⟨(some 6), (.mov (.tmp 42)), none, []⟩]) (.seq (.ops [⟨(some 43), (.fAddr 0 (.tmp 3)), none, []⟩, ⟨(some 47), (.fAddr 0 (.tmp 3)), none, []⟩, ⟨(some 44), (.loadN 2 (.tmp 43)), none, []⟩, ⟨(some 45), (.loadN 2 (.tmp 5)), none, []⟩, ⟨(some 48), (.loadN 2 (.tmp 47)), none, []⟩, ⟨(some 46), (.callv (.func 75) [(.tmp 44), (.tmp 45)]), none, [(47, 1)]⟩, ⟨(some 49), (.eqs false 2 [(0, 1), (1, 1)] (.tmp 46) (.tmp 48)), none, []⟩, ⟨(some 4), (.mov (.tmp 49)), none, []⟩]) .ret)))) [(.tmp 4)])
end Go.Proofs.Yticgkaanaimllaa.Ev

/- The functions of the program in the evaluator's form, as its own look-up lays them (part 1). Conditions: none; these are definitions. -/
namespace Go.Proofs.Yticgkaanaimllaa.Ev
set_option maxRecDepth 100000
def g43 : AFunc := (.code 73 (.seq (.ops [⟨(some 3), (.box (.tmp 1)), none, []⟩, ⟨(some 4), (.mov (.const (.pointer none))), none, []⟩]) (.seq (.seq (.ops [⟨(some 6), (.mov (.tmp 0)), none, []⟩, ⟨(some 7), (.loadN 3 (.tmp 3)), none, []⟩, ⟨(some 8), (.callv (.func 42) [(.tmp 6), (.tmp 7)]), none, []⟩, ⟨(some 9), (.un .not (.tmp 8)), none, []⟩]) (.cond (.tmp 9) (.seq (.ops [⟨(some 4), (.mov (.const (.pointer none))), none, []⟩]) .ret) .skip)) (.seq (.ops [⟨(some 10), (.mov (.tmp 0)), none, []⟩, ⟨(some 11), (.nilChk (.tmp 10)), none, []⟩, ⟨(some 12), (.fAddr 3 (.tmp 11)), none, []⟩, ⟨(some 13), (.load1 (.tmp 12)), none, []⟩, ⟨(some 5), (.mov (.tmp 13)), none, []⟩]) (.seq (.block 0 (.loop (.seq (.seq (.ops [⟨(some 14), (.mov (.tmp 5)), none, []⟩, ⟨(some 15), (.eqp 0 true (.tmp 14) (.const (.pointer none))), none, []⟩, ⟨(some 16), (.mov (.tmp 15)), none, []⟩, ⟨(some 17), (.mov (.tmp 5)), (some (16, true)), []⟩, ⟨(some 18), (.nilChk (.tmp 17)), (some (16, true)), []⟩, ⟨(some 19), (.fAddr 0 (.tmp 18)), (some (16, true)), []⟩, ⟨(some 20), (.fAddr 2 (.tmp 19)), (some (16, true)), []⟩, ⟨(some 22), (.fAddr 2 (.tmp 3)), (some (16, true)), []⟩, ⟨(some 21), (.load1 (.tmp 20)), (some (16, true)), []⟩, ⟨(some 23), (.load1 (.tmp 22)), (some (16, true)), []⟩, ⟨(some 24), (.bin .lss (.tmp 21) (.tmp 23)), (some (16, true)), []⟩, ⟨(some 25), (.pick (.tmp 16) (.tmp 24) (.const (.bool false))), none, []⟩, ⟨(some 26), (.mov (.tmp 25)), none, []⟩, ⟨(some 27), (.mov (.tmp 0)), (some (26, true)), []⟩, ⟨(some 28), (.mov (.tmp 5)), (some (26, true)), []⟩, ⟨(some 29), (.nilChk (.tmp 28)), (some (26, true)), []⟩, ⟨(some 30), (.fAddr 0 (.tmp 29)), (some (26, true)), []⟩, ⟨(some 34), (.mov (.tmp 5)), (some (26, true)), []⟩, ⟨(some 35), (.nilChk (.tmp 34)), (some (26, true)), []⟩, ⟨(some 36), (.fAddr 0 (.tmp 35)), (some (26, true)), []⟩, ⟨(some 37), (.fAddr 2 (.tmp 36)), (some (26, true)), []⟩, ⟨(some 31), (.loadN 3 (.tmp 30)), (some (26, true)), []⟩, ⟨(some 32), (.loadN 3 (.tmp 3)), (some (26, true)), []⟩, ⟨(some 38), (.load1 (.tmp 37)), (some (26, true)), []⟩, ⟨(some 33), (.callv (.func 51) [(.tmp 27), (.tmp 31), (.tmp 32)]), (some (26, true)), [(37, 1)]⟩, ⟨(some 39), (.bin .eql (.tmp 33) (.tmp 38)), (some (26, true)), []⟩, ⟨(some 40), (.pick (.tmp 26) (.tmp 39) (.const (.bool false))), none, []⟩]) (.cond (.tmp 40) .skip (.exit 0))) (.block 1 (.ops [⟨(some 41), (.mov (.tmp 5)), none, []⟩, ⟨(some 42), (.mov (.tmp 0)), none, []⟩, ⟨(some 43), (.fAddr 0 (.tmp 3)), none, []⟩, ⟨(some 45), (.mov (.tmp 5)), none, []⟩, ⟨(some 46), (.nilChk (.tmp 45)), none, []⟩, ⟨(some 47), (.fAddr 0 (.tmp 46)), none, []⟩, ⟨(some 48), (.fAddr 2 (.tmp 47)), none, []⟩, ⟨(some 51), (.nilChk (.tmp 41)), none, []⟩, ⟨(some 52), (.fAddr 5 (.tmp 51)), none, []⟩, ⟨(some 44), (.loadN 2 (.tmp 43)), none, []⟩, ⟨(some 49), (.load1 (.tmp 48)), none, []⟩, ⟨(some 50), (.callv (.func 76) [(.tmp 42), (.tmp 44), (.tmp 49)]), none, []⟩, ⟨(some 53), (.iAddrArr 2 1 (.tmp 52) (.tmp 50)), none, []⟩, ⟨(some 54), (.load1 (.tmp 53)), none, []⟩, ⟨(some 5), (.mov (.tmp 54)), none, []⟩]))))) (.seq (.seq (.ops [⟨(some 55), (.mov (.tmp 5)), none, []⟩, ⟨(some 56), (.eqp 0 false (.tmp 55) (.const (.pointer none))), none, []⟩, ⟨(some 57), (.mov (.tmp 56)), none, []⟩, ⟨(some 58), (.mov (.tmp 5)), (some (57, false)), []⟩, ⟨(some 59), (.nilChk (.tmp 58)), (some (57, false)), []⟩, ⟨(some 60), (.fAddr 0 (.tmp 59)), (some (57, false)), []⟩, ⟨(some 61), (.loadN 3 (.tmp 60)), (some (57, false)), []⟩, ⟨(some 62), (.loadN 3 (.tmp 3)), (some (57, false)), []⟩, ⟨(some 63), (.eqs true 3 [(0, 1), (1, 1), (2, 1)] (.tmp 61) (.tmp 62)), (some (57, false)), []⟩, ⟨(some 64), (.pick (.tmp 57) (.const (.bool true)) (.tmp 63)), none, []⟩, ⟨(some 65), (.mov (.tmp 64)), none, []⟩, ⟨(some 66), (.mov (.tmp 5)), (some (65, false)), []⟩, ⟨(some 67), (.nilChk (.tmp 66)), (some (65, false)), []⟩, ⟨(some 68), (.fAddr 3 (.tmp 67)), (some (65, false)), []⟩, ⟨(some 69), (.load1 (.tmp 68)), (some (65, false)), []⟩, ⟨(some 70), (.un .not (.tmp 69)), (some (65, false)), []⟩, ⟨(some 71), (.pick (.tmp 65) (.const (.bool true)) (.tmp 70)), none, []⟩]) (.cond (.tmp 71) (.seq (.ops [⟨(some 4), (.mov (.const (.pointer none))), none, []⟩]) .ret) .skip)) (.seq (.ops [⟨(some 72), (.mov (.tmp 5)), none, []⟩, ⟨(some 4), (.mov (.tmp 72)), none, []⟩]) .ret)))))) [(.tmp 4)])
def g44 : AFunc := (.code 121 (.seq (.ops [⟨(some 6), (.box (.tmp 2)), none, []⟩, ⟨(some 8), (.mov (.const (.pointer none))), none, []⟩]) (.seq (.seq (.ops [⟨(some 12), (.mov (.tmp 1)), none, []⟩, ⟨(some 13), (.eqp 0 false (.tmp 12) (.const (.pointer none))), none, []⟩]) (.cond (.tmp 13) (.seq (.ops [⟨(some 14), (.loadN 3 (.tmp 6)), none, []⟩, ⟨(some 15), (.mov (.tmp 3)), none, []⟩, ⟨(some 16), (.build [(.int .u64 0), (.int .u64 0), (.int .i64 0), (.bool false), (.int .i64 0), (.pointer none), (.pointer none)] [(0, (3, (.tmp 14))), (3, (1, (.const (.bool true)))), (4, (1, (.tmp 15)))]), none, []⟩, ⟨(some 17), (.box (.tmp 16)), none, []⟩, ⟨(some 8), (.mov (.tmp 17)), none, []⟩]) .ret) .skip)) (.seq (.ops [⟨(some 18), (.mov (.tmp 0)), none, []⟩, ⟨(some 19), (.mov (.tmp 1)), none, []⟩, ⟨(some 20), (.nilChk (.tmp 19)), none, []⟩, ⟨(some 21), (.fAddr 0 (.tmp 20)), none, []⟩, ⟨(some 22), (.loadN 3 (.tmp 21)), none, []⟩, ⟨(some 23), (.loadN 3 (.tmp 6)), none, []⟩, ⟨(some 24), (.callv (.func 51) [(.tmp 18), (.tmp 22), (.tmp 23)]), none, []⟩, ⟨(some 9), (.mov (.tmp 24)), none, []⟩]) (.seq (.block 0 (.seq (.ops [⟨(some 26), (.mov (.tmp 9)), none, []⟩, ⟨(some 27), (.mov (.tmp 1)), none, []⟩, ⟨(some 28), (.nilChk (.tmp 27)), none, []⟩, ⟨(some 29), (.fAddr 0 (.tmp 28)), none, []⟩, ⟨(some 30), (.fAddr 2 (.tmp 29)), none, []⟩, ⟨(some 31), (.load1 (.tmp 30)), none, []⟩, ⟨(some 32), (.bin .eql (.tmp 26) (.tmp 31)), none, []⟩, ⟨(some 33), (.mov (.tmp 32)), none, []⟩, ⟨(some 34), (.mov (.tmp 9)), (some (33, true)), []⟩, ⟨(some 35), (.fAddr 2 (.tmp 6)), (some (33, true)), []⟩, ⟨(some 36), (.load1 (.tmp 35)), (some (33, true)), []⟩, ⟨(some 37), (.bin .eql (.tmp 34) (.tmp 36)), (some (33, true)), []⟩, ⟨(some 38), (.pick (.tmp 33) (.tmp 37) (.const (.bool false))), none, []⟩, ⟨(some 25), (.mov (.tmp 38)), none, []⟩]) (.cond (.tmp 25) (.seq (.ops [⟨(some 39), (.mov (.tmp 1)), none, []⟩, ⟨(some 40), (.mov (.tmp 1)), none, []⟩, ⟨(some 41), (.mov (.tmp 3)), none, []⟩, ⟨(some 42), (.nilChk (.tmp 39)), none, []⟩, ⟨(some 43), (.fAddr 3 (.tmp 42)), none, []⟩, ⟨none, (.store 1 (.tmp 43) (.const (.bool true))), none, []⟩, ⟨(some 44), (.nilChk (.tmp 40)), none, []⟩, ⟨(some 45), (.fAddr 4 (.tmp 44)), none, []⟩, ⟨none, (.store 1 (.tmp 45) (.tmp 41)), none, []⟩]) (.seq (.ops [⟨(some 46), (.mov (.tmp 1)), none, []⟩, ⟨(some 8), (.mov (.tmp 46)), none, []⟩]) .ret)) (.seq (.ops [⟨(some 48), (.mov (.tmp 9)), none, []⟩, ⟨(some 49), (.mov (.tmp 1)), none, []⟩, ⟨(some 50), (.nilChk (.tmp 49)), none, []⟩, ⟨(some 51), (.fAddr 0 (.tmp 50)), none, []⟩, ⟨(some 52), (.fAddr 2 (.tmp 51)), none, []⟩, ⟨(some 53), (.load1 (.tmp 52)), none, []⟩, ⟨(some 54), (.bin .eql (.tmp 48) (.tmp 53)), none, []⟩, ⟨(some 47), (.mov (.tmp 54)), none, []⟩]) (.cond (.tmp 47) (.seq (.ops [⟨(some 55), (.mov (.tmp 0)), none, []⟩, ⟨(some 56), (.fAddr 0 (.tmp 6)), none, []⟩, ⟨(some 57), (.loadN 2 (.tmp 56)), none, []⟩, ⟨(some 58), (.mov (.tmp 9)), none, []⟩, ⟨(some 59), (.callv (.func 76) [(.tmp 55), (.tmp 57), (.tmp 58)]), none, []⟩, ⟨(some 10), (.mov (.tmp 59)), none, []⟩]) (.seq (.ops [⟨(some 60), (.mov (.tmp 1)), none, []⟩, ⟨(some 61), (.mov (.tmp 10)), none, []⟩, ⟨(some 62), (.mov (.tmp 0)), none, []⟩, ⟨(some 63), (.mov (.tmp 1)), none, []⟩, ⟨(some 64), (.mov (.tmp 10)), none, []⟩, ⟨(some 65), (.nilChk (.tmp 63)), none, []⟩, ⟨(some 66), (.fAddr 5 (.tmp 65)), none, []⟩, ⟨(some 67), (.iAddrArr 2 1 (.tmp 66) (.tmp 64)), none, []⟩, ⟨(some 70), (.mov (.tmp 3)), none, []⟩, ⟨(some 72), (.nilChk (.tmp 60)), none, []⟩, ⟨(some 73), (.fAddr 5 (.tmp 72)), none, []⟩, ⟨(some 68), (.load1 (.tmp 67)), none, []⟩, ⟨(some 69), (.loadN 3 (.tmp 6)), none, []⟩, ⟨(some 71), (.callv (.func 44) [(.tmp 62), (.tmp 68), (.tmp 69), (.tmp 70)]), none, []⟩, ⟨(some 74), (.iAddrArr 2 1 (.tmp 73) (.tmp 61)), none, []⟩, ⟨none, (.store 1 (.tmp 74) (.tmp 71)), none, []⟩]) (.seq (.ops [⟨(some 75), (.mov (.tmp 1)), none, []⟩, ⟨(some 8), (.mov (.tmp 75)), none, []⟩]) .ret))) .skip))))) (.seq (.ops [⟨(some 76), (.mov (.tmp 0)), none, []⟩, ⟨(some 77), (.fAddr 0 (.tmp 6)), none, []⟩, ⟨(some 78), (.loadN 2 (.tmp 77)), none, []⟩, ⟨(some 79), (.mov (.tmp 9)), none, []⟩, ⟨(some 80), (.callv (.func 77) [(.tmp 76), (.tmp 78), (.tmp 79)]), none, []⟩, ⟨(some 81), (.build [(.int .u64 0), (.int .u64 0), (.int .i64 0), (.bool false), (.int .i64 0), (.pointer none), (.pointer none)] [(0, (3, (.tmp 80)))]), none, []⟩, ⟨(some 82), (.box (.tmp 81)), none, []⟩, ⟨(some 11), (.mov (.tmp 82)), none, []⟩]) (.seq (.ops [⟨(some 83), (.mov (.tmp 11)), none, []⟩, ⟨(some 84), (.mov (.tmp 0)), none, []⟩, ⟨(some 85), (.mov (.tmp 1)), none, []⟩, ⟨(some 86), (.nilChk (.tmp 85)), none, []⟩, ⟨(some 87), (.fAddr 0 (.tmp 86)), none, []⟩, ⟨(some 88), (.fAddr 0 (.tmp 87)), none, []⟩, ⟨(some 90), (.mov (.tmp 9)), none, []⟩, ⟨(some 92), (.mov (.tmp 1)), none, []⟩, ⟨(some 93), (.nilChk (.tmp 83)), none, []⟩, ⟨(some 94), (.fAddr 5 (.tmp 93)), none, []⟩, ⟨(some 89), (.loadN 2 (.tmp 88)), none, []⟩, ⟨(some 91), (.callv (.func 76) [(.tmp 84), (.tmp 89), (.tmp 90)]), none, []⟩, ⟨(some 95), (.iAddrArr 2 1 (.tmp 94) (.tmp 91)), none, []⟩, ⟨none, (.store 1 (.tmp 95) (.tmp 92)), none, []⟩]) (.seq (.seq (.ops [⟨(some 96), (.mov (.tmp 9)), none, []⟩, ⟨(some 97), (.fAddr 2 (.tmp 6)), none, []⟩, ⟨(some 98), (.load1 (.tmp 97)), none, []⟩, ⟨(some 99), (.bin .eql (.tmp 96) (.tmp 98)), none, []⟩]) (.cond (.tmp 99) (.ops [⟨(some 100), (.mov (.tmp 11)), none, []⟩, ⟨(some 101), (.mov (.tmp 11)), none, []⟩, ⟨(some 102), (.mov (.tmp 3)), none, []⟩, ⟨(some 103), (.nilChk (.tmp 100)), none, []⟩, ⟨(some 104), (.fAddr 3 (.tmp 103)), none, []⟩, ⟨none, (.store 1 (.tmp 104) (.const (.bool true))), none, []⟩, ⟨(some 105), (.nilChk (.tmp 101)), none, []⟩, ⟨(some 106), (.fAddr 4 (.tmp 105)), none, []⟩, ⟨none, (.store 1 (.tmp 106) (.tmp 102)), none, []⟩]) (.ops [⟨(some 107), (.mov (.tmp 11)), none, []⟩, ⟨(some 108), (.mov (.tmp 0)), none, []⟩, ⟨(some 109), (.fAddr 0 (.tmp 6)), none, []⟩, ⟨(some 111), (.mov (.tmp 9)), none, []⟩, ⟨(some 114), (.mov (.tmp 3)), none, []⟩, ⟨(some 117), (.nilChk (.tmp 107)), none, []⟩, ⟨(some 118), (.fAddr 5 (.tmp 117)), none, []⟩, ⟨(some 110), (.loadN 2 (.tmp 109)), none, []⟩, ⟨(some 113), (.loadN 3 (.tmp 6)), none, []⟩, ⟨(some 115), (.build [(.int .u64 0), (.int .u64 0), (.int .i64 0), (.bool false), (.int .i64 0), (.pointer none), (.pointer none)] [(0, (3, (.tmp 113))), (3, (1, (.const (.bool true)))), (4, (1, (.tmp 114)))]), none, []⟩, ⟨(some 112), (.callv (.func 76) [(.tmp 108), (.tmp 110), (.tmp 111)]), none, [(6, 1)]⟩, ⟨(some 116), (.box (.tmp 115)), none, []⟩, ⟨(some 119), (.iAddrArr 2 1 (.tmp 118) (.tmp 112)), none, []⟩, ⟨none, (.store 1 (.tmp 119) (.tmp 116)), none, []⟩]))) (.seq (.ops [⟨(some 120), (.mov (.tmp 11)), none, []⟩, ⟨(some 8), (.mov (.tmp 120)), none, []⟩]) .ret)))))))) [(.tmp 8)])
def g45 : AFunc := (.code 73 (.seq (.ops [⟨(some 4), (.box (.tmp 1)), none, []⟩]) (.seq (.seq (.ops [⟨(some 7), (.mov (.tmp 0)), none, []⟩, ⟨(some 8), (.eqp 0 false (.tmp 7) (.const (.pointer none))), none, []⟩, ⟨(some 9), (.mov (.tmp 8)), none, []⟩, ⟨(some 11), (.mov (.tmp 0)), (some (9, false)), []⟩, ⟨(some 12), (.nilChk (.tmp 11)), (some (9, false)), []⟩, ⟨(some 13), (.fAddr 0 (.tmp 12)), (some (9, false)), []⟩, ⟨(some 10), (.loadN 2 (.tmp 4)), (some (9, false)), []⟩, ⟨(some 14), (.load1 (.tmp 13)), (some (9, false)), []⟩, ⟨(some 15), (.callv (.func 73) [(.tmp 10), (.tmp 14)]), (some (9, false)), []⟩, ⟨(some 16), (.un .not (.tmp 15)), (some (9, false)), []⟩, ⟨(some 17), (.pick (.tmp 9) (.const (.bool true)) (.tmp 16)), none, []⟩]) (.cond (.tmp 17) .ret .skip)) (.seq (.ops [⟨(some 18), (.mov (.tmp 0)), none, []⟩, ⟨(some 19), (.nilChk (.tmp 18)), none, []⟩, ⟨(some 20), (.fAddr 3 (.tmp 19)), none, []⟩, ⟨(some 21), (.load1 (.tmp 20)), none, []⟩, ⟨(some 6), (.mov (.tmp 21)), none, []⟩]) (.block 0 (.loop (.seq (.seq (.ops [⟨(some 22), (.mov (.tmp 6)), none, []⟩, ⟨(some 23), (.eqp 0 true (.tmp 22) (.const (.pointer none))), none, []⟩, ⟨(some 24), (.mov (.tmp 23)), none, []⟩, ⟨(some 25), (.mov (.tmp 6)), (some (24, true)), []⟩, ⟨(some 26), (.nilChk (.tmp 25)), (some (24, true)), []⟩, ⟨(some 27), (.fAddr 0 (.tmp 26)), (some (24, true)), []⟩, ⟨(some 28), (.fAddr 0 (.tmp 27)), (some (24, true)), []⟩, ⟨(some 31), (.mov (.tmp 0)), (some (24, true)), []⟩, ⟨(some 32), (.nilChk (.tmp 31)), (some (24, true)), []⟩, ⟨(some 33), (.fAddr 0 (.tmp 32)), (some (24, true)), []⟩, ⟨(some 36), (.mov (.tmp 6)), (some (24, true)), []⟩, ⟨(some 37), (.nilChk (.tmp 36)), (some (24, true)), []⟩, ⟨(some 38), (.fAddr 0 (.tmp 37)), (some (24, true)), []⟩, ⟨(some 39), (.fAddr 2 (.tmp 38)), (some (24, true)), []⟩, ⟨(some 29), (.loadN 2 (.tmp 28)), (some (24, true)), []⟩, ⟨(some 30), (.loadN 2 (.tmp 4)), (some (24, true)), []⟩, ⟨(some 34), (.load1 (.tmp 33)), (some (24, true)), []⟩, ⟨(some 40), (.load1 (.tmp 39)), (some (24, true)), []⟩, ⟨(some 35), (.callv (.func 78) [(.tmp 29), (.tmp 30), (.tmp 34)]), (some (24, true)), [(39, 1)]⟩, ⟨(some 41), (.bin .geq (.tmp 35) (.tmp 40)), (some (24, true)), []⟩, ⟨(some 42), (.pick (.tmp 24) (.tmp 41) (.const (.bool false))), none, []⟩]) (.cond (.tmp 42) .skip (.exit 0))) (.block 1 (.seq (.seq (.ops [⟨(some 43), (.mov (.tmp 6)), none, []⟩, ⟨(some 44), (.nilChk (.tmp 43)), none, []⟩, ⟨(some 45), (.fAddr 3 (.tmp 44)), none, []⟩, ⟨(some 46), (.load1 (.tmp 45)), none, []⟩]) (.cond (.tmp 46) (.ops [⟨(some 47), (.mov (.tmp 2)), none, []⟩, ⟨(some 48), (.mov (.tmp 6)), none, []⟩, ⟨(some 49), (.callv (.tmp 47) [(.tmp 48)]), none, []⟩]) .skip)) (.seq (.seq (.ops [⟨(some 50), (.mov (.tmp 6)), none, []⟩, ⟨(some 51), (.nilChk (.tmp 50)), none, []⟩, ⟨(some 52), (.fAddr 0 (.tmp 51)), none, []⟩, ⟨(some 53), (.fAddr 2 (.tmp 52)), none, []⟩, ⟨(some 55), (.mov (.tmp 0)), none, []⟩, ⟨(some 56), (.nilChk (.tmp 55)), none, []⟩, ⟨(some 57), (.fAddr 0 (.tmp 56)), none, []⟩, ⟨(some 54), (.load1 (.tmp 53)), none, []⟩, ⟨(some 58), (.load1 (.tmp 57)), none, []⟩, ⟨(some 59), (.bin .eql (.tmp 54) (.tmp 58)), none, []⟩]) (.cond (.tmp 59) .ret .skip)) (.ops [⟨(some 60), (.mov (.tmp 6)), none, []⟩, ⟨(some 61), (.mov (.tmp 0)), none, []⟩, ⟨(some 63), (.mov (.tmp 6)), none, []⟩, ⟨(some 64), (.nilChk (.tmp 63)), none, []⟩, ⟨(some 65), (.fAddr 0 (.tmp 64)), none, []⟩, ⟨(some 66), (.fAddr 2 (.tmp 65)), none, []⟩, ⟨(some 69), (.nilChk (.tmp 60)), none, []⟩, ⟨(some 70), (.fAddr 5 (.tmp 69)), none, []⟩, ⟨(some 62), (.loadN 2 (.tmp 4)), none, []⟩, ⟨(some 67), (.load1 (.tmp 66)), none, []⟩, ⟨(some 68), (.callv (.func 76) [(.tmp 61), (.tmp 62), (.tmp 67)]), none, []⟩, ⟨(some 71), (.iAddrArr 2 1 (.tmp 70) (.tmp 68)), none, []⟩, ⟨(some 72), (.load1 (.tmp 71)), none, []⟩, ⟨(some 6), (.mov (.tmp 72)), none, []⟩])))))))))) [])
def g46 : AFunc := (.code 4 (.ops [⟨(some 3), (.mov (.tmp 0)), none, []⟩, ⟨none, (.store 1 (.tmp 1) (.tmp 3)), none, []⟩]) [])
def g47 : AFunc := (.code 10 (.ops [⟨(some 4), (.mov (.tmp 0)), none, []⟩, ⟨(some 5), (.nilChk (.tmp 4)), none, []⟩, ⟨(some 6), (.fAddr 0 (.tmp 5)), none, []⟩, ⟨(some 3), (.load1 (.tmp 1)), none, []⟩, ⟨(some 7), (.loadN 3 (.tmp 6)), none, []⟩, ⟨(some 8), (.buildSlice 3 1 [(.int .u64 0), (.int .u64 0), (.int .i64 0)] [(0, (3, (.tmp 7)))]), none, []⟩, ⟨(some 9), (.append 3 24 (.tmp 3) (.tmp 8)), none, []⟩, ⟨none, (.store 1 (.tmp 1) (.tmp 9)), none, []⟩]) [])
def g48 : AFunc := (.code 6 (.seq (.ops [⟨(some 2), (.box (.tmp 0)), none, []⟩, ⟨(some 3), (.box (.tmp 1)), none, []⟩, ⟨(some 4), (.mov (.const .nilFunc)), none, []⟩]) (.seq (.ops [⟨(some 5), (.mkFunc 79 [] [(.tmp 2), (.tmp 3)]), none, []⟩, ⟨(some 4), (.mov (.tmp 5)), none, []⟩]) .ret)) [(.tmp 4)])
def g49 : AFunc := (.code 3 (.seq (.ops [⟨(some 1), (.box (.tmp 0)), none, []⟩, ⟨(some 2), (.mov (.const (.bool false))), none, []⟩]) (.seq (.ops [⟨(some 2), (.mov (.const (.bool true))), none, []⟩]) .ret)) [(.tmp 2)])
def g50 : AFunc := (.code 17 (.seq (.ops [⟨(some 3), (.box (.tmp 0)), none, []⟩, ⟨(some 4), (.mov (.const (.bool false))), none, []⟩]) (.seq (.ops [⟨(some 5), (.load1 (.tmp 1)), none, []⟩, ⟨(some 6), (.loadN 3 (.tmp 2)), none, []⟩, ⟨(some 7), (.callv (.func 42) [(.tmp 5), (.tmp 6)]), none, []⟩, ⟨(some 8), (.mov (.tmp 7)), none, []⟩, ⟨(some 13), (.fAddr 2 (.tmp 2)), (some (8, true)), []⟩, ⟨(some 9), (.load1 (.tmp 1)), (some (8, true)), []⟩, ⟨(some 10), (.loadN 3 (.tmp 2)), (some (8, true)), []⟩, ⟨(some 11), (.loadN 3 (.tmp 3)), (some (8, true)), []⟩, ⟨(some 14), (.load1 (.tmp 13)), (some (8, true)), []⟩, ⟨(some 12), (.callv (.func 51) [(.tmp 9), (.tmp 10), (.tmp 11)]), (some (8, true)), [(13, 1)]⟩, ⟨(some 15), (.bin .eql (.tmp 12) (.tmp 14)), (some (8, true)), []⟩, ⟨(some 16), (.pick (.tmp 8) (.tmp 15) (.const (.bool false))), none, []⟩, ⟨(some 4), (.mov (.tmp 16)), none, []⟩]) .ret)) [(.tmp 4)])
def g51 : AFunc := (.code 21 (.seq (.ops [⟨(some 4), (.box (.tmp 1)), none, []⟩, ⟨(some 5), (.box (.tmp 2)), none, []⟩, ⟨(some 6), (.mov (.const (.int .i64 0))), none, []⟩]) (.seq (.ops [⟨(some 7), (.fAddr 0 (.tmp 4)), none, []⟩, ⟨(some 9), (.fAddr 0 (.tmp 5)), none, []⟩, ⟨(some 11), (.mov (.tmp 0)), none, []⟩, ⟨(some 12), (.nilChk (.tmp 11)), none, []⟩, ⟨(some 13), (.fAddr 0 (.tmp 12)), none, []⟩, ⟨(some 16), (.fAddr 2 (.tmp 4)), none, []⟩, ⟨(some 18), (.fAddr 2 (.tmp 5)), none, []⟩, ⟨(some 8), (.loadN 2 (.tmp 7)), none, []⟩, ⟨(some 10), (.loadN 2 (.tmp 9)), none, []⟩, ⟨(some 14), (.load1 (.tmp 13)), none, []⟩, ⟨(some 17), (.load1 (.tmp 16)), none, []⟩, ⟨(some 19), (.load1 (.tmp 18)), none, []⟩, ⟨(some 15), (.callv (.func 78) [(.tmp 8), (.tmp 10), (.tmp 14)]), none, [(16, 1), (18, 1)]⟩, ⟨(some 20), (.mm false [(.tmp 15), (.tmp 17), (.tmp 19)]), none, []⟩, ⟨(some 6), (.mov (.tmp 20)), none, []⟩]) .ret)) [(.tmp 6)])
def g52 : AFunc := (.code 50 (.seq (.ops [⟨(some 3), (.box (.tmp 1)), none, []⟩, ⟨(some 4), (.mov (.const (.bool false))), none, []⟩]) (.seq (.seq (.ops [⟨(some 7), (.mov (.tmp 0)), none, []⟩, ⟨(some 8), (.eqp 0 false (.tmp 7) (.const (.pointer none))), none, []⟩, ⟨(some 9), (.mov (.tmp 8)), none, []⟩, ⟨(some 10), (.fAddr 2 (.tmp 3)), (some (9, false)), []⟩, ⟨(some 11), (.load1 (.tmp 10)), (some (9, false)), []⟩, ⟨(some 12), (.bin .lss (.tmp 11) (.const (.int .i64 0))), (some (9, false)), []⟩, ⟨(some 13), (.pick (.tmp 9) (.const (.bool true)) (.tmp 12)), none, []⟩, ⟨(some 14), (.mov (.tmp 13)), none, []⟩, ⟨(some 15), (.fAddr 2 (.tmp 3)), (some (14, false)), []⟩, ⟨(some 17), (.mov (.tmp 0)), (some (14, false)), []⟩, ⟨(some 18), (.nilChk (.tmp 17)), (some (14, false)), []⟩, ⟨(some 19), (.fAddr 0 (.tmp 18)), (some (14, false)), []⟩, ⟨(some 16), (.load1 (.tmp 15)), (some (14, false)), []⟩, ⟨(some 20), (.load1 (.tmp 19)), (some (14, false)), []⟩, ⟨(some 21), (.bin .gtr (.tmp 16) (.tmp 20)), (some (14, false)), []⟩, ⟨(some 22), (.pick (.tmp 14) (.const (.bool true)) (.tmp 21)), none, []⟩, ⟨(some 23), (.mov (.tmp 22)), none, []⟩, ⟨(some 24), (.fAddr 0 (.tmp 3)), (some (23, false)), []⟩, ⟨(some 26), (.mov (.tmp 0)), (some (23, false)), []⟩, ⟨(some 27), (.nilChk (.tmp 26)), (some (23, false)), []⟩, ⟨(some 28), (.fAddr 0 (.tmp 27)), (some (23, false)), []⟩, ⟨(some 25), (.loadN 2 (.tmp 24)), (some (23, false)), []⟩, ⟨(some 29), (.load1 (.tmp 28)), (some (23, false)), []⟩, ⟨(some 30), (.callv (.func 73) [(.tmp 25), (.tmp 29)]), (some (23, false)), []⟩, ⟨(some 31), (.un .not (.tmp 30)), (some (23, false)), []⟩, ⟨(some 32), (.pick (.tmp 23) (.const (.bool true)) (.tmp 31)), none, []⟩]) (.cond (.tmp 32) (.seq (.ops [⟨(some 4), (.mov (.const (.bool false))), none, []⟩]) .ret) .skip)) (.seq (.ops [⟨(some 34), (.mov (.tmp 0)), none, []⟩, ⟨(some 35), (.nilChk (.tmp 34)), none, []⟩, ⟨(some 36), (.fAddr 0 (.tmp 35)), none, []⟩, ⟨(some 38), (.fAddr 2 (.tmp 3)), none, []⟩, ⟨(some 37), (.load1 (.tmp 36)), none, []⟩, ⟨(some 39), (.load1 (.tmp 38)), none, []⟩, ⟨(some 40), (.callv (.func 74) [(.tmp 37), (.tmp 39)]), none, []⟩, ⟨(some 33), (.mov (.tmp 40)), none, []⟩, ⟨(some 41), (.extract (.tmp 33) 0), none, []⟩, ⟨(some 42), (.extract (.tmp 33) 1), none, []⟩, ⟨(some 5), (.alloc [(.int .u64 0), (.int .u64 0)]), none, []⟩, ⟨none, (.store 2 (.tmp 5) (.tmp 41)), none, []⟩, ⟨(some 6), (.mov (.tmp 42)), none, []⟩]) (.seq (.ops [⟨(some 43), (.fAddr 0 (.tmp 3)), none, []⟩, ⟨(some 47), (.fAddr 0 (.tmp 3)), none, []⟩, ⟨(some 44), (.loadN 2 (.tmp 43)), none, []⟩, ⟨(some 45), (.loadN 2 (.tmp 5)), none, []⟩, ⟨(some 48), (.loadN 2 (.tmp 47)), none, []⟩, ⟨(some 46), (.callv (.func 75) [(.tmp 44), (.tmp 45)]), none, [(47, 1)]⟩, ⟨(some 49), (.eqs false 2 [(0, 1), (1, 1)] (.tmp 46) (.tmp 48)), none, []⟩, ⟨(some 4), (.mov (.tmp 49)), none, []⟩]) .ret)))) [(.tmp 4)])
def g53 : AFunc := (.code 73 (.seq (.ops [⟨(some 3), (.box (.tmp 1)), none, []⟩, ⟨(some 4), (.mov (.const (.pointer none))), none, []⟩]) (.seq (.seq (.ops [⟨(some 6), (.mov (.tmp 0)), none, []⟩, ⟨(some 7), (.loadN 3 (.tmp 3)), none, []⟩, ⟨(some 8), (.callv (.func 52) [(.tmp 6), (.tmp 7)]), none, []⟩, ⟨(some 9), (.un .not (.tmp 8)), none, []⟩]) (.cond (.tmp 9) (.seq (.ops [⟨(some 4), (.mov (.const (.pointer none))), none, []⟩]) .ret) .skip)) (.seq (.ops [⟨(some 10), (.mov (.tmp 0)), none, []⟩, ⟨(some 11), (.nilChk (.tmp 10)), none, []⟩, ⟨(some 12), (.fAddr 3 (.tmp 11)), none, []⟩, ⟨(some 13), (.load1 (.tmp 12)), none, []⟩, ⟨(some 5), (.mov (.tmp 13)), none, []⟩]) (.seq (.block 0 (.loop (.seq (.seq (.ops [⟨(some 14), (.mov (.tmp 5)), none, []⟩, ⟨(some 15), (.eqp 0 true (.tmp 14) (.const (.pointer none))), none, []⟩, ⟨(some 16), (.mov (.tmp 15)), none, []⟩, ⟨(some 17), (.mov (.tmp 5)), (some (16, true)), []⟩, ⟨(some 18), (.nilChk (.tmp 17)), (some (16, true)), []⟩, ⟨(some 19), (.fAddr 0 (.tmp 18)), (some (16, true)), []⟩, ⟨(some 20), (.fAddr 2 (.tmp 19)), (some (16, true)), []⟩, ⟨(some 22), (.fAddr 2 (.tmp 3)), (some (16, true)), []⟩, ⟨(some 21), (.load1 (.tmp 20)), (some (16, true)), []⟩, ⟨(some 23), (.load1 (.tmp 22)), (some (16, true)), []⟩, ⟨(some 24), (.bin .lss (.tmp 21) (.tmp 23)), (some (16, true)), []⟩, ⟨(some 25), (.pick (.tmp 16) (.tmp 24) (.const (.bool false))), none, []⟩, ⟨(some 26), (.mov (.tmp 25)), none, []⟩, ⟨(some 27), (.mov (.tmp 0)), (some (26, true)), []⟩, ⟨(some 28), (.mov (.tmp 5)), (some (26, true)), []⟩, ⟨(some 29), (.nilChk (.tmp 28)), (some (26, true)), []⟩, ⟨(some 30), (.fAddr 0 (.tmp 29)), (some (26, true)), []⟩, ⟨(some 34), (.mov (.tmp 5)), (some (26, true)), []⟩, ⟨(some 35), (.nilChk (.tmp 34)), (some (26, true)), []⟩, ⟨(some 36), (.fAddr 0 (.tmp 35)), (some (26, true)), []⟩, ⟨(some 37), (.fAddr 2 (.tmp 36)), (some (26, true)), []⟩, ⟨(some 31), (.loadN 3 (.tmp 30)), (some (26, true)), []⟩, ⟨(some 32), (.loadN 3 (.tmp 3)), (some (26, true)), []⟩, ⟨(some 38), (.load1 (.tmp 37)), (some (26, true)), []⟩, ⟨(some 33), (.callv (.func 81) [(.tmp 27), (.tmp 31), (.tmp 32)]), (some (26, true)), [(37, 1)]⟩, ⟨(some 39), (.bin .eql (.tmp 33) (.tmp 38)), (some (26, true)), []⟩, ⟨(some 40), (.pick (.tmp 26) (.tmp 39) (.const (.bool false))), none, []⟩]) (.cond (.tmp 40) .skip (.exit 0))) (.block 1 (.ops [⟨(some 41), (.mov (.tmp 5)), none, []⟩, ⟨(some 42), (.mov (.tmp 0)), none, []⟩, ⟨(some 43), (.fAddr 0 (.tmp 3)), none, []⟩, ⟨(some 45), (.mov (.tmp 5)), none, []⟩, ⟨(some 46), (.nilChk (.tmp 45)), none, []⟩, ⟨(some 47), (.fAddr 0 (.tmp 46)), none, []⟩, ⟨(some 48), (.fAddr 2 (.tmp 47)), none, []⟩, ⟨(some 51), (.nilChk (.tmp 41)), none, []⟩, ⟨(some 52), (.fAddr 5 (.tmp 51)), none, []⟩, ⟨(some 44), (.loadN 2 (.tmp 43)), none, []⟩, ⟨(some 49), (.load1 (.tmp 48)), none, []⟩, ⟨(some 50), (.callv (.func 82) [(.tmp 42), (.tmp 44), (.tmp 49)]), none, []⟩, ⟨(some 53), (.iAddrArr 2 1 (.tmp 52) (.tmp 50)), none, []⟩, ⟨(some 54), (.load1 (.tmp 53)), none, []⟩, ⟨(some 5), (.mov (.tmp 54)), none, []⟩]))))) (.seq (.seq (.ops [⟨(some 55), (.mov (.tmp 5)), none, []⟩, ⟨(some 56), (.eqp 0 false (.tmp 55) (.const (.pointer none))), none, []⟩, ⟨(some 57), (.mov (.tmp 56)), none, []⟩, ⟨(some 58), (.mov (.tmp 5)), (some (57, false)), []⟩, ⟨(some 59), (.nilChk (.tmp 58)), (some (57, false)), []⟩, ⟨(some 60), (.fAddr 0 (.tmp 59)), (some (57, false)), []⟩, ⟨(some 61), (.loadN 3 (.tmp 60)), (some (57, false)), []⟩, ⟨(some 62), (.loadN 3 (.tmp 3)), (some (57, false)), []⟩, ⟨(some 63), (.eqs true 3 [(0, 1), (1, 1), (2, 1)] (.tmp 61) (.tmp 62)), (some (57, false)), []⟩, ⟨(some 64), (.pick (.tmp 57) (.const (.bool true)) (.tmp 63)), none, []⟩, ⟨(some 65), (.mov (.tmp 64)), none, []⟩, ⟨(some 66), (.mov (.tmp 5)), (some (65, false)), []⟩, ⟨(some 67), (.nilChk (.tmp 66)), (some (65, false)), []⟩, ⟨(some 68), (.fAddr 3 (.tmp 67)), (some (65, false)), []⟩, ⟨(some 69), (.load1 (.tmp 68)), (some (65, false)), []⟩, ⟨(some 70), (.un .not (.tmp 69)), (some (65, false)), []⟩, ⟨(some 71), (.pick (.tmp 65) (.const (.bool true)) (.tmp 70)), none, []⟩]) (.cond (.tmp 71) (.seq (.ops [⟨(some 4), (.mov (.const (.pointer none))), none, []⟩]) .ret) .skip)) (.seq (.ops [⟨(some 72), (.mov (.tmp 5)), none, []⟩, ⟨(some 4), (.mov (.tmp 72)), none, []⟩]) .ret)))))) [(.tmp 4)])
def g54 : AFunc := (.code 121 (.seq (.ops [⟨(some 6), (.box (.tmp 2)), none, []⟩, ⟨(some 8), (.mov (.const (.pointer none))), none, []⟩]) (.seq (.seq (.ops [⟨(some 12), (.mov (.tmp 1)), none, []⟩, ⟨(some 13), (.eqp 0 false (.tmp 12) (.const (.pointer none))), none, []⟩]) (.cond (.tmp 13) (.seq (.ops [⟨(some 14), (.loadN 3 (.tmp 6)), none, []⟩, ⟨(some 15), (.mov (.tmp 3)), none, []⟩, ⟨(some 16), (.build [(.int .u64 0), (.int .u64 0), (.int .i64 0), (.bool false), (.string (bs [])), (.pointer none), (.pointer none)] [(0, (3, (.tmp 14))), (3, (1, (.const (.bool true)))), (4, (1, (.tmp 15)))]), none, []⟩, ⟨(some 17), (.box (.tmp 16)), none, []⟩, ⟨(some 8), (.mov (.tmp 17)), none, []⟩]) .ret) .skip)) (.seq (.ops [⟨(some 18), (.mov (.tmp 0)), none, []⟩, ⟨(some 19), (.mov (.tmp 1)), none, []⟩, ⟨(some 20), (.nilChk (.tmp 19)), none, []⟩, ⟨(some 21), (.fAddr 0 (.tmp 20)), none, []⟩, ⟨(some 22), (.loadN 3 (.tmp 21)), none, []⟩, ⟨(some 23), (.loadN 3 (.tmp 6)), none, []⟩, ⟨(some 24), (.callv (.func 81) [(.tmp 18), (.tmp 22), (.tmp 23)]), none, []⟩, ⟨(some 9), (.mov (.tmp 24)), none, []⟩]) (.seq (.block 0 (.seq (.ops [⟨(some 26), (.mov (.tmp 9)), none, []⟩, ⟨(some 27), (.mov (.tmp 1)), none, []⟩, ⟨(some 28), (.nilChk (.tmp 27)), none, []⟩, ⟨(some 29), (.fAddr 0 (.tmp 28)), none, []⟩, ⟨(some 30), (.fAddr 2 (.tmp 29)), none, []⟩, ⟨(some 31), (.load1 (.tmp 30)), none, []⟩, ⟨(some 32), (.bin .eql (.tmp 26) (.tmp 31)), none, []⟩, ⟨(some 33), (.mov (.tmp 32)), none, []⟩, ⟨(some 34), (.mov (.tmp 9)), (some (33, true)), []⟩, ⟨(some 35), (.fAddr 2 (.tmp 6)), (some (33, true)), []⟩, ⟨(some 36), (.load1 (.tmp 35)), (some (33, true)), []⟩, ⟨(some 37), (.bin .eql (.tmp 34) (.tmp 36)), (some (33, true)), []⟩, ⟨(some 38), (.pick (.tmp 33) (.tmp 37) (.const (.bool false))), none, []⟩, ⟨(some 25), (.mov (.tmp 38)), none, []⟩]) (.cond (.tmp 25) (.seq (.ops [⟨(some 39), (.mov (.tmp 1)), none, []⟩, ⟨(some 40), (.mov (.tmp 1)), none, []⟩, ⟨(some 41), (.mov (.tmp 3)), none, []⟩, ⟨(some 42), (.nilChk (.tmp 39)), none, []⟩, ⟨(some 43), (.fAddr 3 (.tmp 42)), none, []⟩, ⟨none, (.store 1 (.tmp 43) (.const (.bool true))), none, []⟩, ⟨(some 44), (.nilChk (.tmp 40)), none, []⟩, ⟨(some 45), (.fAddr 4 (.tmp 44)), none, []⟩, ⟨none, (.store 1 (.tmp 45) (.tmp 41)), none, []⟩]) (.seq (.ops [⟨(some 46), (.mov (.tmp 1)), none, []⟩, ⟨(some 8), (.mov (.tmp 46)), none, []⟩]) .ret)) (.seq (.ops [⟨(some 48), (.mov (.tmp 9)), none, []⟩, ⟨(some 49), (.mov (.tmp 1)), none, []⟩, ⟨(some 50), (.nilChk (.tmp 49)), none, []⟩, ⟨(some 51), (.fAddr 0 (.tmp 50)), none, []⟩, ⟨(some 52), (.fAddr 2 (.tmp 51)), none, []⟩, ⟨(some 53), (.load1 (.tmp 52)), none, []⟩, ⟨(some 54), (.bin .eql (.tmp 48) (.tmp 53)), none, []⟩, ⟨(some 47), (.mov (.tmp 54)), none, []⟩]) (.cond (.tmp 47) (.seq (.ops [⟨(some 55), (.mov (.tmp 0)), none, []⟩, ⟨(some 56), (.fAddr 0 (.tmp 6)), none, []⟩, ⟨(some 57), (.loadN 2 (.tmp 56)), none, []⟩, ⟨(some 58), (.mov (.tmp 9)), none, []⟩, ⟨(some 59), (.callv (.func 82) [(.tmp 55), (.tmp 57), (.tmp 58)]), none, []⟩, ⟨(some 10), (.mov (.tmp 59)), none, []⟩]) (.seq (.ops [⟨(some 60), (.mov (.tmp 1)), none, []⟩, ⟨(some 61), (.mov (.tmp 10)), none, []⟩, ⟨(some 62), (.mov (.tmp 0)), none, []⟩, ⟨(some 63), (.mov (.tmp 1)), none, []⟩, ⟨(some 64), (.mov (.tmp 10)), none, []⟩, ⟨(some 65), (.nilChk (.tmp 63)), none, []⟩, ⟨(some 66), (.fAddr 5 (.tmp 65)), none, []⟩, ⟨(some 67), (.iAddrArr 2 1 (.tmp 66) (.tmp 64)), none, []⟩, ⟨(some 70), (.mov (.tmp 3)), none, []⟩, ⟨(some 72), (.nilChk (.tmp 60)), none, []⟩, ⟨(some 73), (.fAddr 5 (.tmp 72)), none, []⟩, ⟨(some 68), (.load1 (.tmp 67)), none, []⟩, ⟨(some 69), (.loadN 3 (.tmp 6)), none, []⟩, ⟨(some 71), (.callv (.func 54) [(.tmp 62), (.tmp 68), (.tmp 69), (.tmp 70)]), none, []⟩, ⟨(some 74), (.iAddrArr 2 1 (.tmp 73) (.tmp 61)), none, []⟩, ⟨none, (.store 1 (.tmp 74) (.tmp 71)), none, []⟩]) (.seq (.ops [⟨(some 75), (.mov (.tmp 1)), none, []⟩, ⟨(some 8), (.mov (.tmp 75)), none, []⟩]) .ret))) .skip))))) (.seq (.ops [⟨(some 76), (.mov (.tmp 0)), none, []⟩, ⟨(some 77), (.fAddr 0 (.tmp 6)), none, []⟩, ⟨(some 78), (.loadN 2 (.tmp 77)), none, []⟩, ⟨(some 79), (.mov (.tmp 9)), none, []⟩, ⟨(some 80), (.callv (.func 83) [(.tmp 76), (.tmp 78), (.tmp 79)]), none, []⟩, ⟨(some 81), (.build [(.int .u64 0), (.int .u64 0), (.int .i64 0), (.bool false), (.string (bs [])), (.pointer none), (.pointer none)] [(0, (3, (.tmp 80)))]), none, []⟩, ⟨(some 82), (.box (.tmp 81)), none, []⟩, ⟨(some 11), (.mov (.tmp 82)), none, []⟩]) (.seq (.ops [⟨(some 83), (.mov (.tmp 11)), none, []⟩, ⟨(some 84), (.mov (.tmp 0)), none, []⟩, ⟨(some 85), (.mov (.tmp 1)), none, []⟩, ⟨(some 86), (.nilChk (.tmp 85)), none, []⟩, ⟨(some 87), (.fAddr 0 (.tmp 86)), none, []⟩, ⟨(some 88), (.fAddr 0 (.tmp 87)), none, []⟩, ⟨(some 90), (.mov (.tmp 9)), none, []⟩, ⟨(some 92), (.mov (.tmp 1)), none, []⟩, ⟨(some 93), (.nilChk (.tmp 83)), none, []⟩, ⟨(some 94), (.fAddr 5 (.tmp 93)), none, []⟩, ⟨(some 89), (.loadN 2 (.tmp 88)), none, []⟩, ⟨(some 91), (.callv (.func 82) [(.tmp 84), (.tmp 89), (.tmp 90)]), none, []⟩, ⟨(some 95), (.iAddrArr 2 1 (.tmp 94) (.tmp 91)), none, []⟩, ⟨none, (.store 1 (.tmp 95) (.tmp 92)), none, []⟩]) (.seq (.seq (.ops [⟨(some 96), (.mov (.tmp 9)), none, []⟩, ⟨(some 97), (.fAddr 2 (.tmp 6)), none, []⟩, ⟨(some 98), (.load1 (.tmp 97)), none, []⟩, ⟨(some 99), (.bin .eql (.tmp 96) (.tmp 98)), none, []⟩]) (.cond (.tmp 99) (.ops [⟨(some 100), (.mov (.tmp 11)), none, []⟩, ⟨(some 101), (.mov (.tmp 11)), none, []⟩, ⟨(some 102), (.mov (.tmp 3)), none, []⟩, ⟨(some 103), (.nilChk (.tmp 100)), none, []⟩, ⟨(some 104), (.fAddr 3 (.tmp 103)), none, []⟩, ⟨none, (.store 1 (.tmp 104) (.const (.bool true))), none, []⟩, ⟨(some 105), (.nilChk (.tmp 101)), none, []⟩, ⟨(some 106), (.fAddr 4 (.tmp 105)), none, []⟩, ⟨none, (.store 1 (.tmp 106) (.tmp 102)), none, []⟩]) (.ops [⟨(some 107), (.mov (.tmp 11)), none, []⟩, ⟨(some 108), (.mov (.tmp 0)), none, []⟩, ⟨(some 109), (.fAddr 0 (.tmp 6)), none, []⟩, ⟨(some 111), (.mov (.tmp 9)), none, []⟩, ⟨(some 114), (.mov (.tmp 3)), none, []⟩, ⟨(some 117), (.nilChk (.tmp 107)), none, []⟩, ⟨(some 118), (.fAddr 5 (.tmp 117)), none, []⟩, ⟨(some 110), (.loadN 2 (.tmp 109)), none, []⟩, ⟨(some 113), (.loadN 3 (.tmp 6)), none, []⟩, ⟨(some 115), (.build [(.int .u64 0), (.int .u64 0), (.int .i64 0), (.bool false), (.string (bs [])), (.pointer none), (.pointer none)] [(0, (3, (.tmp 113))), (3, (1, (.const (.bool true)))), (4, (1, (.tmp 114)))]), none, []⟩, ⟨(some 112), (.callv (.func 82) [(.tmp 108), (.tmp 110), (.tmp 111)]), none, [(6, 1)]⟩, ⟨(some 116), (.box (.tmp 115)), none, []⟩, ⟨(some 119), (.iAddrArr 2 1 (.tmp 118) (.tmp 112)), none, []⟩, ⟨none, (.store 1 (.tmp 119) (.tmp 116)), none, []⟩]))) (.seq (.ops [⟨(some 120), (.mov (.tmp 11)), none, []⟩, ⟨(some 8), (.mov (.tmp 120)), none, []⟩]) .ret)))))))) [(.tmp 8)])
def g55 : AFunc := (.code 84 (.seq (.ops [⟨(some 5), (.box (.tmp 2)), none, []⟩, ⟨(some 6), (.mov (.const (.pointer none))), none, []⟩]) (.seq (.seq (.ops [⟨(some 9), (.mov (.tmp 1)), none, []⟩, ⟨(some 10), (.nilChk (.tmp 9)), none, []⟩, ⟨(some 11), (.fAddr 0 (.tmp 10)), none, []⟩, ⟨(some 12), (.loadN 3 (.tmp 11)), none, []⟩, ⟨(some 13), (.loadN 3 (.tmp 5)), none, []⟩, ⟨(some 14), (.eqs false 3 [(0, 1), (1, 1), (2, 1)] (.tmp 12) (.tmp 13)), none, []⟩]) (.cond (.tmp 14) (.seq (.ops [⟨(some 7), (.mov (.const (.string (bs [])))), none, []⟩]) (.ops [⟨(some 15), (.mov (.tmp 1)), none, []⟩, ⟨(some 16), (.mov (.tmp 1)), none, []⟩, ⟨(some 17), (.mov (.tmp 7)), none, []⟩, ⟨(some 18), (.nilChk (.tmp 15)), none, []⟩, ⟨(some 19), (.fAddr 3 (.tmp 18)), none, []⟩, ⟨none, (.store 1 (.tmp 19) (.const (.bool false))), none, []⟩, ⟨(some 20), (.nilChk (.tmp 16)), none, []⟩, ⟨(some 21), (.fAddr 4 (.tmp 20)), none, []⟩, ⟨none, (.store 1 (.tmp 21) (.tmp 17)), none, []⟩])) (.seq (.ops [⟨(some 22), (.mov (.tmp 0)), none, []⟩, ⟨(some 23), (.fAddr 0 (.tmp 5)), none, []⟩, ⟨(some 25), (.mov (.tmp 1)), none, []⟩, ⟨(some 26), (.nilChk (.tmp 25)), none, []⟩, ⟨(some 27), (.fAddr 0 (.tmp 26)), none, []⟩, ⟨(some 28), (.fAddr 2 (.tmp 27)), none, []⟩, ⟨(some 24), (.loadN 2 (.tmp 23)), none, []⟩, ⟨(some 29), (.load1 (.tmp 28)), none, []⟩, ⟨(some 30), (.callv (.func 82) [(.tmp 22), (.tmp 24), (.tmp 29)]), none, []⟩, ⟨(some 8), (.mov (.tmp 30)), none, []⟩]) (.ops [⟨(some 31), (.mov (.tmp 1)), none, []⟩, ⟨(some 32), (.mov (.tmp 8)), none, []⟩, ⟨(some 33), (.mov (.tmp 0)), none, []⟩, ⟨(some 34), (.mov (.tmp 1)), none, []⟩, ⟨(some 35), (.mov (.tmp 8)), none, []⟩, ⟨(some 36), (.nilChk (.tmp 34)), none, []⟩, ⟨(some 37), (.fAddr 5 (.tmp 36)), none, []⟩, ⟨(some 38), (.iAddrArr 2 1 (.tmp 37) (.tmp 35)), none, []⟩, ⟨(some 42), (.nilChk (.tmp 31)), none, []⟩, ⟨(some 43), (.fAddr 5 (.tmp 42)), none, []⟩, ⟨(some 39), (.load1 (.tmp 38)), none, []⟩, ⟨(some 40), (.loadN 3 (.tmp 5)), none, []⟩, ⟨(some 41), (.callv (.func 55) [(.tmp 33), (.tmp 39), (.tmp 40)]), none, []⟩, ⟨(some 44), (.iAddrArr 2 1 (.tmp 43) (.tmp 32)), none, []⟩, ⟨none, (.store 1 (.tmp 44) (.tmp 41)), none, []⟩])))) (.seq (.block 0 (.seq (.ops [⟨(some 46), (.mov (.tmp 1)), none, []⟩, ⟨(some 47), (.nilChk (.tmp 46)), none, []⟩, ⟨(some 48), (.fAddr 3 (.tmp 47)), none, []⟩, ⟨(some 49), (.load1 (.tmp 48)), none, []⟩, ⟨(some 50), (.mov (.tmp 49)), none, []⟩, ⟨(some 51), (.mov (.tmp 1)), (some (50, false)), []⟩, ⟨(some 52), (.nilChk (.tmp 51)), (some (50, false)), []⟩, ⟨(some 53), (.fAddr 5 (.tmp 52)), (some (50, false)), []⟩, ⟨(some 54), (.iAddrArr 2 1 (.tmp 53) (.const (.int .i64 0))), (some (50, false)), []⟩, ⟨(some 55), (.load1 (.tmp 54)), (some (50, false)), []⟩, ⟨(some 56), (.eqp 0 true (.tmp 55) (.const (.pointer none))), (some (50, false)), []⟩, ⟨(some 57), (.mov (.tmp 56)), (some (50, false)), []⟩, ⟨(some 58), (.mov (.tmp 1)), (some (57, true)), []⟩, ⟨(some 59), (.nilChk (.tmp 58)), (some (57, true)), []⟩, ⟨(some 60), (.fAddr 5 (.tmp 59)), (some (57, true)), []⟩, ⟨(some 61), (.iAddrArr 2 1 (.tmp 60) (.const (.int .i64 1))), (some (57, true)), []⟩, ⟨(some 62), (.load1 (.tmp 61)), (some (57, true)), []⟩, ⟨(some 63), (.eqp 0 true (.tmp 62) (.const (.pointer none))), (some (57, true)), []⟩, ⟨(some 64), (.pick (.tmp 57) (.tmp 63) (.const (.bool false))), (some (50, false)), []⟩, ⟨(some 65), (.pick (.tmp 50) (.const (.bool true)) (.tmp 64)), none, []⟩, ⟨(some 45), (.mov (.tmp 65)), none, []⟩]) (.cond (.tmp 45) (.seq (.ops [⟨(some 66), (.mov (.tmp 1)), none, []⟩, ⟨(some 6), (.mov (.tmp 66)), none, []⟩]) .ret) (.seq (.ops [⟨(some 68), (.mov (.tmp 1)), none, []⟩, ⟨(some 69), (.nilChk (.tmp 68)), none, []⟩, ⟨(some 70), (.fAddr 5 (.tmp 69)), none, []⟩, ⟨(some 71), (.iAddrArr 2 1 (.tmp 70) (.const (.int .i64 0))), none, []⟩, ⟨(some 72), (.load1 (.tmp 71)), none, []⟩, ⟨(some 73), (.eqp 0 true (.tmp 72) (.const (.pointer none))), none, []⟩, ⟨(some 67), (.mov (.tmp 73)), none, []⟩]) (.cond (.tmp 67) (.seq (.ops [⟨(some 74), (.mov (.tmp 1)), none, []⟩, ⟨(some 75), (.nilChk (.tmp 74)), none, []⟩, ⟨(some 76), (.fAddr 5 (.tmp 75)), none, []⟩, ⟨(some 77), (.iAddrArr 2 1 (.tmp 76) (.const (.int .i64 0))), none, []⟩, ⟨(some 78), (.load1 (.tmp 77)), none, []⟩, ⟨(some 6), (.mov (.tmp 78)), none, []⟩]) .ret) .skip))))) (.seq (.ops [⟨(some 79), (.mov (.tmp 1)), none, []⟩, ⟨(some 80), (.nilChk (.tmp 79)), none, []⟩, ⟨(some 81), (.fAddr 5 (.tmp 80)), none, []⟩, ⟨(some 82), (.iAddrArr 2 1 (.tmp 81) (.const (.int .i64 1))), none, []⟩, ⟨(some 83), (.load1 (.tmp 82)), none, []⟩, ⟨(some 6), (.mov (.tmp 83)), none, []⟩]) .ret)))) [(.tmp 6)])
def g56 : AFunc := (.code 23 (.seq (.seq (.ops [⟨(some 4), (.mov (.tmp 0)), none, []⟩, ⟨(some 5), (.eqp 0 false (.tmp 4) (.const (.pointer none))), none, []⟩]) (.cond (.tmp 5) .ret .skip)) (.seq (.ops [⟨(some 6), (.mov (.tmp 1)), none, []⟩, ⟨(some 7), (.mov (.tmp 0)), none, []⟩, ⟨(some 8), (.callv (.tmp 6) [(.tmp 7)]), none, []⟩]) (.seq (.ops [⟨(some 9), (.mov (.tmp 0)), none, []⟩, ⟨(some 10), (.nilChk (.tmp 9)), none, []⟩, ⟨(some 11), (.fAddr 5 (.tmp 10)), none, []⟩, ⟨(some 12), (.iAddrArr 2 1 (.tmp 11) (.const (.int .i64 0))), none, []⟩, ⟨(some 13), (.load1 (.tmp 12)), none, []⟩, ⟨(some 14), (.mov (.tmp 1)), none, []⟩, ⟨(some 15), (.callv (.func 56) [(.tmp 13), (.tmp 14)]), none, []⟩]) (.ops [⟨(some 16), (.mov (.tmp 0)), none, []⟩, ⟨(some 17), (.nilChk (.tmp 16)), none, []⟩, ⟨(some 18), (.fAddr 5 (.tmp 17)), none, []⟩, ⟨(some 19), (.iAddrArr 2 1 (.tmp 18) (.const (.int .i64 1))), none, []⟩, ⟨(some 20), (.load1 (.tmp 19)), none, []⟩, ⟨(some 21), (.mov (.tmp 1)), none, []⟩, ⟨(some 22), (.callv (.func 56) [(.tmp 20), (.tmp 21)]), none, []⟩])))) [])
def g57 : AFunc := (.code 5 (.ops [⟨(some 3), (.load1 (.tmp 1)), none, []⟩, ⟨(some 4), (.bin .add (.tmp 3) (.const (.int .i64 1))), none, []⟩, ⟨none, (.store 1 (.tmp 1) (.tmp 4)), none, []⟩]) [])
def g58 : AFunc := (.code 6 (.seq (.ops [⟨(some 2), (.box (.tmp 0)), none, []⟩, ⟨(some 3), (.box (.tmp 1)), none, []⟩, ⟨(some 4), (.mov (.const .nilFunc)), none, []⟩]) (.seq (.ops [⟨(some 5), (.mkFunc 84 [] [(.tmp 2), (.tmp 3)]), none, []⟩, ⟨(some 4), (.mov (.tmp 5)), none, []⟩]) .ret)) [(.tmp 4)])
def g59 : AFunc := (.code 3 (.seq (.ops [⟨(some 1), (.box (.tmp 0)), none, []⟩, ⟨(some 2), (.mov (.const (.bool false))), none, []⟩]) (.seq (.ops [⟨(some 2), (.mov (.const (.bool true))), none, []⟩]) .ret)) [(.tmp 2)])
def g70 : AFunc := (.code 84 (.seq (.ops [⟨(some 5), (.box (.tmp 2)), none, []⟩, ⟨(some 6), (.mov (.const (.pointer none))), none, []⟩]) (.seq (.seq (.ops [⟨(some 9), (.mov (.tmp 1)), none, []⟩, ⟨(some 10), (.nilChk (.tmp 9)), none, []⟩, ⟨(some 11), (.fAddr 0 (.tmp 10)), none, []⟩, ⟨(some 12), (.loadN 3 (.tmp 11)), none, []⟩, ⟨(some 13), (.loadN 3 (.tmp 5)), none, []⟩, ⟨(some 14), (.eqs false 3 [(0, 1), (1, 1), (2, 1)] (.tmp 12) (.tmp 13)), none, []⟩]) (.cond (.tmp 14) (.seq (.ops [⟨(some 7), (.mov (.const (.int .i64 0))), none, []⟩]) (.ops [⟨(some 15), (.mov (.tmp 1)), none, []⟩, ⟨(some 16), (.mov (.tmp 1)), none, []⟩, ⟨(some 17), (.mov (.tmp 7)), none, []⟩, ⟨(some 18), (.nilChk (.tmp 15)), none, []⟩, ⟨(some 19), (.fAddr 3 (.tmp 18)), none, []⟩, ⟨none, (.store 1 (.tmp 19) (.const (.bool false))), none, []⟩, ⟨(some 20), (.nilChk (.tmp 16)), none, []⟩, ⟨(some 21), (.fAddr 4 (.tmp 20)), none, []⟩, ⟨none, (.store 1 (.tmp 21) (.tmp 17)), none, []⟩])) (.seq (.ops [⟨(some 22), (.mov (.tmp 0)), none, []⟩, ⟨(some 23), (.fAddr 0 (.tmp 5)), none, []⟩, ⟨(some 25), (.mov (.tmp 1)), none, []⟩, ⟨(some 26), (.nilChk (.tmp 25)), none, []⟩, ⟨(some 27), (.fAddr 0 (.tmp 26)), none, []⟩, ⟨(some 28), (.fAddr 2 (.tmp 27)), none, []⟩, ⟨(some 24), (.loadN 2 (.tmp 23)), none, []⟩, ⟨(some 29), (.load1 (.tmp 28)), none, []⟩, ⟨(some 30), (.callv (.func 76) [(.tmp 22), (.tmp 24), (.tmp 29)]), none, []⟩, ⟨(some 8), (.mov (.tmp 30)), none, []⟩]) (.ops [⟨(some 31), (.mov (.tmp 1)), none, []⟩, ⟨(some 32), (.mov (.tmp 8)), none, []⟩, ⟨(some 33), (.mov (.tmp 0)), none, []⟩, ⟨(some 34), (.mov (.tmp 1)), none, []⟩, ⟨(some 35), (.mov (.tmp 8)), none, []⟩, ⟨(some 36), (.nilChk (.tmp 34)), none, []⟩, ⟨(some 37), (.fAddr 5 (.tmp 36)), none, []⟩, ⟨(some 38), (.iAddrArr 2 1 (.tmp 37) (.tmp 35)), none, []⟩, ⟨(some 42), (.nilChk (.tmp 31)), none, []⟩, ⟨(some 43), (.fAddr 5 (.tmp 42)), none, []⟩, ⟨(some 39), (.load1 (.tmp 38)), none, []⟩, ⟨(some 40), (.loadN 3 (.tmp 5)), none, []⟩, ⟨(some 41), (.callv (.func 70) [(.tmp 33), (.tmp 39), (.tmp 40)]), none, []⟩, ⟨(some 44), (.iAddrArr 2 1 (.tmp 43) (.tmp 32)), none, []⟩, ⟨none, (.store 1 (.tmp 44) (.tmp 41)), none, []⟩])))) (.seq (.block 0 (.seq (.ops [⟨(some 46), (.mov (.tmp 1)), none, []⟩, ⟨(some 47), (.nilChk (.tmp 46)), none, []⟩, ⟨(some 48), (.fAddr 3 (.tmp 47)), none, []⟩, ⟨(some 49), (.load1 (.tmp 48)), none, []⟩, ⟨(some 50), (.mov (.tmp 49)), none, []⟩, ⟨(some 51), (.mov (.tmp 1)), (some (50, false)), []⟩, ⟨(some 52), (.nilChk (.tmp 51)), (some (50, false)), []⟩, ⟨(some 53), (.fAddr 5 (.tmp 52)), (some (50, false)), []⟩, ⟨(some 54), (.iAddrArr 2 1 (.tmp 53) (.const (.int .i64 0))), (some (50, false)), []⟩, ⟨(some 55), (.load1 (.tmp 54)), (some (50, false)), []⟩, ⟨(some 56), (.eqp 0 true (.tmp 55) (.const (.pointer none))), (some (50, false)), []⟩, ⟨(some 57), (.mov (.tmp 56)), (some (50, false)), []⟩, ⟨(some 58), (.mov (.tmp 1)), (some (57, true)), []⟩, ⟨(some 59), (.nilChk (.tmp 58)), (some (57, true)), []⟩, ⟨(some 60), (.fAddr 5 (.tmp 59)), (some (57, true)), []⟩, ⟨(some 61), (.iAddrArr 2 1 (.tmp 60) (.const (.int .i64 1))), (some (57, true)), []⟩, ⟨(some 62), (.load1 (.tmp 61)), (some (57, true)), []⟩, ⟨(some 63), (.eqp 0 true (.tmp 62) (.const (.pointer none))), (some (57, true)), []⟩, ⟨(some 64), (.pick (.tmp 57) (.tmp 63) (.const (.bool false))), (some (50, false)), []⟩, ⟨(some 65), (.pick (.tmp 50) (.const (.bool true)) (.tmp 64)), none, []⟩, ⟨(some 45), (.mov (.tmp 65)), none, []⟩]) (.cond (.tmp 45) (.seq (.ops [⟨(some 66), (.mov (.tmp 1)), none, []⟩, ⟨(some 6), (.mov (.tmp 66)), none, []⟩]) .ret) (.seq (.ops [⟨(some 68), (.mov (.tmp 1)), none, []⟩, ⟨(some 69), (.nilChk (.tmp 68)), none, []⟩, ⟨(some 70), (.fAddr 5 (.tmp 69)), none, []⟩, ⟨(some 71), (.iAddrArr 2 1 (.tmp 70) (.const (.int .i64 0))), none, []⟩, ⟨(some 72), (.load1 (.tmp 71)), none, []⟩, ⟨(some 73), (.eqp 0 true (.tmp 72) (.const (.pointer none))), none, []⟩, ⟨(some 67), (.mov (.tmp 73)), none, []⟩]) (.cond (.tmp 67) (.seq (.ops [⟨(some 74), (.mov (.tmp 1)), none, []⟩, ⟨(some 75), (.nilChk (.tmp 74)), none, []⟩, ⟨(some 76), (.fAddr 5 (.tmp 75)), none, []⟩, ⟨(some 77), (.iAddrArr 2 1 (.tmp 76) (.const (.int .i64 0))), none, []⟩, ⟨(some 78), (.load1 (.tmp 77)), none, []⟩, ⟨(some 6), (.mov (.tmp 78)), none, []⟩]) .ret) .skip))))) (.seq (.ops [⟨(some 79), (.mov (.tmp 1)), none, []⟩, ⟨(some 80), (.nilChk (.tmp 79)), none, []⟩, ⟨(some 81), (.fAddr 5 (.tmp 80)), none, []⟩, ⟨(some 82), (.iAddrArr 2 1 (.tmp 81) (.const (.int .i64 1))), none, []⟩, ⟨(some 83), (.load1 (.tmp 82)), none, []⟩, ⟨(some 6), (.mov (.tmp 83)), none, []⟩]) .ret)))) [(.tmp 6)])
def g71 : AFunc := (.code 23 (.seq (.seq (.ops [⟨(some 4), (.mov (.tmp 0)), none, []⟩, ⟨(some 5), (.eqp 0 false (.tmp 4) (.const (.pointer none))), none, []⟩]) (.cond (.tmp 5) .ret .skip)) (.seq (.ops [⟨(some 6), (.mov (.tmp 1)), none, []⟩, ⟨(some 7), (.mov (.tmp 0)), none, []⟩, ⟨(some 8), (.callv (.tmp 6) [(.tmp 7)]), none, []⟩]) (.seq (.ops [⟨(some 9), (.mov (.tmp 0)), none, []⟩, ⟨(some 10), (.nilChk (.tmp 9)), none, []⟩, ⟨(some 11), (.fAddr 5 (.tmp 10)), none, []⟩, ⟨(some 12), (.iAddrArr 2 1 (.tmp 11) (.const (.int .i64 0))), none, []⟩, ⟨(some 13), (.load1 (.tmp 12)), none, []⟩, ⟨(some 14), (.mov (.tmp 1)), none, []⟩, ⟨(some 15), (.callv (.func 71) [(.tmp 13), (.tmp 14)]), none, []⟩]) (.ops [⟨(some 16), (.mov (.tmp 0)), none, []⟩, ⟨(some 17), (.nilChk (.tmp 16)), none, []⟩, ⟨(some 18), (.fAddr 5 (.tmp 17)), none, []⟩, ⟨(some 19), (.iAddrArr 2 1 (.tmp 18) (.const (.int .i64 1))), none, []⟩, ⟨(some 20), (.load1 (.tmp 19)), none, []⟩, ⟨(some 21), (.mov (.tmp 1)), none, []⟩, ⟨(some 22), (.callv (.func 71) [(.tmp 20), (.tmp 21)]), none, []⟩])))) [])
def g72 : AFunc := (.code 5 (.ops [⟨(some 3), (.load1 (.tmp 1)), none, []⟩, ⟨(some 4), (.bin .add (.tmp 3) (.const (.int .i64 1))), none, []⟩, ⟨none, (.store 1 (.tmp 1) (.tmp 4)), none, []⟩]) [])
def g73 : AFunc := (.code 14 (.seq (.ops [⟨(some 2), (.box (.tmp 0)), none, []⟩, ⟨(some 4), (.mov (.const (.bool false))), none, []⟩]) (.seq (.ops [⟨(some 5), (.mov (.tmp 1)), none, []⟩, ⟨(some 6), (.callv (.func 88) [(.tmp 5)]), none, []⟩, ⟨(some 7), (.mov (.tmp 6)), none, []⟩, ⟨(some 8), (.loadN 2 (.tmp 2)), (some (7, true)), []⟩, ⟨(some 9), (.mov (.tmp 1)), (some (7, true)), []⟩, ⟨(some 10), (.callv (.func 89) [(.tmp 8), (.tmp 9)]), (some (7, true)), []⟩, ⟨(some 11), (.build [(.int .u64 0), (.int .u64 0)] []), (some (7, true)), []⟩, ⟨(some 12), (.eqs false 2 [(0, 1), (1, 1)] (.tmp 10) (.tmp 11)), (some (7, true)), []⟩, ⟨(some 13), (.pick (.tmp 7) (.tmp 12) (.const (.bool false))), none, []⟩, ⟨(some 4), (.mov (.tmp 13)), none, []⟩]) .ret)) [(.tmp 4)])
def g74 : AFunc := (.code 26 (.seq (.ops [⟨(some 4), (.alloc [(.int .u64 0), (.int .u64 0)]), none, []⟩, ⟨(some 5), (.mov (.const (.int .i64 0))), none, []⟩]) (.seq (.block 0 (.seq (.ops [⟨(some 7), (.mov (.tmp 0)), none, []⟩, ⟨(some 8), (.callv (.func 88) [(.tmp 7)]), none, []⟩, ⟨(some 9), (.un .not (.tmp 8)), none, []⟩, ⟨(some 6), (.mov (.tmp 9)), none, []⟩]) (.cond (.tmp 6) (.seq (.ops [⟨(some 10), (.build [(.int .u64 0), (.int .u64 0)] []), none, []⟩, ⟨none, (.store 2 (.tmp 4) (.tmp 10)), none, []⟩, ⟨(some 5), (.mov (.const (.int .i64 10))), none, []⟩]) .ret) (.seq (.ops [⟨(some 12), (.mov (.tmp 1)), none, []⟩, ⟨(some 13), (.bin .lss (.tmp 12) (.const (.int .i64 0))), none, []⟩, ⟨(some 14), (.mov (.tmp 13)), none, []⟩, ⟨(some 15), (.mov (.tmp 1)), (some (14, false)), []⟩, ⟨(some 16), (.mov (.tmp 0)), (some (14, false)), []⟩, ⟨(some 17), (.bin .gtr (.tmp 15) (.tmp 16)), (some (14, false)), []⟩, ⟨(some 18), (.pick (.tmp 14) (.const (.bool true)) (.tmp 17)), none, []⟩, ⟨(some 11), (.mov (.tmp 18)), none, []⟩]) (.cond (.tmp 11) (.seq (.ops [⟨(some 19), (.build [(.int .u64 0), (.int .u64 0)] []), none, []⟩, ⟨none, (.store 2 (.tmp 4) (.tmp 19)), none, []⟩, ⟨(some 5), (.mov (.const (.int .i64 1))), none, []⟩]) .ret) .skip))))) (.seq (.ops [⟨(some 20), (.mov (.tmp 1)), none, []⟩, ⟨(some 21), (.callv (.func 91) [(.tmp 20)]), none, []⟩, ⟨(some 22), (.mov (.tmp 0)), none, []⟩, ⟨(some 23), (.mov (.tmp 1)), none, []⟩, ⟨(some 24), (.bin .sub (.tmp 22) (.tmp 23)), none, []⟩, ⟨(some 25), (.callv (.func 90) [(.tmp 21), (.tmp 24)]), none, []⟩, ⟨none, (.store 2 (.tmp 4) (.tmp 25)), none, []⟩, ⟨(some 5), (.mov (.const (.int .i64 0))), none, []⟩]) .ret))) [(.cellN 4 2), (.tmp 5)])
def g75 : AFunc := (.code 16 (.seq (.ops [⟨(some 2), (.box (.tmp 0)), none, []⟩, ⟨(some 3), (.box (.tmp 1)), none, []⟩, ⟨(some 4), (.alloc [(.int .u64 0), (.int .u64 0)]), none, []⟩]) (.seq (.ops [⟨(some 5), (.fAddr 0 (.tmp 2)), none, []⟩, ⟨(some 6), (.load1 (.tmp 5)), none, []⟩, ⟨(some 7), (.fAddr 0 (.tmp 3)), none, []⟩, ⟨(some 8), (.load1 (.tmp 7)), none, []⟩, ⟨(some 9), (.bin .and (.tmp 6) (.tmp 8)), none, []⟩, ⟨(some 10), (.fAddr 1 (.tmp 2)), none, []⟩, ⟨(some 11), (.load1 (.tmp 10)), none, []⟩, ⟨(some 12), (.fAddr 1 (.tmp 3)), none, []⟩, ⟨(some 13), (.load1 (.tmp 12)), none, []⟩, ⟨(some 14), (.bin .and (.tmp 11) (.tmp 13)), none, []⟩, ⟨(some 15), (.build [(.int .u64 0), (.int .u64 0)] [(0, (1, (.tmp 9))), (1, (1, (.tmp 14)))]), none, []⟩, ⟨none, (.store 2 (.tmp 4) (.tmp 15)), none, []⟩]) .ret)) [(.cellN 4 2)])
def g76 : AFunc := (.code 14 (.seq (.ops [⟨(some 4), (.box (.tmp 1)), none, []⟩, ⟨(some 6), (.mov (.const (.int .i64 0))), none, []⟩]) (.seq (.seq (.ops [⟨(some 8), (.mov (.tmp 0)), none, []⟩, ⟨(some 9), (.nilChk (.tmp 8)), none, []⟩, ⟨(some 10), (.fAddr 0 (.tmp 9)), none, []⟩, ⟨(some 12), (.mov (.tmp 2)), none, []⟩, ⟨(some 7), (.loadN 2 (.tmp 4)), none, []⟩, ⟨(some 11), (.load1 (.tmp 10)), none, []⟩, ⟨(some 13), (.callv (.func 92) [(.tmp 7), (.tmp 11), (.tmp 12)]), none, []⟩]) (.cond (.tmp 13) (.seq (.ops [⟨(some 6), (.mov (.const (.int .i64 1))), none, []⟩]) .ret) .skip)) (.seq (.ops [⟨(some 6), (.mov (.const (.int .i64 0))), none, []⟩]) .ret))) [(.tmp 6)])
def g77 : AFunc := (.code 23 (.seq (.ops [⟨(some 4), (.box (.tmp 1)), none, []⟩, ⟨(some 6), (.alloc [(.int .u64 0), (.int .u64 0), (.int .i64 0)]), none, []⟩]) (.seq (.ops [⟨(some 10), (.mov (.tmp 0)), none, []⟩, ⟨(some 11), (.nilChk (.tmp 10)), none, []⟩, ⟨(some 12), (.fAddr 0 (.tmp 11)), none, []⟩, ⟨(some 13), (.load1 (.tmp 12)), none, []⟩, ⟨(some 14), (.mov (.tmp 2)), none, []⟩, ⟨(some 15), (.callv (.func 74) [(.tmp 13), (.tmp 14)]), none, []⟩, ⟨(some 9), (.mov (.tmp 15)), none, []⟩, ⟨(some 16), (.extract (.tmp 9) 0), none, []⟩, ⟨(some 17), (.extract (.tmp 9) 1), none, []⟩, ⟨(some 7), (.alloc [(.int .u64 0), (.int .u64 0)]), none, []⟩, ⟨none, (.store 2 (.tmp 7) (.tmp 16)), none, []⟩, ⟨(some 8), (.mov (.tmp 17)), none, []⟩]) (.seq (.ops [⟨(some 18), (.loadN 2 (.tmp 4)), none, []⟩, ⟨(some 19), (.loadN 2 (.tmp 7)), none, []⟩, ⟨(some 20), (.callv (.func 75) [(.tmp 18), (.tmp 19)]), none, []⟩, ⟨(some 21), (.mov (.tmp 2)), none, []⟩, ⟨(some 22), (.build [(.int .u64 0), (.int .u64 0), (.int .i64 0)] [(0, (2, (.tmp 20))), (2, (1, (.tmp 21)))]), none, []⟩, ⟨none, (.store 3 (.tmp 6) (.tmp 22)), none, []⟩]) .ret))) [(.cellN 6 3)])
def g78 : AFunc := (.code 31 (.seq (.ops [⟨(some 3), (.box (.tmp 0)), none, []⟩, ⟨(some 4), (.box (.tmp 1)), none, []⟩, ⟨(some 6), (.mov (.const (.int .i64 0))), none, []⟩]) (.seq (.seq (.ops [⟨(some 8), (.mov (.tmp 2)), none, []⟩, ⟨(some 9), (.callv (.func 88) [(.tmp 8)]), none, []⟩, ⟨(some 10), (.un .not (.tmp 9)), none, []⟩]) (.cond (.tmp 10) (.seq (.ops [⟨(some 6), (.mov (.const (.int .i64 0))), none, []⟩]) .ret) .skip)) (.seq (.ops [⟨(some 11), (.loadN 2 (.tmp 3)), none, []⟩, ⟨(some 12), (.loadN 2 (.tmp 4)), none, []⟩, ⟨(some 13), (.callv (.func 93) [(.tmp 11), (.tmp 12)]), none, []⟩, ⟨(some 14), (.mov (.tmp 2)), none, []⟩, ⟨(some 15), (.bin .sub (.const (.int .i64 128)) (.tmp 14)), none, []⟩, ⟨(some 16), (.callv (.func 90) [(.tmp 13), (.tmp 15)]), none, []⟩, ⟨(some 7), (.alloc [(.int .u64 0), (.int .u64 0)]), none, []⟩, ⟨none, (.store 2 (.tmp 7) (.tmp 16)), none, []⟩]) (.seq (.seq (.ops [⟨(some 17), (.fAddr 0 (.tmp 7)), none, []⟩, ⟨(some 18), (.load1 (.tmp 17)), none, []⟩, ⟨(some 19), (.bin .neq (.tmp 18) (.const (.int .u64 0))), none, []⟩]) (.cond (.tmp 19) (.seq (.ops [⟨(some 20), (.mov (.tmp 2)), none, []⟩, ⟨(some 21), (.fAddr 0 (.tmp 7)), none, []⟩, ⟨(some 22), (.load1 (.tmp 21)), none, []⟩, ⟨(some 23), (.callv (.func 94) [(.tmp 22)]), none, []⟩, ⟨(some 24), (.mm false [(.tmp 20), (.tmp 23)]), none, []⟩, ⟨(some 6), (.mov (.tmp 24)), none, []⟩]) .ret) .skip)) (.seq (.ops [⟨(some 25), (.mov (.tmp 2)), none, []⟩, ⟨(some 26), (.fAddr 1 (.tmp 7)), none, []⟩, ⟨(some 27), (.load1 (.tmp 26)), none, []⟩, ⟨(some 28), (.callv (.func 94) [(.tmp 27)]), none, []⟩, ⟨(some 29), (.bin .add (.const (.int .i64 64)) (.tmp 28)), none, []⟩, ⟨(some 30), (.mm false [(.tmp 25), (.tmp 29)]), none, []⟩, ⟨(some 6), (.mov (.tmp 30)), none, []⟩]) .ret))))) [(.tmp 6)])
def g79 : AFunc := (.code 29 (.seq (.seq (.ops [⟨(some 7), (.load1 (.tmp 1)), none, []⟩, ⟨(some 8), (.eqp 0 false (.tmp 7) (.const (.pointer none))), none, []⟩]) (.cond (.tmp 8) .ret .skip)) (.seq (.ops [⟨(some 4), (.alloc [(.slice none 0 0)]), none, []⟩]) (.seq (.ops [⟨(some 9), (.load1 (.tmp 1)), none, []⟩, ⟨(some 10), (.nilChk (.tmp 9)), none, []⟩, ⟨(some 11), (.fAddr 3 (.tmp 10)), none, []⟩, ⟨(some 12), (.load1 (.tmp 11)), none, []⟩, ⟨(some 13), (.mkFunc 80 [] [(.tmp 2), (.tmp 4)]), none, []⟩, ⟨(some 14), (.callv (.func 71) [(.tmp 12), (.tmp 13)]), none, []⟩]) (.seq (.ops [⟨(some 15), (.load1 (.tmp 4)), none, []⟩, ⟨(some 16), (.lenSl (.tmp 15)), none, []⟩, ⟨(some 17), (.mov (.const (.int .i64 0))), none, []⟩]) (.block 0 (.loop (.seq (.ops [⟨(some 18), (.bin .lss (.tmp 17) (.tmp 16)), none, []⟩]) (.seq (.cond (.tmp 18) .skip (.exit 0)) (.seq (.block 1 (.seq (.ops [⟨(some 19), (.iAddrSl 7 (.tmp 15) (.tmp 17)), none, []⟩, ⟨(some 20), (.loadN 7 (.tmp 19)), none, []⟩, ⟨(some 6), (.alloc [(.int .u64 0), (.int .u64 0), (.int .i64 0), (.bool false), (.int .i64 0), (.pointer none), (.pointer none)]), none, []⟩, ⟨none, (.store 7 (.tmp 6) (.tmp 20)), none, []⟩]) (.seq (.ops [⟨(some 21), (.mov (.tmp 0)), none, []⟩, ⟨(some 22), (.fAddr 0 (.tmp 6)), none, []⟩, ⟨(some 23), (.loadN 3 (.tmp 22)), none, []⟩, ⟨(some 24), (.fAddr 4 (.tmp 6)), none, []⟩, ⟨(some 25), (.load1 (.tmp 24)), none, []⟩, ⟨(some 26), (.callv (.tmp 21) [(.tmp 23), (.tmp 25)]), none, []⟩, ⟨(some 27), (.un .not (.tmp 26)), none, []⟩]) (.cond (.tmp 27) .ret .skip)))) (.ops [⟨(some 28), (.bin .add (.tmp 17) (.const (.int .i64 1))), none, []⟩, ⟨(some 17), (.mov (.tmp 28)), none, []⟩])))))))))) [])
def g80 : AFunc := (.code 22 (.seq (.ops [⟨(some 4), (.mov (.tmp 0)), none, []⟩, ⟨(some 5), (.nilChk (.tmp 4)), none, []⟩, ⟨(some 6), (.fAddr 3 (.tmp 5)), none, []⟩, ⟨(some 7), (.load1 (.tmp 6)), none, []⟩, ⟨(some 8), (.mov (.tmp 7)), none, []⟩, ⟨(some 10), (.mov (.tmp 0)), (some (8, true)), []⟩, ⟨(some 11), (.nilChk (.tmp 10)), (some (8, true)), []⟩, ⟨(some 12), (.fAddr 0 (.tmp 11)), (some (8, true)), []⟩, ⟨(some 9), (.load1 (.tmp 1)), (some (8, true)), []⟩, ⟨(some 13), (.loadN 3 (.tmp 12)), (some (8, true)), []⟩, ⟨(some 14), (.callv (.tmp 9) [(.tmp 13)]), (some (8, true)), []⟩, ⟨(some 15), (.pick (.tmp 8) (.tmp 14) (.const (.bool false))), none, []⟩]) (.cond (.tmp 15) (.ops [⟨(some 17), (.mov (.tmp 0)), none, []⟩, ⟨(some 18), (.nilChk (.tmp 17)), none, []⟩, ⟨(some 16), (.load1 (.tmp 2)), none, []⟩, ⟨(some 19), (.loadN 7 (.tmp 18)), none, []⟩, ⟨(some 20), (.buildSlice 7 1 [(.int .u64 0), (.int .u64 0), (.int .i64 0), (.bool false), (.int .i64 0), (.pointer none), (.pointer none)] [(0, (7, (.tmp 19)))]), none, []⟩, ⟨(some 21), (.append 7 56 (.tmp 16) (.tmp 20)), none, []⟩, ⟨none, (.store 1 (.tmp 2) (.tmp 21)), none, []⟩]) .skip)) [])
def g81 : AFunc := (.code 21 (.seq (.ops [⟨(some 4), (.box (.tmp 1)), none, []⟩, ⟨(some 5), (.box (.tmp 2)), none, []⟩, ⟨(some 6), (.mov (.const (.int .i64 0))), none, []⟩]) (.seq (.ops [⟨(some 7), (.fAddr 0 (.tmp 4)), none, []⟩, ⟨(some 9), (.fAddr 0 (.tmp 5)), none, []⟩, ⟨(some 11), (.mov (.tmp 0)), none, []⟩, ⟨(some 12), (.nilChk (.tmp 11)), none, []⟩, ⟨(some 13), (.fAddr 0 (.tmp 12)), none, []⟩, ⟨(some 16), (.fAddr 2 (.tmp 4)), none, []⟩, ⟨(some 18), (.fAddr 2 (.tmp 5)), none, []⟩, ⟨(some 8), (.loadN 2 (.tmp 7)), none, []⟩, ⟨(some 10), (.loadN 2 (.tmp 9)), none, []⟩, ⟨(some 14), (.load1 (.tmp 13)), none, []⟩, ⟨(some 17), (.load1 (.tmp 16)), none, []⟩, ⟨(some 19), (.load1 (.tmp 18)), none, []⟩, ⟨(some 15), (.callv (.func 78) [(.tmp 8), (.tmp 10), (.tmp 14)]), none, [(16, 1), (18, 1)]⟩, ⟨(some 20), (.mm false [(.tmp 15), (.tmp 17), (.tmp 19)]), none, []⟩, ⟨(some 6), (.mov (.tmp 20)), none, []⟩]) .ret)) [(.tmp 6)])
def g82 : AFunc := (.code 14 (.seq (.ops [⟨(some 4), (.box (.tmp 1)), none, []⟩, ⟨(some 6), (.mov (.const (.int .i64 0))), none, []⟩]) (.seq (.seq (.ops [⟨(some 8), (.mov (.tmp 0)), none, []⟩, ⟨(some 9), (.nilChk (.tmp 8)), none, []⟩, ⟨(some 10), (.fAddr 0 (.tmp 9)), none, []⟩, ⟨(some 12), (.mov (.tmp 2)), none, []⟩, ⟨(some 7), (.loadN 2 (.tmp 4)), none, []⟩, ⟨(some 11), (.load1 (.tmp 10)), none, []⟩, ⟨(some 13), (.callv (.func 92) [(.tmp 7), (.tmp 11), (.tmp 12)]), none, []⟩]) (.cond (.tmp 13) (.seq (.ops [⟨(some 6), (.mov (.const (.int .i64 1))), none, []⟩]) .ret) .skip)) (.seq (.ops [⟨(some 6), (.mov (.const (.int .i64 0))), none, []⟩]) .ret))) [(.tmp 6)])
def g83 : AFunc := (.code 23 (.seq (.ops [⟨(some 4), (.box (.tmp 1)), none, []⟩, ⟨(some 6), (.alloc [(.int .u64 0), (.int .u64 0), (.int .i64 0)]), none, []⟩]) (.seq (.ops [⟨(some 10), (.mov (.tmp 0)), none, []⟩, ⟨(some 11), (.nilChk (.tmp 10)), none, []⟩, ⟨(some 12), (.fAddr 0 (.tmp 11)), none, []⟩, ⟨(some 13), (.load1 (.tmp 12)), none, []⟩, ⟨(some 14), (.mov (.tmp 2)), none, []⟩, ⟨(some 15), (.callv (.func 74) [(.tmp 13), (.tmp 14)]), none, []⟩, ⟨(some 9), (.mov (.tmp 15)), none, []⟩, ⟨(some 16), (.extract (.tmp 9) 0), none, []⟩, ⟨(some 17), (.extract (.tmp 9) 1), none, []⟩, ⟨(some 7), (.alloc [(.int .u64 0), (.int .u64 0)]), none, []⟩, ⟨none, (.store 2 (.tmp 7) (.tmp 16)), none, []⟩, ⟨(some 8), (.mov (.tmp 17)), none, []⟩]) (.seq (.ops [⟨(some 18), (.loadN 2 (.tmp 4)), none, []⟩, ⟨(some 19), (.loadN 2 (.tmp 7)), none, []⟩, ⟨(some 20), (.callv (.func 75) [(.tmp 18), (.tmp 19)]), none, []⟩, ⟨(some 21), (.mov (.tmp 2)), none, []⟩, ⟨(some 22), (.build [(.int .u64 0), (.int .u64 0), (.int .i64 0)] [(0, (2, (.tmp 20))), (2, (1, (.tmp 21)))]), none, []⟩, ⟨none, (.store 3 (.tmp 6) (.tmp 22)), none, []⟩]) .ret))) [(.cellN 6 3)])
def g84 : AFunc := (.code 29 (.seq (.seq (.ops [⟨(some 7), (.load1 (.tmp 1)), none, []⟩, ⟨(some 8), (.eqp 0 false (.tmp 7) (.const (.pointer none))), none, []⟩]) (.cond (.tmp 8) .ret .skip)) (.seq (.ops [⟨(some 4), (.alloc [(.slice none 0 0)]), none, []⟩]) (.seq (.ops [⟨(some 9), (.load1 (.tmp 1)), none, []⟩, ⟨(some 10), (.nilChk (.tmp 9)), none, []⟩, ⟨(some 11), (.fAddr 3 (.tmp 10)), none, []⟩, ⟨(some 12), (.load1 (.tmp 11)), none, []⟩, ⟨(some 13), (.mkFunc 85 [] [(.tmp 2), (.tmp 4)]), none, []⟩, ⟨(some 14), (.callv (.func 56) [(.tmp 12), (.tmp 13)]), none, []⟩]) (.seq (.ops [⟨(some 15), (.load1 (.tmp 4)), none, []⟩, ⟨(some 16), (.lenSl (.tmp 15)), none, []⟩, ⟨(some 17), (.mov (.const (.int .i64 0))), none, []⟩]) (.block 0 (.loop (.seq (.ops [⟨(some 18), (.bin .lss (.tmp 17) (.tmp 16)), none, []⟩]) (.seq (.cond (.tmp 18) .skip (.exit 0)) (.seq (.block 1 (.seq (.ops [⟨(some 19), (.iAddrSl 7 (.tmp 15) (.tmp 17)), none, []⟩, ⟨(some 20), (.loadN 7 (.tmp 19)), none, []⟩, ⟨(some 6), (.alloc [(.int .u64 0), (.int .u64 0), (.int .i64 0), (.bool false), (.string (bs [])), (.pointer none), (.pointer none)]), none, []⟩, ⟨none, (.store 7 (.tmp 6) (.tmp 20)), none, []⟩]) (.seq (.ops [⟨(some 21), (.mov (.tmp 0)), none, []⟩, ⟨(some 22), (.fAddr 0 (.tmp 6)), none, []⟩, ⟨(some 23), (.loadN 3 (.tmp 22)), none, []⟩, ⟨(some 24), (.fAddr 4 (.tmp 6)), none, []⟩, ⟨(some 25), (.load1 (.tmp 24)), none, []⟩, ⟨(some 26), (.callv (.tmp 21) [(.tmp 23), (.tmp 25)]), none, []⟩, ⟨(some 27), (.un .not (.tmp 26)), none, []⟩]) (.cond (.tmp 27) .ret .skip)))) (.ops [⟨(some 28), (.bin .add (.tmp 17) (.const (.int .i64 1))), none, []⟩, ⟨(some 17), (.mov (.tmp 28)), none, []⟩])))))))))) [])
def g85 : AFunc := (.code 22 (.seq (.ops [⟨(some 4), (.mov (.tmp 0)), none, []⟩, ⟨(some 5), (.nilChk (.tmp 4)), none, []⟩, ⟨(some 6), (.fAddr 3 (.tmp 5)), none, []⟩, ⟨(some 7), (.load1 (.tmp 6)), none, []⟩, ⟨(some 8), (.mov (.tmp 7)), none, []⟩, ⟨(some 10), (.mov (.tmp 0)), (some (8, true)), []⟩, ⟨(some 11), (.nilChk (.tmp 10)), (some (8, true)), []⟩, ⟨(some 12), (.fAddr 0 (.tmp 11)), (some (8, true)), []⟩, ⟨(some 9), (.load1 (.tmp 1)), (some (8, true)), []⟩, ⟨(some 13), (.loadN 3 (.tmp 12)), (some (8, true)), []⟩, ⟨(some 14), (.callv (.tmp 9) [(.tmp 13)]), (some (8, true)), []⟩, ⟨(some 15), (.pick (.tmp 8) (.tmp 14) (.const (.bool false))), none, []⟩]) (.cond (.tmp 15) (.ops [⟨(some 17), (.mov (.tmp 0)), none, []⟩, ⟨(some 18), (.nilChk (.tmp 17)), none, []⟩, ⟨(some 16), (.load1 (.tmp 2)), none, []⟩, ⟨(some 19), (.loadN 7 (.tmp 18)), none, []⟩, ⟨(some 20), (.buildSlice 7 1 [(.int .u64 0), (.int .u64 0), (.int .i64 0), (.bool false), (.string (bs [])), (.pointer none), (.pointer none)] [(0, (7, (.tmp 19)))]), none, []⟩, ⟨(some 21), (.append 7 64 (.tmp 16) (.tmp 20)), none, []⟩, ⟨none, (.store 1 (.tmp 2) (.tmp 21)), none, []⟩]) .skip)) [])
def g88 : AFunc := (.code 9 (.seq (.ops [⟨(some 2), (.mov (.const (.bool false))), none, []⟩]) (.seq (.ops [⟨(some 3), (.mov (.tmp 0)), none, []⟩, ⟨(some 4), (.bin .geq (.tmp 3) (.const (.int .i64 1))), none, []⟩, ⟨(some 5), (.mov (.tmp 4)), none, []⟩, ⟨(some 6), (.mov (.tmp 0)), (some (5, true)), []⟩, ⟨(some 7), (.bin .leq (.tmp 6) (.const (.int .i64 128))), (some (5, true)), []⟩, ⟨(some 8), (.pick (.tmp 5) (.tmp 7) (.const (.bool false))), none, []⟩, ⟨(some 2), (.mov (.tmp 8)), none, []⟩]) .ret)) [(.tmp 2)])
def g89 : AFunc := (.code 28 (.seq (.ops [⟨(some 2), (.box (.tmp 0)), none, []⟩, ⟨(some 4), (.alloc [(.int .u64 0), (.int .u64 0)]), none, []⟩]) (.seq (.seq (.ops [⟨(some 5), (.mov (.tmp 1)), none, []⟩, ⟨(some 6), (.bin .geq (.tmp 5) (.const (.int .i64 64))), none, []⟩]) (.cond (.tmp 6) (.seq (.ops [⟨(some 7), (.fAddr 0 (.tmp 2)), none, []⟩, ⟨(some 8), (.load1 (.tmp 7)), none, []⟩, ⟨(some 9), (.mov (.tmp 1)), none, []⟩, ⟨(some 10), (.bin .sub (.tmp 9) (.const (.int .i64 64))), none, []⟩, ⟨(some 11), (.bin .shr (.tmp 8) (.tmp 10)), none, []⟩, ⟨(some 12), (.build [(.int .u64 0), (.int .u64 0)] [(1, (1, (.tmp 11)))]), none, []⟩, ⟨none, (.store 2 (.tmp 4) (.tmp 12)), none, []⟩]) .ret) .skip)) (.seq (.ops [⟨(some 13), (.fAddr 0 (.tmp 2)), none, []⟩, ⟨(some 15), (.mov (.tmp 1)), none, []⟩, ⟨(some 17), (.fAddr 1 (.tmp 2)), none, []⟩, ⟨(some 19), (.mov (.tmp 1)), none, []⟩, ⟨(some 21), (.fAddr 0 (.tmp 2)), none, []⟩, ⟨(some 23), (.mov (.tmp 1)), none, []⟩, ⟨(some 24), (.bin .sub (.const (.int .i64 64)) (.tmp 23)), none, []⟩, ⟨(some 14), (.load1 (.tmp 13)), none, []⟩, ⟨(some 16), (.bin .shr (.tmp 14) (.tmp 15)), none, []⟩, ⟨(some 18), (.load1 (.tmp 17)), none, []⟩, ⟨(some 20), (.bin .shr (.tmp 18) (.tmp 19)), none, []⟩, ⟨(some 22), (.load1 (.tmp 21)), none, []⟩, ⟨(some 25), (.bin .shl (.tmp 22) (.tmp 24)), none, []⟩, ⟨(some 26), (.bin .or (.tmp 20) (.tmp 25)), none, []⟩, ⟨(some 27), (.build [(.int .u64 0), (.int .u64 0)] [(0, (1, (.tmp 16))), (1, (1, (.tmp 26)))]), none, []⟩, ⟨none, (.store 2 (.tmp 4) (.tmp 27)), none, []⟩]) .ret))) [(.cellN 4 2)])
def g90 : AFunc := (.code 28 (.seq (.ops [⟨(some 2), (.box (.tmp 0)), none, []⟩, ⟨(some 4), (.alloc [(.int .u64 0), (.int .u64 0)]), none, []⟩]) (.seq (.seq (.ops [⟨(some 5), (.mov (.tmp 1)), none, []⟩, ⟨(some 6), (.bin .geq (.tmp 5) (.const (.int .i64 64))), none, []⟩]) (.cond (.tmp 6) (.seq (.ops [⟨(some 7), (.fAddr 1 (.tmp 2)), none, []⟩, ⟨(some 8), (.load1 (.tmp 7)), none, []⟩, ⟨(some 9), (.mov (.tmp 1)), none, []⟩, ⟨(some 10), (.bin .sub (.tmp 9) (.const (.int .i64 64))), none, []⟩, ⟨(some 11), (.bin .shl (.tmp 8) (.tmp 10)), none, []⟩, ⟨(some 12), (.build [(.int .u64 0), (.int .u64 0)] [(0, (1, (.tmp 11)))]), none, []⟩, ⟨none, (.store 2 (.tmp 4) (.tmp 12)), none, []⟩]) .ret) .skip)) (.seq (.ops [⟨(some 13), (.fAddr 0 (.tmp 2)), none, []⟩, ⟨(some 15), (.mov (.tmp 1)), none, []⟩, ⟨(some 17), (.fAddr 1 (.tmp 2)), none, []⟩, ⟨(some 19), (.mov (.tmp 1)), none, []⟩, ⟨(some 20), (.bin .sub (.const (.int .i64 64)) (.tmp 19)), none, []⟩, ⟨(some 23), (.fAddr 1 (.tmp 2)), none, []⟩, ⟨(some 25), (.mov (.tmp 1)), none, []⟩, ⟨(some 14), (.load1 (.tmp 13)), none, []⟩, ⟨(some 16), (.bin .shl (.tmp 14) (.tmp 15)), none, []⟩, ⟨(some 18), (.load1 (.tmp 17)), none, []⟩, ⟨(some 21), (.bin .shr (.tmp 18) (.tmp 20)), none, []⟩, ⟨(some 22), (.bin .or (.tmp 16) (.tmp 21)), none, []⟩, ⟨(some 24), (.load1 (.tmp 23)), none, []⟩, ⟨(some 26), (.bin .shl (.tmp 24) (.tmp 25)), none, []⟩, ⟨(some 27), (.build [(.int .u64 0), (.int .u64 0)] [(0, (1, (.tmp 22))), (1, (1, (.tmp 26)))]), none, []⟩, ⟨none, (.store 2 (.tmp 4) (.tmp 27)), none, []⟩]) .ret))) [(.cellN 4 2)])
def g91 : AFunc := (.code 7 (.seq (.ops [⟨(some 2), (.alloc [(.int .u64 0), (.int .u64 0)]), none, []⟩]) (.seq (.ops [⟨(some 3), (.build [(.int .u64 0), (.int .u64 0)] [(0, (1, (.const (.int .u64 18446744073709551615)))), (1, (1, (.const (.int .u64 18446744073709551615))))]), none, []⟩, ⟨(some 4), (.mov (.tmp 0)), none, []⟩, ⟨(some 5), (.bin .sub (.const (.int .i64 128)) (.tmp 4)), none, []⟩, ⟨(some 6), (.callv (.func 89) [(.tmp 3), (.tmp 5)]), none, []⟩, ⟨none, (.store 2 (.tmp 2) (.tmp 6)), none, []⟩]) .ret)) [(.cellN 2 2)])
def g92 : AFunc := (.code 28 (.seq (.ops [⟨(some 3), (.box (.tmp 0)), none, []⟩, ⟨(some 6), (.mov (.const (.bool false))), none, []⟩]) (.seq (.seq (.ops [⟨(some 7), (.mov (.tmp 1)), none, []⟩, ⟨(some 8), (.callv (.func 88) [(.tmp 7)]), none, []⟩, ⟨(some 9), (.un .not (.tmp 8)), none, []⟩, ⟨(some 10), (.mov (.tmp 9)), none, []⟩, ⟨(some 11), (.mov (.tmp 2)), (some (10, false)), []⟩, ⟨(some 12), (.bin .lss (.tmp 11) (.const (.int .i64 0))), (some (10, false)), []⟩, ⟨(some 13), (.pick (.tmp 10) (.const (.bool true)) (.tmp 12)), none, []⟩, ⟨(some 14), (.mov (.tmp 13)), none, []⟩, ⟨(some 15), (.mov (.tmp 2)), (some (14, false)), []⟩, ⟨(some 16), (.mov (.tmp 1)), (some (14, false)), []⟩, ⟨(some 17), (.bin .geq (.tmp 15) (.tmp 16)), (some (14, false)), []⟩, ⟨(some 18), (.pick (.tmp 14) (.const (.bool true)) (.tmp 17)), none, []⟩]) (.cond (.tmp 18) (.seq (.ops [⟨(some 6), (.mov (.const (.bool false))), none, []⟩]) .ret) .skip)) (.seq (.ops [⟨(some 19), (.loadN 2 (.tmp 3)), none, []⟩, ⟨(some 20), (.mov (.tmp 1)), none, []⟩, ⟨(some 21), (.bin .sub (.tmp 20) (.const (.int .i64 1))), none, []⟩, ⟨(some 22), (.mov (.tmp 2)), none, []⟩, ⟨(some 23), (.bin .sub (.tmp 21) (.tmp 22)), none, []⟩, ⟨(some 24), (.callv (.func 89) [(.tmp 19), (.tmp 23)]), none, []⟩, ⟨(some 25), (.field1 1 (.tmp 24)), none, []⟩, ⟨(some 26), (.bin .and (.tmp 25) (.const (.int .u64 1))), none, []⟩, ⟨(some 27), (.bin .eql (.tmp 26) (.const (.int .u64 1))), none, []⟩, ⟨(some 6), (.mov (.tmp 27)), none, []⟩]) .ret))) [(.tmp 6)])
def g93 : AFunc := (.code 16 (.seq (.ops [⟨(some 2), (.box (.tmp 0)), none, []⟩, ⟨(some 3), (.box (.tmp 1)), none, []⟩, ⟨(some 4), (.alloc [(.int .u64 0), (.int .u64 0)]), none, []⟩]) (.seq (.ops [⟨(some 5), (.fAddr 0 (.tmp 2)), none, []⟩, ⟨(some 6), (.load1 (.tmp 5)), none, []⟩, ⟨(some 7), (.fAddr 0 (.tmp 3)), none, []⟩, ⟨(some 8), (.load1 (.tmp 7)), none, []⟩, ⟨(some 9), (.bin .xor (.tmp 6) (.tmp 8)), none, []⟩, ⟨(some 10), (.fAddr 1 (.tmp 2)), none, []⟩, ⟨(some 11), (.load1 (.tmp 10)), none, []⟩, ⟨(some 12), (.fAddr 1 (.tmp 3)), none, []⟩, ⟨(some 13), (.load1 (.tmp 12)), none, []⟩, ⟨(some 14), (.bin .xor (.tmp 11) (.tmp 13)), none, []⟩, ⟨(some 15), (.build [(.int .u64 0), (.int .u64 0)] [(0, (1, (.tmp 9))), (1, (1, (.tmp 14)))]), none, []⟩, ⟨none, (.store 2 (.tmp 4) (.tmp 15)), none, []⟩]) .ret)) [(.cellN 4 2)])
def g94 : AFunc := (.code 6 (.seq (.ops [⟨(some 2), (.mov (.const (.int .i64 0))), none, []⟩]) (.seq (.ops [⟨(some 3), (.mov (.tmp 0)), none, []⟩, ⟨(some 4), (.callv (.func 95) [(.tmp 3)]), none, []⟩, ⟨(some 5), (.bin .sub (.const (.int .i64 64)) (.tmp 4)), none, []⟩, ⟨(some 2), (.mov (.tmp 5)), none, []⟩]) .ret)) [(.tmp 2)])
def g95 : AFunc := (.code 25 (.seq (.ops [⟨(some 2), (.mov (.const (.int .i64 0))), none, []⟩]) (.seq (.seq (.ops [⟨(some 3), (.mov (.tmp 0)), none, []⟩, ⟨(some 4), (.bin .geq (.tmp 3) (.const (.int .u64 4294967296))), none, []⟩]) (.cond (.tmp 4) (.seq (.ops [⟨(some 5), (.mov (.tmp 0)), none, []⟩, ⟨(some 6), (.bin .shr (.tmp 5) (.const (.int .u64 32))), none, []⟩, ⟨(some 0), (.mov (.tmp 6)), none, []⟩]) (.ops [⟨(some 2), (.mov (.const (.int .i64 32))), none, []⟩])) .skip)) (.seq (.seq (.ops [⟨(some 7), (.mov (.tmp 0)), none, []⟩, ⟨(some 8), (.bin .geq (.tmp 7) (.const (.int .u64 65536))), none, []⟩]) (.cond (.tmp 8) (.seq (.ops [⟨(some 9), (.mov (.tmp 0)), none, []⟩, ⟨(some 10), (.bin .shr (.tmp 9) (.const (.int .u64 16))), none, []⟩, ⟨(some 0), (.mov (.tmp 10)), none, []⟩]) (.ops [⟨(some 11), (.mov (.tmp 2)), none, []⟩, ⟨(some 12), (.bin .add (.tmp 11) (.const (.int .i64 16))), none, []⟩, ⟨(some 2), (.mov (.tmp 12)), none, []⟩])) .skip)) (.seq (.seq (.ops [⟨(some 13), (.mov (.tmp 0)), none, []⟩, ⟨(some 14), (.bin .geq (.tmp 13) (.const (.int .u64 256))), none, []⟩]) (.cond (.tmp 14) (.seq (.ops [⟨(some 15), (.mov (.tmp 0)), none, []⟩, ⟨(some 16), (.bin .shr (.tmp 15) (.const (.int .u64 8))), none, []⟩, ⟨(some 0), (.mov (.tmp 16)), none, []⟩]) (.ops [⟨(some 17), (.mov (.tmp 2)), none, []⟩, ⟨(some 18), (.bin .add (.tmp 17) (.const (.int .i64 8))), none, []⟩, ⟨(some 2), (.mov (.tmp 18)), none, []⟩])) .skip)) (.seq (.ops [⟨(some 19), (.mov (.tmp 2)), none, []⟩, ⟨(some 20), (.mov (.tmp 0)), none, []⟩, ⟨(some 21), (.conv .u8 (.tmp 20)), none, []⟩, ⟨(some 22), (.idxStr (.const (.string (bs [0, 1, 2, 2, 3, 3, 3, 3, 4, 4, 4, 4, 4, 4, 4, 4, 5, 5, 5, 5, 5, 5, 5, 5, 5, 5, 5, 5, 5, 5, 5, 5, 6, 6, 6, 6, 6, 6, 6, 6, 6, 6, 6, 6, 6, 6, 6, 6, 6, 6, 6, 6, 6, 6, 6, 6, 6, 6, 6, 6, 6, 6, 6, 6, 7, 7, 7, 7, 7, 7, 7, 7, 7, 7, 7, 7, 7, 7, 7, 7, 7, 7, 7, 7, 7, 7, 7, 7, 7, 7, 7, 7, 7, 7, 7, 7, 7, 7, 7, 7, 7, 7, 7, 7, 7, 7, 7, 7, 7, 7, 7, 7, 7, 7, 7, 7, 7, 7, 7, 7, 7, 7, 7, 7, 7, 7, 7, 7, 8, 8, 8, 8, 8, 8, 8, 8, 8, 8, 8, 8, 8, 8, 8, 8, 8, 8, 8, 8, 8, 8, 8, 8, 8, 8, 8, 8, 8, 8, 8, 8, 8, 8, 8, 8, 8, 8, 8, 8, 8, 8, 8, 8, 8, 8, 8, 8, 8, 8, 8, 8, 8, 8, 8, 8, 8, 8, 8, 8, 8, 8, 8, 8, 8, 8, 8, 8, 8, 8, 8, 8, 8, 8, 8, 8, 8, 8, 8, 8, 8, 8, 8, 8, 8, 8, 8, 8, 8, 8, 8, 8, 8, 8, 8, 8, 8, 8, 8, 8, 8, 8, 8, 8, 8, 8, 8, 8, 8, 8, 8, 8, 8, 8, 8, 8, 8, 8, 8, 8, 8, 8, 8, 8, 8, 8, 8, 8]))) (.tmp 21)), none, []⟩, ⟨(some 23), (.conv .i64 (.tmp 22)), none, []⟩, ⟨(some 24), (.bin .add (.tmp 19) (.tmp 23)), none, []⟩, ⟨(some 2), (.mov (.tmp 24)), none, []⟩]) .ret))))) [(.tmp 2)])
end Go.Proofs.Yticgkaanaimllaa.Ev

/- The table of the evaluator's functions; each is what the program's own function is laid as. Conditions: none. -/
namespace Go.Proofs.Yticgkaanaimllaa.Ev
set_option maxRecDepth 100000
noncomputable def T : Pg := ⟨Try.prog, Try.prog.globals.size⟩
theorem follows : T.P.follows .mixedOrders = true := by kernel_rfl
theorem t5 : Laid T 5 g5 := ⟨Try.f5, Try.func5, by kernel_rfl⟩
theorem t9 : Laid T 9 g9 := ⟨Try.f9, Try.func9, by kernel_rfl⟩
theorem t10 : Laid T 10 g10 := ⟨Try.f10, Try.func10, by kernel_rfl⟩
theorem t11 : Laid T 11 g11 := ⟨Try.f11, Try.func11, by kernel_rfl⟩
theorem t12 : Laid T 12 g12 := ⟨Try.f12, Try.func12, by kernel_rfl⟩
theorem t13 : Laid T 13 g13 := ⟨Try.f13, Try.func13, by kernel_rfl⟩
theorem t14 : Laid T 14 g14 := ⟨Try.f14, Try.func14, by kernel_rfl⟩
theorem t15 : Laid T 15 g15 := ⟨Try.f15, Try.func15, by kernel_rfl⟩
theorem t16 : Laid T 16 g16 := ⟨Try.f16, Try.func16, by kernel_rfl⟩
theorem t17 : Laid T 17 g17 := ⟨Try.f17, Try.func17, by kernel_rfl⟩
theorem t18 : Laid T 18 g18 := ⟨Try.f18, Try.func18, by kernel_rfl⟩
theorem t19 : Laid T 19 g19 := ⟨Try.f19, Try.func19, by kernel_rfl⟩
theorem t20 : Laid T 20 g20 := ⟨Try.f20, Try.func20, by kernel_rfl⟩
theorem t21 : Laid T 21 g21 := ⟨Try.f21, Try.func21, by kernel_rfl⟩
theorem t22 : Laid T 22 g22 := ⟨Try.f22, Try.func22, by kernel_rfl⟩
theorem t23 : Laid T 23 g23 := ⟨Try.f23, Try.func23, by kernel_rfl⟩
theorem t24 : Laid T 24 g24 := ⟨Try.f24, Try.func24, by kernel_rfl⟩
theorem t25 : Laid T 25 g25 := ⟨Try.f25, Try.func25, by kernel_rfl⟩
theorem t26 : Laid T 26 g26 := ⟨Try.f26, Try.func26, by kernel_rfl⟩
theorem t27 : Laid T 27 g27 := ⟨Try.f27, Try.func27, by kernel_rfl⟩
theorem t35 : Laid T 35 g35 := ⟨Try.f35, Try.func35, by kernel_rfl⟩
theorem t38 : Laid T 38 g38 := ⟨Try.f38, Try.func38, by kernel_rfl⟩
theorem t39 : Laid T 39 g39 := ⟨Try.f39, Try.func39, by kernel_rfl⟩
theorem t40 : Laid T 40 g40 := ⟨Try.f40, Try.func40, by kernel_rfl⟩
theorem t41 : Laid T 41 g41 := ⟨Try.f41, Try.func41, by kernel_rfl⟩
theorem t42 : Laid T 42 g42 := ⟨Try.f42, Try.func42, by kernel_rfl⟩
theorem t43 : Laid T 43 g43 := ⟨Try.f43, Try.func43, by kernel_rfl⟩
theorem t44 : Laid T 44 g44 := ⟨Try.f44, Try.func44, by kernel_rfl⟩
theorem t45 : Laid T 45 g45 := ⟨Try.f45, Try.func45, by kernel_rfl⟩
theorem t46 : Laid T 46 g46 := ⟨Try.f46, Try.func46, by kernel_rfl⟩
theorem t47 : Laid T 47 g47 := ⟨Try.f47, Try.func47, by kernel_rfl⟩
theorem t48 : Laid T 48 g48 := ⟨Try.f48, Try.func48, by kernel_rfl⟩
theorem t49 : Laid T 49 g49 := ⟨Try.f49, Try.func49, by kernel_rfl⟩
theorem t50 : Laid T 50 g50 := ⟨Try.f50, Try.func50, by kernel_rfl⟩
theorem t51 : Laid T 51 g51 := ⟨Try.f51, Try.func51, by kernel_rfl⟩
theorem t52 : Laid T 52 g52 := ⟨Try.f52, Try.func52, by kernel_rfl⟩
theorem t53 : Laid T 53 g53 := ⟨Try.f53, Try.func53, by kernel_rfl⟩
theorem t54 : Laid T 54 g54 := ⟨Try.f54, Try.func54, by kernel_rfl⟩
theorem t55 : Laid T 55 g55 := ⟨Try.f55, Try.func55, by kernel_rfl⟩
theorem t56 : Laid T 56 g56 := ⟨Try.f56, Try.func56, by kernel_rfl⟩
theorem t57 : Laid T 57 g57 := ⟨Try.f57, Try.func57, by kernel_rfl⟩
theorem t58 : Laid T 58 g58 := ⟨Try.f58, Try.func58, by kernel_rfl⟩
theorem t59 : Laid T 59 g59 := ⟨Try.f59, Try.func59, by kernel_rfl⟩
theorem t70 : Laid T 70 g70 := ⟨Try.f70, Try.func70, by kernel_rfl⟩
theorem t71 : Laid T 71 g71 := ⟨Try.f71, Try.func71, by kernel_rfl⟩
theorem t72 : Laid T 72 g72 := ⟨Try.f72, Try.func72, by kernel_rfl⟩
theorem t73 : Laid T 73 g73 := ⟨Try.f73, Try.func73, by kernel_rfl⟩
theorem t74 : Laid T 74 g74 := ⟨Try.f74, Try.func74, by kernel_rfl⟩
theorem t75 : Laid T 75 g75 := ⟨Try.f75, Try.func75, by kernel_rfl⟩
theorem t76 : Laid T 76 g76 := ⟨Try.f76, Try.func76, by kernel_rfl⟩
theorem t77 : Laid T 77 g77 := ⟨Try.f77, Try.func77, by kernel_rfl⟩
theorem t78 : Laid T 78 g78 := ⟨Try.f78, Try.func78, by kernel_rfl⟩
theorem t79 : Laid T 79 g79 := ⟨Try.f79, Try.func79, by kernel_rfl⟩
theorem t80 : Laid T 80 g80 := ⟨Try.f80, Try.func80, by kernel_rfl⟩
theorem t81 : Laid T 81 g81 := ⟨Try.f81, Try.func81, by kernel_rfl⟩
theorem t82 : Laid T 82 g82 := ⟨Try.f82, Try.func82, by kernel_rfl⟩
theorem t83 : Laid T 83 g83 := ⟨Try.f83, Try.func83, by kernel_rfl⟩
theorem t84 : Laid T 84 g84 := ⟨Try.f84, Try.func84, by kernel_rfl⟩
theorem t85 : Laid T 85 g85 := ⟨Try.f85, Try.func85, by kernel_rfl⟩
theorem t88 : Laid T 88 g88 := ⟨Try.f88, Try.func88, by kernel_rfl⟩
theorem t89 : Laid T 89 g89 := ⟨Try.f89, Try.func89, by kernel_rfl⟩
theorem t90 : Laid T 90 g90 := ⟨Try.f90, Try.func90, by kernel_rfl⟩
theorem t91 : Laid T 91 g91 := ⟨Try.f91, Try.func91, by kernel_rfl⟩
theorem t92 : Laid T 92 g92 := ⟨Try.f92, Try.func92, by kernel_rfl⟩
theorem t93 : Laid T 93 g93 := ⟨Try.f93, Try.func93, by kernel_rfl⟩
theorem t94 : Laid T 94 g94 := ⟨Try.f94, Try.func94, by kernel_rfl⟩
theorem t95 : Laid T 95 g95 := ⟨Try.f95, Try.func95, by kernel_rfl⟩
def Tab : Table := fun f =>
  match f with
  | 5 => some g5
  | 9 => some g9
  | 10 => some g10
  | 11 => some g11
  | 12 => some g12
  | 13 => some g13
  | 14 => some g14
  | 15 => some g15
  | 16 => some g16
  | 17 => some g17
  | 18 => some g18
  | 19 => some g19
  | 20 => some g20
  | 21 => some g21
  | 22 => some g22
  | 23 => some g23
  | 24 => some g24
  | 25 => some g25
  | 26 => some g26
  | 27 => some g27
  | 35 => some g35
  | 38 => some g38
  | 39 => some g39
  | 40 => some g40
  | 41 => some g41
  | 42 => some g42
  | 43 => some g43
  | 44 => some g44
  | 45 => some g45
  | 46 => some g46
  | 47 => some g47
  | 48 => some g48
  | 49 => some g49
  | 50 => some g50
  | 51 => some g51
  | 52 => some g52
  | 53 => some g53
  | 54 => some g54
  | 55 => some g55
  | 56 => some g56
  | 57 => some g57
  | 58 => some g58
  | 59 => some g59
  | 70 => some g70
  | 71 => some g71
  | 72 => some g72
  | 73 => some g73
  | 74 => some g74
  | 75 => some g75
  | 76 => some g76
  | 77 => some g77
  | 78 => some g78
  | 79 => some g79
  | 80 => some g80
  | 81 => some g81
  | 82 => some g82
  | 83 => some g83
  | 84 => some g84
  | 85 => some g85
  | 88 => some g88
  | 89 => some g89
  | 90 => some g90
  | 91 => some g91
  | 92 => some g92
  | 93 => some g93
  | 94 => some g94
  | 95 => some g95
  | _ => none
theorem table_ok : TableOK T.P T.G Tab := by
  intro f af h
  unfold Tab at h
  split at h
  · cases h; exact t5
  · cases h; exact t9
  · cases h; exact t10
  · cases h; exact t11
  · cases h; exact t12
  · cases h; exact t13
  · cases h; exact t14
  · cases h; exact t15
  · cases h; exact t16
  · cases h; exact t17
  · cases h; exact t18
  · cases h; exact t19
  · cases h; exact t20
  · cases h; exact t21
  · cases h; exact t22
  · cases h; exact t23
  · cases h; exact t24
  · cases h; exact t25
  · cases h; exact t26
  · cases h; exact t27
  · cases h; exact t35
  · cases h; exact t38
  · cases h; exact t39
  · cases h; exact t40
  · cases h; exact t41
  · cases h; exact t42
  · cases h; exact t43
  · cases h; exact t44
  · cases h; exact t45
  · cases h; exact t46
  · cases h; exact t47
  · cases h; exact t48
  · cases h; exact t49
  · cases h; exact t50
  · cases h; exact t51
  · cases h; exact t52
  · cases h; exact t53
  · cases h; exact t54
  · cases h; exact t55
  · cases h; exact t56
  · cases h; exact t57
  · cases h; exact t58
  · cases h; exact t59
  · cases h; exact t70
  · cases h; exact t71
  · cases h; exact t72
  · cases h; exact t73
  · cases h; exact t74
  · cases h; exact t75
  · cases h; exact t76
  · cases h; exact t77
  · cases h; exact t78
  · cases h; exact t79
  · cases h; exact t80
  · cases h; exact t81
  · cases h; exact t82
  · cases h; exact t83
  · cases h; exact t84
  · cases h; exact t85
  · cases h; exact t88
  · cases h; exact t89
  · cases h; exact t90
  · cases h; exact t91
  · cases h; exact t92
  · cases h; exact t93
  · cases h; exact t94
  · cases h; exact t95
  · cases h
end Go.Proofs.Yticgkaanaimllaa.Ev

/- Values of 128 bits as two words: plain laws of bits. -/
namespace Go.Proofs.Yticgkaanaimllaa.Ev
set_option maxRecDepth 100000
set_option linter.unusedSimpArgs false
set_option linter.unusedVariables false

def W64 : Nat := 2 ^ 64
theorem W64_eq : W64 = 18446744073709551616 := rfl

theorem wr_u64n (n : Nat) : IntKind.wrap .u64 (n : Int) = ((n % W64 : Nat) : Int) := by
  simp [IntKind.wrap, IntKind.signed, IntKind.bits, W64]

theorem bin_shr64 {k' : IntKind} {a b : Nat} (hb : b ≤ 64) : binV .shr (.int .u64 (a : Int)) (.int k' (b : Int)) = some (.int .u64 ((a >>> b : Nat) : Int)) := by
  have e : pr (Op.shift .shr .u64 (a : Int) k' (b : Int)) = some (.int .u64 ((a : Int).fdiv (2 ^ min b 64))) := by
    simp only [Op.shift, if_neg (show ¬ ((b : Int) < 0) by omega), Int.toNat_natCast]
    rfl
  simp only [binV, intBin, if_neg (show ¬ ((b : Int) < 0) by omega), e, Nat.min_eq_left hb]
  rw [Int.fdiv_eq_ediv_of_nonneg _ (by exact_mod_cast Nat.zero_le _), Nat.shiftRight_eq_div_pow]
  norm_cast

theorem bin_shl64 {k' : IntKind} {a b : Nat} (hb : b ≤ 64) : binV .shl (.int .u64 (a : Int)) (.int k' (b : Int)) = some (.int .u64 (((a <<< b) % W64 : Nat) : Int)) := by
  have e : pr (Op.shift .shl .u64 (a : Int) k' (b : Int)) = some (.int .u64 (IntKind.wrap .u64 ((a : Int) * (2 ^ min b 64)))) := by
    simp only [Op.shift, if_neg (show ¬ ((b : Int) < 0) by omega), Int.toNat_natCast]
    rfl
  simp only [binV, intBin, if_neg (show ¬ ((b : Int) < 0) by omega), e, Nat.min_eq_left hb]
  rw [show ((a : Int) * 2 ^ b) = ((a * 2 ^ b : Nat) : Int) by norm_cast, wr_u64n, Nat.shiftLeft_eq]

theorem ofInt_nat (a : Nat) : (BitVec.ofInt IntKind.u64.bits (a : Int)).toNat = a % W64 := by
  rw [BitVec.ofInt_natCast, BitVec.toNat_ofNat]
  rfl

theorem bin_and64 {a b : Nat} (ha : a < 18446744073709551616) (hb : b < 18446744073709551616) : binV .and (.int .u64 (a : Int)) (.int .u64 (b : Int)) = some (.int .u64 ((a &&& b : Nat) : Int)) := by
  have e : pr (Op.intBits .and .u64 (a : Int) (b : Int)) = some (.int .u64 (IntKind.wrap .u64 ((BitVec.ofInt IntKind.u64.bits (a : Int) &&& BitVec.ofInt IntKind.u64.bits (b : Int)).toNat : Int))) := rfl
  simp only [binV, intBin, if_true, e]
  rw [BitVec.toNat_and, ofInt_nat, ofInt_nat, W64, Nat.mod_eq_of_lt (by omega), Nat.mod_eq_of_lt (by omega), wr_u64n, Nat.mod_eq_of_lt]
  exact Nat.lt_of_le_of_lt Nat.and_le_left ha
theorem bin_or64 {a b : Nat} (ha : a < 18446744073709551616) (hb : b < 18446744073709551616) : binV .or (.int .u64 (a : Int)) (.int .u64 (b : Int)) = some (.int .u64 ((a ||| b : Nat) : Int)) := by
  have e : pr (Op.intBits .or .u64 (a : Int) (b : Int)) = some (.int .u64 (IntKind.wrap .u64 ((BitVec.ofInt IntKind.u64.bits (a : Int) ||| BitVec.ofInt IntKind.u64.bits (b : Int)).toNat : Int))) := rfl
  simp only [binV, intBin, if_true, e]
  rw [BitVec.toNat_or, ofInt_nat, ofInt_nat, W64, Nat.mod_eq_of_lt (by omega), Nat.mod_eq_of_lt (by omega), wr_u64n, Nat.mod_eq_of_lt]
  exact Nat.or_lt_two_pow (n := 64) ha hb
theorem bin_xor64 {a b : Nat} (ha : a < 18446744073709551616) (hb : b < 18446744073709551616) : binV .xor (.int .u64 (a : Int)) (.int .u64 (b : Int)) = some (.int .u64 ((a ^^^ b : Nat) : Int)) := by
  have e : pr (Op.intBits .xor .u64 (a : Int) (b : Int)) = some (.int .u64 (IntKind.wrap .u64 ((BitVec.ofInt IntKind.u64.bits (a : Int) ^^^ BitVec.ofInt IntKind.u64.bits (b : Int)).toNat : Int))) := rfl
  simp only [binV, intBin, if_true, e]
  rw [BitVec.toNat_xor, ofInt_nat, ofInt_nat, W64, Nat.mod_eq_of_lt (by omega), Nat.mod_eq_of_lt (by omega), wr_u64n, Nat.mod_eq_of_lt]
  exact Nat.xor_lt_two_pow (n := 64) ha hb

/-! Two words. -/
theorem hi_lt {v : Nat} (h : v < 2 ^ 128) : v / W64 < 18446744073709551616 := by
  rw [W64_eq]
  have : (2 : Nat) ^ 128 = 18446744073709551616 * 18446744073709551616 := by decide
  omega
theorem lo_lt (v : Nat) : v % W64 < 18446744073709551616 := Nat.mod_lt _ (by decide)

theorem shr_hi {v n : Nat} : (v >>> n) / W64 = (v / W64) >>> n := by
  simp only [W64, Nat.shiftRight_eq_div_pow, Nat.div_div_eq_div_mul, Nat.mul_comm]
theorem shr_lo {v n : Nat} (hn : n ≤ 64) : (v >>> n) % W64 = ((v % W64) >>> n) ||| (((v / W64) <<< (64 - n)) % W64) := by
  refine Nat.eq_of_testBit_eq fun i => ?_
  simp only [W64, Nat.testBit_mod_two_pow, Nat.testBit_shiftRight, Nat.testBit_or, Nat.testBit_shiftLeft, Nat.testBit_div_two_pow]
  by_cases h1 : i < 64
  · by_cases h2 : n + i < 64
    · have h3 : ¬ (64 - n ≤ i) := by omega
      simp [h1, h2, h3]
    · have h3 : 64 - n ≤ i := by omega
      have h4 : i - (64 - n) + 64 = n + i := by omega
      simp [h1, h2, h3, h4]
  · have h2 : ¬ (n + i < 64) := by omega
    simp [h1, h2]
theorem shr_hi2 {v n : Nat} (hv : v < 2 ^ 128) (hn : 64 ≤ n) : (v >>> n) / W64 = 0 := by
  rw [shr_hi, Nat.shiftRight_eq_div_pow]
  have h1 := hi_lt hv
  refine Nat.div_eq_of_lt (Nat.lt_of_lt_of_le h1 ?_)
  exact Nat.pow_le_pow_right (n := 2) (by omega) hn
theorem shr_lo2 {v n : Nat} (hv : v < 2 ^ 128) (hn : 64 ≤ n) : (v >>> n) % W64 = (v / W64) >>> (n - 64) := by
  have : v >>> n = (v / W64) >>> (n - 64) := by
    rw [W64, ← Nat.shiftRight_eq_div_pow, ← Nat.shiftRight_add]
    congr 1
    omega
  rw [this]
  refine Nat.mod_eq_of_lt (Nat.lt_of_le_of_lt (Nat.shiftRight_le _ _) ?_)
  exact hi_lt hv

/-- Cut to 128 bits. -/
def shl (v n : Nat) : Nat := (v <<< n) % 2 ^ 128
theorem shl_lt (v n : Nat) : shl v n < 2 ^ 128 := Nat.mod_lt _ (by decide)
theorem testBit_shl (v n i : Nat) : (shl v n).testBit i = (decide (i < 128) && (decide (n ≤ i) && v.testBit (i - n))) := by
  simp only [shl, Nat.testBit_mod_two_pow, Nat.testBit_shiftLeft]
theorem shl_hi {v n : Nat} (hv : v < 2 ^ 128) (hn : n ≤ 64) : shl v n / W64 = (((v / W64) <<< n) % W64) ||| ((v % W64) >>> (64 - n)) := by
  refine Nat.eq_of_testBit_eq fun i => ?_
  simp only [W64, Nat.testBit_mod_two_pow, Nat.testBit_shiftRight, Nat.testBit_or, Nat.testBit_shiftLeft, Nat.testBit_div_two_pow, testBit_shl]
  by_cases h1 : i < 64
  · have h0 : i + 64 < 128 := by omega
    have h00 : n ≤ i + 64 := by omega
    by_cases h2 : n ≤ i
    · have h3 : ¬ (64 - n + i < 64) := by omega
      have h4 : i + 64 - n = i - n + 64 := by omega
      simp [h0, h00, h1, h2, h3, h4]
    · have h3 : 64 - n + i < 64 := by omega
      have h4 : i + 64 - n = 64 - n + i := by omega
      simp [h0, h00, h1, h2, h3, h4]
  · have h0 : ¬ i + 64 < 128 := by omega
    have h3 : ¬ (64 - n + i < 64) := by omega
    simp [h0, h1, h3]
theorem shl_lo {v n : Nat} (hn : n ≤ 64) : shl v n % W64 = ((v % W64) <<< n) % W64 := by
  refine Nat.eq_of_testBit_eq fun i => ?_
  simp only [W64, Nat.testBit_mod_two_pow, Nat.testBit_shiftLeft, testBit_shl]
  by_cases h1 : i < 64
  · have h0 : i < 128 := by omega
    have h2 : i - n < 64 := by omega
    simp [h0, h1, h2]
  · simp [h1]
theorem shl_hi2 {v n : Nat} (hn : 64 ≤ n) : shl v n / W64 = ((v % W64) <<< (n - 64)) % W64 := by
  refine Nat.eq_of_testBit_eq fun i => ?_
  simp only [W64, Nat.testBit_mod_two_pow, Nat.testBit_shiftLeft, Nat.testBit_div_two_pow, testBit_shl]
  by_cases h1 : i < 64
  · have h0 : i + 64 < 128 := by omega
    by_cases h2 : n ≤ i + 64
    · have h3 : n - 64 ≤ i := by omega
      have h4 : i - (n - 64) < 64 := by omega
      have h5 : i + 64 - n = i - (n - 64) := by omega
      simp [h0, h1, h2, h3, h4, h5]
    · have h3 : ¬ n - 64 ≤ i := by omega
      simp [h0, h1, h2, h3]
  · have h0 : ¬ i + 64 < 128 := by omega
    simp [h0, h1]
theorem shl_lo2 {v n : Nat} (hn : 64 ≤ n) : shl v n % W64 = 0 := by
  refine Nat.eq_of_testBit_eq fun i => ?_
  simp only [W64, Nat.testBit_mod_two_pow, testBit_shl, Nat.zero_testBit]
  by_cases h1 : i < 64
  · have h2 : ¬ n ≤ i := by omega
    simp [h1, h2]
  · simp [h1]
theorem and_hi (v w : Nat) : (v &&& w) / W64 = (v / W64) &&& (w / W64) := by
  refine Nat.eq_of_testBit_eq fun i => ?_
  simp only [W64, Nat.testBit_and, Nat.testBit_div_two_pow]
theorem and_lo (v w : Nat) : (v &&& w) % W64 = (v % W64) &&& (w % W64) := by
  refine Nat.eq_of_testBit_eq fun i => ?_
  simp only [W64, Nat.testBit_and, Nat.testBit_mod_two_pow]
  cases decide (i < 64) <;> simp
theorem xor_hi (v w : Nat) : (v ^^^ w) / W64 = (v / W64) ^^^ (w / W64) := by
  refine Nat.eq_of_testBit_eq fun i => ?_
  simp only [W64, Nat.testBit_xor, Nat.testBit_div_two_pow]
theorem xor_lo (v w : Nat) : (v ^^^ w) % W64 = (v % W64) ^^^ (w % W64) := by
  refine Nat.eq_of_testBit_eq fun i => ?_
  simp only [W64, Nat.testBit_xor, Nat.testBit_mod_two_pow]
  cases decide (i < 64) <;> simp
theorem two_words {v w : Nat} : v = w ↔ v / W64 = w / W64 ∧ v % W64 = w % W64 :=
  ⟨fun h => by rw [h]; exact ⟨rfl, rfl⟩, fun h => by rw [← Nat.div_add_mod v W64, ← Nat.div_add_mod w W64, h.1, h.2]⟩

end Go.Proofs.Yticgkaanaimllaa.Ev

/- Values of 128 bits: the program's functions over them. -/
namespace Go.Proofs.Yticgkaanaimllaa.Ev
set_option maxRecDepth 100000
set_option linter.unusedSimpArgs false
set_option linter.unusedVariables false
variable {R : FRes → Heap → Prop} {H : Heap}

abbrev bvA (v : Nat) : Value := .agg #[.int .u64 ((v / W64 : Nat) : Int), .int .u64 ((v % W64 : Nat) : Int)]
theorem scoped_bv {n : Nat} (v : Nat) : Scoped n (bvA v) := .closed rfl

/-- Is it a width? -/
def isw (w : Int) : Bool := decide (1 ≤ w) && decide (w ≤ 128)

theorem isw_s {w : Int} (h : R (.ret (.bool (isw w))) H) : WD T 88 [.int .i64 w] H R := by
  refine WD.gc0 (WD.of follows t88 (by simp) ?_)
  unfold isw at h
  by_cases h1 : 1 ≤ w
  · by_cases h2 : w ≤ 128
    · simp (disch := omega) only [kB, kcx, kdm, kdn, kel, aop, resultsL, resultOf, Nat.reduceEqDiff, reduceCtorEq, eq1, apartOK, apart2, AObj.live, Int.reduceEq, Int.reduceLT, Int.reduceLE, Int.reduceAdd, Int.reduceSub, Int.reduceMul, Int.reduceToNat, cutCells, Nat.reduceAdd, Nat.reduceLeDiff, Nat.reduceLT, Nat.reduceMul, Nat.reduceSub, h1, h2]
      simp only [h1, h2, decide_true, Bool.and_self] at h
      exact ⟨_, rfl, ⟨[], (List.append_nil _).symm⟩, .closed rfl, h⟩
    · simp (disch := omega) only [kB, kcx, kdm, kdn, kel, aop, resultsL, resultOf, Nat.reduceEqDiff, reduceCtorEq, eq1, apartOK, apart2, AObj.live, Int.reduceEq, Int.reduceLT, Int.reduceLE, Int.reduceAdd, Int.reduceSub, Int.reduceMul, Int.reduceToNat, cutCells, Nat.reduceAdd, Nat.reduceLeDiff, Nat.reduceLT, Nat.reduceMul, Nat.reduceSub, h1, h2]
      simp only [h1, h2, decide_true, decide_false, Bool.and_false] at h
      exact ⟨_, rfl, ⟨[], (List.append_nil _).symm⟩, .closed rfl, h⟩
  · simp (disch := omega) only [kB, kcx, kdm, kdn, kel, aop, resultsL, resultOf, Nat.reduceEqDiff, reduceCtorEq, eq1, apartOK, apart2, AObj.live, Int.reduceEq, Int.reduceLT, Int.reduceLE, Int.reduceAdd, Int.reduceSub, Int.reduceMul, Int.reduceToNat, cutCells, Nat.reduceAdd, Nat.reduceLeDiff, Nat.reduceLT, Nat.reduceMul, Nat.reduceSub, h1]
    simp only [h1, decide_false, Bool.false_and] at h
    exact ⟨_, rfl, ⟨[], (List.append_nil _).symm⟩, .closed rfl, h⟩

theorem right_s {v n : Nat} (hv : v < 2 ^ 128) (hn : n ≤ 128) (h : R (.ret (bvA (v >>> n))) H) : WD T 89 [bvA v, .int .i64 n] H R := by
  refine WD.gc0 (WD.of follows t89 (by simp) ?_)
  have b1 := hi_lt hv
  have b2 := lo_lt v
  by_cases h1 : 64 ≤ n
  · have h1' : (64 : Int) ≤ (n : Int) := by omega
    have e := bin_shr64 (k' := .i64) (a := v / W64) (b := n - 64) (by omega)
    have e2 : ((n - 64 : Nat) : Int) = (n : Int) - 64 := by omega
    rw [e2] at e
    rw [bvA, shr_hi2 hv h1, shr_lo2 hv h1] at h
    simp (disch := omega) only [kB, kcx, kdm, kdn, kel, aop, resultsL, resultOf, Nat.reduceEqDiff, reduceCtorEq, eq1, apartOK, apart2, AObj.live, Int.reduceEq, Int.reduceLT, Int.reduceLE, Int.reduceAdd, Int.reduceSub, Int.reduceMul, Int.reduceToNat, cutCells, Nat.reduceAdd, Nat.reduceLeDiff, Nat.reduceLT, Nat.reduceMul, Nat.reduceSub, h1', wr_i64, e]
    exact ⟨_, rfl, ⟨_, rfl⟩, .closed rfl, h⟩
  · have h1' : ¬ (64 : Int) ≤ (n : Int) := by omega
    have e1 := bin_shr64 (k' := .i64) (a := v / W64) (b := n) (by omega)
    have e2 := bin_shr64 (k' := .i64) (a := v % W64) (b := n) (by omega)
    have e3 := bin_shl64 (k' := .i64) (a := v / W64) (b := 64 - n) (by omega)
    have e4 : ((64 - n : Nat) : Int) = 64 - (n : Int) := by omega
    rw [e4] at e3
    have e5 := bin_or64 (a := (v % W64) >>> n) (b := ((v / W64) <<< (64 - n)) % W64) (Nat.lt_of_le_of_lt (Nat.shiftRight_le _ _) b2) (lo_lt _)
    rw [bvA, shr_hi, shr_lo (by omega)] at h
    simp (disch := omega) only [kB, kcx, kdm, kdn, kel, aop, resultsL, resultOf, Nat.reduceEqDiff, reduceCtorEq, eq1, apartOK, apart2, AObj.live, Int.reduceEq, Int.reduceLT, Int.reduceLE, Int.reduceAdd, Int.reduceSub, Int.reduceMul, Int.reduceToNat, cutCells, Nat.reduceAdd, Nat.reduceLeDiff, Nat.reduceLT, Nat.reduceMul, Nat.reduceSub, h1', wr_i64, e1, e2, e3, e5]
    exact ⟨_, rfl, ⟨_, rfl⟩, .closed rfl, h⟩

theorem left_s {v n : Nat} (hv : v < 2 ^ 128) (hn : n ≤ 128) (h : R (.ret (bvA (shl v n))) H) : WD T 90 [bvA v, .int .i64 n] H R := by
  refine WD.gc0 (WD.of follows t90 (by simp) ?_)
  have b1 := hi_lt hv
  have b2 := lo_lt v
  by_cases h1 : 64 ≤ n
  · have h1' : (64 : Int) ≤ (n : Int) := by omega
    have e := bin_shl64 (k' := .i64) (a := v % W64) (b := n - 64) (by omega)
    have e2 : ((n - 64 : Nat) : Int) = (n : Int) - 64 := by omega
    rw [e2] at e
    rw [bvA, shl_hi2 h1, shl_lo2 h1] at h
    simp (disch := omega) only [kB, kcx, kdm, kdn, kel, aop, resultsL, resultOf, Nat.reduceEqDiff, reduceCtorEq, eq1, apartOK, apart2, AObj.live, Int.reduceEq, Int.reduceLT, Int.reduceLE, Int.reduceAdd, Int.reduceSub, Int.reduceMul, Int.reduceToNat, cutCells, Nat.reduceAdd, Nat.reduceLeDiff, Nat.reduceLT, Nat.reduceMul, Nat.reduceSub, h1', wr_i64, e]
    exact ⟨_, rfl, ⟨_, rfl⟩, .closed rfl, h⟩
  · have h1' : ¬ (64 : Int) ≤ (n : Int) := by omega
    have e1 := bin_shl64 (k' := .i64) (a := v / W64) (b := n) (by omega)
    have e2 := bin_shr64 (k' := .i64) (a := v % W64) (b := 64 - n) (by omega)
    have e3 := bin_shl64 (k' := .i64) (a := v % W64) (b := n) (by omega)
    have e4 : ((64 - n : Nat) : Int) = 64 - (n : Int) := by omega
    rw [e4] at e2
    have e5 := bin_or64 (a := ((v / W64) <<< n) % W64) (b := (v % W64) >>> (64 - n)) (lo_lt _) (Nat.lt_of_le_of_lt (Nat.shiftRight_le _ _) b2)
    rw [bvA, shl_hi hv (by omega), shl_lo (by omega)] at h
    simp (disch := omega) only [kB, kcx, kdm, kdn, kel, aop, resultsL, resultOf, Nat.reduceEqDiff, reduceCtorEq, eq1, apartOK, apart2, AObj.live, Int.reduceEq, Int.reduceLT, Int.reduceLE, Int.reduceAdd, Int.reduceSub, Int.reduceMul, Int.reduceToNat, cutCells, Nat.reduceAdd, Nat.reduceLeDiff, Nat.reduceLT, Nat.reduceMul, Nat.reduceSub, h1', wr_i64, e1, e2, e3, e5]
    exact ⟨_, rfl, ⟨_, rfl⟩, .closed rfl, h⟩

def onesN (n : Nat) : Nat := 2 ^ n - 1
theorem ones_shr {n : Nat} (hn : n ≤ 128) : (2 ^ 128 - 1) >>> (128 - n) = onesN n := by
  rw [Nat.shiftRight_eq_div_pow, onesN]
  have h1 : 2 ^ 128 = 2 ^ n * 2 ^ (128 - n) := by rw [← Nat.pow_add]; congr 1; omega
  have h2 : 0 < 2 ^ (128 - n) := Nat.pow_pos (by decide)
  have h3 : 0 < 2 ^ n := Nat.pow_pos (by decide)
  rw [h1]
  refine Nat.div_eq_of_lt_le ?_ ?_
  · rw [Nat.sub_mul, Nat.one_mul]; omega
  · rw [Nat.add_mul, Nat.sub_mul, Nat.one_mul]
    have : 2 ^ (128 - n) ≤ 2 ^ n * 2 ^ (128 - n) := Nat.le_mul_of_pos_left _ h3
    omega
theorem onesN_lt {n : Nat} (hn : n ≤ 128) : onesN n < 2 ^ 128 := by
  have := Nat.pow_le_pow_right (n := 2) (by omega) hn
  have h3 : 0 < 2 ^ n := Nat.pow_pos (by decide)
  unfold onesN
  omega

theorem ones_s {n : Nat} (hn : n ≤ 128) (h : R (.ret (bvA (onesN n))) H) : WD T 91 [.int .i64 n] H R := by
  refine WD.gc0 (WD.of follows t91 (by simp) ?_)
  have e1 : (128 : Int) - (n : Int) = ((128 - n : Nat) : Int) := by omega
  simp (disch := omega) only [kB, kcx, kdm, kdn, kel, aop, resultsL, resultOf, Nat.reduceEqDiff, reduceCtorEq, eq1, apartOK, apart2, AObj.live, Int.reduceEq, Int.reduceLT, Int.reduceLE, Int.reduceAdd, Int.reduceSub, Int.reduceMul, Int.reduceToNat, cutCells, Nat.reduceAdd, Nat.reduceLeDiff, Nat.reduceLT, Nat.reduceMul, Nat.reduceSub, wr_i64, e1]
  refine right_s (v := 2 ^ 128 - 1) (n := 128 - n) (by decide) (by omega) ?_
  rw [ones_shr hn]
  simp (disch := omega) only [kB, kcx, kdm, kdn, kel, aop, resultsL, resultOf, Nat.reduceEqDiff, reduceCtorEq, eq1, apartOK, apart2, AObj.live, Int.reduceEq, Int.reduceLT, Int.reduceLE, Int.reduceAdd, Int.reduceSub, Int.reduceMul, Int.reduceToNat, cutCells, Nat.reduceAdd, Nat.reduceLeDiff, Nat.reduceLT, Nat.reduceMul, Nat.reduceSub]
  exact ⟨_, rfl, ⟨_, rfl⟩, .closed rfl, h⟩

/-- The n highest bits of a width. -/
def maskN (w n : Nat) : Nat := shl (onesN n) (w - n)

theorem mask_s {w n : Nat} (hw : 1 ≤ w) (hw2 : w ≤ 128) (hn : n ≤ w) (h : R (.ret (.tuple #[bvA (maskN w n), .int .i64 0])) H) : WD T 74 [.int .i64 w, .int .i64 n] H R := by
  refine WD.gc0 (WD.of follows t74 (by simp) ?_)
  simp (disch := omega) only [kB, kcx, kdm, kdn, kel, aop, resultsL, resultOf, Nat.reduceEqDiff, reduceCtorEq, eq1, apartOK, apart2, AObj.live, Int.reduceEq, Int.reduceLT, Int.reduceLE, Int.reduceAdd, Int.reduceSub, Int.reduceMul, Int.reduceToNat, cutCells, Nat.reduceAdd, Nat.reduceLeDiff, Nat.reduceLT, Nat.reduceMul, Nat.reduceSub]
  refine isw_s ?_
  have e0 : isw (w : Int) = true := by simp [isw]; omega
  have e1 : ¬ (n : Int) < 0 := by omega
  have e2 : ¬ (w : Int) < (n : Int) := by omega
  have e3 : (w : Int) - (n : Int) = ((w - n : Nat) : Int) := by omega
  simp (disch := omega) only [kB, kcx, kdm, kdn, kel, aop, resultsL, resultOf, Nat.reduceEqDiff, reduceCtorEq, eq1, apartOK, apart2, AObj.live, Int.reduceEq, Int.reduceLT, Int.reduceLE, Int.reduceAdd, Int.reduceSub, Int.reduceMul, Int.reduceToNat, cutCells, Nat.reduceAdd, Nat.reduceLeDiff, Nat.reduceLT, Nat.reduceMul, Nat.reduceSub, e0, e1, e2]
  refine ones_s (by omega) ?_
  simp (disch := omega) only [kB, kcx, kdm, kdn, kel, aop, resultsL, resultOf, Nat.reduceEqDiff, reduceCtorEq, eq1, apartOK, apart2, AObj.live, Int.reduceEq, Int.reduceLT, Int.reduceLE, Int.reduceAdd, Int.reduceSub, Int.reduceMul, Int.reduceToNat, cutCells, Nat.reduceAdd, Nat.reduceLeDiff, Nat.reduceLT, Nat.reduceMul, Nat.reduceSub, wr_i64, e3]
  refine left_s (onesN_lt (by omega)) (by omega) ?_
  simp (disch := omega) only [kB, kcx, kdm, kdn, kel, aop, resultsL, resultOf, Nat.reduceEqDiff, reduceCtorEq, eq1, apartOK, apart2, AObj.live, Int.reduceEq, Int.reduceLT, Int.reduceLE, Int.reduceAdd, Int.reduceSub, Int.reduceMul, Int.reduceToNat, cutCells, Nat.reduceAdd, Nat.reduceLeDiff, Nat.reduceLT, Nat.reduceMul, Nat.reduceSub]
  exact ⟨_, rfl, ⟨_, rfl⟩, .tup2 (.closed rfl) (.closed rfl), h⟩

theorem and_s {v w : Nat} (hv : v < 2 ^ 128) (hw : w < 2 ^ 128) (h : R (.ret (bvA (v &&& w))) H) : WD T 75 [bvA v, bvA w] H R := by
  refine WD.gc0 (WD.of follows t75 (by simp) ?_)
  have e1 := bin_and64 (hi_lt hv) (hi_lt hw)
  have e2 := bin_and64 (lo_lt v) (lo_lt w)
  rw [bvA, and_hi, and_lo] at h
  simp (disch := omega) only [kB, kcx, kdm, kdn, kel, aop, resultsL, resultOf, Nat.reduceEqDiff, reduceCtorEq, eq1, apartOK, apart2, AObj.live, Int.reduceEq, Int.reduceLT, Int.reduceLE, Int.reduceAdd, Int.reduceSub, Int.reduceMul, Int.reduceToNat, cutCells, Nat.reduceAdd, Nat.reduceLeDiff, Nat.reduceLT, Nat.reduceMul, Nat.reduceSub, e1, e2]
  exact ⟨_, rfl, ⟨_, rfl⟩, .closed rfl, h⟩

theorem xor_s {v w : Nat} (hv : v < 2 ^ 128) (hw : w < 2 ^ 128) (h : R (.ret (bvA (v ^^^ w))) H) : WD T 93 [bvA v, bvA w] H R := by
  refine WD.gc0 (WD.of follows t93 (by simp) ?_)
  have e1 := bin_xor64 (hi_lt hv) (hi_lt hw)
  have e2 := bin_xor64 (lo_lt v) (lo_lt w)
  rw [bvA, xor_hi, xor_lo] at h
  simp (disch := omega) only [kB, kcx, kdm, kdn, kel, aop, resultsL, resultOf, Nat.reduceEqDiff, reduceCtorEq, eq1, apartOK, apart2, AObj.live, Int.reduceEq, Int.reduceLT, Int.reduceLE, Int.reduceAdd, Int.reduceSub, Int.reduceMul, Int.reduceToNat, cutCells, Nat.reduceAdd, Nat.reduceLeDiff, Nat.reduceLT, Nat.reduceMul, Nat.reduceSub, e1, e2]
  exact ⟨_, rfl, ⟨_, rfl⟩, .closed rfl, h⟩

/-! The number of a word's bits. -/
def bitLen : Nat → Nat → Nat
  | 0, _ => 0
  | k + 1, n => if n = 0 then 0 else bitLen k (n / 2) + 1

end Go.Proofs.Yticgkaanaimllaa.Ev

/- Values of 128 bits: lengths, common bits, single bits. -/
namespace Go.Proofs.Yticgkaanaimllaa.Ev
set_option maxRecDepth 100000
set_option linter.unusedSimpArgs false
set_option linter.unusedVariables false
variable {R : FRes → Heap → Prop} {H : Heap}

/-- How many bits a number has. -/
def blen (n : Nat) : Nat := if n = 0 then 0 else n.log2 + 1
theorem blen_le {n m : Nat} : blen n ≤ m ↔ n < 2 ^ m := by
  unfold blen
  by_cases h : n = 0
  · subst h
    simp
    exact Nat.pow_pos (by decide)
  · rw [if_neg h]
    exact Nat.log2_lt h
theorem blen_eq {a b : Nat} (h : ∀ m, a ≤ m ↔ b ≤ m) : a = b := Nat.le_antisymm ((h b).2 (Nat.le_refl _)) ((h a).1 (Nat.le_refl _))
theorem blen_shr (x k : Nat) : blen (x >>> k) = blen x - k := by
  refine blen_eq fun m => ?_
  rw [blen_le, Nat.shiftRight_eq_div_pow, Nat.div_lt_iff_lt_mul (Nat.pow_pos (by decide)), ← Nat.pow_add, ← blen_le]
  omega
theorem blen_ge {x k : Nat} (h : 2 ^ k ≤ x) : blen x = blen (x >>> k) + k := by
  rw [blen_shr]
  have : ¬ blen x ≤ k := fun q => absurd (blen_le.1 q) (Nat.not_lt.2 h)
  omega
theorem blen_zero : blen 0 = 0 := rfl
theorem blen_pos {x : Nat} (h : x ≠ 0) : 0 < blen x := by
  unfold blen
  rw [if_neg h]
  omega

def len8 : List UInt8 := (List.range 256).map fun n => UInt8.ofNat (blen n)
theorem len8_get {x : Nat} (h : x < 256) : len8[x]? = some (UInt8.ofNat (blen x)) := by simp [len8, h]
theorem len8_eq : len8 = [0, 1, 2, 2, 3, 3, 3, 3, 4, 4, 4, 4, 4, 4, 4, 4, 5, 5, 5, 5, 5, 5, 5, 5, 5, 5, 5, 5, 5, 5, 5, 5, 6, 6, 6, 6, 6, 6, 6, 6, 6, 6, 6, 6, 6, 6, 6, 6, 6, 6, 6, 6, 6, 6, 6, 6, 6, 6, 6, 6, 6, 6, 6, 6,
  7, 7, 7, 7, 7, 7, 7, 7, 7, 7, 7, 7, 7, 7, 7, 7, 7, 7, 7, 7, 7, 7, 7, 7, 7, 7, 7, 7, 7, 7, 7, 7, 7, 7, 7, 7, 7, 7, 7, 7, 7, 7, 7, 7, 7, 7, 7, 7, 7, 7, 7, 7, 7, 7, 7, 7, 7, 7, 7, 7, 7, 7, 7, 7,
  8, 8, 8, 8, 8, 8, 8, 8, 8, 8, 8, 8, 8, 8, 8, 8, 8, 8, 8, 8, 8, 8, 8, 8, 8, 8, 8, 8, 8, 8, 8, 8, 8, 8, 8, 8, 8, 8, 8, 8, 8, 8, 8, 8, 8, 8, 8, 8, 8, 8, 8, 8, 8, 8, 8, 8, 8, 8, 8, 8, 8, 8, 8, 8,
  8, 8, 8, 8, 8, 8, 8, 8, 8, 8, 8, 8, 8, 8, 8, 8, 8, 8, 8, 8, 8, 8, 8, 8, 8, 8, 8, 8, 8, 8, 8, 8, 8, 8, 8, 8, 8, 8, 8, 8, 8, 8, 8, 8, 8, 8, 8, 8, 8, 8, 8, 8, 8, 8, 8, 8, 8, 8, 8, 8, 8, 8, 8, 8] := by decide +kernel

abbrev QL (R : FRes → Heap → Prop) : Post := retK [.tmp 2] R

theorem len64_3 {z n : Nat} (hx : z < 256) (hn : n ≤ 56) {e : Env} (he : (∃ x : Nat → Value, e = [.int .u64 (z : Int), x 1, .int .i64 (n : Int), x 3, x 4, x 5, x 6, x 7, x 8, x 9, x 10, x 11, x 12, x 13, x 14, x 15, x 16, x 17, x 18, x 19, x 20, x 21, x 22, x 23, x 24])) (h : R (.ret (.int .i64 ((blen z + n : Nat) : Int))) H) : WC T (g95.body.at [1, 1, 1, 1]) e H (QL R) := by
  obtain ⟨y, rfl⟩ := he
  simp only [AFunc.body, g95, ACode.at]
  rw [← len8_eq]
  have h8 := len8_get hx
  have hl : len8.length = 256 := by decide +kernel
  have hb : blen z ≤ 8 := blen_le.2 hx
  have hw : IntKind.wrap .u8 (z : Int) = z := by
    simp [IntKind.wrap, IntKind.signed, IntKind.bits]
    omega
  have hu : ((UInt8.ofNat (blen z)).toNat : Int) = blen z := by
    rw [UInt8.toNat_ofNat']
    omega
  have hx' : ((z : Nat) : Int) < 256 := by omega
  have hs : (n : Int) + (blen z : Int) = ((blen z + n : Nat) : Int) := by omega
  simp (disch := omega) only [kB, kcx, kdm, kdn, kel, aop, resultsL, resultOf, Nat.reduceEqDiff, reduceCtorEq, eq1, apartOK, apart2, AObj.live, Int.reduceEq, Int.reduceLT, Int.reduceLE, Int.reduceAdd, Int.reduceSub, Int.reduceMul, Int.reduceToNat, cutCells, Nat.reduceAdd, Nat.reduceLeDiff, Nat.reduceLT, Nat.reduceMul, Nat.reduceSub, hw, hl, h8, hu, wr_i64, hs]
  exact h

theorem len64_2 {z n : Nat} (hx : z < 65536) (hn : n ≤ 48) {e : Env} (he : (∃ x : Nat → Value, e = [.int .u64 (z : Int), x 1, .int .i64 (n : Int), x 3, x 4, x 5, x 6, x 7, x 8, x 9, x 10, x 11, x 12, x 13, x 14, x 15, x 16, x 17, x 18, x 19, x 20, x 21, x 22, x 23, x 24])) (h : R (.ret (.int .i64 ((blen z + n : Nat) : Int))) H) : WC T (g95.body.at [1, 1, 1]) e H (QL R) := by
  obtain ⟨y, rfl⟩ := he
  obtain ⟨Z, hZ⟩ : ∃ Z, Z = WC T (g95.body.at [1, 1, 1, 1]) := ⟨_, rfl⟩
  have hrest : ∀ (z n : Nat) (e : Env), z < 256 → n ≤ 56 → (∃ x : Nat → Value, e = [.int .u64 (z : Int), x 1, .int .i64 (n : Int), x 3, x 4, x 5, x 6, x 7, x 8, x 9, x 10, x 11, x 12, x 13, x 14, x 15, x 16, x 17, x 18, x 19, x 20, x 21, x 22, x 23, x 24]) → R (.ret (.int .i64 ((blen z + n : Nat) : Int))) H → Z e H (QL R) := fun z n e h1 h2 he hR => by rw [hZ]; exact len64_3 h1 h2 he hR
  have hZ' := hZ.symm
  clear hZ
  simp only [AFunc.body, g95, ACode.at] at hZ' ⊢
  by_cases h1 : 256 ≤ z
  · have h1' : (256 : Int) ≤ (z : Int) := by omega
    have e1 := bin_shr64 (k' := .u64) (a := z) (b := 8) (by omega)
    have e2 : (((8 : Nat) : Int)) = 8 := rfl
    rw [e2] at e1
    have hs : (n : Int) + 8 = ((n + 8 : Nat) : Int) := by omega
    simp (disch := omega) only [kB, kcx, kdm, kdn, kel, aop, resultsL, resultOf, Nat.reduceEqDiff, reduceCtorEq, eq1, apartOK, apart2, AObj.live, Int.reduceEq, Int.reduceLT, Int.reduceLE, Int.reduceAdd, Int.reduceSub, Int.reduceMul, Int.reduceToNat, cutCells, Nat.reduceAdd, Nat.reduceLeDiff, Nat.reduceLT, Nat.reduceMul, Nat.reduceSub, hZ', h1', e1, wr_i64, hs]
    refine hrest (z >>> 8) (n + 8) _ (by rw [Nat.shiftRight_eq_div_pow]; omega) (by omega) (by exact ex_env rfl) ?_
    rw [blen_ge (k := 8) (by omega)] at h
    rwa [show blen (z >>> 8) + (n + 8) = blen (z >>> 8) + 8 + n by omega]
  · have h1' : ¬ (256 : Int) ≤ (z : Int) := by omega
    simp (disch := omega) only [kB, kcx, kdm, kdn, kel, aop, resultsL, resultOf, Nat.reduceEqDiff, reduceCtorEq, eq1, apartOK, apart2, AObj.live, Int.reduceEq, Int.reduceLT, Int.reduceLE, Int.reduceAdd, Int.reduceSub, Int.reduceMul, Int.reduceToNat, cutCells, Nat.reduceAdd, Nat.reduceLeDiff, Nat.reduceLT, Nat.reduceMul, Nat.reduceSub, hZ', h1']
    exact hrest z n _ (by omega) (by omega) (by exact ex_env rfl) h

theorem len64_1 {z n : Nat} (hx : z < 4294967296) (hn : n ≤ 32) {e : Env} (he : (∃ x : Nat → Value, e = [.int .u64 (z : Int), x 1, .int .i64 (n : Int), x 3, x 4, x 5, x 6, x 7, x 8, x 9, x 10, x 11, x 12, x 13, x 14, x 15, x 16, x 17, x 18, x 19, x 20, x 21, x 22, x 23, x 24])) (h : R (.ret (.int .i64 ((blen z + n : Nat) : Int))) H) : WC T (g95.body.at [1, 1]) e H (QL R) := by
  obtain ⟨y, rfl⟩ := he
  obtain ⟨Z, hZ⟩ : ∃ Z, Z = WC T (g95.body.at [1, 1, 1]) := ⟨_, rfl⟩
  have hrest : ∀ (z n : Nat) (e : Env), z < 65536 → n ≤ 48 → (∃ x : Nat → Value, e = [.int .u64 (z : Int), x 1, .int .i64 (n : Int), x 3, x 4, x 5, x 6, x 7, x 8, x 9, x 10, x 11, x 12, x 13, x 14, x 15, x 16, x 17, x 18, x 19, x 20, x 21, x 22, x 23, x 24]) → R (.ret (.int .i64 ((blen z + n : Nat) : Int))) H → Z e H (QL R) := fun z n e h1 h2 he hR => by rw [hZ]; exact len64_2 h1 h2 he hR
  have hZ' := hZ.symm
  clear hZ
  simp only [AFunc.body, g95, ACode.at] at hZ' ⊢
  by_cases h1 : 65536 ≤ z
  · have h1' : (65536 : Int) ≤ (z : Int) := by omega
    have e1 := bin_shr64 (k' := .u64) (a := z) (b := 16) (by omega)
    have e2 : (((16 : Nat) : Int)) = 16 := rfl
    rw [e2] at e1
    have hs : (n : Int) + 16 = ((n + 16 : Nat) : Int) := by omega
    simp (disch := omega) only [kB, kcx, kdm, kdn, kel, aop, resultsL, resultOf, Nat.reduceEqDiff, reduceCtorEq, eq1, apartOK, apart2, AObj.live, Int.reduceEq, Int.reduceLT, Int.reduceLE, Int.reduceAdd, Int.reduceSub, Int.reduceMul, Int.reduceToNat, cutCells, Nat.reduceAdd, Nat.reduceLeDiff, Nat.reduceLT, Nat.reduceMul, Nat.reduceSub, hZ', h1', e1, wr_i64, hs]
    refine hrest (z >>> 16) (n + 16) _ (by rw [Nat.shiftRight_eq_div_pow]; omega) (by omega) (by exact ex_env rfl) ?_
    rw [blen_ge (k := 16) (by omega)] at h
    rwa [show blen (z >>> 16) + (n + 16) = blen (z >>> 16) + 16 + n by omega]
  · have h1' : ¬ (65536 : Int) ≤ (z : Int) := by omega
    simp (disch := omega) only [kB, kcx, kdm, kdn, kel, aop, resultsL, resultOf, Nat.reduceEqDiff, reduceCtorEq, eq1, apartOK, apart2, AObj.live, Int.reduceEq, Int.reduceLT, Int.reduceLE, Int.reduceAdd, Int.reduceSub, Int.reduceMul, Int.reduceToNat, cutCells, Nat.reduceAdd, Nat.reduceLeDiff, Nat.reduceLT, Nat.reduceMul, Nat.reduceSub, hZ', h1']
    exact hrest z n _ (by omega) (by omega) (by exact ex_env rfl) h

theorem len64_s {z : Nat} (hx : z < 18446744073709551616) (h : R (.ret (.int .i64 (blen z : Nat))) H) : WD T 95 [.int .u64 (z : Int)] H R := by
  obtain ⟨Z, hZ⟩ : ∃ Z, Z = WC T (g95.body.at [1, 1]) := ⟨_, rfl⟩
  have hrest : ∀ (z n : Nat) (e : Env), z < 4294967296 → n ≤ 32 → (∃ x : Nat → Value, e = [.int .u64 (z : Int), x 1, .int .i64 (n : Int), x 3, x 4, x 5, x 6, x 7, x 8, x 9, x 10, x 11, x 12, x 13, x 14, x 15, x 16, x 17, x 18, x 19, x 20, x 21, x 22, x 23, x 24]) → R (.ret (.int .i64 ((blen z + n : Nat) : Int))) H → Z e H (QL R) := fun z n e h1 h2 he hR => by rw [hZ]; exact len64_1 h1 h2 he hR
  have hZ' := hZ.symm
  clear hZ
  simp only [AFunc.body, g95, ACode.at] at hZ'
  refine WD.of follows t95 (by simp) ?_
  by_cases h1 : 4294967296 ≤ z
  · have h1' : (4294967296 : Int) ≤ (z : Int) := by omega
    have e1 := bin_shr64 (k' := .u64) (a := z) (b := 32) (by omega)
    have e2 : (((32 : Nat) : Int)) = 32 := rfl
    rw [e2] at e1
    simp (disch := omega) only [kB, kcx, kdm, kdn, kel, aop, resultsL, resultOf, Nat.reduceEqDiff, reduceCtorEq, eq1, apartOK, apart2, AObj.live, Int.reduceEq, Int.reduceLT, Int.reduceLE, Int.reduceAdd, Int.reduceSub, Int.reduceMul, Int.reduceToNat, cutCells, Nat.reduceAdd, Nat.reduceLeDiff, Nat.reduceLT, Nat.reduceMul, Nat.reduceSub, hZ', h1', e1, wr_i64]
    refine hrest (z >>> 32) 32 _ (by rw [Nat.shiftRight_eq_div_pow]; omega) (by omega) (by exact ex_env rfl) ?_
    rwa [blen_ge (k := 32) (by omega)] at h
  · have h1' : ¬ (4294967296 : Int) ≤ (z : Int) := by omega
    simp (disch := omega) only [kB, kcx, kdm, kdn, kel, aop, resultsL, resultOf, Nat.reduceEqDiff, reduceCtorEq, eq1, apartOK, apart2, AObj.live, Int.reduceEq, Int.reduceLT, Int.reduceLE, Int.reduceAdd, Int.reduceSub, Int.reduceMul, Int.reduceToNat, cutCells, Nat.reduceAdd, Nat.reduceLeDiff, Nat.reduceLT, Nat.reduceMul, Nat.reduceSub, hZ', h1']
    exact hrest z 0 _ (by omega) (by omega) (by exact ex_env rfl) h

end Go.Proofs.Yticgkaanaimllaa.Ev

/- Values of 128 bits: common bits, single bits, what fits. -/
namespace Go.Proofs.Yticgkaanaimllaa.Ev
set_option maxRecDepth 100000
set_option linter.unusedSimpArgs false
set_option linter.unusedVariables false
variable {R : FRes → Heap → Prop} {H : Heap}

theorem lz_s {z : Nat} (hx : z < 18446744073709551616) (h : R (.ret (.int .i64 ((64 - blen z : Nat) : Int))) H) : WD T 94 [.int .u64 (z : Int)] H R := by
  refine WD.of follows t94 (by simp) ?_
  simp (disch := omega) only [kB, kcx, kdm, kdn, kel, aop, resultsL, resultOf, Nat.reduceEqDiff, reduceCtorEq, eq1, apartOK, apart2, AObj.live, Int.reduceEq, Int.reduceLT, Int.reduceLE, Int.reduceAdd, Int.reduceSub, Int.reduceMul, Int.reduceToNat, cutCells, Nat.reduceAdd, Nat.reduceLeDiff, Nat.reduceLT, Nat.reduceMul, Nat.reduceSub]
  refine len64_s hx ?_
  have hb : blen z ≤ 64 := blen_le.2 hx
  have hs : (64 : Int) - (blen z : Int) = ((64 - blen z : Nat) : Int) := by omega
  simp (disch := omega) only [kB, kcx, kdm, kdn, kel, aop, resultsL, resultOf, Nat.reduceEqDiff, reduceCtorEq, eq1, apartOK, apart2, AObj.live, Int.reduceEq, Int.reduceLT, Int.reduceLE, Int.reduceAdd, Int.reduceSub, Int.reduceMul, Int.reduceToNat, cutCells, Nat.reduceAdd, Nat.reduceLeDiff, Nat.reduceLT, Nat.reduceMul, Nat.reduceSub, wr_i64, hs]
  exact h

theorem shl_eq {z k m : Nat} (hz : z < 2 ^ m) (hm : m + k ≤ 128) : shl z k = z * 2 ^ k := by
  unfold shl
  rw [Nat.shiftLeft_eq]
  refine Nat.mod_eq_of_lt (Nat.lt_of_lt_of_le (Nat.mul_lt_mul_of_pos_right hz (Nat.pow_pos (by decide))) ?_)
  rw [← Nat.pow_add]
  exact Nat.pow_le_pow_right (by decide) hm
theorem blen_mul {z k : Nat} (hz : z ≠ 0) : blen (z * 2 ^ k) = blen z + k := by
  have h1 : (z * 2 ^ k) >>> k = z := by rw [Nat.shiftRight_eq_div_pow, Nat.mul_div_cancel _ (Nat.pow_pos (by decide))]
  have h2 : 2 ^ k ≤ z * 2 ^ k := Nat.le_mul_of_pos_left _ (by omega)
  rw [blen_ge h2, h1]

/-- How many of the highest bits of a width two numbers have in common. -/
def cmn (w a b : Nat) : Nat := w - blen (a ^^^ b)

theorem mm_two {k : IntKind} {a b : Nat} : mmL false (.int k (a : Int)) [.int k (b : Int)] = some (.int k ((min a b : Nat) : Int)) := by
  simp only [mmL, mm2, if_true, Bool.false_eq_true, if_false]
  by_cases h : (b : Int) < (a : Int)
  · rw [if_pos h, Nat.min_eq_right (by omega)]
  · rw [if_neg h, Nat.min_eq_left (by omega)]
theorem mm_three {k : IntKind} {a b c : Nat} : mmL false (.int k (a : Int)) [.int k (b : Int), .int k (c : Int)] = some (.int k ((min (min a b) c : Nat) : Int)) := by
  have h1 := mm_two (k := k) (a := a) (b := b)
  have h2 := mm_two (k := k) (a := min a b) (b := c)
  simp only [mmL] at h1 h2 ⊢
  cases hm : mm2 false (.int k (a : Int)) (.int k (b : Int)) with
  | none => rw [hm] at h1; cases h1
  | some z => rw [hm] at h1; cases h1; exact h2

theorem common_s {w a b : Nat} (hw : 1 ≤ w) (hw2 : w ≤ 128) (ha : a < 2 ^ w) (hb : b < 2 ^ w) (h : R (.ret (.int .i64 (cmn w a b : Nat))) H) : WD T 78 [bvA a, bvA b, .int .i64 w] H R := by
  refine WD.gc0 (WD.of follows t78 (by simp) ?_)
  have hp : 2 ^ w ≤ 2 ^ 128 := Nat.pow_le_pow_right (by decide) hw2
  have e0 : isw (w : Int) = true := by simp [isw]; omega
  simp (disch := omega) only [kB, kcx, kdm, kdn, kel, aop, resultsL, resultOf, Nat.reduceEqDiff, reduceCtorEq, eq1, apartOK, apart2, AObj.live, Int.reduceEq, Int.reduceLT, Int.reduceLE, Int.reduceAdd, Int.reduceSub, Int.reduceMul, Int.reduceToNat, cutCells, Nat.reduceAdd, Nat.reduceLeDiff, Nat.reduceLT, Nat.reduceMul, Nat.reduceSub]
  refine isw_s ?_
  simp (disch := omega) only [kB, kcx, kdm, kdn, kel, aop, resultsL, resultOf, Nat.reduceEqDiff, reduceCtorEq, eq1, apartOK, apart2, AObj.live, Int.reduceEq, Int.reduceLT, Int.reduceLE, Int.reduceAdd, Int.reduceSub, Int.reduceMul, Int.reduceToNat, cutCells, Nat.reduceAdd, Nat.reduceLeDiff, Nat.reduceLT, Nat.reduceMul, Nat.reduceSub, e0]
  refine xor_s (by omega) (by omega) ?_
  have e1 : (128 : Int) - (w : Int) = ((128 - w : Nat) : Int) := by omega
  have hx : a ^^^ b < 2 ^ w := Nat.xor_lt_two_pow ha hb
  simp (disch := omega) only [kB, kcx, kdm, kdn, kel, aop, resultsL, resultOf, Nat.reduceEqDiff, reduceCtorEq, eq1, apartOK, apart2, AObj.live, Int.reduceEq, Int.reduceLT, Int.reduceLE, Int.reduceAdd, Int.reduceSub, Int.reduceMul, Int.reduceToNat, cutCells, Nat.reduceAdd, Nat.reduceLeDiff, Nat.reduceLT, Nat.reduceMul, Nat.reduceSub, wr_i64, e1]
  refine left_s (by omega) (by omega) ?_
  have hs := shl_eq (k := 128 - w) hx (by omega)
  have hlt := shl_lt (a ^^^ b) (128 - w)
  have h1 : blen (shl (a ^^^ b) (128 - w) / W64) = blen (shl (a ^^^ b) (128 - w)) - 64 := by
    rw [W64, ← Nat.shiftRight_eq_div_pow, blen_shr]
  have h2 := hi_lt hlt
  have h3 := lo_lt (shl (a ^^^ b) (128 - w))
  have hbl : blen (a ^^^ b) ≤ w := blen_le.2 hx
  have hbl2 : blen (shl (a ^^^ b) (128 - w)) = if a ^^^ b = 0 then 0 else blen (a ^^^ b) + (128 - w) := by
    rw [hs]
    split
    · rename_i q; rw [q, Nat.zero_mul]; rfl
    · rename_i q; exact blen_mul q
  have hdm := Nat.div_add_mod (shl (a ^^^ b) (128 - w)) W64
  have hz0 : a ^^^ b = 0 → blen (a ^^^ b) = 0 := fun q => by rw [q]; rfl
  generalize hS : shl (a ^^^ b) (128 - w) = s at *
  by_cases hh : s / W64 = 0
  · have hh' : ((s / W64 : Nat) : Int) = 0 := by omega
    simp (disch := omega) only [kB, kcx, kdm, kdn, kel, aop, resultsL, resultOf, Nat.reduceEqDiff, reduceCtorEq, eq1, apartOK, apart2, AObj.live, Int.reduceEq, Int.reduceLT, Int.reduceLE, Int.reduceAdd, Int.reduceSub, Int.reduceMul, Int.reduceToNat, cutCells, Nat.reduceAdd, Nat.reduceLeDiff, Nat.reduceLT, Nat.reduceMul, Nat.reduceSub, hh']
    refine lz_s h3 ?_
    have hsl : s % W64 = s := by rw [hh, Nat.mul_zero, Nat.zero_add] at hdm; exact hdm
    have hb64 : blen s ≤ 64 := by rw [hh] at h1; have : blen 0 = 0 := rfl; omega
    rw [hsl]
    have e2 : (64 : Int) + ((64 - blen s : Nat) : Int) = ((128 - blen s : Nat) : Int) := by omega
    have e3 : min w (128 - blen s) = cmn w a b := by
      unfold cmn
      rw [hbl2]
      split
      · rename_i q; rw [hz0 q]; omega
      · omega
    have e4 := mm_two (k := .i64) (a := w) (b := 128 - blen s)
    rw [e3] at e4
    simp (disch := omega) only [kB, kcx, kdm, kdn, kel, aop, resultsL, resultOf, Nat.reduceEqDiff, reduceCtorEq, eq1, apartOK, apart2, AObj.live, Int.reduceEq, Int.reduceLT, Int.reduceLE, Int.reduceAdd, Int.reduceSub, Int.reduceMul, Int.reduceToNat, cutCells, Nat.reduceAdd, Nat.reduceLeDiff, Nat.reduceLT, Nat.reduceMul, Nat.reduceSub, wr_i64, e2, e4]
    exact ⟨_, rfl, ⟨_, rfl⟩, .closed rfl, h⟩
  · have hh' : ¬ ((s / W64 : Nat) : Int) = 0 := by omega
    simp (disch := omega) only [kB, kcx, kdm, kdn, kel, aop, resultsL, resultOf, Nat.reduceEqDiff, reduceCtorEq, eq1, apartOK, apart2, AObj.live, Int.reduceEq, Int.reduceLT, Int.reduceLE, Int.reduceAdd, Int.reduceSub, Int.reduceMul, Int.reduceToNat, cutCells, Nat.reduceAdd, Nat.reduceLeDiff, Nat.reduceLT, Nat.reduceMul, Nat.reduceSub, hh']
    refine lz_s h2 ?_
    rw [h1]
    have hpos := blen_pos hh
    have hx0 : ¬ a ^^^ b = 0 := fun q => by rw [if_pos q] at hbl2; omega
    rw [if_neg hx0] at hbl2
    have e3 : min w (64 - (blen s - 64)) = cmn w a b := by
      unfold cmn
      omega
    have e4 := mm_two (k := .i64) (a := w) (b := 64 - (blen s - 64))
    rw [e3] at e4
    simp (disch := omega) only [kB, kcx, kdm, kdn, kel, aop, resultsL, resultOf, Nat.reduceEqDiff, reduceCtorEq, eq1, apartOK, apart2, AObj.live, Int.reduceEq, Int.reduceLT, Int.reduceLE, Int.reduceAdd, Int.reduceSub, Int.reduceMul, Int.reduceToNat, cutCells, Nat.reduceAdd, Nat.reduceLeDiff, Nat.reduceLT, Nat.reduceMul, Nat.reduceSub, wr_i64, e4]
    exact ⟨_, rfl, ⟨_, rfl⟩, .closed rfl, h⟩

theorem eq_bv {v w : Nat} : eqL [(1, .int .u64 ((v / W64 : Nat) : Int), .int .u64 ((w / W64 : Nat) : Int)), (1, .int .u64 ((v % W64 : Nat) : Int), .int .u64 ((w % W64 : Nat) : Int))] = some (decide (v = w)) := by
  have e : ∀ x y : Nat, ((x : Int) == (y : Int)) = decide (x = y) := fun x y => by rw [Bool.eq_iff_iff]; simp; omega
  simp only [eqL, eqT1, if_true, e]
  by_cases h1 : v / W64 = w / W64 <;> by_cases h2 : v % W64 = w % W64 <;> simp [h1, h2, two_words (v := v) (w := w)]
theorem eq_bv0 {v : Nat} : eqL [(1, .int .u64 ((v / W64 : Nat) : Int), .int .u64 0), (1, .int .u64 ((v % W64 : Nat) : Int), .int .u64 0)] = some (decide (v = 0)) := eq_bv (w := 0)

theorem shr_zero {a w : Nat} : a >>> w = 0 ↔ a < 2 ^ w := by
  rw [Nat.shiftRight_eq_div_pow, Nat.div_eq_zero_iff_lt (Nat.pow_pos (by decide))]

/-- Does it fit? -/
theorem fits_s {w a : Nat} (hw : 1 ≤ w) (hw2 : w ≤ 128) (ha : a < 2 ^ 128) (h : R (.ret (.bool (decide (a < 2 ^ w)))) H) : WD T 73 [bvA a, .int .i64 w] H R := by
  refine WD.gc0 (WD.of follows t73 (by simp) ?_)
  have e0 : isw (w : Int) = true := by simp [isw]; omega
  simp (disch := omega) only [kB, kcx, kdm, kdn, kel, aop, resultsL, resultOf, Nat.reduceEqDiff, reduceCtorEq, eq1, apartOK, apart2, AObj.live, Int.reduceEq, Int.reduceLT, Int.reduceLE, Int.reduceAdd, Int.reduceSub, Int.reduceMul, Int.reduceToNat, cutCells, Nat.reduceAdd, Nat.reduceLeDiff, Nat.reduceLT, Nat.reduceMul, Nat.reduceSub]
  refine isw_s ?_
  simp (disch := omega) only [kB, kcx, kdm, kdn, kel, aop, resultsL, resultOf, Nat.reduceEqDiff, reduceCtorEq, eq1, apartOK, apart2, AObj.live, Int.reduceEq, Int.reduceLT, Int.reduceLE, Int.reduceAdd, Int.reduceSub, Int.reduceMul, Int.reduceToNat, cutCells, Nat.reduceAdd, Nat.reduceLeDiff, Nat.reduceLT, Nat.reduceMul, Nat.reduceSub, e0]
  refine right_s ha hw2 ?_
  have e1 := eq_bv0 (v := a >>> w)
  have e2 : decide (a >>> w = 0) = decide (a < 2 ^ w) := by rw [Bool.eq_iff_iff]; simp [shr_zero]
  rw [e2] at e1
  simp (disch := omega) only [kB, kcx, kdm, kdn, kel, aop, resultsL, resultOf, Nat.reduceEqDiff, reduceCtorEq, eq1, apartOK, apart2, AObj.live, Int.reduceEq, Int.reduceLT, Int.reduceLE, Int.reduceAdd, Int.reduceSub, Int.reduceMul, Int.reduceToNat, cutCells, Nat.reduceAdd, Nat.reduceLeDiff, Nat.reduceLT, Nat.reduceMul, Nat.reduceSub, e1]
  exact ⟨_, rfl, ⟨_, rfl⟩, .closed rfl, h⟩

theorem bit_s {w a i : Nat} (hw : 1 ≤ w) (hw2 : w ≤ 128) (hi : i < w) (ha : a < 2 ^ 128) (h : R (.ret (.bool (a.testBit (w - 1 - i)))) H) : WD T 92 [bvA a, .int .i64 w, .int .i64 i] H R := by
  refine WD.gc0 (WD.of follows t92 (by simp) ?_)
  have e0 : isw (w : Int) = true := by simp [isw]; omega
  have e1 : ¬ (i : Int) < 0 := by omega
  have e2 : ¬ (w : Int) ≤ (i : Int) := by omega
  simp (disch := omega) only [kB, kcx, kdm, kdn, kel, aop, resultsL, resultOf, Nat.reduceEqDiff, reduceCtorEq, eq1, apartOK, apart2, AObj.live, Int.reduceEq, Int.reduceLT, Int.reduceLE, Int.reduceAdd, Int.reduceSub, Int.reduceMul, Int.reduceToNat, cutCells, Nat.reduceAdd, Nat.reduceLeDiff, Nat.reduceLT, Nat.reduceMul, Nat.reduceSub]
  refine isw_s ?_
  have e3 : (w : Int) - 1 = ((w - 1 : Nat) : Int) := by omega
  have e4 : ((w - 1 : Nat) : Int) - (i : Int) = ((w - 1 - i : Nat) : Int) := by omega
  simp (disch := omega) only [kB, kcx, kdm, kdn, kel, aop, resultsL, resultOf, Nat.reduceEqDiff, reduceCtorEq, eq1, apartOK, apart2, AObj.live, Int.reduceEq, Int.reduceLT, Int.reduceLE, Int.reduceAdd, Int.reduceSub, Int.reduceMul, Int.reduceToNat, cutCells, Nat.reduceAdd, Nat.reduceLeDiff, Nat.reduceLT, Nat.reduceMul, Nat.reduceSub, e0, e1, e2, wr_i64, e3, e4]
  refine right_s ha (by omega) ?_
  have e5 := bin_and64 (lo_lt (a >>> (w - 1 - i))) (b := 1) (by decide)
  have e6 : ((1 : Nat) : Int) = 1 := rfl
  rw [e6] at e5
  have e7 : (((a >>> (w - 1 - i)) % W64) &&& 1) = if a.testBit (w - 1 - i) = true then 1 else 0 := by
    rw [Nat.and_one_is_mod, W64, Nat.mod_mod_of_dvd _ (by decide), Nat.testBit_eq_decide_div_mod_eq, Nat.shiftRight_eq_div_pow]
    simp only [decide_eq_true_eq]
    split <;> omega
  rw [e7] at e5
  cases hb : a.testBit (w - 1 - i) with
  | true =>
    rw [hb] at e5 h
    have e8 : (((if true = true then 1 else 0 : Nat)) : Int) = 1 := rfl
    rw [e8] at e5
    simp (disch := omega) only [kB, kcx, kdm, kdn, kel, aop, resultsL, resultOf, Nat.reduceEqDiff, reduceCtorEq, eq1, apartOK, apart2, AObj.live, Int.reduceEq, Int.reduceLT, Int.reduceLE, Int.reduceAdd, Int.reduceSub, Int.reduceMul, Int.reduceToNat, cutCells, Nat.reduceAdd, Nat.reduceLeDiff, Nat.reduceLT, Nat.reduceMul, Nat.reduceSub, e5]
    exact ⟨_, rfl, ⟨_, rfl⟩, .closed rfl, h⟩
  | false =>
    rw [hb] at e5 h
    have e8 : (((if false = true then 1 else 0 : Nat)) : Int) = 0 := rfl
    rw [e8] at e5
    simp (disch := omega) only [kB, kcx, kdm, kdn, kel, aop, resultsL, resultOf, Nat.reduceEqDiff, reduceCtorEq, eq1, apartOK, apart2, AObj.live, Int.reduceEq, Int.reduceLT, Int.reduceLE, Int.reduceAdd, Int.reduceSub, Int.reduceMul, Int.reduceToNat, cutCells, Nat.reduceAdd, Nat.reduceLeDiff, Nat.reduceLT, Nat.reduceMul, Nat.reduceSub, e5]
    exact ⟨_, rfl, ⟨_, rfl⟩, .closed rfl, h⟩

end Go.Proofs.Yticgkaanaimllaa.Ev

/- Which tries there are. -/
namespace Go.Proofs.Yticgkaanaimllaa.Ev
set_option maxRecDepth 100000
set_option linter.unusedSimpArgs false
set_option linter.unusedVariables false
variable {R : FRes → Heap → Prop} {H : Heap}

def isTrue : Option (FRes × Heap) → Bool
  | some (.ret (.bool true), _) => true
  | _ => false
theorem of_isTrue {x : Option (FRes × Heap)} (h : isTrue x = true) : ∃ H1, x = some (.ret (.bool true), H1) := by
  unfold isTrue at h
  split at h
  · exact ⟨_, rfl⟩
  · cases h

theorem live_ev : isTrue (evalFn Tab 64 9 [] []) = true := by kernel_rfl

theorem globs : T.G ≤ ([] : Heap).length := by
  have : T.G = 0 := by unfold T; kernel_rfl
  rw [this]
  exact Nat.le_refl _

theorem live_s (h : R (.ret (.bool true)) H) : WD T 9 [] H R := by
  obtain ⟨H1, he⟩ := of_isTrue live_ev
  exact WD.frame0 (H0 := []) ⟨H, rfl⟩ globs (fun o ho => by cases ho) (by simp) .bool (WD.ev follows table_ok he rfl) h

theorem eqP_nn {H : Heap} : eqP H 0 (.pointer none) (.pointer none) = some true := rfl
theorem eqP_sn {H : Heap} {a : Addr} : eqP H 0 (.pointer (some a)) (.pointer none) = some false := rfl
theorem eqP_ns {H : Heap} {a : Addr} : eqP H 0 (.pointer none) (.pointer (some a)) = some false := rfl
theorem eqF_n {H : Heap} {f : Fn} {a b : Array Value} : eqP H 2 (.func f a b) .nilFunc = some false := rfl

/-- A prefix. -/
abbrev pfA (hi lo n : Int) : Value := .agg #[.int .u64 hi, .int .u64 lo, .int .i64 n]


def rightN (w m : Int) : Bool := decide (1 ≤ w) && decide (w ≤ 128) && decide (1 ≤ m) && decide (m ≤ 4096)

theorem new_s {w m : Int} (h : R (if rightN w m = true then .ret (.tuple #[.pointer (some ⟨H.length, 0, none⟩), .int .i64 0]) else .ret (.tuple #[.pointer none, .int .i64 1])) (if rightN w m = true then H ++ [.row [.int .i64 w, .int .i64 m, .int .i64 0, .pointer none] 0 true] else H)) :
    WD T 10 [.int .i64 w, .int .i64 m] H R := by
  refine WD.of follows t10 (by simp) ?_
  unfold rightN at h
  by_cases h1 : w < 1
  · have h1' : ¬ 1 ≤ w := by omega
    simp (disch := omega) only [kB, kcx, kdm, kdn, kel, aop, resultsL, resultOf, Nat.reduceEqDiff, reduceCtorEq, eq1, apartOK, apart2, AObj.live, Int.reduceEq, Int.reduceLT, Int.reduceLE, Int.reduceAdd, Int.reduceSub, Int.reduceMul, Int.reduceToNat, cutCells, Nat.reduceAdd, Nat.reduceLeDiff, Nat.reduceLT, Nat.reduceMul, Nat.reduceSub, h1]
    simpa [h1'] using h
  · have h1' : 1 ≤ w := by omega
    by_cases h2 : 128 < w
    · have h2' : ¬ w ≤ 128 := by omega
      simp (disch := omega) only [kB, kcx, kdm, kdn, kel, aop, resultsL, resultOf, Nat.reduceEqDiff, reduceCtorEq, eq1, apartOK, apart2, AObj.live, Int.reduceEq, Int.reduceLT, Int.reduceLE, Int.reduceAdd, Int.reduceSub, Int.reduceMul, Int.reduceToNat, cutCells, Nat.reduceAdd, Nat.reduceLeDiff, Nat.reduceLT, Nat.reduceMul, Nat.reduceSub, h1, h2]
      simpa [h1', h2'] using h
    · have h2' : w ≤ 128 := by omega
      by_cases h3 : m < 1
      · have h3' : ¬ 1 ≤ m := by omega
        simp (disch := omega) only [kB, kcx, kdm, kdn, kel, aop, resultsL, resultOf, Nat.reduceEqDiff, reduceCtorEq, eq1, apartOK, apart2, AObj.live, Int.reduceEq, Int.reduceLT, Int.reduceLE, Int.reduceAdd, Int.reduceSub, Int.reduceMul, Int.reduceToNat, cutCells, Nat.reduceAdd, Nat.reduceLeDiff, Nat.reduceLT, Nat.reduceMul, Nat.reduceSub, h1, h2, h3]
        simpa [h1', h2', h3'] using h
      · have h3' : 1 ≤ m := by omega
        by_cases h4 : 4096 < m
        · have h4' : ¬ m ≤ 4096 := by omega
          simp (disch := omega) only [kB, kcx, kdm, kdn, kel, aop, resultsL, resultOf, Nat.reduceEqDiff, reduceCtorEq, eq1, apartOK, apart2, AObj.live, Int.reduceEq, Int.reduceLT, Int.reduceLE, Int.reduceAdd, Int.reduceSub, Int.reduceMul, Int.reduceToNat, cutCells, Nat.reduceAdd, Nat.reduceLeDiff, Nat.reduceLT, Nat.reduceMul, Nat.reduceSub, h1, h2, h3, h4]
          simpa [h1', h2', h3', h4'] using h
        · have h4' : m ≤ 4096 := by omega
          simp (disch := omega) only [kB, kcx, kdm, kdn, kel, aop, resultsL, resultOf, Nat.reduceEqDiff, reduceCtorEq, eq1, apartOK, apart2, AObj.live, Int.reduceEq, Int.reduceLT, Int.reduceLE, Int.reduceAdd, Int.reduceSub, Int.reduceMul, Int.reduceToNat, cutCells, Nat.reduceAdd, Nat.reduceLeDiff, Nat.reduceLT, Nat.reduceMul, Nat.reduceSub, h1, h2, h3, h4]
          simpa [h1', h2', h3', h4'] using h

end Go.Proofs.Yticgkaanaimllaa.Ev

/- The trie's own small functions. -/
namespace Go.Proofs.Yticgkaanaimllaa.Ev
set_option maxRecDepth 100000
set_option linter.unusedSimpArgs false
set_option linter.unusedVariables false
variable {R : FRes → Heap → Prop} {H : Heap}

/-- A prefix as a value. -/
abbrev pfv (a : Nat) (n : Int) : Value := .agg #[.int .u64 ((a / W64 : Nat) : Int), .int .u64 ((a % W64 : Nat) : Int), .int .i64 n]

/-- A trie's block. -/
def TB (H : Heap) (b : Nat) (w m l : Nat) (rt : Value) : Prop := hget H b = .row [.int .i64 (w : Int), .int .i64 (m : Int), .int .i64 (l : Int), rt] 0 true

/-- Is it a prefix of the width? -/
def rgt (w a : Nat) (n : Int) : Bool := decide (0 ≤ n) && decide (n ≤ (w : Int)) && decide (a < 2 ^ w) && decide (a &&& maskN w n.toNat = a)

theorem eqT_sn {H : Heap} {a : Addr} : eqP H 0 (.pointer (some a)) (.pointer none) = some false := rfl

theorem right_t {b w a : Nat} {n m l : Int} {rt : Value} (hb : ∃ wr, hget H b = .row [.int .i64 (w : Int), .int .i64 m, .int .i64 l, rt] 0 wr) (hw : 1 ≤ w) (hw2 : w ≤ 128) (ha : a < 2 ^ 128) (h : R (.ret (.bool (rgt w a n))) H) :
    WD T 42 [.pointer (some ⟨b, 0, none⟩), pfv a n] H R := by
  refine WD.gc0 (WD.of follows t42 (by simp) ?_)
  obtain ⟨wr, hb⟩ := hb
  have lb := hget_lt hb rfl
  by_cases h1 : n < 0
  · have : rgt w a n = false := by simp only [rgt, decide_eq_false (show ¬ 0 ≤ n by omega), Bool.false_and]
    rw [this] at h
    simp (disch := omega) only [kB, kcx, kdm, kdn, kel, aop, resultsL, resultOf, Nat.reduceEqDiff, reduceCtorEq, eq1, apartOK, apart2, AObj.live, Int.reduceEq, Int.reduceLT, Int.reduceLE, Int.reduceAdd, Int.reduceSub, Int.reduceMul, Int.reduceToNat, cutCells, Nat.reduceAdd, Nat.reduceLeDiff, Nat.reduceLT, Nat.reduceMul, Nat.reduceSub, eqT_sn, h1]
    exact ⟨_, rfl, ⟨_, rfl⟩, .closed rfl, h⟩
  by_cases h2 : (w : Int) < n
  · have : rgt w a n = false := by simp only [rgt, decide_eq_false (show ¬ n ≤ (w : Int) by omega), Bool.and_false, Bool.false_and]
    rw [this] at h
    simp (disch := omega) only [kB, kcx, kdm, kdn, kel, aop, resultsL, resultOf, Nat.reduceEqDiff, reduceCtorEq, eq1, apartOK, apart2, AObj.live, Int.reduceEq, Int.reduceLT, Int.reduceLE, Int.reduceAdd, Int.reduceSub, Int.reduceMul, Int.reduceToNat, cutCells, Nat.reduceAdd, Nat.reduceLeDiff, Nat.reduceLT, Nat.reduceMul, Nat.reduceSub, eqT_sn, h1, hb, h2]
    exact ⟨_, rfl, ⟨_, rfl⟩, .closed rfl, h⟩
  simp (disch := omega) only [kB, kcx, kdm, kdn, kel, aop, resultsL, resultOf, Nat.reduceEqDiff, reduceCtorEq, eq1, apartOK, apart2, AObj.live, Int.reduceEq, Int.reduceLT, Int.reduceLE, Int.reduceAdd, Int.reduceSub, Int.reduceMul, Int.reduceToNat, cutCells, Nat.reduceAdd, Nat.reduceLeDiff, Nat.reduceLT, Nat.reduceMul, Nat.reduceSub, eqT_sn, h1, hb, h2]
  refine fits_s hw hw2 ha ?_
  by_cases h3 : a < 2 ^ w
  case neg =>
    have : rgt w a n = false := by simp only [rgt, decide_eq_false h3, Bool.and_false, Bool.false_and]
    rw [this] at h
    simp (disch := omega) only [kB, kcx, kdm, kdn, kel, aop, resultsL, resultOf, Nat.reduceEqDiff, reduceCtorEq, eq1, apartOK, apart2, AObj.live, Int.reduceEq, Int.reduceLT, Int.reduceLE, Int.reduceAdd, Int.reduceSub, Int.reduceMul, Int.reduceToNat, cutCells, Nat.reduceAdd, Nat.reduceLeDiff, Nat.reduceLT, Nat.reduceMul, Nat.reduceSub, h3]
    exact ⟨_, rfl, ⟨_, rfl⟩, .closed rfl, h⟩
  obtain ⟨k, rfl⟩ : ∃ k : Nat, n = k := ⟨n.toNat, by omega⟩
  simp (disch := omega) only [kB, kcx, kdm, kdn, kel, aop, resultsL, resultOf, Nat.reduceEqDiff, reduceCtorEq, eq1, apartOK, apart2, AObj.live, Int.reduceEq, Int.reduceLT, Int.reduceLE, Int.reduceAdd, Int.reduceSub, Int.reduceMul, Int.reduceToNat, cutCells, Nat.reduceAdd, Nat.reduceLeDiff, Nat.reduceLT, Nat.reduceMul, Nat.reduceSub, h3, hb]
  refine mask_s hw hw2 (by omega) ?_
  simp (disch := omega) only [kB, kcx, kdm, kdn, kel, aop, resultsL, resultOf, Nat.reduceEqDiff, reduceCtorEq, eq1, apartOK, apart2, AObj.live, Int.reduceEq, Int.reduceLT, Int.reduceLE, Int.reduceAdd, Int.reduceSub, Int.reduceMul, Int.reduceToNat, cutCells, Nat.reduceAdd, Nat.reduceLeDiff, Nat.reduceLT, Nat.reduceMul, Nat.reduceSub]
  refine WV.of (fun c hc => ?_) ?_
  · simp only [List.mem_cons, List.not_mem_nil, or_false] at hc
    subst hc
    simp (disch := omega) only [kB, kcx, kdm, kdn, kel, aop, resultsL, resultOf, Nat.reduceEqDiff, reduceCtorEq, eq1, apartOK, apart2, AObj.live, Int.reduceEq, Int.reduceLT, Int.reduceLE, Int.reduceAdd, Int.reduceSub, Int.reduceMul, Int.reduceToNat, cutCells, Nat.reduceAdd, Nat.reduceLeDiff, Nat.reduceLT, Nat.reduceMul, Nat.reduceSub]
    rfl
  refine and_s ha (shl_lt _ _) ?_
  rw [thaw_frz0]
  have e1 := eq_bv (v := a &&& maskN w k) (w := a)
  have e2 : decide (a &&& maskN w k = a) = rgt w a (k : Int) := by
    simp only [rgt, decide_eq_true h3, decide_eq_true (show (0 : Int) ≤ (k : Int) by omega), decide_eq_true (show (k : Int) ≤ (w : Int) by omega), Bool.true_and, Int.toNat_natCast]
  rw [e2] at e1
  simp (disch := omega) only [kB, kcx, kdm, kdn, kel, aop, resultsL, resultOf, Nat.reduceEqDiff, reduceCtorEq, eq1, apartOK, apart2, AObj.live, Int.reduceEq, Int.reduceLT, Int.reduceLE, Int.reduceAdd, Int.reduceSub, Int.reduceMul, Int.reduceToNat, cutCells, Nat.reduceAdd, Nat.reduceLeDiff, Nat.reduceLT, Nat.reduceMul, Nat.reduceSub, e1]
  exact ⟨_, rfl, ⟨_, rfl⟩, .closed rfl, h⟩

end Go.Proofs.Yticgkaanaimllaa.Ev

/- The trie's nodes; the node of just a prefix. -/
namespace Go.Proofs.Yticgkaanaimllaa.Ev
set_option maxRecDepth 100000
set_option linter.unusedSimpArgs false
set_option linter.unusedVariables false
variable {R : FRes → Heap → Prop} {H : Heap}

/-- A trie's head, be it to be written or not. -/
def TH (H : Heap) (b w : Nat) : Prop := ∃ (m l : Int) (rt : Value) (wr : Bool), hget H b = .row [.int .i64 (w : Int), .int .i64 m, .int .i64 l, rt] 0 wr
theorem TH.app {G : Heap} {b w : Nat} (h : TH H b w) : TH (H ++ G) b w := by
  obtain ⟨m, l, rt, wr, h⟩ := h
  exact ⟨m, l, rt, wr, by rw [hget_old (hget_lt h rfl)]; exact h⟩
theorem TH.frz {b w : Nat} (h : TH H b w) (bs : List Nat) : TH (Ev.frz H bs) b w := by
  obtain ⟨m, l, rt, wr, h⟩ := h
  rcases hget_frz bs H b with q | ⟨cs, u, q1, q2⟩
  · exact ⟨m, l, rt, wr, q.trans h⟩
  · rw [h] at q1
    cases q1
    exact ⟨m, l, rt, false, q2⟩

def sideN (w a n : Nat) : Nat := if a.testBit (w - 1 - n) = true then 1 else 0

theorem side_t {b w a n : Nat} (hb : TH H b w) (hw : 1 ≤ w) (hw2 : w ≤ 128) (hn : n < w) (ha : a < 2 ^ 128) (h : R (.ret (.int .i64 (sideN w a n : Nat))) H) : WD T 76 [.pointer (some ⟨b, 0, none⟩), bvA a, .int .i64 n] H R := by
  refine WD.gc0 (WD.of follows t76 (by simp) ?_)
  obtain ⟨m, l, rt, wr, hb⟩ := hb
  have lb := hget_lt hb rfl
  simp (disch := omega) only [kB, kcx, kdm, kdn, kel, aop, resultsL, resultOf, Nat.reduceEqDiff, reduceCtorEq, eq1, apartOK, apart2, AObj.live, Int.reduceEq, Int.reduceLT, Int.reduceLE, Int.reduceAdd, Int.reduceSub, Int.reduceMul, Int.reduceToNat, cutCells, Nat.reduceAdd, Nat.reduceLeDiff, Nat.reduceLT, Nat.reduceMul, Nat.reduceSub, hb]
  refine bit_s hw hw2 hn ha ?_
  unfold sideN at h
  cases hc : a.testBit (w - 1 - n) with
  | true =>
    rw [hc] at h
    simp (disch := omega) only [kB, kcx, kdm, kdn, kel, aop, resultsL, resultOf, Nat.reduceEqDiff, reduceCtorEq, eq1, apartOK, apart2, AObj.live, Int.reduceEq, Int.reduceLT, Int.reduceLE, Int.reduceAdd, Int.reduceSub, Int.reduceMul, Int.reduceToNat, cutCells, Nat.reduceAdd, Nat.reduceLeDiff, Nat.reduceLT, Nat.reduceMul, Nat.reduceSub]
    exact ⟨_, rfl, ⟨_, rfl⟩, .closed rfl, h⟩
  | false =>
    rw [hc] at h
    simp (disch := omega) only [kB, kcx, kdm, kdn, kel, aop, resultsL, resultOf, Nat.reduceEqDiff, reduceCtorEq, eq1, apartOK, apart2, AObj.live, Int.reduceEq, Int.reduceLT, Int.reduceLE, Int.reduceAdd, Int.reduceSub, Int.reduceMul, Int.reduceToNat, cutCells, Nat.reduceAdd, Nat.reduceLeDiff, Nat.reduceLT, Nat.reduceMul, Nat.reduceSub]
    exact ⟨_, rfl, ⟨_, rfl⟩, .closed rfl, h⟩

/-- How many bits two prefixes have in common. -/
def cmp (w a n c k : Nat) : Nat := min (min (cmn w a c) n) k

theorem common_t {b w a n c k : Nat} (hb : TH H b w) (hw : 1 ≤ w) (hw2 : w ≤ 128) (ha : a < 2 ^ w) (hc : c < 2 ^ w) (h : R (.ret (.int .i64 (cmp w a n c k : Nat))) H) : WD T 51 [.pointer (some ⟨b, 0, none⟩), pfv a n, pfv c k] H R := by
  refine WD.gc0 (WD.of follows t51 (by simp) ?_)
  have hb1 := hb
  obtain ⟨m, l, rt, wr, hb⟩ := hb
  have lb := hget_lt hb rfl
  simp (disch := omega) only [kB, kcx, kdm, kdn, kel, aop, resultsL, resultOf, Nat.reduceEqDiff, reduceCtorEq, eq1, apartOK, apart2, AObj.live, Int.reduceEq, Int.reduceLT, Int.reduceLE, Int.reduceAdd, Int.reduceSub, Int.reduceMul, Int.reduceToNat, cutCells, Nat.reduceAdd, Nat.reduceLeDiff, Nat.reduceLT, Nat.reduceMul, Nat.reduceSub, hb]
  refine WV.of (fun c hc => ?_) ?_
  · simp only [List.mem_cons, List.not_mem_nil, or_false] at hc
    rcases hc with rfl | rfl <;> (simp (disch := omega) only [kB, kcx, kdm, kdn, kel, aop, resultsL, resultOf, Nat.reduceEqDiff, reduceCtorEq, eq1, apartOK, apart2, AObj.live, Int.reduceEq, Int.reduceLT, Int.reduceLE, Int.reduceAdd, Int.reduceSub, Int.reduceMul, Int.reduceToNat, cutCells, Nat.reduceAdd, Nat.reduceLeDiff, Nat.reduceLT, Nat.reduceMul, Nat.reduceSub]; rfl)
  refine common_s hw hw2 ha hc ?_
  rw [thaw_frz0]
  have e1 := mm_three (k := .i64) (a := cmn w a c) (b := n) (c := k)
  simp (disch := omega) only [kB, kcx, kdm, kdn, kel, aop, resultsL, resultOf, Nat.reduceEqDiff, reduceCtorEq, eq1, apartOK, apart2, AObj.live, Int.reduceEq, Int.reduceLT, Int.reduceLE, Int.reduceAdd, Int.reduceSub, Int.reduceMul, Int.reduceToNat, cutCells, Nat.reduceAdd, Nat.reduceLeDiff, Nat.reduceLT, Nat.reduceMul, Nat.reduceSub, e1]
  exact ⟨_, rfl, ⟨_, rfl⟩, .closed rfl, h⟩

theorem cut_t {b w a n : Nat} (hb : TH H b w) (hw : 1 ≤ w) (hw2 : w ≤ 128) (hn : n ≤ w) (ha : a < 2 ^ 128) (h : R (.ret (pfv (a &&& maskN w n) n)) H) : WD T 77 [.pointer (some ⟨b, 0, none⟩), bvA a, .int .i64 n] H R := by
  refine WD.gc0 (WD.of follows t77 (by simp) ?_)
  obtain ⟨m, l, rt, wr, hb⟩ := hb
  have lb := hget_lt hb rfl
  simp (disch := omega) only [kB, kcx, kdm, kdn, kel, aop, resultsL, resultOf, Nat.reduceEqDiff, reduceCtorEq, eq1, apartOK, apart2, AObj.live, Int.reduceEq, Int.reduceLT, Int.reduceLE, Int.reduceAdd, Int.reduceSub, Int.reduceMul, Int.reduceToNat, cutCells, Nat.reduceAdd, Nat.reduceLeDiff, Nat.reduceLT, Nat.reduceMul, Nat.reduceSub, hb]
  refine mask_s hw hw2 hn ?_
  simp (disch := omega) only [kB, kcx, kdm, kdn, kel, aop, resultsL, resultOf, Nat.reduceEqDiff, reduceCtorEq, eq1, apartOK, apart2, AObj.live, Int.reduceEq, Int.reduceLT, Int.reduceLE, Int.reduceAdd, Int.reduceSub, Int.reduceMul, Int.reduceToNat, cutCells, Nat.reduceAdd, Nat.reduceLeDiff, Nat.reduceLT, Nat.reduceMul, Nat.reduceSub]
  refine and_s ha (shl_lt _ _) ?_
  simp (disch := omega) only [kB, kcx, kdm, kdn, kel, aop, resultsL, resultOf, Nat.reduceEqDiff, reduceCtorEq, eq1, apartOK, apart2, AObj.live, Int.reduceEq, Int.reduceLT, Int.reduceLE, Int.reduceAdd, Int.reduceSub, Int.reduceMul, Int.reduceToNat, cutCells, Nat.reduceAdd, Nat.reduceLeDiff, Nat.reduceLT, Nat.reduceMul, Nat.reduceSub]
  exact ⟨_, rfl, ⟨_, rfl⟩, .closed rfl, h⟩

/-- A tree of nodes, each with its block's number. -/
inductive Tr where
  | nil
  | node (b a n : Nat) (full : Bool) (v : Int) (l r : Tr)

def Tr.ptr : Tr → Value
  | .nil => .pointer none
  | .node b _ _ _ _ _ _ => .pointer (some ⟨b, 0, none⟩)
def nodeRow (a n : Nat) (full : Bool) (v : Int) (l r : Value) : List Value :=
  [.int .u64 ((a / W64 : Nat) : Int), .int .u64 ((a % W64 : Nat) : Int), .int .i64 (n : Int), .bool full, .int .i64 v, l, r]
/-- So the tree lies. -/
def TA (H : Heap) : Tr → Prop
  | .nil => True
  | .node b a n full v l r => (∃ wr, hget H b = .row (nodeRow a n full v l.ptr r.ptr) 0 wr) ∧ TA H l ∧ TA H r
def Tr.size : Tr → Nat
  | .nil => 0
  | .node _ _ _ _ _ l r => l.size + r.size + 1
/-- Its prefixes are right. -/
def TW (w : Nat) : Tr → Prop
  | .nil => True
  | .node _ a n _ _ l r => n ≤ w ∧ a < 2 ^ w ∧ a &&& maskN w n = a ∧ TW w l ∧ TW w r

theorem TA.app {G : Heap} : ∀ {t : Tr}, TA H t → TA (H ++ G) t
  | .nil, _ => trivial
  | .node b a n full v l r, ⟨⟨wr, h1⟩, h2, h3⟩ => ⟨⟨wr, by rw [hget_old (hget_lt h1 rfl)]; exact h1⟩, h2.app, h3.app⟩

def Tr.kid : Tr → Nat → Tr
  | .nil, _ => .nil
  | .node _ _ _ _ _ l r, s => if s = 0 then l else r

/-- The subtree that is reached on the way to a prefix. -/
def atT (w a k : Nat) : Tr → Tr
  | .nil => .nil
  | .node b c n full v l r => if n < k ∧ cmp w c n a k = n then (if sideN w a n = 0 then atT w a k l else atT w a k r) else .node b c n full v l r

def atR (a k : Nat) : Tr → Value
  | .nil => .pointer none
  | .node b c n full _ _ _ => if c = a ∧ n = k ∧ full = true then .pointer (some ⟨b, 0, none⟩) else .pointer none
def atV (w a k : Nat) (t : Tr) : Value := atR a k (atT w a k t)

theorem eq_pf {a n c k : Nat} : eqL [(1, .int .u64 ((a / W64 : Nat) : Int), .int .u64 ((c / W64 : Nat) : Int)), (1, .int .u64 ((a % W64 : Nat) : Int), .int .u64 ((c % W64 : Nat) : Int)), (1, .int .i64 (n : Int), .int .i64 (k : Int))] = some (decide (a = c ∧ n = k)) := by
  have e : ∀ x y : Nat, ((x : Int) == (y : Int)) = decide (x = y) := fun x y => by rw [Bool.eq_iff_iff]; simp; omega
  simp only [eqL, eqT1, if_true, e]
  by_cases h1 : a / W64 = c / W64 <;> by_cases h2 : a % W64 = c % W64 <;> by_cases h3 : n = k <;> simp [h1, h2, h3, two_words (v := a) (w := c)]

def atI (w a k b : Nat) (t0 : Tr) (H : Heap) : Nat → Env → Heap → Prop := fun z e H' =>
  ∃ t : Tr, z = t.size ∧ H' = H ++ [.row [.int .u64 ((a / W64 : Nat) : Int), .int .u64 ((a % W64 : Nat) : Int), .int .i64 (k : Int)] 0 true] ∧ TA H t ∧ TW w t ∧ atT w a k t = atT w a k t0 ∧
    (∃ x : Nat → Value, e = [.pointer (some ⟨b, 0, none⟩), x 1, x 2, .pointer (some ⟨H.length, 0, none⟩), x 4, t.ptr, x 6, x 7, x 8, x 9, x 10, x 11, x 12, x 13, x 14, x 15, x 16, x 17, x 18, x 19, x 20, x 21, x 22, x 23, x 24, x 25, x 26, x 27, x 28, x 29, x 30, x 31, x 32, x 33, x 34, x 35, x 36, x 37, x 38, x 39, x 40, x 41, x 42, x 43, x 44, x 45, x 46, x 47, x 48, x 49, x 50, x 51, x 52, x 53, x 54, x 55, x 56, x 57, x 58, x 59, x 60, x 61, x 62, x 63, x 64, x 65, x 66, x 67, x 68, x 69, x 70, x 71, x 72])

/-- Behind the loop: is it just the prefix, with something? -/
theorem at_rest {w a k b : Nat} {t : Tr} (ht : TA H t) {e : Env} (hp : hget H b = .row [.int .u64 ((a / W64 : Nat) : Int), .int .u64 ((a % W64 : Nat) : Int), .int .i64 (k : Int)] 0 true) (he : (∃ x : Nat → Value, e = [x 0, x 1, x 2, .pointer (some ⟨b, 0, none⟩), x 4, t.ptr, x 6, x 7, x 8, x 9, x 10, x 11, x 12, x 13, x 14, x 15, x 16, x 17, x 18, x 19, x 20, x 21, x 22, x 23, x 24, x 25, x 26, x 27, x 28, x 29, x 30, x 31, x 32, x 33, x 34, x 35, x 36, x 37, x 38, x 39, x 40, x 41, x 42, x 43, x 44, x 45, x 46, x 47, x 48, x 49, x 50, x 51, x 52, x 53, x 54, x 55, x 56, x 57, x 58, x 59, x 60, x 61, x 62, x 63, x 64, x 65, x 66, x 67, x 68, x 69, x 70, x 71, x 72]))
    (h : R (.ret (atR a k t)) H) :
    WC T (g43.body.at [1, 1, 1, 1]) e H (retK [.tmp 4] R) := by
  obtain ⟨x, rfl⟩ := he
  simp only [AFunc.body, g43, ACode.at]
  cases t with
  | nil =>
    simp only [Tr.ptr]
    simp only [atR] at h
    simp (disch := omega) only [kB, kcx, kdm, kdn, kel, aop, resultsL, resultOf, Nat.reduceEqDiff, reduceCtorEq, eq1, apartOK, apart2, AObj.live, Int.reduceEq, Int.reduceLT, Int.reduceLE, Int.reduceAdd, Int.reduceSub, Int.reduceMul, Int.reduceToNat, cutCells, Nat.reduceAdd, Nat.reduceLeDiff, Nat.reduceLT, Nat.reduceMul, Nat.reduceSub, eqP_nn]
    exact h
  | node b1 c n full v l r =>
    obtain ⟨⟨wr, h1⟩, _, _⟩ := ht
    simp only [Tr.ptr]
    simp only [atR] at h
    by_cases q : c = a ∧ n = k
    · have e1 := eq_pf (a := c) (n := n) (c := a) (k := k)
      rw [decide_eq_true q] at e1
      cases full with
      | true =>
        simp (disch := omega) only [kB, kcx, kdm, kdn, kel, aop, resultsL, resultOf, Nat.reduceEqDiff, reduceCtorEq, eq1, apartOK, apart2, AObj.live, Int.reduceEq, Int.reduceLT, Int.reduceLE, Int.reduceAdd, Int.reduceSub, Int.reduceMul, Int.reduceToNat, cutCells, Nat.reduceAdd, Nat.reduceLeDiff, Nat.reduceLT, Nat.reduceMul, Nat.reduceSub, eqP_sn, h1, hp, nodeRow, e1]
        rw [if_pos ⟨q.1, q.2, rfl⟩] at h
        exact h
      | false =>
        simp (disch := omega) only [kB, kcx, kdm, kdn, kel, aop, resultsL, resultOf, Nat.reduceEqDiff, reduceCtorEq, eq1, apartOK, apart2, AObj.live, Int.reduceEq, Int.reduceLT, Int.reduceLE, Int.reduceAdd, Int.reduceSub, Int.reduceMul, Int.reduceToNat, cutCells, Nat.reduceAdd, Nat.reduceLeDiff, Nat.reduceLT, Nat.reduceMul, Nat.reduceSub, eqP_sn, h1, hp, nodeRow, e1]
        rw [if_neg (fun z => by cases z.2.2)] at h
        exact h
    · have e1 := eq_pf (a := c) (n := n) (c := a) (k := k)
      rw [decide_eq_false q] at e1
      simp (disch := omega) only [kB, kcx, kdm, kdn, kel, aop, resultsL, resultOf, Nat.reduceEqDiff, reduceCtorEq, eq1, apartOK, apart2, AObj.live, Int.reduceEq, Int.reduceLT, Int.reduceLE, Int.reduceAdd, Int.reduceSub, Int.reduceMul, Int.reduceToNat, cutCells, Nat.reduceAdd, Nat.reduceLeDiff, Nat.reduceLT, Nat.reduceMul, Nat.reduceSub, eqP_sn, h1, hp, nodeRow, e1]
      rw [if_neg (fun z => q ⟨z.1, z.2.1⟩)] at h
      exact h

theorem at_t {b w a : Nat} {n m l : Int} {wr : Bool} {t : Tr} (hb : hget H b = .row [.int .i64 (w : Int), .int .i64 m, .int .i64 l, t.ptr] 0 wr) (hw : 1 ≤ w) (hw2 : w ≤ 128) (ha : a < 2 ^ 128) (ht : TA H t) (htw : TW w t)
    (h : R (.ret (if rgt w a n = true then atV w a n.toNat t else .pointer none)) H) : WD T 43 [.pointer (some ⟨b, 0, none⟩), pfv a n] H R := by
  have hth : TH H b w := ⟨m, l, t.ptr, wr, hb⟩
  have lb := hget_lt hb rfl
  have key : ∀ R : FRes → Heap → Prop, R (.ret (if rgt w a n = true then atV w a n.toNat t else .pointer none)) (H ++ [.row [.int .u64 ((a / W64 : Nat) : Int), .int .u64 ((a % W64 : Nat) : Int), .int .i64 n] 0 true]) → WD T 43 [.pointer (some ⟨b, 0, none⟩), pfv a n] H R := by
    clear h
    intro R h
    obtain ⟨Z, hZ⟩ : ∃ Z, Z = WC T (g43.body.at [1, 1, 1, 1]) := ⟨_, rfl⟩
    have hrest : ∀ (k : Nat) (t : Tr) (H : Heap) (b : Nat) (e : Env), TA H t → hget H b = .row [.int .u64 ((a / W64 : Nat) : Int), .int .u64 ((a % W64 : Nat) : Int), .int .i64 (k : Int)] 0 true → (∃ x : Nat → Value, e = [x 0, x 1, x 2, .pointer (some ⟨b, 0, none⟩), x 4, t.ptr, x 6, x 7, x 8, x 9, x 10, x 11, x 12, x 13, x 14, x 15, x 16, x 17, x 18, x 19, x 20, x 21, x 22, x 23, x 24, x 25, x 26, x 27, x 28, x 29, x 30, x 31, x 32, x 33, x 34, x 35, x 36, x 37, x 38, x 39, x 40, x 41, x 42, x 43, x 44, x 45, x 46, x 47, x 48, x 49, x 50, x 51, x 52, x 53, x 54, x 55, x 56, x 57, x 58, x 59, x 60, x 61, x 62, x 63, x 64, x 65, x 66, x 67, x 68, x 69, x 70, x 71, x 72]) →
        R (.ret (atR a k t)) H → Z e H (retK [.tmp 4] R) := fun k t H b e h1 h2 he hR => by rw [hZ]; exact at_rest (w := w) h1 h2 he hR
    have hZ' := hZ.symm
    clear hZ
    simp only [AFunc.body, g43, ACode.at] at hZ'
    refine WD.of follows t43 (by simp) ?_
    simp (disch := omega) only [kB, kcx, kdm, kdn, kel, aop, resultsL, resultOf, Nat.reduceEqDiff, reduceCtorEq, eq1, apartOK, apart2, AObj.live, Int.reduceEq, Int.reduceLT, Int.reduceLE, Int.reduceAdd, Int.reduceSub, Int.reduceMul, Int.reduceToNat, cutCells, Nat.reduceAdd, Nat.reduceLeDiff, Nat.reduceLT, Nat.reduceMul, Nat.reduceSub, hZ']
    refine right_t ⟨wr, by rw [hget_old lb]; exact hb⟩ hw hw2 ha ?_
    cases hr : rgt w a n with
    | false =>
      rw [hr] at h
      simp (disch := omega) only [kB, kcx, kdm, kdn, kel, aop, resultsL, resultOf, Nat.reduceEqDiff, reduceCtorEq, eq1, apartOK, apart2, AObj.live, Int.reduceEq, Int.reduceLT, Int.reduceLE, Int.reduceAdd, Int.reduceSub, Int.reduceMul, Int.reduceToNat, cutCells, Nat.reduceAdd, Nat.reduceLeDiff, Nat.reduceLT, Nat.reduceMul, Nat.reduceSub, hZ']
      simpa using h
    | true =>
    rw [hr, if_pos rfl] at h
    have hr2 := hr
    simp only [rgt, Bool.and_eq_true, decide_eq_true_eq] at hr2
    obtain ⟨⟨⟨r1, r2⟩, r3⟩, r4⟩ := hr2
    obtain ⟨k, rfl⟩ : ∃ k : Nat, n = k := ⟨n.toNat, by omega⟩
    simp only [Int.toNat_natCast] at h r4
    have hkw : k ≤ w := by omega
    simp (disch := omega) only [kB, kcx, kdm, kdn, kel, aop, resultsL, resultOf, Nat.reduceEqDiff, reduceCtorEq, eq1, apartOK, apart2, AObj.live, Int.reduceEq, Int.reduceLT, Int.reduceLE, Int.reduceAdd, Int.reduceSub, Int.reduceMul, Int.reduceToNat, cutCells, Nat.reduceAdd, Nat.reduceLeDiff, Nat.reduceLT, Nat.reduceMul, Nat.reduceSub, hb, hZ']
    refine WLoop.inv (atI w a k b t H) ?_ t.size _ _ ⟨t, rfl, rfl, ht, htw, rfl, ex_env rfl⟩
    rintro z e H' ⟨t1, rfl, rfl, ht1, htw1, hat, ⟨x, rfl⟩⟩
    cases t1 with
    | nil =>
      simp only [Tr.ptr]
      simp (disch := omega) only [kB, kcx, kdm, kdn, kel, aop, resultsL, resultOf, Nat.reduceEqDiff, reduceCtorEq, eq1, apartOK, apart2, AObj.live, Int.reduceEq, Int.reduceLT, Int.reduceLE, Int.reduceAdd, Int.reduceSub, Int.reduceMul, Int.reduceToNat, cutCells, Nat.reduceAdd, Nat.reduceLeDiff, Nat.reduceLT, Nat.reduceMul, Nat.reduceSub, eqP_nn]
      refine hrest k .nil _ H.length _ trivial (by rw [hget_last]) (by exact ex_env rfl) ?_
      unfold atV at h
      rw [← hat] at h
      exact h
    | node b1 c k1 full v l r =>
      obtain ⟨⟨wr1, q1⟩, q2, q3⟩ := ht1
      obtain ⟨t1, t2, t3, t4, t5⟩ := htw1
      have hpn : 2 ^ w ≤ 2 ^ 128 := Nat.pow_le_pow_right (by decide) hw2
      have l1 := hget_lt q1 rfl
      simp only [Tr.ptr]
      unfold nodeRow at q1
      have fin : ∀ e, atT w a k (.node b1 c k1 full v l r) = .node b1 c k1 full v l r → (∃ x : Nat → Value, e = [x 0, x 1, x 2, .pointer (some ⟨H.length, 0, none⟩), x 4, .pointer (some ⟨b1, 0, none⟩), x 6, x 7, x 8, x 9, x 10, x 11, x 12, x 13, x 14, x 15, x 16, x 17, x 18, x 19, x 20, x 21, x 22, x 23, x 24, x 25, x 26, x 27, x 28, x 29, x 30, x 31, x 32, x 33, x 34, x 35, x 36, x 37, x 38, x 39, x 40, x 41, x 42, x 43, x 44, x 45, x 46, x 47, x 48, x 49, x 50, x 51, x 52, x 53, x 54, x 55, x 56, x 57, x 58, x 59, x 60, x 61, x 62, x 63, x 64, x 65, x 66, x 67, x 68, x 69, x 70, x 71, x 72]) → Z e (H ++ [.row [.int .u64 ((a / W64 : Nat) : Int), .int .u64 ((a % W64 : Nat) : Int), .int .i64 (k : Int)] 0 true]) (retK [.tmp 4] R) := fun e hT he => by
        refine hrest k (.node b1 c k1 full v l r) _ H.length e (TA.app ⟨⟨wr1, q1⟩, q2, q3⟩) (by rw [hget_last]) he ?_
        unfold atV at h
        rw [← hat, hT] at h
        exact h
      by_cases hlt : (k1 : Int) < (k : Int)
      case neg =>
        have hT : atT w a k (.node b1 c k1 full v l r) = .node b1 c k1 full v l r := by rw [atT, if_neg (fun q => hlt (by have := q.1; omega))]
        simp (disch := omega) only [kB, kcx, kdm, kdn, kel, aop, resultsL, resultOf, Nat.reduceEqDiff, reduceCtorEq, eq1, apartOK, apart2, AObj.live, Int.reduceEq, Int.reduceLT, Int.reduceLE, Int.reduceAdd, Int.reduceSub, Int.reduceMul, Int.reduceToNat, cutCells, Nat.reduceAdd, Nat.reduceLeDiff, Nat.reduceLT, Nat.reduceMul, Nat.reduceSub, eqP_sn, q1, hlt]
        exact fin _ hT (by exact ex_env rfl)
      simp (disch := omega) only [kB, kcx, kdm, kdn, kel, aop, resultsL, resultOf, Nat.reduceEqDiff, reduceCtorEq, eq1, apartOK, apart2, AObj.live, Int.reduceEq, Int.reduceLT, Int.reduceLE, Int.reduceAdd, Int.reduceSub, Int.reduceMul, Int.reduceToNat, cutCells, Nat.reduceAdd, Nat.reduceLeDiff, Nat.reduceLT, Nat.reduceMul, Nat.reduceSub, eqP_sn, q1, hlt]
      refine WV.of (fun c hc => ?_) ?_
      · simp only [List.mem_cons, List.not_mem_nil, or_false] at hc
        subst hc
        rw [hget_old l1, q1]
        rfl
      refine common_t (hth.app.frz _) hw hw2 t2 r3 ?_
      rw [thaw_frz0]
      by_cases hcm : ((cmp w c k1 a k : Nat) : Int) = (k1 : Int)
      case neg =>
        have hT : atT w a k (.node b1 c k1 full v l r) = .node b1 c k1 full v l r := by rw [atT, if_neg (fun q => hcm (by have := q.2; omega))]
        simp (disch := omega) only [kB, kcx, kdm, kdn, kel, aop, resultsL, resultOf, Nat.reduceEqDiff, reduceCtorEq, eq1, apartOK, apart2, AObj.live, Int.reduceEq, Int.reduceLT, Int.reduceLE, Int.reduceAdd, Int.reduceSub, Int.reduceMul, Int.reduceToNat, cutCells, Nat.reduceAdd, Nat.reduceLeDiff, Nat.reduceLT, Nat.reduceMul, Nat.reduceSub, eqP_sn, q1, hcm]
        exact fin _ hT (by exact ex_env rfl)
      simp (disch := omega) only [kB, kcx, kdm, kdn, kel, aop, resultsL, resultOf, Nat.reduceEqDiff, reduceCtorEq, eq1, apartOK, apart2, AObj.live, Int.reduceEq, Int.reduceLT, Int.reduceLE, Int.reduceAdd, Int.reduceSub, Int.reduceMul, Int.reduceToNat, cutCells, Nat.reduceAdd, Nat.reduceLeDiff, Nat.reduceLT, Nat.reduceMul, Nat.reduceSub, eqP_sn, q1, hcm]
      refine side_t hth.app hw hw2 (by omega) ha ?_
      have hT : atT w a k (.node b1 c k1 full v l r) = if sideN w a k1 = 0 then atT w a k l else atT w a k r := by rw [atT, if_pos ⟨by omega, by omega⟩]
      by_cases hs : sideN w a k1 = 0
      · have hs2 : ((sideN w a k1 : Nat) : Int) = 0 := by omega
        have c02 : ((0 : Nat) : Int) < ((2 : Nat) : Int) := by decide
        simp (disch := omega) only [kB, kcx, kdm, kdn, kel, aop, resultsL, resultOf, Nat.reduceEqDiff, reduceCtorEq, eq1, apartOK, apart2, AObj.live, Int.reduceEq, Int.reduceLT, Int.reduceLE, Int.reduceAdd, Int.reduceSub, Int.reduceMul, Int.reduceToNat, cutCells, Nat.reduceAdd, Nat.reduceLeDiff, Nat.reduceLT, Nat.reduceMul, Nat.reduceSub, q1, hs, hs2, c02]
        rw [if_pos hs] at hT
        exact ⟨l.size, by simp only [Tr.size]; omega, l, rfl, rfl, q2, t4, by rw [← hat, hT], ex_env rfl⟩
      · have hs1 : sideN w a k1 = 1 := by unfold sideN at hs ⊢; split <;> simp_all
        have hs2 : ((sideN w a k1 : Nat) : Int) = 1 := by omega
        have c12 : ((1 : Nat) : Int) < ((2 : Nat) : Int) := by decide
        simp (disch := omega) only [kB, kcx, kdm, kdn, kel, aop, resultsL, resultOf, Nat.reduceEqDiff, reduceCtorEq, eq1, apartOK, apart2, AObj.live, Int.reduceEq, Int.reduceLT, Int.reduceLE, Int.reduceAdd, Int.reduceSub, Int.reduceMul, Int.reduceToNat, cutCells, Nat.reduceAdd, Nat.reduceLeDiff, Nat.reduceLT, Nat.reduceMul, Nat.reduceSub, q1, hs1, hs2, c12]
        rw [if_neg hs] at hT
        exact ⟨r.size, by simp only [Tr.size]; omega, r, rfl, rfl, q3, t5, by rw [← hat, hT], ex_env rfl⟩
  refine WD.gc0 (key _ ⟨_, rfl, ⟨_, rfl⟩, ?_, h⟩)
  split
  · unfold atV atR
    have hsc : ∀ t : Tr, TA H t → Scoped H.length t.ptr := fun t ht => by
      cases t with
      | nil => exact .ptrNil
      | node b1 c k1 full v l r => obtain ⟨⟨wr1, q1⟩, _, _⟩ := ht; exact .ptr (hget_lt q1 rfl)
    have hta : ∀ t : Tr, TA H t → TA H (atT w a n.toNat t) := fun t ht => by
      induction t with
      | nil => exact trivial
      | node b1 c k1 full v l r ihl ihr =>
        rw [atT]
        split
        · split
          · exact ihl ht.2.1
          · exact ihr ht.2.2
        · exact ht
    have := hsc _ (hta t ht)
    generalize atT w a n.toNat t = t1 at this
    cases t1 with
    | nil => exact .ptrNil
    | node b1 c k1 full v l r =>
      simp only
      split
      · exact this
      · exact .ptrNil
  · exact .ptrNil

end Go.Proofs.Yticgkaanaimllaa.Ev

/- The trie with something more. -/
namespace Go.Proofs.Yticgkaanaimllaa.Ev
set_option maxRecDepth 100000
set_option linter.unusedSimpArgs false
set_option linter.unusedVariables false
variable {R : FRes → Heap → Prop} {H : Heap}

/-- A tree without its blocks' numbers. -/
inductive PT where
  | nil
  | node (a n : Nat) (full : Bool) (v : Int) (l r : PT)

def Tr.er : Tr → PT
  | .nil => .nil
  | .node _ a n full v l r => .node a n full v l.er r.er
def Tr.blocks : Tr → List Nat
  | .nil => []
  | .node b _ _ _ _ l r => b :: (l.blocks ++ r.blocks)
/-- So the tree lies, all of it to be written. -/
def TAw (H : Heap) : Tr → Prop
  | .nil => True
  | .node b a n full v l r => hget H b = .row (nodeRow a n full v l.ptr r.ptr) 0 true ∧ TAw H l ∧ TAw H r

theorem TAw.ta : ∀ {t : Tr}, TAw H t → TA H t
  | .nil, _ => trivial
  | .node b a n full v l r, ⟨h1, h2, h3⟩ => ⟨⟨true, h1⟩, h2.ta, h3.ta⟩
theorem TAw.lt : ∀ {t : Tr}, TAw H t → ∀ c ∈ t.blocks, c < H.length
  | .nil, _, c, hc => by cases hc
  | .node b a n full v l r, ⟨h1, h2, h3⟩, c, hc => by
    rcases List.mem_cons.1 hc with rfl | hc
    · exact hget_lt h1 rfl
    · rcases List.mem_append.1 hc with hc | hc
      · exact h2.lt c hc
      · exact h3.lt c hc
theorem TAw.same {H' : Heap} : ∀ {t : Tr}, TAw H t → (∀ c ∈ t.blocks, hget H' c = hget H c) → TAw H' t
  | .nil, _, _ => trivial
  | .node b a n full v l r, ⟨h1, h2, h3⟩, h => ⟨(h b (by simp [Tr.blocks])).trans h1, h2.same fun c hc => h c (by simp [Tr.blocks, hc]), h3.same fun c hc => h c (by simp [Tr.blocks, hc])⟩
theorem TAw.app {G : Heap} {t : Tr} (h : TAw H t) : TAw (H ++ G) t := h.same fun c hc => hget_old (h.lt c hc)

/-- One side of two is another. -/
def setK (s : Nat) (x : PT) (p : PT × PT) : PT × PT := if s = 0 then (x, p.2) else (p.1, x)

def withP (w a k : Nat) (v : Int) : PT → PT
  | .nil => .node a k true v .nil .nil
  | .node c n full u l r =>
    if cmp w c n a k = n ∧ cmp w c n a k = k then .node c n true v l r
    else if cmp w c n a k = n then (if sideN w a n = 0 then .node c n full u (withP w a k v l) r else .node c n full u l (withP w a k v r))
    else if cmp w c n a k = k then
      .node (a &&& maskN w (cmp w c n a k)) (cmp w c n a k) true v (setK (sideN w c (cmp w c n a k)) (.node c n full u l r) (.nil, .nil)).1 (setK (sideN w c (cmp w c n a k)) (.node c n full u l r) (.nil, .nil)).2
    else
      .node (a &&& maskN w (cmp w c n a k)) (cmp w c n a k) false 0
        (setK (sideN w a (cmp w c n a k)) (.node a k true v .nil .nil) (setK (sideN w c (cmp w c n a k)) (.node c n full u l r) (.nil, .nil))).1
        (setK (sideN w a (cmp w c n a k)) (.node a k true v .nil .nil) (setK (sideN w c (cmp w c n a k)) (.node c n full u l r) (.nil, .nil))).2

/-- What with leaves. -/
structure WPost (H : Heap) (t : Tr) (H' : Heap) (t' : Tr) : Prop where
  len : H.length ≤ H'.length
  frame : ∀ c, c < H.length → c ∉ t.blocks → hget H' c = hget H c
  lies : TAw H' t'
  nd : t'.blocks.Nodup
  own : ∀ c ∈ t'.blocks, c ∈ t.blocks ∨ H.length ≤ c

theorem TH.same {H' : Heap} {b w : Nat} (h : TH H b w) (hs : hget H' b = hget H b) : TH H' b w := by
  obtain ⟨m, l, rt, wr, h⟩ := h
  exact ⟨m, l, rt, wr, hs.trans h⟩
theorem TH.lt {b w : Nat} (h : TH H b w) : b < H.length := by
  obtain ⟨m, l, rt, wr, h⟩ := h
  exact hget_lt h rfl

theorem sideN_two (w a n : Nat) : sideN w a n = 0 ∨ sideN w a n = 1 := by
  unfold sideN
  split
  · exact .inr rfl
  · exact .inl rfl

theorem kid_post {H1 g : Heap} {x x' y : Tr} {b1 : Nat} {o : AObj} (hx : WPost (H ++ g) x H1 x') (hb1 : b1 < H.length) (n1 : b1 ∉ x.blocks) (n2 : b1 ∉ y.blocks) (hy : TAw H y) (dxy : ∀ c ∈ x.blocks, c ∉ y.blocks) :
    H.length ≤ (H1.set b1 o).length ∧ (∀ c, c < H.length → c ≠ b1 → c ∉ x.blocks → hget (H1.set b1 o) c = hget H c) ∧ TAw (H1.set b1 o) x' ∧ TAw (H1.set b1 o) y ∧ hget (H1.set b1 o) b1 = o ∧ b1 ∉ x'.blocks ∧
      (∀ c ∈ x'.blocks, c ∉ y.blocks) ∧ (∀ c ∈ x'.blocks, c ∈ x.blocks ∨ H.length ≤ c) := by
  have hl : H.length ≤ H1.length := by have := hx.len; simp at this; omega
  have hown : ∀ c ∈ x'.blocks, c ∈ x.blocks ∨ H.length ≤ c := fun c hc => by
    rcases hx.own c hc with q | q
    · exact .inl q
    · right; simp at q; omega
  have hfr : ∀ c, c < H.length → c ∉ x.blocks → hget H1 c = hget H c := fun c hc hn => (hx.frame c (by simp; omega) hn).trans (hget_old hc)
  have hb' : b1 ∉ x'.blocks := fun q => by
    rcases hown b1 q with q | q
    · exact n1 q
    · omega
  refine ⟨by simpa using hl, fun c hc hne hn => by rw [hget_ne (Ne.symm hne)]; exact hfr c hc hn, hx.lies.same fun c hc => hget_ne (fun q => hb' (by rw [q]; exact hc)), ?_, hget_set' (by omega), hb', fun c hc hcy => ?_, hown⟩
  · refine hy.same fun c hc => ?_
    rw [hget_ne (fun q => n2 (by rw [q]; exact hc))]
    exact hfr c (hy.lt c hc) fun q => dxy c q hc
  · rcases hown c hc with q | q
    · exact dxy c q hcy
    · have := hy.lt c hcy; omega

theorem cof_tr (t : Tr) : cellsOf t.ptr = [t.ptr] := by cases t <;> rfl
theorem one_tr (t : Tr) : oneCell t.ptr = true := by cases t <;> rfl

/-- Two new blocks over an old tree. -/
theorem up_post {t : Tr} (ht : TAw H t) (hnd : t.blocks.Nodup) {o : AObj} {a m : Nat} {f : Bool} {v : Int} {x y : Tr} (h : (x = t ∧ y = .nil) ∨ (x = .nil ∧ y = t)) :
    WPost H t (H ++ [o, .row (nodeRow a m f v x.ptr y.ptr) 0 true]) (.node (H.length + 1) a m f v x y) := by
  have hbl : ∀ c, c ∈ x.blocks ++ y.blocks ↔ c ∈ t.blocks := by
    rcases h with ⟨rfl, rfl⟩ | ⟨rfl, rfl⟩ <;> simp [Tr.blocks]
  refine ⟨by simp, fun c hc _ => hget_old hc, ⟨by rw [hget_base]; rfl, ?_, ?_⟩, ?_, fun c hc => ?_⟩
  · rcases h with ⟨rfl, rfl⟩ | ⟨rfl, rfl⟩
    · exact ht.app
    · exact trivial
  · rcases h with ⟨rfl, rfl⟩ | ⟨rfl, rfl⟩
    · exact trivial
    · exact ht.app
  · simp only [Tr.blocks, List.nodup_cons]
    refine ⟨fun q => ?_, ?_⟩
    · have := ht.lt _ ((hbl _).1 q); omega
    · rcases h with ⟨rfl, rfl⟩ | ⟨rfl, rfl⟩ <;> simpa [Tr.blocks] using hnd
  · simp only [Tr.blocks, List.mem_cons] at hc
    rcases hc with rfl | hc
    · right; omega
    · exact .inl ((hbl c).1 hc)

theorem fork_post {t : Tr} (ht : TAw H t) (hnd : t.blocks.Nodup) {o : AObj} {a m a2 k2 : Nat} {f : Bool} {v v2 : Int} {x y : Tr}
    (h : (x = t ∧ y = .node (H.length + 2) a2 k2 true v2 .nil .nil) ∨ (x = .node (H.length + 2) a2 k2 true v2 .nil .nil ∧ y = t)) :
    WPost H t (H ++ [o, .row (nodeRow a m f v x.ptr y.ptr) 0 true, .row (nodeRow a2 k2 true v2 (.pointer none) (.pointer none)) 0 true]) (.node (H.length + 1) a m f v x y) := by
  have hleaf : TAw (H ++ [o, AObj.row (nodeRow a m f v x.ptr y.ptr) 0 true, .row (nodeRow a2 k2 true v2 (.pointer none) (.pointer none)) 0 true]) (.node (H.length + 2) a2 k2 true v2 .nil .nil) := ⟨by rw [hget_base]; rfl, trivial, trivial⟩
  have hbl : ∀ c, c ∈ x.blocks ++ y.blocks ↔ c ∈ t.blocks ∨ c = H.length + 2 := fun c => by
    rcases h with ⟨rfl, rfl⟩ | ⟨rfl, rfl⟩
    · simp [Tr.blocks]
    · simp [Tr.blocks, or_comm]
  have hnew : H.length + 2 ∉ t.blocks := fun q => by have := ht.lt _ q; omega
  refine ⟨by simp, fun c hc _ => hget_old hc, ⟨by rw [hget_base]; rfl, ?_, ?_⟩, ?_, fun c hc => ?_⟩
  · rcases h with ⟨rfl, rfl⟩ | ⟨rfl, rfl⟩
    · exact ht.app
    · exact hleaf
  · rcases h with ⟨rfl, rfl⟩ | ⟨rfl, rfl⟩
    · exact hleaf
    · exact ht.app
  · simp only [Tr.blocks, List.nodup_cons]
    refine ⟨fun q => ?_, ?_⟩
    · rcases (hbl _).1 q with q | q
      · have := ht.lt _ q; omega
      · omega
    · rcases h with ⟨rfl, rfl⟩ | ⟨rfl, rfl⟩
      · simp only [Tr.blocks, List.append_nil]
        rw [List.nodup_append]
        refine ⟨hnd, by simp, fun c hc d hd q => ?_⟩
        simp at hd
        subst hd; subst q
        exact hnew hc
      · simp only [Tr.blocks, List.append_nil, List.cons_append, List.nil_append, List.nodup_cons]
        exact ⟨hnew, hnd⟩
  · simp only [Tr.blocks, List.mem_cons] at hc
    rcases hc with rfl | hc
    · right; omega
    · rcases (hbl c).1 hc with q | q
      · exact .inl q
      · right; omega

theorem top_bit {z : Nat} (hz : z ≠ 0) : z.testBit (blen z - 1) = true := by
  have h1 := blen_shr z (blen z - 1)
  have h2 := blen_pos hz
  have h3 : blen (z >>> (blen z - 1)) = 1 := by omega
  have h4 : z >>> (blen z - 1) < 2 := by
    have := blen_le (n := z >>> (blen z - 1)) (m := 1)
    exact this.1 (by omega)
  have h5 : z >>> (blen z - 1) ≠ 0 := fun q => by rw [q] at h3; cases h3
  have h6 : z >>> (blen z - 1) = 1 := by
    clear h1 h2 h3
    revert h4 h5
    generalize z >>> (blen z - 1) = y
    intro h4 h5
    omega
  rw [Nat.testBit_eq_decide_div_mod_eq, ← Nat.shiftRight_eq_div_pow, h6]
  rfl

/-- Where two prefixes part, their bits are not one. -/
theorem side_ne {w c n a k m : Nat} (hc : c < 2 ^ w) (ha : a < 2 ^ w) (hn : n ≤ w) (hm : cmp w c n a k = m) (h1 : m ≠ n) (h2 : m ≠ k) : sideN w c m ≠ sideN w a m := by
  have hx : c ^^^ a < 2 ^ w := Nat.xor_lt_two_pow hc ha
  have hb : blen (c ^^^ a) ≤ w := blen_le.2 hx
  have hcm : cmn w c a = m := by unfold cmp at hm; omega
  unfold cmn at hcm
  have hmn : m < n := by unfold cmp at hm; omega
  have hz : c ^^^ a ≠ 0 := fun q => by
    rw [q] at hcm
    have : blen 0 = 0 := rfl
    omega
  have ht := top_bit hz
  have e : blen (c ^^^ a) - 1 = w - 1 - m := by omega
  rw [e, Nat.testBit_xor] at ht
  unfold sideN
  cases q1 : c.testBit (w - 1 - m) <;> cases q2 : a.testBit (w - 1 - m) <;> rw [q1, q2] at ht <;> simp at ht ⊢

theorem with_t {b w a k : Nat} {v : Int} (hw : 1 ≤ w) (hw2 : w ≤ 128) (ha : a < 2 ^ w) (hk : k ≤ w) : ∀ (t : Tr) (H : Heap) (R : FRes → Heap → Prop), TH H b w → b ∉ t.blocks → TAw H t → TW w t → t.blocks.Nodup →
    (∀ t' H', WPost H t H' t' → t'.er = withP w a k v t.er → R (.ret t'.ptr) H') → WD T 44 [.pointer (some ⟨b, 0, none⟩), t.ptr, pfv a k, .int .i64 v] H R := by
  have hpn : 2 ^ w ≤ 2 ^ 128 := Nat.pow_le_pow_right (by decide) hw2
  have c02 : ((0 : Nat) : Int) < ((2 : Nat) : Int) := by decide
  have c12 : ((1 : Nat) : Int) < ((2 : Nat) : Int) := by decide
  intro t
  induction t with
  | nil =>
    intro H R hb _ _ _ _ h
    simp only [Tr.ptr]
    refine WD.of follows t44 (by simp) ?_
    simp (disch := omega) only [kB, kcx, kdm, kdn, kel, aop, resultsL, resultOf, Nat.reduceEqDiff, reduceCtorEq, eq1, apartOK, apart2, AObj.live, Int.reduceEq, Int.reduceLT, Int.reduceLE, Int.reduceAdd, Int.reduceSub, Int.reduceMul, Int.reduceToNat, cutCells, Nat.reduceAdd, Nat.reduceLeDiff, Nat.reduceLT, Nat.reduceMul, Nat.reduceSub, eqP_nn]
    refine h (.node (H.length + 1) a k true v .nil .nil) _ ⟨by simp, fun c hc _ => hget_old hc, ⟨by rw [hget_base]; rfl, trivial, trivial⟩, by simp [Tr.blocks], fun c hc => ?_⟩ rfl
    simp only [Tr.blocks, List.append_nil, List.mem_cons, List.not_mem_nil, or_false] at hc
    omega
  | node b1 c n full u l r ihl ihr =>
    intro H R hb hbn ht htw hnd h
    obtain ⟨q1, q2, q3⟩ := ht
    obtain ⟨t1, t2, t3, t4, t5⟩ := htw
    have l1 := hget_lt q1 rfl
    simp only [Tr.ptr]
    unfold nodeRow at q1
    refine WD.of follows t44 (by simp) ?_
    simp (disch := omega) only [kB, kcx, kdm, kdn, kel, aop, resultsL, resultOf, Nat.reduceEqDiff, reduceCtorEq, eq1, apartOK, apart2, AObj.live, Int.reduceEq, Int.reduceLT, Int.reduceLE, Int.reduceAdd, Int.reduceSub, Int.reduceMul, Int.reduceToNat, cutCells, Nat.reduceAdd, Nat.reduceLeDiff, Nat.reduceLT, Nat.reduceMul, Nat.reduceSub, eqP_sn, q1]
    refine common_t hb.app hw hw2 t2 ha ?_
    have hcm : cmp w c n a k ≤ n ∧ cmp w c n a k ≤ k := by unfold cmp; omega
    simp only [Tr.blocks, List.nodup_cons, List.mem_append, not_or, List.nodup_append] at hnd
    obtain ⟨⟨d1, d2⟩, d3, d4, d5⟩ := hnd
    simp only [Tr.blocks, List.mem_cons, List.mem_append, not_or] at hbn
    generalize hm : cmp w c n a k = m at *
    have hnb1 : b ≠ b1 := hbn.1
    by_cases m1 : (m : Int) = (n : Int)
    · have m1n : m = n := by omega
      by_cases m2 : (m : Int) = (k : Int)
      · have e1 : ((n : Int) = (k : Int)) = True := eq_true (m1.symm.trans m2)
        simp (disch := omega) only [kB, kcx, kdm, kdn, kel, aop, resultsL, resultOf, Nat.reduceEqDiff, reduceCtorEq, eq1, apartOK, apart2, AObj.live, Int.reduceEq, Int.reduceLT, Int.reduceLE, Int.reduceAdd, Int.reduceSub, Int.reduceMul, Int.reduceToNat, cutCells, Nat.reduceAdd, Nat.reduceLeDiff, Nat.reduceLT, Nat.reduceMul, Nat.reduceSub, eqP_sn, q1, m1, e1, hget_oldS, hget_set', set_oldS, List.set_set]
        refine h (.node b1 c n true v l r) _ ⟨by simp, fun x hx hn => ?_, ⟨?_, ?_, ?_⟩, ?_, fun x hx => .inl hx⟩ ?_
        · simp only [Tr.blocks, List.mem_cons, not_or] at hn
          rw [hget_oldS hx, hget_ne (Ne.symm hn.1)]
        · rw [hget_oldS l1, hget_set' l1]
          rfl
        · exact q2.same fun x hx => by rw [hget_oldS (q2.lt x hx), hget_ne (fun q => d1 (by rw [q]; exact hx))]
        · exact q3.same fun x hx => by rw [hget_oldS (q3.lt x hx), hget_ne (fun q => d2 (by rw [q]; exact hx))]
        · simp only [Tr.blocks, List.nodup_cons, List.mem_append, not_or, List.nodup_append]
          exact ⟨⟨d1, d2⟩, d3, d4, d5⟩
        · simp only [Tr.er, withP, hm]
          rw [if_pos ⟨m1n, by omega⟩]
      · have m3 : ¬ (n : Int) = (k : Int) := fun q => m2 (m1.trans q)
        simp (disch := omega) only [kB, kcx, kdm, kdn, kel, aop, resultsL, resultOf, Nat.reduceEqDiff, reduceCtorEq, eq1, apartOK, apart2, AObj.live, Int.reduceEq, Int.reduceLT, Int.reduceLE, Int.reduceAdd, Int.reduceSub, Int.reduceMul, Int.reduceToNat, cutCells, Nat.reduceAdd, Nat.reduceLeDiff, Nat.reduceLT, Nat.reduceMul, Nat.reduceSub, eqP_sn, q1, m1, m3]
        refine side_t hb.app hw hw2 (by omega) (by omega) ?_
        rcases sideN_two w a n with hs | hs
        · have hs2 : ((sideN w a n : Nat) : Int) = 0 := by omega
          simp (disch := omega) only [kB, kcx, kdm, kdn, kel, aop, resultsL, resultOf, Nat.reduceEqDiff, reduceCtorEq, eq1, apartOK, apart2, AObj.live, Int.reduceEq, Int.reduceLT, Int.reduceLE, Int.reduceAdd, Int.reduceSub, Int.reduceMul, Int.reduceToNat, cutCells, Nat.reduceAdd, Nat.reduceLeDiff, Nat.reduceLT, Nat.reduceMul, Nat.reduceSub, eqP_sn, q1, m1, hs, hs2, c02]
          refine ihl _ _ hb.app hbn.2.1 q2.app t4 d3 fun t' H1 hp her => ?_
          have lh := hp.len
          simp only [List.length_append, List.length_cons, List.length_nil] at lh
          have h1 : hget H1 b1 = .row [.int .u64 ((c / W64 : Nat) : Int), .int .u64 ((c % W64 : Nat) : Int), .int .i64 (n : Int), .bool full, .int .i64 u, l.ptr, r.ptr] 0 true := by
            rw [hp.frame b1 (by simp; omega) d1, hget_old l1]; exact q1
          have lh1 : b1 < H1.length := by omega
          simp (disch := omega) only [kB, kcx, kdm, kdn, kel, aop, resultsL, resultOf, Nat.reduceEqDiff, reduceCtorEq, eq1, apartOK, apart2, AObj.live, Int.reduceEq, Int.reduceLT, Int.reduceLE, Int.reduceAdd, Int.reduceSub, Int.reduceMul, Int.reduceToNat, cutCells, Nat.reduceAdd, Nat.reduceLeDiff, Nat.reduceLT, Nat.reduceMul, Nat.reduceSub, eqP_sn, h1, hs, c02, cof_tr, one_tr]
          obtain ⟨p1, p2, p3, p4, p5, p6, p7, p8⟩ := kid_post (o := .row (nodeRow c n full u t'.ptr r.ptr) 0 true) hp l1 d1 d2 q3 (fun x hx hy => d5 x hx x hy rfl)
          refine h (.node b1 c n full u t' r) _ ⟨p1, fun x hx hn => ?_, ⟨p5, p3, p4⟩, ?_, fun x hx => ?_⟩ ?_
          · simp only [Tr.blocks, List.mem_cons, List.mem_append, not_or] at hn
            exact p2 x hx hn.1 hn.2.1
          · simp only [Tr.blocks, List.nodup_cons, List.mem_append, not_or, List.nodup_append]
            exact ⟨⟨p6, d2⟩, hp.nd, d4, fun x hx y hy q => p7 x hx (by rw [q]; exact hy)⟩
          · simp only [Tr.blocks, List.mem_cons, List.mem_append] at hx ⊢
            rcases hx with hx | hx | hx
            · exact .inl (.inl hx)
            · exact (p8 x hx).imp (fun q => .inr (.inl q)) id
            · exact .inl (.inr (.inr hx))
          · simp only [Tr.er, withP, hm, her]
            rw [if_neg (fun q => m2 (by have := q.2; omega)), if_pos m1n, if_pos hs]
        · have hs2 : ((sideN w a n : Nat) : Int) = 1 := by omega
          simp (disch := omega) only [kB, kcx, kdm, kdn, kel, aop, resultsL, resultOf, Nat.reduceEqDiff, reduceCtorEq, eq1, apartOK, apart2, AObj.live, Int.reduceEq, Int.reduceLT, Int.reduceLE, Int.reduceAdd, Int.reduceSub, Int.reduceMul, Int.reduceToNat, cutCells, Nat.reduceAdd, Nat.reduceLeDiff, Nat.reduceLT, Nat.reduceMul, Nat.reduceSub, eqP_sn, q1, m1, hs, hs2, c12]
          refine ihr _ _ hb.app hbn.2.2 q3.app t5 d4 fun t' H1 hp her => ?_
          have lh := hp.len
          simp only [List.length_append, List.length_cons, List.length_nil] at lh
          have h1 : hget H1 b1 = .row [.int .u64 ((c / W64 : Nat) : Int), .int .u64 ((c % W64 : Nat) : Int), .int .i64 (n : Int), .bool full, .int .i64 u, l.ptr, r.ptr] 0 true := by
            rw [hp.frame b1 (by simp; omega) d2, hget_old l1]; exact q1
          have lh1 : b1 < H1.length := by omega
          simp (disch := omega) only [kB, kcx, kdm, kdn, kel, aop, resultsL, resultOf, Nat.reduceEqDiff, reduceCtorEq, eq1, apartOK, apart2, AObj.live, Int.reduceEq, Int.reduceLT, Int.reduceLE, Int.reduceAdd, Int.reduceSub, Int.reduceMul, Int.reduceToNat, cutCells, Nat.reduceAdd, Nat.reduceLeDiff, Nat.reduceLT, Nat.reduceMul, Nat.reduceSub, eqP_sn, h1, hs, c12, cof_tr, one_tr]
          obtain ⟨p1, p2, p3, p4, p5, p6, p7, p8⟩ := kid_post (o := .row (nodeRow c n full u l.ptr t'.ptr) 0 true) hp l1 d2 d1 q2 (fun x hx hy => d5 x hy x hx rfl)
          refine h (.node b1 c n full u l t') _ ⟨p1, fun x hx hn => ?_, ⟨p5, p4, p3⟩, ?_, fun x hx => ?_⟩ ?_
          · simp only [Tr.blocks, List.mem_cons, List.mem_append, not_or] at hn
            exact p2 x hx hn.1 hn.2.2
          · simp only [Tr.blocks, List.nodup_cons, List.mem_append, not_or, List.nodup_append]
            exact ⟨⟨d1, p6⟩, d3, hp.nd, fun x hx y hy q => p7 y hy (by rw [← q]; exact hx)⟩
          · simp only [Tr.blocks, List.mem_cons, List.mem_append] at hx ⊢
            rcases hx with hx | hx | hx
            · exact .inl (.inl hx)
            · exact .inl (.inr (.inl hx))
            · exact (p8 x hx).imp (fun q => .inr (.inr q)) id
          · have hs0 : ¬ sideN w a n = 0 := by omega
            simp only [Tr.er, withP, hm, her]
            rw [if_neg (fun q => m2 (by have := q.2; omega)), if_pos m1n, if_neg hs0]
    · have m1n : ¬ m = n := fun q => m1 (by omega)
      simp (disch := omega) only [kB, kcx, kdm, kdn, kel, aop, resultsL, resultOf, Nat.reduceEqDiff, reduceCtorEq, eq1, apartOK, apart2, AObj.live, Int.reduceEq, Int.reduceLT, Int.reduceLE, Int.reduceAdd, Int.reduceSub, Int.reduceMul, Int.reduceToNat, cutCells, Nat.reduceAdd, Nat.reduceLeDiff, Nat.reduceLT, Nat.reduceMul, Nat.reduceSub, eqP_sn, q1, m1]
      refine cut_t hb.app hw hw2 (by omega) (by omega) ?_
      simp (disch := omega) only [kB, kcx, kdm, kdn, kel, aop, resultsL, resultOf, Nat.reduceEqDiff, reduceCtorEq, eq1, apartOK, apart2, AObj.live, Int.reduceEq, Int.reduceLT, Int.reduceLE, Int.reduceAdd, Int.reduceSub, Int.reduceMul, Int.reduceToNat, cutCells, Nat.reduceAdd, Nat.reduceLeDiff, Nat.reduceLT, Nat.reduceMul, Nat.reduceSub, q1]
      refine side_t hb.app hw hw2 (by omega) (by omega) ?_
      have hnd0 : (Tr.node b1 c n full u l r).blocks.Nodup := by
        simp only [Tr.blocks, List.nodup_cons, List.mem_append, not_or, List.nodup_append]
        exact ⟨⟨d1, d2⟩, d3, d4, d5⟩
      have ht0 : TAw H (.node b1 c n full u l r) := ⟨q1, q2, q3⟩
      rcases sideN_two w c m with s1 | s1
      · have s1' : ((sideN w c m : Nat) : Int) = 0 := by omega
        by_cases m2 : (m : Int) = (k : Int)
        · have e1 : ((m : Int) = (k : Int)) = True := eq_true m2
          simp (disch := omega) only [kB, kcx, kdm, kdn, kel, aop, resultsL, resultOf, Nat.reduceEqDiff, reduceCtorEq, eq1, apartOK, apart2, AObj.live, Int.reduceEq, Int.reduceLT, Int.reduceLE, Int.reduceAdd, Int.reduceSub, Int.reduceMul, Int.reduceToNat, cutCells, Nat.reduceAdd, Nat.reduceLeDiff, Nat.reduceLT, Nat.reduceMul, Nat.reduceSub, s1, s1', c02, e1]
          refine h _ _ (up_post ht0 hnd0 (x := .node b1 c n full u l r) (y := .nil) (.inl ⟨rfl, rfl⟩)) ?_
          simp only [Tr.er, withP, hm, s1, setK, if_true]
          rw [if_neg (fun q => m1n q.1), if_neg m1n, if_pos (by omega)]
        · simp (disch := omega) only [kB, kcx, kdm, kdn, kel, aop, resultsL, resultOf, Nat.reduceEqDiff, reduceCtorEq, eq1, apartOK, apart2, AObj.live, Int.reduceEq, Int.reduceLT, Int.reduceLE, Int.reduceAdd, Int.reduceSub, Int.reduceMul, Int.reduceToNat, cutCells, Nat.reduceAdd, Nat.reduceLeDiff, Nat.reduceLT, Nat.reduceMul, Nat.reduceSub, s1, s1', c02, m2]
          refine WV.of (fun x hx => ?_) ?_
          · simp only [List.mem_cons, List.not_mem_nil, or_false] at hx
            subst hx
            simp (disch := omega) only [kB, kcx, kdm, kdn, kel, aop, resultsL, resultOf, Nat.reduceEqDiff, reduceCtorEq, eq1, apartOK, apart2, AObj.live, Int.reduceEq, Int.reduceLT, Int.reduceLE, Int.reduceAdd, Int.reduceSub, Int.reduceMul, Int.reduceToNat, cutCells, Nat.reduceAdd, Nat.reduceLeDiff, Nat.reduceLT, Nat.reduceMul, Nat.reduceSub]
            rfl
          refine side_t (hb.app.frz _) hw hw2 (by omega) (by omega) ?_
          rw [thaw_frz0]
          rcases sideN_two w a m with s2 | s2
          · exact absurd (s1.trans s2.symm) (side_ne t2 ha t1 hm m1n (fun q => m2 (by omega)))
          · have s2' : ((sideN w a m : Nat) : Int) = 1 := by omega
            simp (disch := omega) only [kB, kcx, kdm, kdn, kel, aop, resultsL, resultOf, Nat.reduceEqDiff, reduceCtorEq, eq1, apartOK, apart2, AObj.live, Int.reduceEq, Int.reduceLT, Int.reduceLE, Int.reduceAdd, Int.reduceSub, Int.reduceMul, Int.reduceToNat, cutCells, Nat.reduceAdd, Nat.reduceLeDiff, Nat.reduceLT, Nat.reduceMul, Nat.reduceSub, s1, s2, s2', c12]
            refine h _ _ (fork_post ht0 hnd0 (x := .node b1 c n full u l r) (.inl ⟨rfl, rfl⟩)) ?_
            simp only [Tr.er, withP, hm, s1, s2, setK, if_true]
            rw [if_neg (fun q => m1n q.1), if_neg m1n, if_neg (by omega)]
            simp
      · have s1' : ((sideN w c m : Nat) : Int) = 1 := by omega
        have s10 : ¬ sideN w c m = 0 := by omega
        by_cases m2 : (m : Int) = (k : Int)
        · have e1 : ((m : Int) = (k : Int)) = True := eq_true m2
          simp (disch := omega) only [kB, kcx, kdm, kdn, kel, aop, resultsL, resultOf, Nat.reduceEqDiff, reduceCtorEq, eq1, apartOK, apart2, AObj.live, Int.reduceEq, Int.reduceLT, Int.reduceLE, Int.reduceAdd, Int.reduceSub, Int.reduceMul, Int.reduceToNat, cutCells, Nat.reduceAdd, Nat.reduceLeDiff, Nat.reduceLT, Nat.reduceMul, Nat.reduceSub, s1, s1', c12, e1]
          refine h _ _ (up_post ht0 hnd0 (x := .nil) (y := .node b1 c n full u l r) (.inr ⟨rfl, rfl⟩)) ?_
          simp only [Tr.er, withP, hm, s10, setK, if_false]
          rw [if_neg (fun q => m1n q.1), if_neg m1n, if_pos (by omega)]
        · simp (disch := omega) only [kB, kcx, kdm, kdn, kel, aop, resultsL, resultOf, Nat.reduceEqDiff, reduceCtorEq, eq1, apartOK, apart2, AObj.live, Int.reduceEq, Int.reduceLT, Int.reduceLE, Int.reduceAdd, Int.reduceSub, Int.reduceMul, Int.reduceToNat, cutCells, Nat.reduceAdd, Nat.reduceLeDiff, Nat.reduceLT, Nat.reduceMul, Nat.reduceSub, s1, s1', c12, m2]
          refine WV.of (fun x hx => ?_) ?_
          · simp only [List.mem_cons, List.not_mem_nil, or_false] at hx
            subst hx
            simp (disch := omega) only [kB, kcx, kdm, kdn, kel, aop, resultsL, resultOf, Nat.reduceEqDiff, reduceCtorEq, eq1, apartOK, apart2, AObj.live, Int.reduceEq, Int.reduceLT, Int.reduceLE, Int.reduceAdd, Int.reduceSub, Int.reduceMul, Int.reduceToNat, cutCells, Nat.reduceAdd, Nat.reduceLeDiff, Nat.reduceLT, Nat.reduceMul, Nat.reduceSub]
            rfl
          refine side_t (hb.app.frz _) hw hw2 (by omega) (by omega) ?_
          rw [thaw_frz0]
          rcases sideN_two w a m with s2 | s2
          · have s2' : ((sideN w a m : Nat) : Int) = 0 := by omega
            simp (disch := omega) only [kB, kcx, kdm, kdn, kel, aop, resultsL, resultOf, Nat.reduceEqDiff, reduceCtorEq, eq1, apartOK, apart2, AObj.live, Int.reduceEq, Int.reduceLT, Int.reduceLE, Int.reduceAdd, Int.reduceSub, Int.reduceMul, Int.reduceToNat, cutCells, Nat.reduceAdd, Nat.reduceLeDiff, Nat.reduceLT, Nat.reduceMul, Nat.reduceSub, s1, s2, s2', c02]
            refine h _ _ (fork_post ht0 hnd0 (y := .node b1 c n full u l r) (.inr ⟨rfl, rfl⟩)) ?_
            simp only [Tr.er, withP, hm, s10, s2, setK, if_true, if_false]
            rw [if_neg (fun q => m1n q.1), if_neg m1n, if_neg (by omega)]
          · exact absurd (s1.trans s2.symm) (side_ne t2 ha t1 hm m1n (fun q => m2 (by omega)))

end Go.Proofs.Yticgkaanaimllaa.Ev

/- Prefixes of numbers: plain laws. -/
namespace Go.Proofs.Yticgkaanaimllaa.Ev
set_option linter.unusedSimpArgs false
set_option linter.unusedVariables false

/-- A number begins with a prefix's bits. -/
def Und (w c n a : Nat) : Prop := c >>> (w - n) = a >>> (w - n)
instance {w c n a : Nat} : Decidable (Und w c n a) := inferInstanceAs (Decidable (_ = _))

theorem Und.refl {w c n : Nat} : Und w c n c := rfl
theorem Und.symm {w c n a : Nat} (h : Und w c n a) : Und w a n c := Eq.symm h
theorem Und.trans {w c n a b : Nat} (h : Und w c n a) (k : Und w a n b) : Und w c n b := Eq.trans h k
theorem Und.less {w c n m a : Nat} (h : Und w c n a) (hm : m ≤ n) : Und w c m a := by
  unfold Und at *
  have e : w - m = (w - n) + (w - m - (w - n)) := by omega
  rw [e, Nat.shiftRight_add, Nat.shiftRight_add, h]

theorem xor_zero {a b : Nat} : a ^^^ b = 0 ↔ a = b := by
  constructor
  · intro h
    refine Nat.eq_of_testBit_eq fun i => ?_
    have := congrArg (fun z => z.testBit i) h
    simp only [Nat.testBit_xor, Nat.zero_testBit] at this
    cases h1 : a.testBit i <;> cases h2 : b.testBit i <;> rw [h1, h2] at this <;> first | rfl | cases this
  · rintro rfl
    exact Nat.xor_self a

theorem cmn_ge {w n c a : Nat} (hn : n ≤ w) (hc : c < 2 ^ w) (ha : a < 2 ^ w) : n ≤ cmn w c a ↔ Und w c n a := by
  have hb : blen (c ^^^ a) ≤ w := blen_le.2 (Nat.xor_lt_two_pow hc ha)
  have h1 : n ≤ cmn w c a ↔ blen (c ^^^ a) ≤ w - n := by unfold cmn; omega
  rw [h1, blen_le, ← shr_zero, Nat.shiftRight_xor_distrib, xor_zero]
  exact Iff.rfl

theorem cmp_eq {w c n a k : Nat} (hn : n ≤ w) (hc : c < 2 ^ w) (ha : a < 2 ^ w) : cmp w c n a k = n ↔ n ≤ k ∧ Und w c n a := by
  rw [← cmn_ge hn hc ha]
  unfold cmp
  omega
theorem cmp_eq2 {w c n a k : Nat} (hk : k ≤ w) (hc : c < 2 ^ w) (ha : a < 2 ^ w) : cmp w c n a k = k ↔ k ≤ n ∧ Und w c k a := by
  rw [← cmn_ge hk hc ha]
  unfold cmp
  omega
theorem cmp_und {w c n a k : Nat} (hn : n ≤ w) (hc : c < 2 ^ w) (ha : a < 2 ^ w) : Und w c (cmp w c n a k) a := by
  have : cmp w c n a k ≤ w := by unfold cmp; omega
  rw [← cmn_ge this hc ha]
  unfold cmp
  omega

theorem testBit_mask {w n i : Nat} (hw : w ≤ 128) (hn : n ≤ w) : (maskN w n).testBit i = (decide (w - n ≤ i) && decide (i < w)) := by
  unfold maskN onesN
  rw [testBit_shl, Nat.testBit_two_pow_sub_one]
  by_cases h1 : w - n ≤ i <;> by_cases h2 : i < w
  · have h3 : i < 128 := by omega
    have h4 : i - (w - n) < n := by omega
    simp [h1, h2, h3, h4]
  · have h4 : ¬ i - (w - n) < n := by omega
    simp [h2, h4]
  · simp [h1]
  · simp [h1]

theorem lt_bit {a w i : Nat} (ha : a < 2 ^ w) (hi : w ≤ i) : a.testBit i = false := Nat.testBit_lt_two_pow (Nat.lt_of_lt_of_le ha (Nat.pow_le_pow_right (by decide) hi))

/-- What is left of a number by a mask. -/
theorem cut_und {w a m : Nat} (hw : w ≤ 128) (hm : m ≤ w) (ha : a < 2 ^ w) : Und w (a &&& maskN w m) m a := by
  refine Nat.eq_of_testBit_eq fun i => ?_
  rw [Nat.testBit_shiftRight, Nat.testBit_shiftRight, Nat.testBit_and, testBit_mask hw hm]
  by_cases h : w - m + i < w
  · simp [h]
  · rw [lt_bit ha (by omega)]
    rfl
theorem cut_lt {w a m : Nat} (ha : a < 2 ^ w) : a &&& maskN w m < 2 ^ w := Nat.lt_of_le_of_lt Nat.and_le_left ha
theorem cut_cut {w a m : Nat} : (a &&& maskN w m) &&& maskN w m = a &&& maskN w m := by rw [Nat.and_assoc, Nat.and_self]

/-- Two prefixes of one length and with the same bits are one. -/
theorem pre_eq {w a c n : Nat} (hw : w ≤ 128) (hn : n ≤ w) (ha : a < 2 ^ w) (hc : c < 2 ^ w) (h1 : a &&& maskN w n = a) (h2 : c &&& maskN w n = c) (h : Und w a n c) : a = c := by
  refine Nat.eq_of_testBit_eq fun i => ?_
  by_cases hi : w - n ≤ i
  · have := congrArg (fun z => z.testBit (i - (w - n))) h
    simp only [Nat.testBit_shiftRight] at this
    rwa [show w - n + (i - (w - n)) = i by omega] at this
  · have e1 := congrArg (fun z => z.testBit i) h1
    have e2 := congrArg (fun z => z.testBit i) h2
    simp only [Nat.testBit_and, testBit_mask hw hn, decide_eq_false hi, Bool.false_and, Bool.and_false] at e1 e2
    rw [← e1, ← e2]

theorem und_bit {w c n a m : Nat} (h : Und w c n a) (hm : m < n) (hn : n ≤ w) : sideN w c m = sideN w a m := by
  have := congrArg (fun z => z.testBit (n - 1 - m)) h
  simp only [Nat.testBit_shiftRight] at this
  rw [show w - n + (n - 1 - m) = w - 1 - m by omega] at this
  unfold sideN
  rw [this]

theorem und_succ {w c n a : Nat} (hn : n < w) : Und w c (n + 1) a ↔ Und w c n a ∧ sideN w c n = sideN w a n := by
  constructor
  · intro h
    exact ⟨h.less (by omega), und_bit h (by omega) (by omega)⟩
  · rintro ⟨h1, h2⟩
    refine Nat.eq_of_testBit_eq fun i => ?_
    rw [Nat.testBit_shiftRight, Nat.testBit_shiftRight]
    by_cases hi : i = 0
    · subst hi
      rw [show w - (n + 1) + 0 = w - 1 - n by omega]
      unfold sideN at h2
      cases q1 : c.testBit (w - 1 - n) <;> cases q2 : a.testBit (w - 1 - n) <;> rw [q1, q2] at h2 <;> simp at h2 ⊢
    · have := congrArg (fun z => z.testBit (i - 1)) h1
      simp only [Nat.testBit_shiftRight] at this
      rwa [show w - n + (i - 1) = w - (n + 1) + i by omega] at this

end Go.Proofs.Yticgkaanaimllaa.Ev

/- Put. -/
namespace Go.Proofs.Yticgkaanaimllaa.Ev
set_option maxRecDepth 100000
set_option linter.unusedSimpArgs false
set_option linter.unusedVariables false
variable {R : FRes → Heap → Prop} {H : Heap}

/-- A trie in memory. -/
structure TI (H : Heap) (b w : Nat) (m l : Int) (t : Tr) : Prop where
  hd : hget H b = .row [.int .i64 (w : Int), .int .i64 m, .int .i64 l, t.ptr] 0 true
  nb : b ∉ t.blocks
  lies : TAw H t
  ok : TW w t
  nd : t.blocks.Nodup

def TWp (w : Nat) : PT → Prop
  | .nil => True
  | .node a n _ _ l r => n ≤ w ∧ a < 2 ^ w ∧ a &&& maskN w n = a ∧ TWp w l ∧ TWp w r
theorem tw_er {w : Nat} : ∀ {t : Tr}, TW w t ↔ TWp w t.er
  | .nil => Iff.rfl
  | .node b a n f v l r => by
    simp only [TW, Tr.er, TWp]
    rw [tw_er (t := l), tw_er (t := r)]
theorem withP_tw {w a k : Nat} {v : Int} (ha : a < 2 ^ w) (hk : k ≤ w) (hm : a &&& maskN w k = a) : ∀ {t : PT}, TWp w t → TWp w (withP w a k v t)
  | .nil, _ => ⟨hk, ha, hm, trivial, trivial⟩
  | .node c n f u l r, ⟨h1, h2, h3, h4, h5⟩ => by
    have hc : cmp w c n a k ≤ w := by unfold cmp; omega
    rw [withP]
    split
    · exact ⟨h1, h2, h3, h4, h5⟩
    · split
      · split
        · exact ⟨h1, h2, h3, withP_tw ha hk hm h4, h5⟩
        · exact ⟨h1, h2, h3, h4, withP_tw ha hk hm h5⟩
      · have hold : TWp w (.node c n f u l r) := ⟨h1, h2, h3, h4, h5⟩
        have hnew : TWp w (.node a k true v .nil .nil) := ⟨hk, ha, hm, trivial, trivial⟩
        split
        · refine ⟨hc, cut_lt ha, cut_cut, ?_, ?_⟩ <;> (unfold setK; split <;> first | exact hold | exact trivial)
        · refine ⟨hc, cut_lt ha, cut_cut, ?_, ?_⟩ <;> (unfold setK; repeat' split) <;> first | exact hold | exact hnew | exact trivial

theorem put_t {b w a : Nat} {m l n v : Int} {t : Tr} (I : TI H b w m l t) (hw : 1 ≤ w) (hw2 : w ≤ 128) (ha : a < 2 ^ 128) (hl : -9223372036854775808 ≤ l ∧ l < 9223372036854775807)
    (h1 : rgt w a n = false → ∀ g, R (.ret (.int .i64 111)) (H ++ g))
    (h2 : rgt w a n = true → atV w a n.toNat t ≠ .pointer none → ∀ g, R (.ret (.int .i64 121)) (H ++ g))
    (h3 : rgt w a n = true → atV w a n.toNat t = .pointer none → m ≤ l → ∀ g, R (.ret (.int .i64 120)) (H ++ g))
    (h4 : rgt w a n = true → atV w a n.toNat t = .pointer none → l < m → ∀ t' H', H.length ≤ H'.length → (∀ c, c < H.length → c ≠ b → c ∉ t.blocks → hget H' c = hget H c) → TI H' b w m (l + 1) t' → (∀ c ∈ t'.blocks, c ∈ t.blocks ∨ H.length ≤ c) → t'.er = withP w a n.toNat v t.er → R (.ret (.int .i64 0)) H') :
    WD T 12 [.pointer (some ⟨b, 0, none⟩), pfv a n, .int .i64 v] H R := by
  obtain ⟨hd, nb, lies, ok, nd⟩ := I
  have lb := hget_lt hd rfl
  have hth : TH H b w := ⟨m, l, t.ptr, true, hd⟩
  refine WD.of follows t12 (by simp) ?_
  simp (disch := omega) only [kB, kcx, kdm, kdn, kel, aop, resultsL, resultOf, Nat.reduceEqDiff, reduceCtorEq, eq1, apartOK, apart2, AObj.live, Int.reduceEq, Int.reduceLT, Int.reduceLE, Int.reduceAdd, Int.reduceSub, Int.reduceMul, Int.reduceToNat, cutCells, Nat.reduceAdd, Nat.reduceLeDiff, Nat.reduceLT, Nat.reduceMul, Nat.reduceSub, eqP_sn]
  refine right_t ⟨true, by rw [hget_old lb]; exact hd⟩ hw hw2 ha ?_
  cases hr : rgt w a n with
  | false =>
    simp (disch := omega) only [kB, kcx, kdm, kdn, kel, aop, resultsL, resultOf, Nat.reduceEqDiff, reduceCtorEq, eq1, apartOK, apart2, AObj.live, Int.reduceEq, Int.reduceLT, Int.reduceLE, Int.reduceAdd, Int.reduceSub, Int.reduceMul, Int.reduceToNat, cutCells, Nat.reduceAdd, Nat.reduceLeDiff, Nat.reduceLT, Nat.reduceMul, Nat.reduceSub]
    exact h1 hr _
  | true =>
  simp (disch := omega) only [kB, kcx, kdm, kdn, kel, aop, resultsL, resultOf, Nat.reduceEqDiff, reduceCtorEq, eq1, apartOK, apart2, AObj.live, Int.reduceEq, Int.reduceLT, Int.reduceLE, Int.reduceAdd, Int.reduceSub, Int.reduceMul, Int.reduceToNat, cutCells, Nat.reduceAdd, Nat.reduceLeDiff, Nat.reduceLT, Nat.reduceMul, Nat.reduceSub, eqP_sn]
  refine at_t (by rw [hget_old lb]; exact hd) hw hw2 ha lies.ta.app ok ?_
  rw [hr, if_pos rfl]
  by_cases hat : atV w a n.toNat t = .pointer none
  case neg =>
    have : ∃ x, atV w a n.toNat t = .pointer (some x) := by
      unfold atV atR at hat ⊢
      generalize atT w a n.toNat t = t1 at hat ⊢
      cases t1 with
      | nil => exact absurd rfl hat
      | node b1 c n1 full u l r =>
        simp only at hat ⊢
        split
        · exact ⟨_, rfl⟩
        · rename_i q; rw [if_neg q] at hat; exact absurd rfl hat
    obtain ⟨x, hx⟩ := this
    rw [hx]
    simp (disch := omega) only [kB, kcx, kdm, kdn, kel, aop, resultsL, resultOf, Nat.reduceEqDiff, reduceCtorEq, eq1, apartOK, apart2, AObj.live, Int.reduceEq, Int.reduceLT, Int.reduceLE, Int.reduceAdd, Int.reduceSub, Int.reduceMul, Int.reduceToNat, cutCells, Nat.reduceAdd, Nat.reduceLeDiff, Nat.reduceLT, Nat.reduceMul, Nat.reduceSub, eqP_sn]
    exact h2 hr hat _
  rw [hat]
  have hr2 := hr
  simp only [rgt, Bool.and_eq_true, decide_eq_true_eq] at hr2
  obtain ⟨⟨⟨r1, r2⟩, r3⟩, r4⟩ := hr2
  obtain ⟨k, rfl⟩ : ∃ k : Nat, n = k := ⟨n.toNat, by omega⟩
  simp only [Int.toNat_natCast] at h4 r4 hat
  by_cases hlm : m ≤ l
  · simp (disch := omega) only [kB, kcx, kdm, kdn, kel, aop, resultsL, resultOf, Nat.reduceEqDiff, reduceCtorEq, eq1, apartOK, apart2, AObj.live, Int.reduceEq, Int.reduceLT, Int.reduceLE, Int.reduceAdd, Int.reduceSub, Int.reduceMul, Int.reduceToNat, cutCells, Nat.reduceAdd, Nat.reduceLeDiff, Nat.reduceLT, Nat.reduceMul, Nat.reduceSub, eqP_nn, hd, hlm]
    exact h3 hr hat hlm _
  · simp (disch := omega) only [kB, kcx, kdm, kdn, kel, aop, resultsL, resultOf, Nat.reduceEqDiff, reduceCtorEq, eq1, apartOK, apart2, AObj.live, Int.reduceEq, Int.reduceLT, Int.reduceLE, Int.reduceAdd, Int.reduceSub, Int.reduceMul, Int.reduceToNat, cutCells, Nat.reduceAdd, Nat.reduceLeDiff, Nat.reduceLT, Nat.reduceMul, Nat.reduceSub, eqP_nn, hd, hlm, wr_i64, hget_oldS, hget_set', set_oldS, List.set_set]
    have hth2 : TH (H.set b (.row [.int .i64 (w : Int), .int .i64 m, .int .i64 (l + 1), t.ptr] 0 true) ++ [.row [.int .u64 ((a / W64 : Nat) : Int), .int .u64 ((a % W64 : Nat) : Int), .int .i64 (k : Int)] 0 true]) b w := ⟨m, l + 1, t.ptr, true, by rw [hget_oldS lb, hget_set' lb]⟩
    have lies2 : TAw (H.set b (.row [.int .i64 (w : Int), .int .i64 m, .int .i64 (l + 1), t.ptr] 0 true) ++ [.row [.int .u64 ((a / W64 : Nat) : Int), .int .u64 ((a % W64 : Nat) : Int), .int .i64 (k : Int)] 0 true]) t :=
      lies.same fun c hc => by rw [hget_oldS (lies.lt c hc), hget_ne (fun q => nb (by rw [q]; exact hc))]
    refine with_t hw hw2 r3 (by omega) t _ _ hth2 nb lies2 ok nd fun t' H1 hp her => ?_
    have lh := hp.len
    simp only [List.length_append, List.length_set, List.length_cons, List.length_nil] at lh
    have lb1 : b < H1.length := by omega
    have hb1 : hget H1 b = .row [.int .i64 (w : Int), .int .i64 m, .int .i64 (l + 1), t.ptr] 0 true := by
      rw [hp.frame b (by simp; omega) nb, hget_oldS lb, hget_set' lb]
    have nb1 : b ∉ t'.blocks := fun q => by
      rcases hp.own b q with q | q
      · exact nb q
      · simp at q; omega
    simp (disch := omega) only [kB, kcx, kdm, kdn, kel, aop, resultsL, resultOf, Nat.reduceEqDiff, reduceCtorEq, eq1, apartOK, apart2, AObj.live, Int.reduceEq, Int.reduceLT, Int.reduceLE, Int.reduceAdd, Int.reduceSub, Int.reduceMul, Int.reduceToNat, cutCells, Nat.reduceAdd, Nat.reduceLeDiff, Nat.reduceLT, Nat.reduceMul, Nat.reduceSub, hb1, cof_tr, one_tr]
    refine h4 hr (by simpa using hat) (by omega) t' _ (by simp; omega) (fun c hc hne hn => ?_) ⟨hget_set' lb1, nb1, hp.lies.same fun c hc => hget_ne (fun q => nb1 (by rw [q]; exact hc)), ?_, hp.nd⟩ (fun c hc => (hp.own c hc).imp id fun q => by simp at q; omega) her
    · rw [hget_ne (Ne.symm hne), hp.frame c (by simp; omega) hn, hget_oldS hc, hget_ne (Ne.symm hne)]
    · rw [tw_er, her]
      exact withP_tw r3 (by omega) r4 (tw_er.1 ok)

end Go.Proofs.Yticgkaanaimllaa.Ev

/- The way of a number through a trie; Find, Every, Get. -/
namespace Go.Proofs.Yticgkaanaimllaa.Ev
set_option maxRecDepth 100000
set_option linter.unusedSimpArgs false
set_option linter.unusedVariables false
variable {R : FRes → Heap → Prop} {H : Heap}

/-- The nodes that have something, on a number's way. -/
def wayL (w a : Nat) : Tr → List Tr
  | .nil => []
  | .node b c n f v l r => if n ≤ cmn w c a then (if f = true then [.node b c n f v l r] else []) ++ (if n = w then [] else if sideN w a n = 0 then wayL w a l else wayL w a r) else []

abbrev boxRow (a : Nat) : AObj := .row [.int .u64 ((a / W64 : Nat) : Int), .int .u64 ((a % W64 : Nat) : Int)] 0 true

def wayI (w a b : Nat) (fv : Value) (S : List Tr → Heap → Prop) (t0 : Tr) : Nat → Env → Heap → Prop := fun z e H1 =>
  ∃ (L : List Tr) (t1 : Tr) (p4 : Nat), z = t1.size ∧ S L H1 ∧ (∀ L H, S L H → TA H t1) ∧ TW w t1 ∧ L ++ wayL w a t1 = wayL w a t0 ∧ hget H1 p4 = boxRow a ∧
    (∃ x : Nat → Value, e = [.pointer (some ⟨b, 0, none⟩), x 1, fv, x 3, .pointer (some ⟨p4, 0, none⟩), x 5, t1.ptr, x 7, x 8, x 9, x 10, x 11, x 12, x 13, x 14, x 15, x 16, x 17, x 18, x 19, x 20, x 21, x 22, x 23, x 24, x 25, x 26, x 27, x 28, x 29, x 30, x 31, x 32, x 33, x 34, x 35, x 36, x 37, x 38, x 39, x 40, x 41, x 42, x 43, x 44, x 45, x 46, x 47, x 48, x 49, x 50, x 51, x 52, x 53, x 54, x 55, x 56, x 57, x 58, x 59, x 60, x 61, x 62, x 63, x 64, x 65, x 66, x 67, x 68, x 69, x 70, x 71, x 72])

/-- The way of a number, with a function that is called for each node that has something. -/
theorem way_t {b w a : Nat} {f : FuncId} {captured : Array Value} (S : List Tr → Heap → Prop) {t0 : Tr} {H : Heap} (hS0 : S [] H) (hApp : ∀ L H G, S L H → S L (H ++ G))
    (hth : ∀ L H, S L H → ∃ m l : Int, hget H b = .row [.int .i64 (w : Int), .int .i64 m, .int .i64 l, t0.ptr] 0 true) (hta : ∀ L H, S L H → TA H t0) (htw : TW w t0) (hw : 1 ≤ w) (hw2 : w ≤ 128) (ha : a < 2 ^ 128)
    (hC : ∀ L nd H, S L H → L.length < (wayL w a t0).length → TA H nd → (∃ b1 c n v l r, nd = .node b1 c n true v l r) → WD T f (nd.ptr :: captured.toList) H (fun r H' => r = .ret (.tuple #[]) ∧ S (L ++ [nd]) H' ∧ ∀ c, hget H c = boxRow a → hget H' c = boxRow a))
    (h : ∀ H', S (if a < 2 ^ w then wayL w a t0 else []) H' → R (.ret (.tuple #[])) H') :
    WD T 45 [.pointer (some ⟨b, 0, none⟩), bvA a, .func (.func f) #[] captured] H R := by
  obtain ⟨m0, l0, hb0⟩ := hth _ _ hS0
  have lb := hget_lt hb0 rfl
  have hpn : 2 ^ w ≤ 2 ^ 128 := Nat.pow_le_pow_right (by decide) hw2
  have c02 : ((0 : Nat) : Int) < ((2 : Nat) : Int) := by decide
  have c12 : ((1 : Nat) : Int) < ((2 : Nat) : Int) := by decide
  have thx : ∀ {L H}, S L H → TH H b w := fun q => by
    obtain ⟨m, l, q⟩ := hth _ _ q
    exact ⟨m, l, t0.ptr, true, q⟩
  refine WD.of follows t45 (by simp) ?_
  simp (disch := omega) only [kB, kcx, kdm, kdn, kel, aop, resultsL, resultOf, Nat.reduceEqDiff, reduceCtorEq, eq1, apartOK, apart2, AObj.live, Int.reduceEq, Int.reduceLT, Int.reduceLE, Int.reduceAdd, Int.reduceSub, Int.reduceMul, Int.reduceToNat, cutCells, Nat.reduceAdd, Nat.reduceLeDiff, Nat.reduceLT, Nat.reduceMul, Nat.reduceSub, eqP_sn, hb0]
  refine fits_s hw hw2 ha ?_
  by_cases hfit : a < 2 ^ w
  case neg =>
    rw [if_neg hfit] at h
    simp (disch := omega) only [kB, kcx, kdm, kdn, kel, aop, resultsL, resultOf, Nat.reduceEqDiff, reduceCtorEq, eq1, apartOK, apart2, AObj.live, Int.reduceEq, Int.reduceLT, Int.reduceLE, Int.reduceAdd, Int.reduceSub, Int.reduceMul, Int.reduceToNat, cutCells, Nat.reduceAdd, Nat.reduceLeDiff, Nat.reduceLT, Nat.reduceMul, Nat.reduceSub, hfit]
    exact h _ (hApp _ _ _ hS0)
  rw [if_pos hfit] at h
  simp (disch := omega) only [kB, kcx, kdm, kdn, kel, aop, resultsL, resultOf, Nat.reduceEqDiff, reduceCtorEq, eq1, apartOK, apart2, AObj.live, Int.reduceEq, Int.reduceLT, Int.reduceLE, Int.reduceAdd, Int.reduceSub, Int.reduceMul, Int.reduceToNat, cutCells, Nat.reduceAdd, Nat.reduceLeDiff, Nat.reduceLT, Nat.reduceMul, Nat.reduceSub, hfit, hb0]
  refine WLoop.inv (wayI w a b (.func (.func f) #[] captured) S t0) ?_ t0.size _ _ ⟨[], t0, H.length, rfl, hApp _ _ _ hS0, hta, htw, rfl, hget_last _ _, ex_env rfl⟩
  clear hb0 lb hS0
  rintro z e H1 ⟨L, t1, p4, rfl, hS, hta1, htw1, hL, g0, ⟨x, rfl⟩⟩
  have l0 := hget_lt g0 rfl
  cases t1 with
  | nil =>
    simp only [Tr.ptr]
    simp only [wayL, List.append_nil] at hL
    rw [← hL] at h
    simp (disch := omega) only [kB, kcx, kdm, kdn, kel, aop, resultsL, resultOf, Nat.reduceEqDiff, reduceCtorEq, eq1, apartOK, apart2, AObj.live, Int.reduceEq, Int.reduceLT, Int.reduceLE, Int.reduceAdd, Int.reduceSub, Int.reduceMul, Int.reduceToNat, cutCells, Nat.reduceAdd, Nat.reduceLeDiff, Nat.reduceLT, Nat.reduceMul, Nat.reduceSub, eqP_nn]
    exact h _ hS
  | node b1 c n full v l r =>
    obtain ⟨⟨wr1, q1⟩, q2, q3⟩ := hta1 L H1 hS
    obtain ⟨t1, t2, t3, t4, t5⟩ := htw1
    obtain ⟨m1, l1', hbL⟩ := hth L H1 hS
    simp only [Tr.ptr]
    unfold nodeRow at q1
    simp (disch := omega) only [kB, kcx, kdm, kdn, kel, aop, resultsL, resultOf, Nat.reduceEqDiff, reduceCtorEq, eq1, apartOK, apart2, AObj.live, Int.reduceEq, Int.reduceLT, Int.reduceLE, Int.reduceAdd, Int.reduceSub, Int.reduceMul, Int.reduceToNat, cutCells, Nat.reduceAdd, Nat.reduceLeDiff, Nat.reduceLT, Nat.reduceMul, Nat.reduceSub, eqP_sn, q1, g0, hbL]
    refine WV.of (fun c hc => ?_) ?_
    · simp only [List.mem_cons, List.not_mem_nil, or_false] at hc
      subst hc
      rw [q1]
      rfl
    refine common_s hw hw2 t2 hfit ?_
    rw [thaw_frz0]
    by_cases hge : (n : Int) ≤ ((cmn w c a : Nat) : Int)
    case neg =>
      have : wayL w a (.node b1 c n full v l r) = [] := by rw [wayL, if_neg (by omega)]
      rw [this, List.append_nil] at hL
      rw [← hL] at h
      simp (disch := omega) only [kB, kcx, kdm, kdn, kel, aop, resultsL, resultOf, Nat.reduceEqDiff, reduceCtorEq, eq1, apartOK, apart2, AObj.live, Int.reduceEq, Int.reduceLT, Int.reduceLE, Int.reduceAdd, Int.reduceSub, Int.reduceMul, Int.reduceToNat, cutCells, Nat.reduceAdd, Nat.reduceLeDiff, Nat.reduceLT, Nat.reduceMul, Nat.reduceSub, hge]
      exact h _ hS
    have hwl : wayL w a (.node b1 c n full v l r) = (if full = true then [.node b1 c n full v l r] else []) ++ (if n = w then [] else if sideN w a n = 0 then wayL w a l else wayL w a r) := by rw [wayL, if_pos (by omega)]
    rw [hwl] at hL
    cases full with
    | false =>
      simp only [Bool.false_eq_true, if_false, List.nil_append] at hL
      simp (disch := omega) only [kB, kcx, kdm, kdn, kel, aop, resultsL, resultOf, Nat.reduceEqDiff, reduceCtorEq, eq1, apartOK, apart2, AObj.live, Int.reduceEq, Int.reduceLT, Int.reduceLE, Int.reduceAdd, Int.reduceSub, Int.reduceMul, Int.reduceToNat, cutCells, Nat.reduceAdd, Nat.reduceLeDiff, Nat.reduceLT, Nat.reduceMul, Nat.reduceSub, hge, q1, hbL]
      by_cases hnw : (n : Int) = (w : Int)
      · rw [if_pos (show n = w by omega), List.append_nil] at hL
        rw [← hL] at h
        have e1 : ((n : Int) = (w : Int)) = True := eq_true hnw
        simp (disch := omega) only [kB, kcx, kdm, kdn, kel, aop, resultsL, resultOf, Nat.reduceEqDiff, reduceCtorEq, eq1, apartOK, apart2, AObj.live, Int.reduceEq, Int.reduceLT, Int.reduceLE, Int.reduceAdd, Int.reduceSub, Int.reduceMul, Int.reduceToNat, cutCells, Nat.reduceAdd, Nat.reduceLeDiff, Nat.reduceLT, Nat.reduceMul, Nat.reduceSub, e1]
        exact h _ hS
      · rw [if_neg (show ¬ n = w by omega)] at hL
        simp (disch := omega) only [kB, kcx, kdm, kdn, kel, aop, resultsL, resultOf, Nat.reduceEqDiff, reduceCtorEq, eq1, apartOK, apart2, AObj.live, Int.reduceEq, Int.reduceLT, Int.reduceLE, Int.reduceAdd, Int.reduceSub, Int.reduceMul, Int.reduceToNat, cutCells, Nat.reduceAdd, Nat.reduceLeDiff, Nat.reduceLT, Nat.reduceMul, Nat.reduceSub, hnw, q1, hbL, g0]
        refine side_t (thx hS) hw hw2 (by omega) ha ?_
        rcases sideN_two w a n with hs | hs
        · have hs2 : ((sideN w a n : Nat) : Int) = 0 := by omega
          rw [if_pos hs] at hL
          simp (disch := omega) only [kB, kcx, kdm, kdn, kel, aop, resultsL, resultOf, Nat.reduceEqDiff, reduceCtorEq, eq1, apartOK, apart2, AObj.live, Int.reduceEq, Int.reduceLT, Int.reduceLE, Int.reduceAdd, Int.reduceSub, Int.reduceMul, Int.reduceToNat, cutCells, Nat.reduceAdd, Nat.reduceLeDiff, Nat.reduceLT, Nat.reduceMul, Nat.reduceSub, q1, hs, hs2, c02]
          exact ⟨l.size, by simp only [Tr.size]; omega, L, l, p4, rfl, hS, fun L H q => (hta1 L H q).2.1, t4, by simpa using hL, g0, ex_env rfl⟩
        · have hs2 : ((sideN w a n : Nat) : Int) = 1 := by omega
          rw [if_neg (show ¬ sideN w a n = 0 by omega)] at hL
          simp (disch := omega) only [kB, kcx, kdm, kdn, kel, aop, resultsL, resultOf, Nat.reduceEqDiff, reduceCtorEq, eq1, apartOK, apart2, AObj.live, Int.reduceEq, Int.reduceLT, Int.reduceLE, Int.reduceAdd, Int.reduceSub, Int.reduceMul, Int.reduceToNat, cutCells, Nat.reduceAdd, Nat.reduceLeDiff, Nat.reduceLT, Nat.reduceMul, Nat.reduceSub, q1, hs, hs2, c12]
          exact ⟨r.size, by simp only [Tr.size]; omega, L, r, p4, rfl, hS, fun L H q => (hta1 L H q).2.2, t5, by simpa using hL, g0, ex_env rfl⟩
    | true =>
      simp only [if_true] at hL
      have ptr1 : Tr.ptr (.node b1 c n true v l r) = .pointer (some ⟨b1, 0, none⟩) := rfl
      have hx := hC L (.node b1 c n true v l r) H1 hS (by rw [← hL]; simp) ⟨⟨wr1, q1⟩, q2, q3⟩ ⟨_, _, _, _, _, _, rfl⟩
      rw [ptr1] at hx
      simp (disch := omega) only [kB, kcx, kdm, kdn, kel, aop, resultsL, resultOf, Nat.reduceEqDiff, reduceCtorEq, eq1, apartOK, apart2, AObj.live, Int.reduceEq, Int.reduceLT, Int.reduceLE, Int.reduceAdd, Int.reduceSub, Int.reduceMul, Int.reduceToNat, cutCells, Nat.reduceAdd, Nat.reduceLeDiff, Nat.reduceLT, Nat.reduceMul, Nat.reduceSub, hge, q1, hbL]
      refine WD.mono hx ?_
      rintro r0 H2 ⟨rfl, hS2, hkeep⟩
      obtain ⟨⟨wr2, p1⟩, p2, p3⟩ := hta1 _ H2 hS2
      obtain ⟨m2, l2, hbM⟩ := hth _ H2 hS2
      unfold nodeRow at p1
      have a0 := hkeep p4 g0
      simp (disch := omega) only [kB, kcx, kdm, kdn, kel, aop, resultsL, resultOf, Nat.reduceEqDiff, reduceCtorEq, eq1, apartOK, apart2, AObj.live, Int.reduceEq, Int.reduceLT, Int.reduceLE, Int.reduceAdd, Int.reduceSub, Int.reduceMul, Int.reduceToNat, cutCells, Nat.reduceAdd, Nat.reduceLeDiff, Nat.reduceLT, Nat.reduceMul, Nat.reduceSub, p1, hbM]
      by_cases hnw : (n : Int) = (w : Int)
      · rw [if_pos (show n = w by omega), List.append_nil] at hL
        rw [← hL] at h
        have e1 : ((n : Int) = (w : Int)) = True := eq_true hnw
        simp (disch := omega) only [kB, kcx, kdm, kdn, kel, aop, resultsL, resultOf, Nat.reduceEqDiff, reduceCtorEq, eq1, apartOK, apart2, AObj.live, Int.reduceEq, Int.reduceLT, Int.reduceLE, Int.reduceAdd, Int.reduceSub, Int.reduceMul, Int.reduceToNat, cutCells, Nat.reduceAdd, Nat.reduceLeDiff, Nat.reduceLT, Nat.reduceMul, Nat.reduceSub, e1]
        exact h _ hS2
      · rw [if_neg (show ¬ n = w by omega)] at hL
        simp (disch := omega) only [kB, kcx, kdm, kdn, kel, aop, resultsL, resultOf, Nat.reduceEqDiff, reduceCtorEq, eq1, apartOK, apart2, AObj.live, Int.reduceEq, Int.reduceLT, Int.reduceLE, Int.reduceAdd, Int.reduceSub, Int.reduceMul, Int.reduceToNat, cutCells, Nat.reduceAdd, Nat.reduceLeDiff, Nat.reduceLT, Nat.reduceMul, Nat.reduceSub, hnw, p1, hbM, a0]
        refine side_t (thx hS2) hw hw2 (by omega) ha ?_
        rcases sideN_two w a n with hs | hs
        · have hs2 : ((sideN w a n : Nat) : Int) = 0 := by omega
          rw [if_pos hs] at hL
          simp (disch := omega) only [kB, kcx, kdm, kdn, kel, aop, resultsL, resultOf, Nat.reduceEqDiff, reduceCtorEq, eq1, apartOK, apart2, AObj.live, Int.reduceEq, Int.reduceLT, Int.reduceLE, Int.reduceAdd, Int.reduceSub, Int.reduceMul, Int.reduceToNat, cutCells, Nat.reduceAdd, Nat.reduceLeDiff, Nat.reduceLT, Nat.reduceMul, Nat.reduceSub, p1, hs, hs2, c02]
          exact ⟨l.size, by simp only [Tr.size]; omega, (L ++ [.node b1 c n true v l r]), l, p4, rfl, hS2, fun L H q => (hta1 L H q).2.1, t4, by simpa using hL, a0, ex_env rfl⟩
        · have hs2 : ((sideN w a n : Nat) : Int) = 1 := by omega
          rw [if_neg (show ¬ sideN w a n = 0 by omega)] at hL
          simp (disch := omega) only [kB, kcx, kdm, kdn, kel, aop, resultsL, resultOf, Nat.reduceEqDiff, reduceCtorEq, eq1, apartOK, apart2, AObj.live, Int.reduceEq, Int.reduceLT, Int.reduceLE, Int.reduceAdd, Int.reduceSub, Int.reduceMul, Int.reduceToNat, cutCells, Nat.reduceAdd, Nat.reduceLeDiff, Nat.reduceLT, Nat.reduceMul, Nat.reduceSub, p1, hs, hs2, c12]
          exact ⟨r.size, by simp only [Tr.size]; omega, (L ++ [.node b1 c n true v l r]), r, p4, rfl, hS2, fun L H q => (hta1 L H q).2.2, t5, by simpa using hL, a0, ex_env rfl⟩

end Go.Proofs.Yticgkaanaimllaa.Ev
