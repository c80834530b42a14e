/- Parts of the proof: EvTab0, EvTab1, EvTab, V0, V1, V2, V3, T1a, T2, T3. Conditions: none. -/
import Derived.Test.YticgkaanaimllaaWalks1
import Derived.Test.YticgkaanaimllaaProg
/- The functions of the program in the evaluator's form, as its own look-up lays them (part 0). Conditions: none; these are definitions. -/
namespace Go.Proofs.Yticgkaanaimllaa.Ev
set_option maxRecDepth 100000
def g6 : AFunc := (.code 264 (.seq (.ops [⟨(some 5), (.box (.tmp 2)), none, []⟩, ⟨(some 6), (.alloc [(.bool false)]), none, []⟩]) (.seq (.ops [⟨(some 29), (.callv (.func 9) []), none, []⟩, ⟨(some 7), (.mov (.tmp 29)), none, []⟩]) (.seq (.ops [⟨(some 31), (.mov (.tmp 0)), none, []⟩, ⟨(some 32), (.callv (.func 10) [(.tmp 31), (.const (.int .i64 4096))]), none, []⟩, ⟨(some 30), (.mov (.tmp 32)), none, []⟩, ⟨(some 33), (.extract (.tmp 30) 0), none, []⟩, ⟨(some 34), (.extract (.tmp 30) 1), none, []⟩, ⟨(some 8), (.alloc [(.pointer none)]), none, []⟩, ⟨none, (.store 1 (.tmp 8) (.tmp 33)), none, []⟩, ⟨(some 9), (.mov (.tmp 34)), none, []⟩]) (.seq (.ops [⟨(some 36), (.mov (.tmp 0)), none, []⟩, ⟨(some 37), (.callv (.func 28) [(.tmp 36), (.const (.int .i64 4096))]), none, []⟩, ⟨(some 35), (.mov (.tmp 37)), none, []⟩, ⟨(some 38), (.extract (.tmp 35) 0), none, []⟩, ⟨(some 39), (.extract (.tmp 35) 1), none, []⟩, ⟨(some 10), (.alloc [(.pointer none)]), none, []⟩, ⟨none, (.store 1 (.tmp 10) (.tmp 38)), none, []⟩, ⟨(some 11), (.mov (.tmp 39)), none, []⟩]) (.seq (.seq (.ops [⟨(some 40), (.mov (.tmp 7)), none, []⟩, ⟨(some 41), (.un .not (.tmp 40)), none, []⟩, ⟨(some 42), (.mov (.tmp 41)), none, []⟩, ⟨(some 43), (.mov (.tmp 9)), (some (42, false)), []⟩, ⟨(some 44), (.mov (.tmp 11)), (some (42, false)), []⟩, ⟨(some 45), (.bin .neq (.tmp 43) (.tmp 44)), (some (42, false)), []⟩, ⟨(some 46), (.pick (.tmp 42) (.const (.bool true)) (.tmp 45)), none, []⟩, ⟨(some 47), (.mov (.tmp 46)), none, []⟩, ⟨(some 48), (.load1 (.tmp 8)), (some (47, false)), []⟩, ⟨(some 49), (.eqp 0 false (.tmp 48) (.const (.pointer none))), (some (47, false)), []⟩, ⟨(some 50), (.pick (.tmp 47) (.const (.bool true)) (.tmp 49)), none, []⟩, ⟨(some 51), (.mov (.tmp 50)), none, []⟩, ⟨(some 52), (.load1 (.tmp 10)), (some (51, false)), []⟩, ⟨(some 53), (.eqp 0 false (.tmp 52) (.const (.pointer none))), (some (51, false)), []⟩, ⟨(some 54), (.pick (.tmp 51) (.const (.bool true)) (.tmp 53)), none, []⟩]) (.cond (.tmp 54) (.seq (.ops [⟨(some 55), (.mov (.tmp 7)), none, []⟩, ⟨(some 56), (.mov (.tmp 55)), none, []⟩, ⟨(some 57), (.mov (.tmp 9)), (some (56, true)), []⟩, ⟨(some 58), (.mov (.tmp 11)), (some (56, true)), []⟩, ⟨(some 59), (.bin .eql (.tmp 57) (.tmp 58)), (some (56, true)), []⟩, ⟨(some 60), (.pick (.tmp 56) (.tmp 59) (.const (.bool false))), none, []⟩, ⟨(some 61), (.mov (.tmp 60)), none, []⟩, ⟨(some 62), (.load1 (.tmp 8)), (some (61, true)), []⟩, ⟨(some 63), (.eqp 0 false (.tmp 62) (.const (.pointer none))), (some (61, true)), []⟩, ⟨(some 64), (.load1 (.tmp 10)), (some (61, true)), []⟩, ⟨(some 65), (.eqp 0 false (.tmp 64) (.const (.pointer none))), (some (61, true)), []⟩, ⟨(some 66), (.eqb false (.tmp 63) (.tmp 65)), (some (61, true)), []⟩, ⟨(some 67), (.pick (.tmp 61) (.tmp 66) (.const (.bool false))), none, []⟩, ⟨none, (.store 1 (.tmp 6) (.tmp 67)), none, []⟩]) .ret) .skip)) (.seq (.seq (.ops [⟨(some 12), (.mov (.const (.int .i64 0))), none, []⟩]) (.block 0 (.loop (.seq (.seq (.ops [⟨(some 68), (.mov (.tmp 12)), none, []⟩, ⟨(some 69), (.mov (.tmp 1)), none, []⟩, ⟨(some 70), (.lenSl (.tmp 69)), none, []⟩, ⟨(some 71), (.bin .lss (.tmp 68) (.tmp 70)), none, []⟩]) (.cond (.tmp 71) .skip (.exit 0))) (.seq (.block 1 (.seq (.ops [⟨(some 76), (.mov (.tmp 1)), none, []⟩, ⟨(some 77), (.mov (.tmp 12)), none, []⟩, ⟨(some 78), (.iAddrSl 5 (.tmp 76) (.tmp 77)), none, []⟩, ⟨(some 74), (.load1 (.tmp 8)), none, []⟩, ⟨(some 75), (.load1 (.tmp 10)), none, []⟩, ⟨(some 79), (.loadN 5 (.tmp 78)), none, []⟩, ⟨(some 80), (.callv (.func 29) [(.tmp 74), (.tmp 75), (.tmp 79)]), none, []⟩, ⟨(some 13), (.mov (.tmp 80)), none, []⟩]) (.seq (.ops [⟨(some 81), (.mov (.tmp 13)), none, []⟩, ⟨(some 82), (.un .not (.tmp 81)), none, []⟩]) (.cond (.tmp 82) (.seq (.ops [⟨none, (.store 1 (.tmp 6) (.const (.bool false))), none, []⟩]) .ret) .skip)))) (.ops [⟨(some 72), (.mov (.tmp 12)), none, []⟩, ⟨(some 73), (.bin .add (.tmp 72) (.const (.int .i64 1))), none, []⟩, ⟨(some 12), (.mov (.tmp 73)), none, []⟩])))))) (.seq (.ops [⟨(some 83), (.load1 (.tmp 8)), none, []⟩, ⟨(some 84), (.callv (.func 17) [(.tmp 83)]), none, []⟩, ⟨(some 14), (.alloc [.nilFunc]), none, []⟩, ⟨none, (.store 1 (.tmp 14) (.tmp 84)), none, []⟩]) (.seq (.ops [⟨(some 85), (.fAddr 0 (.tmp 5)), none, []⟩, ⟨(some 86), (.fAddr 1 (.tmp 85)), none, []⟩, ⟨(some 87), (.loadN 2 (.tmp 86)), none, []⟩, ⟨(some 88), (.fAddr 0 (.tmp 5)), none, []⟩, ⟨(some 89), (.fAddr 3 (.tmp 88)), none, []⟩, ⟨(some 90), (.load1 (.tmp 89)), none, []⟩, ⟨(some 91), (.build [(.int .u64 0), (.int .u64 0), (.int .i64 0)] [(0, (2, (.tmp 87))), (2, (1, (.tmp 90)))]), none, []⟩, ⟨(some 15), (.alloc [(.int .u64 0), (.int .u64 0), (.int .i64 0)]), none, []⟩, ⟨none, (.store 3 (.tmp 15) (.tmp 91)), none, []⟩]) (.seq (.ops [⟨(some 92), (.load1 (.tmp 8)), none, []⟩, ⟨(some 93), (.loadN 3 (.tmp 15)), none, []⟩, ⟨(some 94), (.callv (.func 18) [(.tmp 92), (.tmp 93)]), none, []⟩, ⟨(some 16), (.alloc [.nilFunc]), none, []⟩, ⟨none, (.store 1 (.tmp 16) (.tmp 94)), none, []⟩]) (.seq (.ops [⟨(some 95), (.load1 (.tmp 14)), none, []⟩, ⟨(some 96), (.load1 (.tmp 10)), none, []⟩, ⟨(some 97), (.nilChk (.tmp 96)), none, []⟩, ⟨(some 98), (.fAddr 2 (.tmp 97)), none, []⟩, ⟨(some 99), (.load1 (.tmp 98)), none, []⟩, ⟨(some 100), (.load1 (.tmp 10)), none, []⟩, ⟨(some 101), (.nilChk (.tmp 100)), none, []⟩, ⟨(some 102), (.fAddr 0 (.tmp 101)), none, []⟩, ⟨(some 103), (.load1 (.tmp 102)), none, []⟩, ⟨(some 104), (.callv (.func 30) [(.tmp 95), (.tmp 99), (.tmp 103)]), none, []⟩, ⟨(some 17), (.mov (.tmp 104)), none, []⟩]) (.seq (.ops [⟨(some 107), (.fAddr 0 (.tmp 5)), none, []⟩, ⟨(some 108), (.fAddr 1 (.tmp 107)), none, []⟩, ⟨(some 110), (.fAddr 0 (.tmp 5)), none, []⟩, ⟨(some 111), (.fAddr 3 (.tmp 110)), none, []⟩, ⟨(some 105), (.load1 (.tmp 16)), none, []⟩, ⟨(some 106), (.load1 (.tmp 10)), none, []⟩, ⟨(some 109), (.loadN 2 (.tmp 108)), none, []⟩, ⟨(some 112), (.load1 (.tmp 111)), none, []⟩, ⟨(some 114), (.load1 (.tmp 10)), none, []⟩, ⟨(some 115), (.nilChk (.tmp 114)), none, []⟩, ⟨(some 116), (.fAddr 0 (.tmp 115)), none, []⟩, ⟨(some 117), (.load1 (.tmp 116)), none, []⟩, ⟨(some 113), (.callv (.func 31) [(.tmp 106), (.tmp 109), (.tmp 112)]), none, [(16, 1), (10, 1), (116, 1)]⟩, ⟨(some 118), (.callv (.func 30) [(.tmp 105), (.tmp 113), (.tmp 117)]), none, []⟩, ⟨(some 18), (.mov (.tmp 118)), none, []⟩]) (.seq (.seq (.ops [⟨(some 119), (.mov (.tmp 17)), none, []⟩, ⟨(some 120), (.un .not (.tmp 119)), none, []⟩, ⟨(some 121), (.mov (.tmp 120)), none, []⟩, ⟨(some 122), (.mov (.tmp 18)), (some (121, false)), []⟩, ⟨(some 123), (.un .not (.tmp 122)), (some (121, false)), []⟩, ⟨(some 124), (.pick (.tmp 121) (.const (.bool true)) (.tmp 123)), none, []⟩]) (.cond (.tmp 124) (.seq (.ops [⟨none, (.store 1 (.tmp 6) (.const (.bool false))), none, []⟩]) .ret) .skip)) (.seq (.ops [⟨(some 125), (.load1 (.tmp 10)), none, []⟩, ⟨(some 126), (.callv (.func 32) [(.tmp 125)]), none, []⟩, ⟨(some 19), (.alloc [(.pointer none)]), none, []⟩, ⟨none, (.store 1 (.tmp 19) (.tmp 126)), none, []⟩]) (.seq (.ops [⟨(some 20), (.alloc [(.int .i64 0)]), none, []⟩, ⟨none, (.store 1 (.tmp 20) (.const (.int .i64 0))), none, []⟩]) (.seq (.seq (.ops [⟨(some 127), (.load1 (.tmp 14)), none, []⟩]) (.block 2 (.range (.tmp 127) [128, 129] (.seq (.ops [⟨(some 21), (.alloc [(.int .u64 0), (.int .u64 0), (.int .i64 0)]), none, []⟩, ⟨none, (.store 3 (.tmp 21) (.tmp 128)), none, []⟩]) (.ops [⟨(some 22), (.mov (.tmp 129)), none, []⟩])) (.block 3 (.seq (.seq (.ops [⟨(some 130), (.load1 (.tmp 20)), none, []⟩, ⟨(some 131), (.load1 (.tmp 19)), none, []⟩, ⟨(some 132), (.nilChk (.tmp 131)), none, []⟩, ⟨(some 133), (.fAddr 2 (.tmp 132)), none, []⟩, ⟨(some 134), (.load1 (.tmp 133)), none, []⟩, ⟨(some 135), (.lenSl (.tmp 134)), none, []⟩, ⟨(some 136), (.bin .geq (.tmp 130) (.tmp 135)), none, []⟩]) (.cond (.tmp 136) (.seq (.ops [⟨none, (.store 1 (.tmp 6) (.const (.bool false))), none, []⟩]) .ret) .skip)) (.seq (.ops [⟨(some 137), (.loadN 3 (.tmp 21)), none, []⟩, ⟨(some 138), (.load1 (.tmp 19)), none, []⟩, ⟨(some 139), (.nilChk (.tmp 138)), none, []⟩, ⟨(some 140), (.fAddr 2 (.tmp 139)), none, []⟩, ⟨(some 141), (.load1 (.tmp 140)), none, []⟩, ⟨(some 142), (.load1 (.tmp 20)), none, []⟩, ⟨(some 143), (.iAddrSl 2 (.tmp 141) (.tmp 142)), none, []⟩, ⟨(some 144), (.loadN 2 (.tmp 143)), none, []⟩, ⟨(some 145), (.load1 (.tmp 10)), none, []⟩, ⟨(some 146), (.nilChk (.tmp 145)), none, []⟩, ⟨(some 147), (.fAddr 0 (.tmp 146)), none, []⟩, ⟨(some 148), (.load1 (.tmp 147)), none, []⟩, ⟨(some 149), (.callv (.func 33) [(.tmp 137), (.tmp 144), (.tmp 148)]), none, []⟩, ⟨(some 23), (.mov (.tmp 149)), none, []⟩]) (.seq (.seq (.ops [⟨(some 150), (.mov (.tmp 23)), none, []⟩, ⟨(some 151), (.un .not (.tmp 150)), none, []⟩, ⟨(some 152), (.mov (.tmp 151)), none, []⟩, ⟨(some 153), (.mov (.tmp 22)), (some (152, false)), []⟩, ⟨(some 154), (.load1 (.tmp 19)), (some (152, false)), []⟩, ⟨(some 155), (.nilChk (.tmp 154)), (some (152, false)), []⟩, ⟨(some 156), (.fAddr 2 (.tmp 155)), (some (152, false)), []⟩, ⟨(some 157), (.load1 (.tmp 156)), (some (152, false)), []⟩, ⟨(some 158), (.load1 (.tmp 20)), (some (152, false)), []⟩, ⟨(some 159), (.iAddrSl 2 (.tmp 157) (.tmp 158)), (some (152, false)), []⟩, ⟨(some 160), (.fAddr 1 (.tmp 159)), (some (152, false)), []⟩, ⟨(some 161), (.load1 (.tmp 160)), (some (152, false)), []⟩, ⟨(some 162), (.bin .neq (.tmp 153) (.tmp 161)), (some (152, false)), []⟩, ⟨(some 163), (.pick (.tmp 152) (.const (.bool true)) (.tmp 162)), none, []⟩]) (.cond (.tmp 163) (.seq (.ops [⟨none, (.store 1 (.tmp 6) (.const (.bool false))), none, []⟩]) .ret) .skip)) (.seq (.seq (.ops [⟨(some 164), (.load1 (.tmp 20)), none, []⟩, ⟨(some 165), (.bin .eql (.tmp 164) (.const (.int .i64 0))), none, []⟩]) (.cond (.tmp 165) (.seq (.ops [⟨(some 166), (.load1 (.tmp 8)), none, []⟩, ⟨(some 167), (.load1 (.tmp 10)), none, []⟩, ⟨(some 168), (.fAddr 6 (.tmp 5)), none, []⟩, ⟨(some 169), (.loadN 5 (.tmp 168)), none, []⟩, ⟨(some 170), (.callv (.func 29) [(.tmp 166), (.tmp 167), (.tmp 169)]), none, []⟩, ⟨(some 24), (.mov (.tmp 170)), none, []⟩]) (.seq (.ops [⟨(some 173), (.fAddr 0 (.tmp 5)), none, []⟩, ⟨(some 174), (.fAddr 1 (.tmp 173)), none, []⟩, ⟨(some 176), (.fAddr 0 (.tmp 5)), none, []⟩, ⟨(some 177), (.fAddr 3 (.tmp 176)), none, []⟩, ⟨(some 171), (.load1 (.tmp 16)), none, []⟩, ⟨(some 172), (.load1 (.tmp 10)), none, []⟩, ⟨(some 175), (.loadN 2 (.tmp 174)), none, []⟩, ⟨(some 178), (.load1 (.tmp 177)), none, []⟩, ⟨(some 180), (.load1 (.tmp 10)), none, []⟩, ⟨(some 181), (.nilChk (.tmp 180)), none, []⟩, ⟨(some 182), (.fAddr 0 (.tmp 181)), none, []⟩, ⟨(some 183), (.load1 (.tmp 182)), none, []⟩, ⟨(some 179), (.callv (.func 31) [(.tmp 172), (.tmp 175), (.tmp 178)]), none, [(16, 1), (10, 1), (182, 1)]⟩, ⟨(some 184), (.callv (.func 30) [(.tmp 171), (.tmp 179), (.tmp 183)]), none, []⟩, ⟨(some 25), (.mov (.tmp 184)), none, []⟩]) (.seq (.ops [⟨(some 185), (.load1 (.tmp 14)), none, []⟩, ⟨(some 186), (.load1 (.tmp 10)), none, []⟩, ⟨(some 187), (.nilChk (.tmp 186)), none, []⟩, ⟨(some 188), (.fAddr 2 (.tmp 187)), none, []⟩, ⟨(some 189), (.load1 (.tmp 188)), none, []⟩, ⟨(some 190), (.load1 (.tmp 10)), none, []⟩, ⟨(some 191), (.nilChk (.tmp 190)), none, []⟩, ⟨(some 192), (.fAddr 0 (.tmp 191)), none, []⟩, ⟨(some 193), (.load1 (.tmp 192)), none, []⟩, ⟨(some 194), (.callv (.func 30) [(.tmp 185), (.tmp 189), (.tmp 193)]), none, []⟩, ⟨(some 26), (.mov (.tmp 194)), none, []⟩]) (.seq (.seq (.ops [⟨(some 195), (.mov (.tmp 24)), none, []⟩, ⟨(some 196), (.un .not (.tmp 195)), none, []⟩, ⟨(some 197), (.mov (.tmp 196)), none, []⟩, ⟨(some 198), (.mov (.tmp 25)), (some (197, false)), []⟩, ⟨(some 199), (.un .not (.tmp 198)), (some (197, false)), []⟩, ⟨(some 200), (.pick (.tmp 197) (.const (.bool true)) (.tmp 199)), none, []⟩, ⟨(some 201), (.mov (.tmp 200)), none, []⟩, ⟨(some 202), (.mov (.tmp 26)), (some (201, false)), []⟩, ⟨(some 203), (.un .not (.tmp 202)), (some (201, false)), []⟩, ⟨(some 204), (.pick (.tmp 201) (.const (.bool true)) (.tmp 203)), none, []⟩]) (.cond (.tmp 204) (.seq (.ops [⟨none, (.store 1 (.tmp 6) (.const (.bool false))), none, []⟩]) .ret) .skip)) (.seq (.ops [⟨(some 205), (.fAddr 6 (.tmp 5)), none, []⟩, ⟨(some 206), (.fAddr 0 (.tmp 205)), none, []⟩, ⟨(some 207), (.load1 (.tmp 206)), none, []⟩, ⟨(some 208), (.callv (.func 34) [(.tmp 207)]), none, []⟩, ⟨(some 209), (.bin .eql (.tmp 208) (.const (.int .i64 11))), none, []⟩]) (.cond (.tmp 209) (.seq (.ops [⟨(some 210), (.load1 (.tmp 8)), none, []⟩, ⟨(some 211), (.callv (.func 35) [(.tmp 210)]), none, []⟩]) (.ops [⟨(some 212), (.load1 (.tmp 10)), none, []⟩, ⟨(some 213), (.nilChk (.tmp 212)), none, []⟩, ⟨(some 214), (.fAddr 2 (.tmp 213)), none, []⟩, ⟨none, (.store 1 (.tmp 214) (.const (.slice none 0 0))), none, []⟩])) .skip)))))) .skip)) (.seq (.ops [⟨(some 215), (.load1 (.tmp 20)), none, []⟩, ⟨(some 216), (.bin .add (.tmp 215) (.const (.int .i64 1))), none, []⟩, ⟨none, (.store 1 (.tmp 20) (.tmp 216)), none, []⟩]) (.seq (.ops [⟨(some 217), (.load1 (.tmp 20)), none, []⟩, ⟨(some 218), (.fAddr 5 (.tmp 5)), none, []⟩, ⟨(some 219), (.load1 (.tmp 218)), none, []⟩, ⟨(some 220), (.bin .eql (.tmp 217) (.tmp 219)), none, []⟩]) (.cond (.tmp 220) (.exit 2) .skip))))))))))) (.seq (.ops [⟨(some 221), (.load1 (.tmp 14)), none, []⟩, ⟨(some 222), (.load1 (.tmp 10)), none, []⟩, ⟨(some 223), (.nilChk (.tmp 222)), none, []⟩, ⟨(some 224), (.fAddr 2 (.tmp 223)), none, []⟩, ⟨(some 225), (.load1 (.tmp 224)), none, []⟩, ⟨(some 226), (.load1 (.tmp 10)), none, []⟩, ⟨(some 227), (.nilChk (.tmp 226)), none, []⟩, ⟨(some 228), (.fAddr 0 (.tmp 227)), none, []⟩, ⟨(some 229), (.load1 (.tmp 228)), none, []⟩, ⟨(some 230), (.callv (.func 30) [(.tmp 221), (.tmp 225), (.tmp 229)]), none, []⟩, ⟨(some 27), (.mov (.tmp 230)), none, []⟩]) (.seq (.ops [⟨(some 233), (.fAddr 0 (.tmp 5)), none, []⟩, ⟨(some 234), (.fAddr 1 (.tmp 233)), none, []⟩, ⟨(some 236), (.fAddr 0 (.tmp 5)), none, []⟩, ⟨(some 237), (.fAddr 3 (.tmp 236)), none, []⟩, ⟨(some 231), (.load1 (.tmp 16)), none, []⟩, ⟨(some 232), (.load1 (.tmp 10)), none, []⟩, ⟨(some 235), (.loadN 2 (.tmp 234)), none, []⟩, ⟨(some 238), (.load1 (.tmp 237)), none, []⟩, ⟨(some 240), (.load1 (.tmp 10)), none, []⟩, ⟨(some 241), (.nilChk (.tmp 240)), none, []⟩, ⟨(some 242), (.fAddr 0 (.tmp 241)), none, []⟩, ⟨(some 243), (.load1 (.tmp 242)), none, []⟩, ⟨(some 239), (.callv (.func 31) [(.tmp 232), (.tmp 235), (.tmp 238)]), none, [(16, 1), (10, 1), (242, 1)]⟩, ⟨(some 244), (.callv (.func 30) [(.tmp 231), (.tmp 239), (.tmp 243)]), none, []⟩, ⟨(some 28), (.mov (.tmp 244)), none, []⟩]) (.seq (.ops [⟨(some 245), (.mov (.tmp 27)), none, []⟩, ⟨(some 246), (.mov (.tmp 245)), none, []⟩, ⟨(some 247), (.mov (.tmp 28)), (some (246, true)), []⟩, ⟨(some 248), (.pick (.tmp 246) (.tmp 247) (.const (.bool false))), none, []⟩, ⟨(some 249), (.mov (.tmp 248)), none, []⟩, ⟨(some 250), (.load1 (.tmp 20)), (some (249, true)), []⟩, ⟨(some 251), (.load1 (.tmp 19)), (some (249, true)), []⟩, ⟨(some 252), (.nilChk (.tmp 251)), (some (249, true)), []⟩, ⟨(some 253), (.fAddr 2 (.tmp 252)), (some (249, true)), []⟩, ⟨(some 254), (.load1 (.tmp 253)), (some (249, true)), []⟩, ⟨(some 255), (.lenSl (.tmp 254)), (some (249, true)), []⟩, ⟨(some 256), (.bin .eql (.tmp 250) (.tmp 255)), (some (249, true)), []⟩, ⟨(some 257), (.mov (.tmp 256)), (some (249, true)), []⟩, ⟨(some 259), (.fAddr 5 (.tmp 5)), (some (257, false)), []⟩, ⟨(some 258), (.load1 (.tmp 20)), (some (257, false)), []⟩, ⟨(some 260), (.load1 (.tmp 259)), (some (257, false)), []⟩, ⟨(some 261), (.bin .eql (.tmp 258) (.tmp 260)), (some (257, false)), []⟩, ⟨(some 262), (.pick (.tmp 257) (.const (.bool true)) (.tmp 261)), (some (249, true)), []⟩, ⟨(some 263), (.pick (.tmp 249) (.tmp 262) (.const (.bool false))), none, []⟩, ⟨none, (.store 1 (.tmp 6) (.tmp 263)), none, []⟩]) .ret)))))))))))))))))) [(.cell1 6)])
def g7 : AFunc := (.code 125 (.seq (.ops [⟨(some 6), (.mov (.const (.bool false))), none, []⟩]) (.seq (.ops [⟨(some 22), (.callv (.func 9) []), none, []⟩, ⟨(some 7), (.mov (.tmp 22)), none, []⟩]) (.seq (.ops [⟨(some 24), (.mov (.tmp 0)), none, []⟩, ⟨(some 25), (.mov (.tmp 1)), none, []⟩, ⟨(some 26), (.callv (.func 10) [(.tmp 24), (.tmp 25)]), none, []⟩, ⟨(some 23), (.mov (.tmp 26)), none, []⟩, ⟨(some 27), (.extract (.tmp 23) 0), none, []⟩, ⟨(some 28), (.extract (.tmp 23) 1), none, []⟩, ⟨(some 8), (.mov (.tmp 27)), none, []⟩, ⟨(some 9), (.mov (.tmp 28)), none, []⟩]) (.seq (.ops [⟨(some 30), (.mov (.tmp 0)), none, []⟩, ⟨(some 31), (.mov (.tmp 1)), none, []⟩, ⟨(some 32), (.callv (.func 28) [(.tmp 30), (.tmp 31)]), none, []⟩, ⟨(some 29), (.mov (.tmp 32)), none, []⟩, ⟨(some 33), (.extract (.tmp 29) 0), none, []⟩, ⟨(some 34), (.extract (.tmp 29) 1), none, []⟩, ⟨(some 10), (.mov (.tmp 33)), none, []⟩, ⟨(some 11), (.mov (.tmp 34)), none, []⟩]) (.seq (.seq (.ops [⟨(some 35), (.mov (.tmp 9)), none, []⟩, ⟨(some 36), (.mov (.tmp 11)), none, []⟩, ⟨(some 37), (.bin .neq (.tmp 35) (.tmp 36)), none, []⟩, ⟨(some 38), (.mov (.tmp 37)), none, []⟩, ⟨(some 39), (.mov (.tmp 8)), (some (38, false)), []⟩, ⟨(some 40), (.eqp 0 false (.tmp 39) (.const (.pointer none))), (some (38, false)), []⟩, ⟨(some 41), (.mov (.tmp 10)), (some (38, false)), []⟩, ⟨(some 42), (.eqp 0 false (.tmp 41) (.const (.pointer none))), (some (38, false)), []⟩, ⟨(some 43), (.eqb true (.tmp 40) (.tmp 42)), (some (38, false)), []⟩, ⟨(some 44), (.pick (.tmp 38) (.const (.bool true)) (.tmp 43)), none, []⟩]) (.cond (.tmp 44) (.seq (.ops [⟨(some 6), (.mov (.const (.bool false))), none, []⟩]) .ret) .skip)) (.seq (.seq (.ops [⟨(some 45), (.mov (.tmp 8)), none, []⟩, ⟨(some 46), (.eqp 0 false (.tmp 45) (.const (.pointer none))), none, []⟩, ⟨(some 47), (.mov (.tmp 46)), none, []⟩, ⟨(some 48), (.mov (.tmp 10)), (some (47, false)), []⟩, ⟨(some 49), (.eqp 0 false (.tmp 48) (.const (.pointer none))), (some (47, false)), []⟩, ⟨(some 50), (.pick (.tmp 47) (.const (.bool true)) (.tmp 49)), none, []⟩]) (.cond (.tmp 50) (.seq (.ops [⟨(some 51), (.mov (.tmp 7)), none, []⟩, ⟨(some 6), (.mov (.tmp 51)), none, []⟩]) .ret) .skip)) (.seq (.ops [⟨(some 53), (.mov (.tmp 0)), none, []⟩, ⟨(some 54), (.mov (.tmp 1)), none, []⟩, ⟨(some 55), (.callv (.func 10) [(.tmp 53), (.tmp 54)]), none, []⟩, ⟨(some 52), (.mov (.tmp 55)), none, []⟩, ⟨(some 56), (.extract (.tmp 52) 0), none, []⟩, ⟨(some 57), (.extract (.tmp 52) 1), none, []⟩, ⟨(some 12), (.mov (.tmp 56)), none, []⟩, ⟨(some 13), (.mov (.tmp 57)), none, []⟩]) (.seq (.ops [⟨(some 59), (.mov (.tmp 0)), none, []⟩, ⟨(some 60), (.mov (.tmp 1)), none, []⟩, ⟨(some 61), (.callv (.func 28) [(.tmp 59), (.tmp 60)]), none, []⟩, ⟨(some 58), (.mov (.tmp 61)), none, []⟩, ⟨(some 62), (.extract (.tmp 58) 0), none, []⟩, ⟨(some 63), (.extract (.tmp 58) 1), none, []⟩, ⟨(some 14), (.mov (.tmp 62)), none, []⟩, ⟨(some 15), (.mov (.tmp 63)), none, []⟩]) (.seq (.seq (.ops [⟨(some 64), (.mov (.tmp 12)), none, []⟩, ⟨(some 65), (.eqp 0 false (.tmp 64) (.const (.pointer none))), none, []⟩]) (.cond (.tmp 65) (.seq (.ops [⟨(some 6), (.mov (.const (.bool false))), none, []⟩]) .ret) .skip)) (.seq (.seq (.ops [⟨(some 16), (.mov (.const (.int .i64 0))), none, []⟩]) (.block 0 (.loop (.seq (.seq (.ops [⟨(some 66), (.mov (.tmp 16)), none, []⟩, ⟨(some 67), (.mov (.tmp 2)), none, []⟩, ⟨(some 68), (.lenSl (.tmp 67)), none, []⟩, ⟨(some 69), (.bin .lss (.tmp 66) (.tmp 68)), none, []⟩]) (.cond (.tmp 69) .skip (.exit 0))) (.seq (.block 1 (.seq (.ops [⟨(some 72), (.mov (.tmp 2)), none, []⟩, ⟨(some 73), (.mov (.tmp 16)), none, []⟩, ⟨(some 74), (.iAddrSl 5 (.tmp 72) (.tmp 73)), none, []⟩, ⟨(some 75), (.loadN 5 (.tmp 74)), none, []⟩, ⟨(some 17), (.alloc [(.int .i64 0), (.int .u64 0), (.int .u64 0), (.int .i64 0), (.int .i64 0)]), none, []⟩, ⟨none, (.store 5 (.tmp 17) (.tmp 75)), none, []⟩]) (.seq (.ops [⟨(some 76), (.fAddr 0 (.tmp 17)), none, []⟩, ⟨(some 77), (.load1 (.tmp 76)), none, []⟩, ⟨(some 78), (.callv (.func 34) [(.tmp 77)]), none, []⟩, ⟨(some 18), (.mov (.tmp 78)), none, []⟩]) (.seq (.ops [⟨(some 79), (.mov (.tmp 8)), none, []⟩, ⟨(some 80), (.mov (.tmp 10)), none, []⟩, ⟨(some 81), (.loadN 5 (.tmp 17)), none, []⟩, ⟨(some 82), (.callv (.func 29) [(.tmp 79), (.tmp 80), (.tmp 81)]), none, []⟩, ⟨(some 19), (.mov (.tmp 82)), none, []⟩]) (.seq (.seq (.ops [⟨(some 83), (.mov (.tmp 19)), none, []⟩, ⟨(some 84), (.un .not (.tmp 83)), none, []⟩]) (.cond (.tmp 84) (.seq (.ops [⟨(some 6), (.mov (.const (.bool false))), none, []⟩]) .ret) .skip)) (.seq (.seq (.ops [⟨(some 85), (.mov (.tmp 18)), none, []⟩, ⟨(some 86), (.bin .eql (.tmp 85) (.const (.int .i64 11))), none, []⟩, ⟨(some 87), (.mov (.tmp 86)), none, []⟩, ⟨(some 88), (.fAddr 4 (.tmp 17)), (some (87, true)), []⟩, ⟨(some 89), (.load1 (.tmp 88)), (some (87, true)), []⟩, ⟨(some 90), (.bin .rem (.tmp 89) (.const (.int .i64 4))), (some (87, true)), []⟩, ⟨(some 91), (.bin .eql (.tmp 90) (.const (.int .i64 0))), (some (87, true)), []⟩, ⟨(some 92), (.pick (.tmp 87) (.tmp 91) (.const (.bool false))), none, []⟩]) (.cond (.tmp 92) (.seq (.ops [⟨(some 93), (.mov (.tmp 8)), none, []⟩, ⟨(some 94), (.callv (.func 35) [(.tmp 93)]), none, []⟩]) (.ops [⟨(some 95), (.mov (.tmp 10)), none, []⟩, ⟨(some 96), (.nilChk (.tmp 95)), none, []⟩, ⟨(some 97), (.fAddr 2 (.tmp 96)), none, []⟩, ⟨none, (.store 1 (.tmp 97) (.const (.slice none 0 0))), none, []⟩])) .skip)) (.seq (.seq (.ops [⟨(some 98), (.mov (.tmp 18)), none, []⟩, ⟨(some 99), (.bin .eql (.tmp 98) (.const (.int .i64 9))), none, []⟩]) (.cond (.tmp 99) (.seq (.ops [⟨(some 100), (.mov (.tmp 8)), none, []⟩, ⟨(some 101), (.callv (.func 36) [(.tmp 100)]), none, []⟩, ⟨(some 12), (.mov (.tmp 101)), none, []⟩]) (.seq (.ops [⟨(some 102), (.mov (.tmp 10)), none, []⟩, ⟨(some 103), (.callv (.func 32) [(.tmp 102)]), none, []⟩, ⟨(some 14), (.mov (.tmp 103)), none, []⟩]) (.seq (.ops [⟨(some 104), (.mov (.tmp 12)), none, []⟩, ⟨(some 105), (.eqp 0 false (.tmp 104) (.const (.pointer none))), none, []⟩]) (.cond (.tmp 105) (.seq (.ops [⟨(some 6), (.mov (.const (.bool false))), none, []⟩]) .ret) .skip)))) .skip)) (.seq (.ops [⟨(some 106), (.mov (.tmp 18)), none, []⟩, ⟨(some 107), (.bin .eql (.tmp 106) (.const (.int .i64 10))), none, []⟩]) (.cond (.tmp 107) (.seq (.ops [⟨(some 108), (.mov (.tmp 12)), none, []⟩, ⟨(some 109), (.mov (.tmp 8)), none, []⟩, ⟨(some 8), (.mov (.tmp 108)), none, []⟩, ⟨(some 12), (.mov (.tmp 109)), none, []⟩]) (.ops [⟨(some 110), (.mov (.tmp 14)), none, []⟩, ⟨(some 111), (.mov (.tmp 10)), none, []⟩, ⟨(some 10), (.mov (.tmp 110)), none, []⟩, ⟨(some 14), (.mov (.tmp 111)), none, []⟩])) .skip))))))))) (.ops [⟨(some 70), (.mov (.tmp 16)), none, []⟩, ⟨(some 71), (.bin .add (.tmp 70) (.const (.int .i64 1))), none, []⟩, ⟨(some 16), (.mov (.tmp 71)), none, []⟩])))))) (.seq (.ops [⟨(some 112), (.mov (.tmp 8)), none, []⟩, ⟨(some 113), (.mov (.tmp 10)), none, []⟩, ⟨(some 114), (.callv (.func 37) [(.tmp 112), (.tmp 113)]), none, []⟩, ⟨(some 20), (.mov (.tmp 114)), none, []⟩]) (.seq (.ops [⟨(some 115), (.mov (.tmp 12)), none, []⟩, ⟨(some 116), (.mov (.tmp 14)), none, []⟩, ⟨(some 117), (.callv (.func 37) [(.tmp 115), (.tmp 116)]), none, []⟩, ⟨(some 21), (.mov (.tmp 117)), none, []⟩]) (.seq (.ops [⟨(some 118), (.mov (.tmp 7)), none, []⟩, ⟨(some 119), (.mov (.tmp 118)), none, []⟩, ⟨(some 120), (.mov (.tmp 20)), (some (119, true)), []⟩, ⟨(some 121), (.pick (.tmp 119) (.tmp 120) (.const (.bool false))), none, []⟩, ⟨(some 122), (.mov (.tmp 121)), none, []⟩, ⟨(some 123), (.mov (.tmp 21)), (some (122, true)), []⟩, ⟨(some 124), (.pick (.tmp 122) (.tmp 123) (.const (.bool false))), none, []⟩, ⟨(some 6), (.mov (.tmp 124)), none, []⟩]) .ret))))))))))))) [(.tmp 6)])
def g9 : AFunc := (.code 51 (.seq (.ops [⟨(some 0), (.mov (.const (.bool false))), none, []⟩]) (.seq (.ops [⟨(some 9), (.callv (.func 10) [(.const (.int .i64 8)), (.const (.int .i64 2))]), none, []⟩, ⟨(some 8), (.mov (.tmp 9)), none, []⟩, ⟨(some 10), (.extract (.tmp 8) 0), none, []⟩, ⟨(some 11), (.extract (.tmp 8) 1), none, []⟩, ⟨(some 1), (.mov (.tmp 10)), none, []⟩, ⟨(some 2), (.mov (.tmp 11)), none, []⟩]) (.seq (.seq (.ops [⟨(some 12), (.mov (.tmp 1)), none, []⟩, ⟨(some 13), (.eqp 0 false (.tmp 12) (.const (.pointer none))), none, []⟩, ⟨(some 14), (.mov (.tmp 13)), none, []⟩, ⟨(some 15), (.mov (.tmp 2)), (some (14, false)), []⟩, ⟨(some 16), (.bin .neq (.tmp 15) (.const (.int .i64 0))), (some (14, false)), []⟩, ⟨(some 17), (.pick (.tmp 14) (.const (.bool true)) (.tmp 16)), none, []⟩]) (.cond (.tmp 17) (.seq (.ops [⟨(some 0), (.mov (.const (.bool false))), none, []⟩]) .ret) .skip)) (.seq (.ops [⟨(some 18), (.mov (.tmp 1)), none, []⟩, ⟨(some 19), (.build [(.int .u64 0), (.int .u64 0)] [(1, (1, (.const (.int .u64 128))))]), none, []⟩, ⟨(some 20), (.build [(.int .u64 0), (.int .u64 0), (.int .i64 0)] [(0, (2, (.tmp 19))), (2, (1, (.const (.int .i64 1))))]), none, []⟩, ⟨(some 21), (.callv (.func 12) [(.tmp 18), (.tmp 20), (.const (.int .i64 7))]), none, []⟩, ⟨(some 3), (.mov (.tmp 21)), none, []⟩]) (.seq (.ops [⟨(some 22), (.mov (.tmp 1)), none, []⟩, ⟨(some 23), (.build [(.int .u64 0), (.int .u64 0)] [(1, (1, (.const (.int .u64 192))))]), none, []⟩, ⟨(some 24), (.build [(.int .u64 0), (.int .u64 0), (.int .i64 0)] [(0, (2, (.tmp 23))), (2, (1, (.const (.int .i64 2))))]), none, []⟩, ⟨(some 25), (.callv (.func 12) [(.tmp 22), (.tmp 24), (.const (.int .i64 9))]), none, []⟩, ⟨(some 4), (.mov (.tmp 25)), none, []⟩]) (.seq (.ops [⟨(some 27), (.mov (.tmp 1)), none, []⟩, ⟨(some 28), (.build [(.int .u64 0), (.int .u64 0)] [(1, (1, (.const (.int .u64 200))))]), none, []⟩, ⟨(some 29), (.callv (.func 14) [(.tmp 27), (.tmp 28)]), none, []⟩, ⟨(some 26), (.mov (.tmp 29)), none, []⟩, ⟨(some 30), (.extract (.tmp 26) 0), none, []⟩, ⟨(some 31), (.extract (.tmp 26) 1), none, []⟩, ⟨(some 32), (.extract (.tmp 26) 2), none, []⟩, ⟨(some 5), (.alloc [(.int .u64 0), (.int .u64 0), (.int .i64 0)]), none, []⟩, ⟨none, (.store 3 (.tmp 5) (.tmp 30)), none, []⟩, ⟨(some 6), (.mov (.tmp 31)), none, []⟩, ⟨(some 7), (.mov (.tmp 32)), none, []⟩]) (.seq (.ops [⟨(some 33), (.mov (.tmp 3)), none, []⟩, ⟨(some 34), (.bin .eql (.tmp 33) (.const (.int .i64 0))), none, []⟩, ⟨(some 35), (.mov (.tmp 34)), none, []⟩, ⟨(some 36), (.mov (.tmp 4)), (some (35, true)), []⟩, ⟨(some 37), (.bin .eql (.tmp 36) (.const (.int .i64 0))), (some (35, true)), []⟩, ⟨(some 38), (.pick (.tmp 35) (.tmp 37) (.const (.bool false))), none, []⟩, ⟨(some 39), (.mov (.tmp 38)), none, []⟩, ⟨(some 40), (.mov (.tmp 7)), (some (39, true)), []⟩, ⟨(some 41), (.pick (.tmp 39) (.tmp 40) (.const (.bool false))), none, []⟩, ⟨(some 42), (.mov (.tmp 41)), none, []⟩, ⟨(some 43), (.mov (.tmp 6)), (some (42, true)), []⟩, ⟨(some 44), (.bin .eql (.tmp 43) (.const (.int .i64 9))), (some (42, true)), []⟩, ⟨(some 45), (.pick (.tmp 42) (.tmp 44) (.const (.bool false))), none, []⟩, ⟨(some 46), (.mov (.tmp 45)), none, []⟩, ⟨(some 47), (.fAddr 2 (.tmp 5)), (some (46, true)), []⟩, ⟨(some 48), (.load1 (.tmp 47)), (some (46, true)), []⟩, ⟨(some 49), (.bin .eql (.tmp 48) (.const (.int .i64 2))), (some (46, true)), []⟩, ⟨(some 50), (.pick (.tmp 46) (.tmp 49) (.const (.bool false))), none, []⟩, ⟨(some 0), (.mov (.tmp 50)), none, []⟩]) .ret))))))) [(.tmp 0)])
def g10 : AFunc := (.code 24 (.seq (.ops [⟨(some 4), (.mov (.const (.pointer none))), none, []⟩, ⟨(some 5), (.mov (.const (.int .i64 0))), none, []⟩]) (.seq (.seq (.ops [⟨(some 6), (.mov (.tmp 0)), none, []⟩, ⟨(some 7), (.bin .lss (.tmp 6) (.const (.int .i64 1))), none, []⟩, ⟨(some 8), (.mov (.tmp 7)), none, []⟩, ⟨(some 9), (.mov (.tmp 0)), (some (8, false)), []⟩, ⟨(some 10), (.bin .gtr (.tmp 9) (.const (.int .i64 128))), (some (8, false)), []⟩, ⟨(some 11), (.pick (.tmp 8) (.const (.bool true)) (.tmp 10)), none, []⟩, ⟨(some 12), (.mov (.tmp 11)), none, []⟩, ⟨(some 13), (.mov (.tmp 1)), (some (12, false)), []⟩, ⟨(some 14), (.bin .lss (.tmp 13) (.const (.int .i64 1))), (some (12, false)), []⟩, ⟨(some 15), (.pick (.tmp 12) (.const (.bool true)) (.tmp 14)), none, []⟩, ⟨(some 16), (.mov (.tmp 15)), none, []⟩, ⟨(some 17), (.mov (.tmp 1)), (some (16, false)), []⟩, ⟨(some 18), (.bin .gtr (.tmp 17) (.const (.int .i64 4096))), (some (16, false)), []⟩, ⟨(some 19), (.pick (.tmp 16) (.const (.bool true)) (.tmp 18)), none, []⟩]) (.cond (.tmp 19) (.seq (.ops [⟨(some 4), (.mov (.const (.pointer none))), none, []⟩, ⟨(some 5), (.mov (.const (.int .i64 1))), none, []⟩]) .ret) .skip)) (.seq (.ops [⟨(some 20), (.mov (.tmp 0)), none, []⟩, ⟨(some 21), (.mov (.tmp 1)), none, []⟩, ⟨(some 22), (.build [(.int .i64 0), (.int .i64 0), (.int .i64 0), (.pointer none)] [(0, (1, (.tmp 20))), (1, (1, (.tmp 21)))]), none, []⟩, ⟨(some 23), (.box (.tmp 22)), none, []⟩, ⟨(some 4), (.mov (.tmp 23)), none, []⟩, ⟨(some 5), (.mov (.const (.int .i64 0))), none, []⟩]) .ret))) [(.tmp 4), (.tmp 5)])
def g11 : AFunc := (.code 33 (.seq (.ops [⟨(some 2), (.box (.tmp 0)), none, []⟩, ⟨(some 4), (.mov (.const (.string (bs [])))), none, []⟩, ⟨(some 5), (.mov (.const (.bool false))), none, []⟩]) (.seq (.ops [⟨(some 6), (.mov (.const (.slice none 0 0))), none, []⟩]) (.seq (.seq (.ops [⟨(some 7), (.mov (.const (.int .i64 127))), none, []⟩]) (.block 0 (.loop (.seq (.seq (.ops [⟨(some 10), (.mov (.tmp 7)), none, []⟩, ⟨(some 11), (.bin .geq (.tmp 10) (.const (.int .i64 0))), none, []⟩]) (.cond (.tmp 11) .skip (.exit 0))) (.seq (.block 1 (.seq (.ops [⟨(some 14), (.loadN 2 (.tmp 2)), none, []⟩, ⟨(some 15), (.mov (.tmp 7)), none, []⟩, ⟨(some 16), (.callv (.func 41) [(.tmp 14), (.tmp 15)]), none, []⟩, ⟨(some 8), (.mov (.tmp 16)), none, []⟩]) (.seq (.seq (.ops [⟨(some 17), (.mov (.tmp 7)), none, []⟩, ⟨(some 18), (.mov (.tmp 1)), none, []⟩, ⟨(some 19), (.bin .geq (.tmp 17) (.tmp 18)), none, []⟩, ⟨(some 20), (.mov (.tmp 19)), none, []⟩, ⟨(some 21), (.mov (.tmp 8)), (some (20, true)), []⟩, ⟨(some 22), (.pick (.tmp 20) (.tmp 21) (.const (.bool false))), none, []⟩]) (.cond (.tmp 22) (.seq (.ops [⟨(some 4), (.mov (.const (.string (bs [])))), none, []⟩, ⟨(some 5), (.mov (.const (.bool false))), none, []⟩]) .ret) .skip)) (.seq (.ops [⟨(some 23), (.mov (.tmp 7)), none, []⟩, ⟨(some 24), (.mov (.tmp 1)), none, []⟩, ⟨(some 25), (.bin .lss (.tmp 23) (.tmp 24)), none, []⟩]) (.cond (.tmp 25) (.seq (.ops [⟨(some 9), (.mov (.const (.int .u8 48))), none, []⟩]) (.seq (.seq (.ops [⟨(some 26), (.mov (.tmp 8)), none, []⟩]) (.cond (.tmp 26) (.ops [⟨(some 9), (.mov (.const (.int .u8 49))), none, []⟩]) .skip)) (.ops [⟨(some 27), (.mov (.tmp 6)), none, []⟩, ⟨(some 28), (.mov (.tmp 9)), none, []⟩, ⟨(some 29), (.buildSlice 1 1 [(.int .u8 0)] [(0, (1, (.tmp 28)))]), none, []⟩, ⟨(some 30), (.append 1 1 (.tmp 27) (.tmp 29)), none, []⟩, ⟨(some 6), (.mov (.tmp 30)), none, []⟩]))) .skip))))) (.ops [⟨(some 12), (.mov (.tmp 7)), none, []⟩, ⟨(some 13), (.bin .sub (.tmp 12) (.const (.int .i64 1))), none, []⟩, ⟨(some 7), (.mov (.tmp 13)), none, []⟩])))))) (.seq (.ops [⟨(some 31), (.mov (.tmp 6)), none, []⟩, ⟨(some 32), (.b2s (.tmp 31)), none, []⟩, ⟨(some 4), (.mov (.tmp 32)), none, []⟩, ⟨(some 5), (.mov (.const (.bool true))), none, []⟩]) .ret)))) [(.tmp 4), (.tmp 5)])
def g12 : AFunc := (.code 48 (.seq (.ops [⟨(some 4), (.box (.tmp 1)), none, []⟩, ⟨(some 6), (.mov (.const (.int .i64 0))), none, []⟩]) (.seq (.block 0 (.seq (.ops [⟨(some 8), (.mov (.tmp 0)), none, []⟩, ⟨(some 9), (.eqp 0 false (.tmp 8) (.const (.pointer none))), none, []⟩, ⟨(some 7), (.mov (.tmp 9)), none, []⟩]) (.cond (.tmp 7) (.seq (.ops [⟨(some 6), (.mov (.const (.int .i64 1))), none, []⟩]) .ret) (.seq (.ops [⟨(some 11), (.mov (.tmp 0)), none, []⟩, ⟨(some 12), (.loadN 3 (.tmp 4)), none, []⟩, ⟨(some 13), (.callv (.func 42) [(.tmp 11), (.tmp 12)]), none, []⟩, ⟨(some 14), (.un .not (.tmp 13)), none, []⟩, ⟨(some 10), (.mov (.tmp 14)), none, []⟩]) (.cond (.tmp 10) (.seq (.ops [⟨(some 6), (.mov (.const (.int .i64 111))), none, []⟩]) .ret) (.seq (.ops [⟨(some 16), (.mov (.tmp 0)), none, []⟩, ⟨(some 17), (.loadN 3 (.tmp 4)), none, []⟩, ⟨(some 18), (.callv (.func 43) [(.tmp 16), (.tmp 17)]), none, []⟩, ⟨(some 19), (.eqp 0 true (.tmp 18) (.const (.pointer none))), none, []⟩, ⟨(some 15), (.mov (.tmp 19)), none, []⟩]) (.cond (.tmp 15) (.seq (.ops [⟨(some 6), (.mov (.const (.int .i64 121))), none, []⟩]) .ret) (.seq (.ops [⟨(some 21), (.mov (.tmp 0)), none, []⟩, ⟨(some 22), (.nilChk (.tmp 21)), none, []⟩, ⟨(some 23), (.fAddr 2 (.tmp 22)), none, []⟩, ⟨(some 25), (.mov (.tmp 0)), none, []⟩, ⟨(some 26), (.nilChk (.tmp 25)), none, []⟩, ⟨(some 27), (.fAddr 1 (.tmp 26)), none, []⟩, ⟨(some 24), (.load1 (.tmp 23)), none, []⟩, ⟨(some 28), (.load1 (.tmp 27)), none, []⟩, ⟨(some 29), (.bin .geq (.tmp 24) (.tmp 28)), none, []⟩, ⟨(some 20), (.mov (.tmp 29)), none, []⟩]) (.cond (.tmp 20) (.seq (.ops [⟨(some 6), (.mov (.const (.int .i64 120))), none, []⟩]) .ret) .skip))))))))) (.seq (.ops [⟨(some 30), (.mov (.tmp 0)), none, []⟩, ⟨(some 31), (.nilChk (.tmp 30)), none, []⟩, ⟨(some 32), (.fAddr 2 (.tmp 31)), none, []⟩, ⟨(some 33), (.load1 (.tmp 32)), none, []⟩, ⟨(some 34), (.bin .add (.tmp 33) (.const (.int .i64 1))), none, []⟩, ⟨(some 35), (.nilChk (.tmp 30)), none, []⟩, ⟨(some 36), (.fAddr 2 (.tmp 35)), none, []⟩, ⟨none, (.store 1 (.tmp 36) (.tmp 34)), none, []⟩]) (.seq (.ops [⟨(some 37), (.mov (.tmp 0)), none, []⟩, ⟨(some 38), (.mov (.tmp 0)), none, []⟩, ⟨(some 39), (.mov (.tmp 0)), none, []⟩, ⟨(some 40), (.nilChk (.tmp 39)), none, []⟩, ⟨(some 41), (.fAddr 3 (.tmp 40)), none, []⟩, ⟨(some 44), (.mov (.tmp 2)), none, []⟩, ⟨(some 42), (.load1 (.tmp 41)), none, []⟩, ⟨(some 43), (.loadN 3 (.tmp 4)), none, []⟩, ⟨(some 45), (.callv (.func 44) [(.tmp 38), (.tmp 42), (.tmp 43), (.tmp 44)]), none, []⟩, ⟨(some 46), (.nilChk (.tmp 37)), none, []⟩, ⟨(some 47), (.fAddr 3 (.tmp 46)), none, []⟩, ⟨none, (.store 1 (.tmp 47) (.tmp 45)), none, []⟩]) (.seq (.ops [⟨(some 6), (.mov (.const (.int .i64 0))), none, []⟩]) .ret))))) [(.tmp 6)])
def g13 : AFunc := (.code 41 (.seq (.ops [⟨(some 3), (.box (.tmp 0)), none, []⟩, ⟨(some 6), (.mov (.const (.string (bs [])))), none, []⟩, ⟨(some 7), (.mov (.const (.bool false))), none, []⟩]) (.seq (.ops [⟨(some 12), (.loadN 2 (.tmp 3)), none, []⟩, ⟨(some 13), (.mov (.tmp 2)), none, []⟩, ⟨(some 14), (.callv (.func 11) [(.tmp 12), (.tmp 13)]), none, []⟩, ⟨(some 11), (.mov (.tmp 14)), none, []⟩, ⟨(some 15), (.extract (.tmp 11) 0), none, []⟩, ⟨(some 16), (.extract (.tmp 11) 1), none, []⟩, ⟨(some 8), (.mov (.tmp 15)), none, []⟩, ⟨(some 9), (.mov (.tmp 16)), none, []⟩]) (.seq (.seq (.ops [⟨(some 17), (.mov (.tmp 9)), none, []⟩, ⟨(some 18), (.un .not (.tmp 17)), none, []⟩, ⟨(some 19), (.mov (.tmp 18)), none, []⟩, ⟨(some 20), (.mov (.tmp 1)), (some (19, false)), []⟩, ⟨(some 21), (.bin .lss (.tmp 20) (.const (.int .i64 0))), (some (19, false)), []⟩, ⟨(some 22), (.pick (.tmp 19) (.const (.bool true)) (.tmp 21)), none, []⟩, ⟨(some 23), (.mov (.tmp 22)), none, []⟩, ⟨(some 24), (.mov (.tmp 1)), (some (23, false)), []⟩, ⟨(some 25), (.mov (.tmp 2)), (some (23, false)), []⟩, ⟨(some 26), (.bin .gtr (.tmp 24) (.tmp 25)), (some (23, false)), []⟩, ⟨(some 27), (.pick (.tmp 23) (.const (.bool true)) (.tmp 26)), none, []⟩]) (.cond (.tmp 27) (.seq (.ops [⟨(some 6), (.mov (.const (.string (bs [])))), none, []⟩, ⟨(some 7), (.mov (.const (.bool false))), none, []⟩]) .ret) .skip)) (.seq (.seq (.ops [⟨(some 28), (.mov (.tmp 1)), none, []⟩, ⟨(some 10), (.mov (.tmp 28)), none, []⟩]) (.block 0 (.loop (.seq (.seq (.ops [⟨(some 29), (.mov (.tmp 10)), none, []⟩, ⟨(some 30), (.mov (.tmp 2)), none, []⟩, ⟨(some 31), (.bin .lss (.tmp 29) (.tmp 30)), none, []⟩]) (.cond (.tmp 31) .skip (.exit 0))) (.seq (.block 1 (.seq (.ops [⟨(some 34), (.mov (.tmp 8)), none, []⟩, ⟨(some 35), (.mov (.tmp 10)), none, []⟩, ⟨(some 36), (.idxStr (.tmp 34) (.tmp 35)), none, []⟩, ⟨(some 37), (.bin .eql (.tmp 36) (.const (.int .u8 49))), none, []⟩]) (.cond (.tmp 37) (.seq (.ops [⟨(some 6), (.mov (.const (.string (bs [])))), none, []⟩, ⟨(some 7), (.mov (.const (.bool false))), none, []⟩]) .ret) .skip))) (.ops [⟨(some 32), (.mov (.tmp 10)), none, []⟩, ⟨(some 33), (.bin .add (.tmp 32) (.const (.int .i64 1))), none, []⟩, ⟨(some 10), (.mov (.tmp 33)), none, []⟩])))))) (.seq (.ops [⟨(some 38), (.mov (.tmp 8)), none, []⟩, ⟨(some 39), (.mov (.tmp 1)), none, []⟩, ⟨(some 40), (.slStr (.tmp 38) none (some (.tmp 39))), none, []⟩, ⟨(some 6), (.mov (.tmp 40)), none, []⟩, ⟨(some 7), (.mov (.const (.bool true))), none, []⟩]) .ret))))) [(.tmp 6), (.tmp 7)])
def g14 : AFunc := (.code 25 (.seq (.ops [⟨(some 3), (.box (.tmp 1)), none, []⟩, ⟨(some 4), (.alloc [(.int .u64 0), (.int .u64 0), (.int .i64 0)]), none, []⟩, ⟨(some 5), (.mov (.const (.int .i64 0))), none, []⟩, ⟨(some 6), (.mov (.const (.bool false))), none, []⟩]) (.seq (.ops [⟨(some 7), (.alloc [(.pointer none)]), none, []⟩]) (.seq (.ops [⟨(some 9), (.mov (.tmp 0)), none, []⟩, ⟨(some 10), (.loadN 2 (.tmp 3)), none, []⟩, ⟨(some 11), (.mkFunc 46 [] [(.tmp 7)]), none, []⟩, ⟨(some 12), (.callv (.func 45) [(.tmp 9), (.tmp 10), (.tmp 11)]), none, []⟩]) (.seq (.seq (.ops [⟨(some 13), (.load1 (.tmp 7)), none, []⟩, ⟨(some 14), (.eqp 0 false (.tmp 13) (.const (.pointer none))), none, []⟩]) (.cond (.tmp 14) (.seq (.ops [⟨(some 8), (.mov (.const (.int .i64 0))), none, []⟩]) (.seq (.ops [⟨(some 15), (.build [(.int .u64 0), (.int .u64 0), (.int .i64 0)] []), none, []⟩, ⟨(some 16), (.mov (.tmp 8)), none, []⟩, ⟨none, (.store 3 (.tmp 4) (.tmp 15)), none, []⟩, ⟨(some 5), (.mov (.tmp 16)), none, []⟩, ⟨(some 6), (.mov (.const (.bool false))), none, []⟩]) .ret)) .skip)) (.seq (.ops [⟨(some 17), (.load1 (.tmp 7)), none, []⟩, ⟨(some 18), (.nilChk (.tmp 17)), none, []⟩, ⟨(some 19), (.fAddr 0 (.tmp 18)), none, []⟩, ⟨(some 20), (.loadN 3 (.tmp 19)), none, []⟩, ⟨(some 21), (.load1 (.tmp 7)), none, [(4, 3)]⟩, ⟨(some 22), (.nilChk (.tmp 21)), none, []⟩, ⟨(some 23), (.fAddr 4 (.tmp 22)), none, []⟩, ⟨(some 24), (.load1 (.tmp 23)), none, [(4, 3)]⟩, ⟨none, (.store 3 (.tmp 4) (.tmp 20)), none, []⟩, ⟨(some 5), (.mov (.tmp 24)), none, []⟩, ⟨(some 6), (.mov (.const (.bool true))), none, []⟩]) .ret))))) [(.cellN 4 3), (.tmp 5), (.tmp 6)])
def g15 : AFunc := (.code 11 (.seq (.ops [⟨(some 3), (.box (.tmp 1)), none, []⟩, ⟨(some 4), (.mov (.const (.slice none 0 0))), none, []⟩]) (.seq (.ops [⟨(some 5), (.alloc [(.slice none 0 0)]), none, []⟩]) (.seq (.ops [⟨(some 6), (.mov (.tmp 0)), none, []⟩, ⟨(some 7), (.loadN 2 (.tmp 3)), none, []⟩, ⟨(some 8), (.mkFunc 47 [] [(.tmp 5)]), none, []⟩, ⟨(some 9), (.callv (.func 45) [(.tmp 6), (.tmp 7), (.tmp 8)]), none, []⟩]) (.seq (.ops [⟨(some 10), (.load1 (.tmp 5)), none, []⟩, ⟨(some 4), (.mov (.tmp 10)), none, []⟩]) .ret)))) [(.tmp 4)])
def g16 : AFunc := (.code 18 (.seq (.ops [⟨(some 3), (.box (.tmp 1)), none, []⟩, ⟨(some 4), (.mov (.const (.int .i64 0))), none, []⟩, ⟨(some 5), (.mov (.const (.bool false))), none, []⟩]) (.seq (.ops [⟨(some 8), (.mov (.tmp 0)), none, []⟩, ⟨(some 9), (.loadN 3 (.tmp 3)), none, []⟩, ⟨(some 10), (.callv (.func 43) [(.tmp 8), (.tmp 9)]), none, []⟩, ⟨(some 6), (.mov (.tmp 10)), none, []⟩]) (.seq (.seq (.ops [⟨(some 11), (.mov (.tmp 6)), none, []⟩, ⟨(some 12), (.eqp 0 false (.tmp 11) (.const (.pointer none))), none, []⟩]) (.cond (.tmp 12) (.seq (.ops [⟨(some 7), (.mov (.const (.int .i64 0))), none, []⟩]) (.seq (.ops [⟨(some 13), (.mov (.tmp 7)), none, []⟩, ⟨(some 4), (.mov (.tmp 13)), none, []⟩, ⟨(some 5), (.mov (.const (.bool false))), none, []⟩]) .ret)) .skip)) (.seq (.ops [⟨(some 14), (.mov (.tmp 6)), none, []⟩, ⟨(some 15), (.nilChk (.tmp 14)), none, []⟩, ⟨(some 16), (.fAddr 4 (.tmp 15)), none, []⟩, ⟨(some 17), (.load1 (.tmp 16)), none, []⟩, ⟨(some 4), (.mov (.tmp 17)), none, []⟩, ⟨(some 5), (.mov (.const (.bool true))), none, []⟩]) .ret)))) [(.tmp 4), (.tmp 5)])
def g17 : AFunc := (.code 5 (.seq (.ops [⟨(some 2), (.mov (.const .nilFunc)), none, []⟩]) (.seq (.ops [⟨(some 3), (.mov (.tmp 0)), none, []⟩, ⟨(some 4), (.callv (.func 48) [(.tmp 3), (.func 49)]), none, []⟩, ⟨(some 2), (.mov (.tmp 4)), none, []⟩]) .ret)) [(.tmp 2)])
def g18 : AFunc := (.code 8 (.seq (.ops [⟨(some 2), (.box (.tmp 0)), none, []⟩, ⟨(some 3), (.box (.tmp 1)), none, []⟩, ⟨(some 4), (.mov (.const .nilFunc)), none, []⟩]) (.seq (.ops [⟨(some 5), (.load1 (.tmp 2)), none, []⟩, ⟨(some 6), (.mkFunc 50 [] [(.tmp 2), (.tmp 3)]), none, []⟩, ⟨(some 7), (.callv (.func 48) [(.tmp 5), (.tmp 6)]), none, []⟩, ⟨(some 4), (.mov (.tmp 7)), none, []⟩]) .ret)) [(.tmp 4)])
def g19 : AFunc := (.code 9 (.seq (.ops [⟨(some 2), (.mov (.const (.int .i64 0))), none, []⟩]) (.seq (.seq (.ops [⟨(some 3), (.mov (.tmp 0)), none, []⟩, ⟨(some 4), (.eqp 0 false (.tmp 3) (.const (.pointer none))), none, []⟩]) (.cond (.tmp 4) (.seq (.ops [⟨(some 2), (.mov (.const (.int .i64 0))), none, []⟩]) .ret) .skip)) (.seq (.ops [⟨(some 5), (.mov (.tmp 0)), none, []⟩, ⟨(some 6), (.nilChk (.tmp 5)), none, []⟩, ⟨(some 7), (.fAddr 2 (.tmp 6)), none, []⟩, ⟨(some 8), (.load1 (.tmp 7)), none, []⟩, ⟨(some 2), (.mov (.tmp 8)), none, []⟩]) .ret))) [(.tmp 2)])
def g28 : AFunc := (.code 24 (.seq (.ops [⟨(some 4), (.mov (.const (.pointer none))), none, []⟩, ⟨(some 5), (.mov (.const (.int .i64 0))), none, []⟩]) (.seq (.seq (.ops [⟨(some 6), (.mov (.tmp 0)), none, []⟩, ⟨(some 7), (.bin .lss (.tmp 6) (.const (.int .i64 1))), none, []⟩, ⟨(some 8), (.mov (.tmp 7)), none, []⟩, ⟨(some 9), (.mov (.tmp 0)), (some (8, false)), []⟩, ⟨(some 10), (.bin .gtr (.tmp 9) (.const (.int .i64 128))), (some (8, false)), []⟩, ⟨(some 11), (.pick (.tmp 8) (.const (.bool true)) (.tmp 10)), none, []⟩, ⟨(some 12), (.mov (.tmp 11)), none, []⟩, ⟨(some 13), (.mov (.tmp 1)), (some (12, false)), []⟩, ⟨(some 14), (.bin .lss (.tmp 13) (.const (.int .i64 1))), (some (12, false)), []⟩, ⟨(some 15), (.pick (.tmp 12) (.const (.bool true)) (.tmp 14)), none, []⟩, ⟨(some 16), (.mov (.tmp 15)), none, []⟩, ⟨(some 17), (.mov (.tmp 1)), (some (16, false)), []⟩, ⟨(some 18), (.bin .gtr (.tmp 17) (.const (.int .i64 4096))), (some (16, false)), []⟩, ⟨(some 19), (.pick (.tmp 16) (.const (.bool true)) (.tmp 18)), none, []⟩]) (.cond (.tmp 19) (.seq (.ops [⟨(some 4), (.mov (.const (.pointer none))), none, []⟩, ⟨(some 5), (.mov (.const (.int .i64 1))), none, []⟩]) .ret) .skip)) (.seq (.ops [⟨(some 20), (.mov (.tmp 0)), none, []⟩, ⟨(some 21), (.mov (.tmp 1)), none, []⟩, ⟨(some 22), (.build [(.int .i64 0), (.int .i64 0), (.slice none 0 0)] [(0, (1, (.tmp 20))), (1, (1, (.tmp 21)))]), none, []⟩, ⟨(some 23), (.box (.tmp 22)), none, []⟩, ⟨(some 4), (.mov (.tmp 23)), none, []⟩, ⟨(some 5), (.mov (.const (.int .i64 0))), none, []⟩]) .ret))) [(.tmp 4), (.tmp 5)])
def g29 : AFunc := (.code 220 (.seq (.ops [⟨(some 5), (.box (.tmp 2)), none, []⟩, ⟨(some 6), (.mov (.const (.bool false))), none, []⟩]) (.seq (.ops [⟨(some 26), (.fAddr 1 (.tmp 5)), none, []⟩, ⟨(some 27), (.loadN 2 (.tmp 26)), none, []⟩, ⟨(some 28), (.fAddr 3 (.tmp 5)), none, []⟩, ⟨(some 29), (.load1 (.tmp 28)), none, []⟩, ⟨(some 30), (.build [(.int .u64 0), (.int .u64 0), (.int .i64 0)] [(0, (2, (.tmp 27))), (2, (1, (.tmp 29)))]), none, []⟩, ⟨(some 7), (.alloc [(.int .u64 0), (.int .u64 0), (.int .i64 0)]), none, []⟩, ⟨none, (.store 3 (.tmp 7) (.tmp 30)), none, []⟩]) (.seq (.seq (.ops [⟨(some 31), (.fAddr 0 (.tmp 5)), none, []⟩, ⟨(some 32), (.load1 (.tmp 31)), none, []⟩, ⟨(some 33), (.callv (.func 34) [(.tmp 32)]), none, []⟩]) (.block 0 (.seq (.ops [⟨(some 35), (.bin .eql (.tmp 33) (.const (.int .i64 0))), none, []⟩, ⟨(some 34), (.mov (.tmp 35)), none, []⟩]) (.cond (.tmp 34) (.seq (.ops [⟨(some 36), (.mov (.tmp 0)), none, []⟩, ⟨(some 37), (.loadN 3 (.tmp 7)), none, []⟩, ⟨(some 38), (.fAddr 4 (.tmp 5)), none, []⟩, ⟨(some 39), (.load1 (.tmp 38)), none, []⟩, ⟨(some 40), (.callv (.func 12) [(.tmp 36), (.tmp 37), (.tmp 39)]), none, []⟩, ⟨(some 8), (.mov (.tmp 40)), none, []⟩]) (.seq (.ops [⟨(some 41), (.mov (.tmp 1)), none, []⟩, ⟨(some 42), (.fAddr 1 (.tmp 5)), none, []⟩, ⟨(some 43), (.loadN 2 (.tmp 42)), none, []⟩, ⟨(some 44), (.fAddr 3 (.tmp 5)), none, []⟩, ⟨(some 45), (.load1 (.tmp 44)), none, []⟩, ⟨(some 46), (.fAddr 4 (.tmp 5)), none, []⟩, ⟨(some 47), (.load1 (.tmp 46)), none, []⟩, ⟨(some 48), (.callv (.func 60) [(.tmp 41), (.tmp 43), (.tmp 45), (.tmp 47)]), none, []⟩, ⟨(some 9), (.mov (.tmp 48)), none, []⟩]) (.seq (.ops [⟨(some 49), (.mov (.tmp 8)), none, []⟩, ⟨(some 50), (.mov (.tmp 9)), none, []⟩, ⟨(some 51), (.bin .eql (.tmp 49) (.tmp 50)), none, []⟩, ⟨(some 6), (.mov (.tmp 51)), none, []⟩]) .ret))) (.seq (.ops [⟨(some 53), (.bin .eql (.tmp 33) (.const (.int .i64 1))), none, []⟩, ⟨(some 52), (.mov (.tmp 53)), none, []⟩]) (.cond (.tmp 52) (.seq (.ops [⟨(some 54), (.mov (.tmp 0)), none, []⟩, ⟨(some 55), (.loadN 3 (.tmp 7)), none, []⟩, ⟨(some 56), (.fAddr 4 (.tmp 5)), none, []⟩, ⟨(some 57), (.load1 (.tmp 56)), none, []⟩, ⟨(some 58), (.callv (.func 38) [(.tmp 54), (.tmp 55), (.tmp 57)]), none, []⟩, ⟨(some 10), (.mov (.tmp 58)), none, []⟩]) (.seq (.ops [⟨(some 59), (.mov (.tmp 1)), none, []⟩, ⟨(some 60), (.fAddr 1 (.tmp 5)), none, []⟩, ⟨(some 61), (.loadN 2 (.tmp 60)), none, []⟩, ⟨(some 62), (.fAddr 3 (.tmp 5)), none, []⟩, ⟨(some 63), (.load1 (.tmp 62)), none, []⟩, ⟨(some 64), (.fAddr 4 (.tmp 5)), none, []⟩, ⟨(some 65), (.load1 (.tmp 64)), none, []⟩, ⟨(some 66), (.callv (.func 61) [(.tmp 59), (.tmp 61), (.tmp 63), (.tmp 65)]), none, []⟩, ⟨(some 11), (.mov (.tmp 66)), none, []⟩]) (.seq (.ops [⟨(some 67), (.mov (.tmp 10)), none, []⟩, ⟨(some 68), (.mov (.tmp 11)), none, []⟩, ⟨(some 69), (.bin .eql (.tmp 67) (.tmp 68)), none, []⟩, ⟨(some 6), (.mov (.tmp 69)), none, []⟩]) .ret))) (.seq (.ops [⟨(some 71), (.bin .eql (.tmp 33) (.const (.int .i64 2))), none, []⟩, ⟨(some 70), (.mov (.tmp 71)), none, []⟩]) (.cond (.tmp 70) (.seq (.ops [⟨(some 73), (.mov (.tmp 0)), none, []⟩, ⟨(some 74), (.loadN 3 (.tmp 7)), none, []⟩, ⟨(some 75), (.callv (.func 39) [(.tmp 73), (.tmp 74)]), none, []⟩, ⟨(some 72), (.mov (.tmp 75)), none, []⟩, ⟨(some 76), (.extract (.tmp 72) 0), none, []⟩, ⟨(some 77), (.extract (.tmp 72) 1), none, []⟩, ⟨(some 12), (.mov (.tmp 76)), none, []⟩, ⟨(some 13), (.mov (.tmp 77)), none, []⟩]) (.seq (.ops [⟨(some 79), (.mov (.tmp 1)), none, []⟩, ⟨(some 80), (.fAddr 1 (.tmp 5)), none, []⟩, ⟨(some 81), (.loadN 2 (.tmp 80)), none, []⟩, ⟨(some 82), (.fAddr 3 (.tmp 5)), none, []⟩, ⟨(some 83), (.load1 (.tmp 82)), none, []⟩, ⟨(some 84), (.callv (.func 62) [(.tmp 79), (.tmp 81), (.tmp 83)]), none, []⟩, ⟨(some 78), (.mov (.tmp 84)), none, []⟩, ⟨(some 85), (.extract (.tmp 78) 0), none, []⟩, ⟨(some 86), (.extract (.tmp 78) 1), none, []⟩, ⟨(some 14), (.mov (.tmp 85)), none, []⟩, ⟨(some 15), (.mov (.tmp 86)), none, []⟩]) (.seq (.ops [⟨(some 87), (.mov (.tmp 12)), none, []⟩, ⟨(some 88), (.mov (.tmp 14)), none, []⟩, ⟨(some 89), (.bin .eql (.tmp 87) (.tmp 88)), none, []⟩, ⟨(some 90), (.mov (.tmp 89)), none, []⟩, ⟨(some 91), (.mov (.tmp 13)), (some (90, true)), []⟩, ⟨(some 92), (.mov (.tmp 15)), (some (90, true)), []⟩, ⟨(some 93), (.eqb false (.tmp 91) (.tmp 92)), (some (90, true)), []⟩, ⟨(some 94), (.pick (.tmp 90) (.tmp 93) (.const (.bool false))), none, []⟩, ⟨(some 6), (.mov (.tmp 94)), none, []⟩]) .ret))) (.seq (.ops [⟨(some 96), (.bin .eql (.tmp 33) (.const (.int .i64 3))), none, []⟩, ⟨(some 95), (.mov (.tmp 96)), none, []⟩]) (.cond (.tmp 95) (.seq (.ops [⟨(some 98), (.mov (.tmp 0)), none, []⟩, ⟨(some 99), (.loadN 3 (.tmp 7)), none, []⟩, ⟨(some 100), (.callv (.func 16) [(.tmp 98), (.tmp 99)]), none, []⟩, ⟨(some 97), (.mov (.tmp 100)), none, []⟩, ⟨(some 101), (.extract (.tmp 97) 0), none, []⟩, ⟨(some 102), (.extract (.tmp 97) 1), none, []⟩, ⟨(some 16), (.mov (.tmp 101)), none, []⟩, ⟨(some 17), (.mov (.tmp 102)), none, []⟩]) (.seq (.ops [⟨(some 104), (.mov (.tmp 1)), none, []⟩, ⟨(some 105), (.fAddr 1 (.tmp 5)), none, []⟩, ⟨(some 106), (.loadN 2 (.tmp 105)), none, []⟩, ⟨(some 107), (.fAddr 3 (.tmp 5)), none, []⟩, ⟨(some 108), (.load1 (.tmp 107)), none, []⟩, ⟨(some 109), (.callv (.func 63) [(.tmp 104), (.tmp 106), (.tmp 108)]), none, []⟩, ⟨(some 103), (.mov (.tmp 109)), none, []⟩, ⟨(some 110), (.extract (.tmp 103) 0), none, []⟩, ⟨(some 111), (.extract (.tmp 103) 1), none, []⟩, ⟨(some 18), (.mov (.tmp 110)), none, []⟩, ⟨(some 19), (.mov (.tmp 111)), none, []⟩]) (.seq (.ops [⟨(some 112), (.mov (.tmp 16)), none, []⟩, ⟨(some 113), (.mov (.tmp 18)), none, []⟩, ⟨(some 114), (.bin .eql (.tmp 112) (.tmp 113)), none, []⟩, ⟨(some 115), (.mov (.tmp 114)), none, []⟩, ⟨(some 116), (.mov (.tmp 17)), (some (115, true)), []⟩, ⟨(some 117), (.mov (.tmp 19)), (some (115, true)), []⟩, ⟨(some 118), (.eqb false (.tmp 116) (.tmp 117)), (some (115, true)), []⟩, ⟨(some 119), (.pick (.tmp 115) (.tmp 118) (.const (.bool false))), none, []⟩, ⟨(some 6), (.mov (.tmp 119)), none, []⟩]) .ret))) (.seq (.ops [⟨(some 121), (.bin .eql (.tmp 33) (.const (.int .i64 4))), none, []⟩, ⟨(some 120), (.mov (.tmp 121)), none, []⟩]) (.cond (.tmp 120) (.seq (.ops [⟨(some 123), (.mov (.tmp 0)), none, []⟩, ⟨(some 124), (.fAddr 1 (.tmp 5)), none, []⟩, ⟨(some 125), (.loadN 2 (.tmp 124)), none, []⟩, ⟨(some 126), (.callv (.func 14) [(.tmp 123), (.tmp 125)]), none, []⟩, ⟨(some 122), (.mov (.tmp 126)), none, []⟩, ⟨(some 127), (.extract (.tmp 122) 0), none, []⟩, ⟨(some 128), (.extract (.tmp 122) 1), none, []⟩, ⟨(some 129), (.extract (.tmp 122) 2), none, []⟩, ⟨(some 20), (.alloc [(.int .u64 0), (.int .u64 0), (.int .i64 0)]), none, []⟩, ⟨none, (.store 3 (.tmp 20) (.tmp 127)), none, []⟩, ⟨(some 21), (.mov (.tmp 128)), none, []⟩, ⟨(some 22), (.mov (.tmp 129)), none, []⟩]) (.seq (.ops [⟨(some 131), (.mov (.tmp 1)), none, []⟩, ⟨(some 132), (.fAddr 1 (.tmp 5)), none, []⟩, ⟨(some 133), (.loadN 2 (.tmp 132)), none, []⟩, ⟨(some 134), (.callv (.func 64) [(.tmp 131), (.tmp 133)]), none, []⟩, ⟨(some 130), (.mov (.tmp 134)), none, []⟩, ⟨(some 135), (.extract (.tmp 130) 0), none, []⟩, ⟨(some 136), (.extract (.tmp 130) 1), none, []⟩, ⟨(some 23), (.alloc [(.string (bs [])), (.int .i64 0)]), none, []⟩, ⟨none, (.store 2 (.tmp 23) (.tmp 135)), none, []⟩, ⟨(some 24), (.mov (.tmp 136)), none, []⟩]) (.seq (.seq (.ops [⟨(some 137), (.mov (.tmp 24)), none, []⟩, ⟨(some 138), (.un .not (.tmp 137)), none, []⟩]) (.cond (.tmp 138) (.seq (.ops [⟨(some 139), (.mov (.tmp 22)), none, []⟩, ⟨(some 140), (.un .not (.tmp 139)), none, []⟩, ⟨(some 141), (.mov (.tmp 140)), none, []⟩, ⟨(some 142), (.mov (.tmp 21)), (some (141, true)), []⟩, ⟨(some 143), (.bin .eql (.tmp 142) (.const (.int .i64 0))), (some (141, true)), []⟩, ⟨(some 144), (.pick (.tmp 141) (.tmp 143) (.const (.bool false))), none, []⟩, ⟨(some 145), (.mov (.tmp 144)), none, []⟩, ⟨(some 146), (.loadN 3 (.tmp 20)), (some (145, true)), []⟩, ⟨(some 147), (.build [(.int .u64 0), (.int .u64 0), (.int .i64 0)] []), (some (145, true)), []⟩, ⟨(some 148), (.eqs false 3 [(0, 1), (1, 1), (2, 1)] (.tmp 146) (.tmp 147)), (some (145, true)), []⟩, ⟨(some 149), (.pick (.tmp 145) (.tmp 148) (.const (.bool false))), none, []⟩, ⟨(some 6), (.mov (.tmp 149)), none, []⟩]) .ret) .skip)) (.seq (.ops [⟨(some 152), (.mov (.tmp 1)), none, []⟩, ⟨(some 153), (.nilChk (.tmp 152)), none, []⟩, ⟨(some 154), (.fAddr 0 (.tmp 153)), none, []⟩, ⟨(some 150), (.loadN 3 (.tmp 20)), none, []⟩, ⟨(some 151), (.loadN 2 (.tmp 23)), none, []⟩, ⟨(some 155), (.load1 (.tmp 154)), none, []⟩, ⟨(some 156), (.callv (.func 33) [(.tmp 150), (.tmp 151), (.tmp 155)]), none, []⟩, ⟨(some 25), (.mov (.tmp 156)), none, []⟩]) (.seq (.ops [⟨(some 157), (.mov (.tmp 22)), none, []⟩, ⟨(some 158), (.mov (.tmp 157)), none, []⟩, ⟨(some 159), (.mov (.tmp 25)), (some (158, true)), []⟩, ⟨(some 160), (.pick (.tmp 158) (.tmp 159) (.const (.bool false))), none, []⟩, ⟨(some 161), (.mov (.tmp 160)), none, []⟩, ⟨(some 162), (.mov (.tmp 21)), (some (161, true)), []⟩, ⟨(some 163), (.fAddr 1 (.tmp 23)), (some (161, true)), []⟩, ⟨(some 164), (.load1 (.tmp 163)), (some (161, true)), []⟩, ⟨(some 165), (.bin .eql (.tmp 162) (.tmp 164)), (some (161, true)), []⟩, ⟨(some 166), (.pick (.tmp 161) (.tmp 165) (.const (.bool false))), none, []⟩, ⟨(some 6), (.mov (.tmp 166)), none, []⟩]) .ret))))) (.seq (.ops [⟨(some 168), (.bin .eql (.tmp 33) (.const (.int .i64 5))), none, []⟩, ⟨(some 167), (.mov (.tmp 168)), none, []⟩]) (.cond (.tmp 167) (.seq (.ops [⟨(some 169), (.mov (.tmp 0)), none, []⟩, ⟨(some 170), (.mov (.tmp 1)), none, []⟩, ⟨(some 171), (.fAddr 1 (.tmp 5)), none, []⟩, ⟨(some 172), (.loadN 2 (.tmp 171)), none, []⟩, ⟨(some 173), (.callv (.func 65) [(.tmp 169), (.tmp 170), (.tmp 172)]), none, []⟩, ⟨(some 6), (.mov (.tmp 173)), none, []⟩]) .ret) (.seq (.ops [⟨(some 175), (.bin .eql (.tmp 33) (.const (.int .i64 6))), none, []⟩, ⟨(some 174), (.mov (.tmp 175)), none, []⟩]) (.cond (.tmp 174) (.seq (.ops [⟨(some 176), (.mov (.tmp 0)), none, []⟩, ⟨(some 178), (.mov (.tmp 1)), none, []⟩, ⟨(some 177), (.callv (.func 40) [(.tmp 176)]), none, []⟩, ⟨(some 179), (.callv (.func 66) [(.tmp 178)]), none, []⟩, ⟨(some 180), (.bin .eql (.tmp 177) (.tmp 179)), none, []⟩, ⟨(some 181), (.mov (.tmp 180)), none, []⟩, ⟨(some 182), (.mov (.tmp 0)), (some (181, true)), []⟩, ⟨(some 184), (.mov (.tmp 1)), (some (181, true)), []⟩, ⟨(some 185), (.nilChk (.tmp 184)), (some (181, true)), []⟩, ⟨(some 186), (.fAddr 2 (.tmp 185)), (some (181, true)), []⟩, ⟨(some 187), (.load1 (.tmp 186)), (some (181, true)), []⟩, ⟨(some 188), (.lenSl (.tmp 187)), (some (181, true)), []⟩, ⟨(some 183), (.callv (.func 19) [(.tmp 182)]), (some (181, true)), [(186, 1)]⟩, ⟨(some 189), (.bin .eql (.tmp 183) (.tmp 188)), (some (181, true)), []⟩, ⟨(some 190), (.pick (.tmp 181) (.tmp 189) (.const (.bool false))), none, []⟩, ⟨(some 6), (.mov (.tmp 190)), none, []⟩]) .ret) (.seq (.ops [⟨(some 192), (.bin .eql (.tmp 33) (.const (.int .i64 7))), none, []⟩, ⟨(some 191), (.mov (.tmp 192)), none, []⟩]) (.cond (.tmp 191) (.seq (.ops [⟨(some 193), (.mov (.tmp 0)), none, []⟩, ⟨(some 195), (.mov (.tmp 1)), none, []⟩, ⟨(some 196), (.nilChk (.tmp 195)), none, []⟩, ⟨(some 197), (.fAddr 2 (.tmp 196)), none, []⟩, ⟨(some 199), (.mov (.tmp 1)), none, []⟩, ⟨(some 200), (.nilChk (.tmp 199)), none, []⟩, ⟨(some 201), (.fAddr 0 (.tmp 200)), none, []⟩, ⟨(some 198), (.load1 (.tmp 197)), none, []⟩, ⟨(some 202), (.load1 (.tmp 201)), none, []⟩, ⟨(some 194), (.callv (.func 17) [(.tmp 193)]), none, [(197, 1), (201, 1)]⟩, ⟨(some 203), (.callv (.func 30) [(.tmp 194), (.tmp 198), (.tmp 202)]), none, []⟩, ⟨(some 6), (.mov (.tmp 203)), none, []⟩]) .ret) (.seq (.ops [⟨(some 205), (.bin .eql (.tmp 33) (.const (.int .i64 8))), none, []⟩, ⟨(some 204), (.mov (.tmp 205)), none, []⟩]) (.cond (.tmp 204) (.seq (.ops [⟨(some 206), (.mov (.tmp 0)), none, []⟩, ⟨(some 209), (.mov (.tmp 1)), none, []⟩, ⟨(some 210), (.fAddr 1 (.tmp 5)), none, []⟩, ⟨(some 212), (.fAddr 3 (.tmp 5)), none, []⟩, ⟨(some 215), (.mov (.tmp 1)), none, []⟩, ⟨(some 216), (.nilChk (.tmp 215)), none, []⟩, ⟨(some 217), (.fAddr 0 (.tmp 216)), none, []⟩, ⟨(some 207), (.loadN 3 (.tmp 7)), none, []⟩, ⟨(some 211), (.loadN 2 (.tmp 210)), none, []⟩, ⟨(some 213), (.load1 (.tmp 212)), none, []⟩, ⟨(some 218), (.load1 (.tmp 217)), none, []⟩, ⟨(some 208), (.callv (.func 18) [(.tmp 206), (.tmp 207)]), none, [(210, 1), (212, 1), (217, 1)]⟩, ⟨(some 214), (.callv (.func 31) [(.tmp 209), (.tmp 211), (.tmp 213)]), none, [(217, 1)]⟩, ⟨(some 219), (.callv (.func 30) [(.tmp 208), (.tmp 214), (.tmp 218)]), none, []⟩, ⟨(some 6), (.mov (.tmp 219)), none, []⟩]) .ret) .skip)))))))))))))))))))) (.seq (.ops [⟨(some 6), (.mov (.const (.bool true))), none, []⟩]) .ret)))) [(.tmp 6)])
def g30 : AFunc := (.code 44 (.seq (.ops [⟨(some 4), (.box (.tmp 1)), none, []⟩, ⟨(some 5), (.box (.tmp 2)), none, []⟩, ⟨(some 6), (.alloc [(.bool false)]), none, []⟩]) (.seq (.seq (.ops [⟨(some 11), (.mov (.tmp 0)), none, []⟩, ⟨(some 12), (.eqp 2 false (.tmp 11) (.const .nilFunc)), none, []⟩]) (.cond (.tmp 12) (.seq (.ops [⟨none, (.store 1 (.tmp 6) (.const (.bool false))), none, []⟩]) .ret) .skip)) (.seq (.ops [⟨(some 7), (.alloc [(.int .i64 0)]), none, []⟩, ⟨none, (.store 1 (.tmp 7) (.const (.int .i64 0))), none, []⟩]) (.seq (.seq (.ops [⟨(some 13), (.mov (.tmp 0)), none, []⟩]) (.block 0 (.range (.tmp 13) [14, 15] (.seq (.ops [⟨(some 8), (.alloc [(.int .u64 0), (.int .u64 0), (.int .i64 0)]), none, []⟩, ⟨none, (.store 3 (.tmp 8) (.tmp 14)), none, []⟩]) (.ops [⟨(some 9), (.mov (.tmp 15)), none, []⟩])) (.block 1 (.seq (.seq (.ops [⟨(some 16), (.load1 (.tmp 7)), none, []⟩, ⟨(some 17), (.load1 (.tmp 4)), none, []⟩, ⟨(some 18), (.lenSl (.tmp 17)), none, []⟩, ⟨(some 19), (.bin .geq (.tmp 16) (.tmp 18)), none, []⟩]) (.cond (.tmp 19) (.seq (.ops [⟨none, (.store 1 (.tmp 6) (.const (.bool false))), none, []⟩]) .ret) .skip)) (.seq (.ops [⟨(some 20), (.loadN 3 (.tmp 8)), none, []⟩, ⟨(some 21), (.load1 (.tmp 4)), none, []⟩, ⟨(some 22), (.load1 (.tmp 7)), none, []⟩, ⟨(some 23), (.iAddrSl 2 (.tmp 21) (.tmp 22)), none, []⟩, ⟨(some 24), (.loadN 2 (.tmp 23)), none, []⟩, ⟨(some 25), (.load1 (.tmp 5)), none, []⟩, ⟨(some 26), (.callv (.func 33) [(.tmp 20), (.tmp 24), (.tmp 25)]), none, []⟩, ⟨(some 10), (.mov (.tmp 26)), none, []⟩]) (.seq (.seq (.ops [⟨(some 27), (.mov (.tmp 10)), none, []⟩, ⟨(some 28), (.un .not (.tmp 27)), none, []⟩, ⟨(some 29), (.mov (.tmp 28)), none, []⟩, ⟨(some 30), (.mov (.tmp 9)), (some (29, false)), []⟩, ⟨(some 31), (.load1 (.tmp 4)), (some (29, false)), []⟩, ⟨(some 32), (.load1 (.tmp 7)), (some (29, false)), []⟩, ⟨(some 33), (.iAddrSl 2 (.tmp 31) (.tmp 32)), (some (29, false)), []⟩, ⟨(some 34), (.fAddr 1 (.tmp 33)), (some (29, false)), []⟩, ⟨(some 35), (.load1 (.tmp 34)), (some (29, false)), []⟩, ⟨(some 36), (.bin .neq (.tmp 30) (.tmp 35)), (some (29, false)), []⟩, ⟨(some 37), (.pick (.tmp 29) (.const (.bool true)) (.tmp 36)), none, []⟩]) (.cond (.tmp 37) (.seq (.ops [⟨none, (.store 1 (.tmp 6) (.const (.bool false))), none, []⟩]) .ret) .skip)) (.ops [⟨(some 38), (.load1 (.tmp 7)), none, []⟩, ⟨(some 39), (.bin .add (.tmp 38) (.const (.int .i64 1))), none, []⟩, ⟨none, (.store 1 (.tmp 7) (.tmp 39)), none, []⟩])))))))) (.seq (.ops [⟨(some 40), (.load1 (.tmp 7)), none, []⟩, ⟨(some 41), (.load1 (.tmp 4)), none, []⟩, ⟨(some 42), (.lenSl (.tmp 41)), none, []⟩, ⟨(some 43), (.bin .eql (.tmp 40) (.tmp 42)), none, []⟩, ⟨none, (.store 1 (.tmp 6) (.tmp 43)), none, []⟩]) .ret))))) [(.cell1 6)])
def g31 : AFunc := (.code 56 (.seq (.ops [⟨(some 4), (.box (.tmp 1)), none, []⟩, ⟨(some 6), (.mov (.const (.slice none 0 0))), none, []⟩]) (.seq (.ops [⟨(some 14), (.mov (.tmp 2)), none, []⟩, ⟨(some 15), (.mov (.tmp 0)), none, []⟩, ⟨(some 16), (.nilChk (.tmp 15)), none, []⟩, ⟨(some 17), (.fAddr 0 (.tmp 16)), none, []⟩, ⟨(some 13), (.loadN 2 (.tmp 4)), none, []⟩, ⟨(some 18), (.load1 (.tmp 17)), none, []⟩, ⟨(some 19), (.callv (.func 13) [(.tmp 13), (.tmp 14), (.tmp 18)]), none, []⟩, ⟨(some 12), (.mov (.tmp 19)), none, []⟩, ⟨(some 20), (.extract (.tmp 12) 0), none, []⟩, ⟨(some 21), (.extract (.tmp 12) 1), none, []⟩, ⟨(some 7), (.mov (.tmp 20)), none, []⟩, ⟨(some 8), (.mov (.tmp 21)), none, []⟩]) (.seq (.ops [⟨(some 9), (.mov (.const (.slice none 0 0))), none, []⟩]) (.seq (.seq (.ops [⟨(some 10), (.mov (.const (.int .i64 0))), none, []⟩]) (.block 0 (.loop (.seq (.seq (.ops [⟨(some 22), (.mov (.tmp 10)), none, []⟩, ⟨(some 23), (.mov (.tmp 0)), none, []⟩, ⟨(some 24), (.nilChk (.tmp 23)), none, []⟩, ⟨(some 25), (.fAddr 2 (.tmp 24)), none, []⟩, ⟨(some 26), (.load1 (.tmp 25)), none, []⟩, ⟨(some 27), (.lenSl (.tmp 26)), none, []⟩, ⟨(some 28), (.bin .lss (.tmp 22) (.tmp 27)), none, []⟩, ⟨(some 29), (.mov (.tmp 28)), none, []⟩, ⟨(some 30), (.mov (.tmp 8)), (some (29, true)), []⟩, ⟨(some 31), (.pick (.tmp 29) (.tmp 30) (.const (.bool false))), none, []⟩]) (.cond (.tmp 31) .skip (.exit 0))) (.seq (.block 1 (.seq (.ops [⟨(some 34), (.mov (.tmp 7)), none, []⟩, ⟨(some 35), (.mov (.tmp 0)), none, []⟩, ⟨(some 36), (.nilChk (.tmp 35)), none, []⟩, ⟨(some 37), (.fAddr 2 (.tmp 36)), none, []⟩, ⟨(some 38), (.load1 (.tmp 37)), none, []⟩, ⟨(some 39), (.mov (.tmp 10)), none, []⟩, ⟨(some 40), (.iAddrSl 2 (.tmp 38) (.tmp 39)), none, []⟩, ⟨(some 41), (.fAddr 0 (.tmp 40)), none, []⟩, ⟨(some 42), (.load1 (.tmp 41)), none, []⟩, ⟨(some 43), (.callv (.func 67) [(.tmp 34), (.tmp 42)]), none, []⟩, ⟨(some 11), (.mov (.tmp 43)), none, []⟩]) (.seq (.ops [⟨(some 44), (.mov (.tmp 11)), none, []⟩]) (.cond (.tmp 44) (.ops [⟨(some 45), (.mov (.tmp 9)), none, []⟩, ⟨(some 46), (.mov (.tmp 0)), none, []⟩, ⟨(some 47), (.nilChk (.tmp 46)), none, []⟩, ⟨(some 48), (.fAddr 2 (.tmp 47)), none, []⟩, ⟨(some 49), (.load1 (.tmp 48)), none, []⟩, ⟨(some 50), (.mov (.tmp 10)), none, []⟩, ⟨(some 51), (.iAddrSl 2 (.tmp 49) (.tmp 50)), none, []⟩, ⟨(some 52), (.loadN 2 (.tmp 51)), none, []⟩, ⟨(some 53), (.buildSlice 2 1 [(.string (bs [])), (.int .i64 0)] [(0, (2, (.tmp 52)))]), none, []⟩, ⟨(some 54), (.append 2 24 (.tmp 45) (.tmp 53)), none, []⟩, ⟨(some 9), (.mov (.tmp 54)), none, []⟩]) .skip)))) (.ops [⟨(some 32), (.mov (.tmp 10)), none, []⟩, ⟨(some 33), (.bin .add (.tmp 32) (.const (.int .i64 1))), none, []⟩, ⟨(some 10), (.mov (.tmp 33)), none, []⟩])))))) (.seq (.ops [⟨(some 55), (.mov (.tmp 9)), none, []⟩, ⟨(some 6), (.mov (.tmp 55)), none, []⟩]) .ret))))) [(.tmp 6)])
def g32 : AFunc := (.code 27 (.seq (.ops [⟨(some 2), (.mov (.const (.pointer none))), none, []⟩]) (.seq (.ops [⟨(some 4), (.mov (.tmp 0)), none, []⟩, ⟨(some 5), (.nilChk (.tmp 4)), none, []⟩, ⟨(some 6), (.fAddr 0 (.tmp 5)), none, []⟩, ⟨(some 8), (.mov (.tmp 0)), none, []⟩, ⟨(some 9), (.nilChk (.tmp 8)), none, []⟩, ⟨(some 10), (.fAddr 1 (.tmp 9)), none, []⟩, ⟨(some 7), (.load1 (.tmp 6)), none, []⟩, ⟨(some 11), (.load1 (.tmp 10)), none, []⟩, ⟨(some 12), (.build [(.int .i64 0), (.int .i64 0), (.slice none 0 0)] [(0, (1, (.tmp 7))), (1, (1, (.tmp 11)))]), none, []⟩, ⟨(some 13), (.box (.tmp 12)), none, []⟩, ⟨(some 3), (.mov (.tmp 13)), none, []⟩]) (.seq (.ops [⟨(some 14), (.mov (.tmp 3)), none, []⟩, ⟨(some 15), (.mov (.tmp 3)), none, []⟩, ⟨(some 16), (.nilChk (.tmp 15)), none, []⟩, ⟨(some 17), (.fAddr 2 (.tmp 16)), none, []⟩, ⟨(some 19), (.mov (.tmp 0)), none, []⟩, ⟨(some 20), (.nilChk (.tmp 19)), none, []⟩, ⟨(some 21), (.fAddr 2 (.tmp 20)), none, []⟩, ⟨(some 18), (.load1 (.tmp 17)), none, []⟩, ⟨(some 22), (.load1 (.tmp 21)), none, []⟩, ⟨(some 23), (.append 2 24 (.tmp 18) (.tmp 22)), none, []⟩, ⟨(some 24), (.nilChk (.tmp 14)), none, []⟩, ⟨(some 25), (.fAddr 2 (.tmp 24)), none, []⟩, ⟨none, (.store 1 (.tmp 25) (.tmp 23)), none, []⟩]) (.seq (.ops [⟨(some 26), (.mov (.tmp 3)), none, []⟩, ⟨(some 2), (.mov (.tmp 26)), none, []⟩]) .ret)))) [(.tmp 2)])
def g33 : AFunc := (.code 24 (.seq (.ops [⟨(some 3), (.box (.tmp 0)), none, []⟩, ⟨(some 4), (.box (.tmp 1)), none, []⟩, ⟨(some 6), (.mov (.const (.bool false))), none, []⟩]) (.seq (.ops [⟨(some 8), (.fAddr 0 (.tmp 4)), none, []⟩, ⟨(some 9), (.load1 (.tmp 8)), none, []⟩, ⟨(some 10), (.mov (.tmp 2)), none, []⟩, ⟨(some 11), (.callv (.func 68) [(.tmp 9), (.tmp 10)]), none, []⟩, ⟨(some 7), (.alloc [(.int .u64 0), (.int .u64 0)]), none, []⟩, ⟨none, (.store 2 (.tmp 7) (.tmp 11)), none, []⟩]) (.seq (.ops [⟨(some 12), (.fAddr 0 (.tmp 3)), none, []⟩, ⟨(some 13), (.loadN 2 (.tmp 12)), none, []⟩, ⟨(some 14), (.loadN 2 (.tmp 7)), none, []⟩, ⟨(some 15), (.eqs false 2 [(0, 1), (1, 1)] (.tmp 13) (.tmp 14)), none, []⟩, ⟨(some 16), (.mov (.tmp 15)), none, []⟩, ⟨(some 17), (.fAddr 2 (.tmp 3)), (some (16, true)), []⟩, ⟨(some 18), (.load1 (.tmp 17)), (some (16, true)), []⟩, ⟨(some 19), (.fAddr 0 (.tmp 4)), (some (16, true)), []⟩, ⟨(some 20), (.load1 (.tmp 19)), (some (16, true)), []⟩, ⟨(some 21), (.lenStr (.tmp 20)), (some (16, true)), []⟩, ⟨(some 22), (.bin .eql (.tmp 18) (.tmp 21)), (some (16, true)), []⟩, ⟨(some 23), (.pick (.tmp 16) (.tmp 22) (.const (.bool false))), none, []⟩, ⟨(some 6), (.mov (.tmp 23)), none, []⟩]) .ret))) [(.tmp 6)])
def g34 : AFunc := (.code 7 (.seq (.ops [⟨(some 2), (.mov (.const (.int .i64 0))), none, []⟩]) (.seq (.ops [⟨(some 3), (.mov (.tmp 0)), none, []⟩, ⟨(some 4), (.bin .rem (.tmp 3) (.const (.int .i64 12))), none, []⟩, ⟨(some 5), (.bin .add (.tmp 4) (.const (.int .i64 12))), none, []⟩, ⟨(some 6), (.bin .rem (.tmp 5) (.const (.int .i64 12))), none, []⟩, ⟨(some 2), (.mov (.tmp 6)), none, []⟩]) .ret)) [(.tmp 2)])
def g35 : AFunc := (.code 10 (.seq (.ops [⟨(some 2), (.mov (.tmp 0)), none, []⟩, ⟨(some 3), (.eqp 0 true (.tmp 2) (.const (.pointer none))), none, []⟩]) (.cond (.tmp 3) (.ops [⟨(some 4), (.mov (.tmp 0)), none, []⟩, ⟨(some 5), (.mov (.tmp 0)), none, []⟩, ⟨(some 6), (.nilChk (.tmp 4)), none, []⟩, ⟨(some 7), (.fAddr 2 (.tmp 6)), none, []⟩, ⟨none, (.store 1 (.tmp 7) (.const (.int .i64 0))), none, []⟩, ⟨(some 8), (.nilChk (.tmp 5)), none, []⟩, ⟨(some 9), (.fAddr 3 (.tmp 8)), none, []⟩, ⟨none, (.store 1 (.tmp 9) (.const (.pointer none))), none, []⟩]) .skip)) [])
def g36 : AFunc := (.code 24 (.seq (.ops [⟨(some 2), (.mov (.const (.pointer none))), none, []⟩]) (.seq (.seq (.ops [⟨(some 3), (.mov (.tmp 0)), none, []⟩, ⟨(some 4), (.eqp 0 false (.tmp 3) (.const (.pointer none))), none, []⟩]) (.cond (.tmp 4) (.seq (.ops [⟨(some 2), (.mov (.const (.pointer none))), none, []⟩]) .ret) .skip)) (.seq (.ops [⟨(some 5), (.mov (.tmp 0)), none, []⟩, ⟨(some 6), (.nilChk (.tmp 5)), none, []⟩, ⟨(some 7), (.fAddr 0 (.tmp 6)), none, []⟩, ⟨(some 9), (.mov (.tmp 0)), none, []⟩, ⟨(some 10), (.nilChk (.tmp 9)), none, []⟩, ⟨(some 11), (.fAddr 1 (.tmp 10)), none, []⟩, ⟨(some 13), (.mov (.tmp 0)), none, []⟩, ⟨(some 14), (.nilChk (.tmp 13)), none, []⟩, ⟨(some 15), (.fAddr 2 (.tmp 14)), none, []⟩, ⟨(some 17), (.mov (.tmp 0)), none, []⟩, ⟨(some 18), (.nilChk (.tmp 17)), none, []⟩, ⟨(some 19), (.fAddr 3 (.tmp 18)), none, []⟩, ⟨(some 8), (.load1 (.tmp 7)), none, []⟩, ⟨(some 12), (.load1 (.tmp 11)), none, []⟩, ⟨(some 16), (.load1 (.tmp 15)), none, []⟩, ⟨(some 20), (.load1 (.tmp 19)), none, []⟩, ⟨(some 21), (.callv (.func 69) [(.tmp 20)]), none, [(7, 1), (11, 1), (15, 1)]⟩, ⟨(some 22), (.build [(.int .i64 0), (.int .i64 0), (.int .i64 0), (.pointer none)] [(0, (1, (.tmp 8))), (1, (1, (.tmp 12))), (2, (1, (.tmp 16))), (3, (1, (.tmp 21)))]), none, []⟩, ⟨(some 23), (.box (.tmp 22)), none, []⟩, ⟨(some 2), (.mov (.tmp 23)), none, []⟩]) .ret))) [(.tmp 2)])
def g37 : AFunc := (.code 35 (.seq (.ops [⟨(some 4), (.mov (.const (.bool false))), none, []⟩]) (.seq (.ops [⟨(some 6), (.mov (.tmp 0)), none, []⟩, ⟨(some 8), (.mov (.tmp 1)), none, []⟩, ⟨(some 9), (.nilChk (.tmp 8)), none, []⟩, ⟨(some 10), (.fAddr 2 (.tmp 9)), none, []⟩, ⟨(some 12), (.mov (.tmp 1)), none, []⟩, ⟨(some 13), (.nilChk (.tmp 12)), none, []⟩, ⟨(some 14), (.fAddr 0 (.tmp 13)), none, []⟩, ⟨(some 11), (.load1 (.tmp 10)), none, []⟩, ⟨(some 15), (.load1 (.tmp 14)), none, []⟩, ⟨(some 7), (.callv (.func 17) [(.tmp 6)]), none, [(10, 1), (14, 1)]⟩, ⟨(some 16), (.callv (.func 30) [(.tmp 7), (.tmp 11), (.tmp 15)]), none, []⟩, ⟨(some 5), (.mov (.tmp 16)), none, []⟩]) (.seq (.ops [⟨(some 17), (.mov (.tmp 5)), none, []⟩, ⟨(some 18), (.mov (.tmp 17)), none, []⟩, ⟨(some 19), (.mov (.tmp 0)), (some (18, true)), []⟩, ⟨(some 21), (.mov (.tmp 1)), (some (18, true)), []⟩, ⟨(some 22), (.nilChk (.tmp 21)), (some (18, true)), []⟩, ⟨(some 23), (.fAddr 2 (.tmp 22)), (some (18, true)), []⟩, ⟨(some 24), (.load1 (.tmp 23)), (some (18, true)), []⟩, ⟨(some 25), (.lenSl (.tmp 24)), (some (18, true)), []⟩, ⟨(some 20), (.callv (.func 19) [(.tmp 19)]), (some (18, true)), [(23, 1)]⟩, ⟨(some 26), (.bin .eql (.tmp 20) (.tmp 25)), (some (18, true)), []⟩, ⟨(some 27), (.pick (.tmp 18) (.tmp 26) (.const (.bool false))), none, []⟩, ⟨(some 28), (.mov (.tmp 27)), none, []⟩, ⟨(some 29), (.mov (.tmp 0)), (some (28, true)), []⟩, ⟨(some 31), (.mov (.tmp 1)), (some (28, true)), []⟩, ⟨(some 30), (.callv (.func 40) [(.tmp 29)]), (some (28, true)), []⟩, ⟨(some 32), (.callv (.func 66) [(.tmp 31)]), (some (28, true)), []⟩, ⟨(some 33), (.bin .eql (.tmp 30) (.tmp 32)), (some (28, true)), []⟩, ⟨(some 34), (.pick (.tmp 28) (.tmp 33) (.const (.bool false))), none, []⟩, ⟨(some 4), (.mov (.tmp 34)), none, []⟩]) .ret))) [(.tmp 4)])
def g38 : AFunc := (.code 25 (.seq (.ops [⟨(some 4), (.box (.tmp 1)), none, []⟩, ⟨(some 6), (.mov (.const (.int .i64 0))), none, []⟩]) (.seq (.block 0 (.seq (.ops [⟨(some 9), (.mov (.tmp 0)), none, []⟩, ⟨(some 10), (.eqp 0 false (.tmp 9) (.const (.pointer none))), none, []⟩, ⟨(some 8), (.mov (.tmp 10)), none, []⟩]) (.cond (.tmp 8) (.seq (.ops [⟨(some 6), (.mov (.const (.int .i64 1))), none, []⟩]) .ret) (.seq (.ops [⟨(some 12), (.mov (.tmp 0)), none, []⟩, ⟨(some 13), (.loadN 3 (.tmp 4)), none, []⟩, ⟨(some 14), (.callv (.func 42) [(.tmp 12), (.tmp 13)]), none, []⟩, ⟨(some 15), (.un .not (.tmp 14)), none, []⟩, ⟨(some 11), (.mov (.tmp 15)), none, []⟩]) (.cond (.tmp 11) (.seq (.ops [⟨(some 6), (.mov (.const (.int .i64 111))), none, []⟩]) .ret) .skip))))) (.seq (.ops [⟨(some 16), (.mov (.tmp 0)), none, []⟩, ⟨(some 17), (.loadN 3 (.tmp 4)), none, []⟩, ⟨(some 18), (.callv (.func 43) [(.tmp 16), (.tmp 17)]), none, []⟩, ⟨(some 7), (.mov (.tmp 18)), none, []⟩]) (.seq (.seq (.ops [⟨(some 19), (.mov (.tmp 7)), none, []⟩, ⟨(some 20), (.eqp 0 false (.tmp 19) (.const (.pointer none))), none, []⟩]) (.cond (.tmp 20) (.seq (.ops [⟨(some 6), (.mov (.const (.int .i64 122))), none, []⟩]) .ret) .skip)) (.seq (.ops [⟨(some 21), (.mov (.tmp 7)), none, []⟩, ⟨(some 22), (.mov (.tmp 2)), none, []⟩, ⟨(some 23), (.nilChk (.tmp 21)), none, []⟩, ⟨(some 24), (.fAddr 4 (.tmp 23)), none, []⟩, ⟨none, (.store 1 (.tmp 24) (.tmp 22)), none, []⟩]) (.seq (.ops [⟨(some 6), (.mov (.const (.int .i64 0))), none, []⟩]) .ret)))))) [(.tmp 6)])
def g39 : AFunc := (.code 34 (.seq (.ops [⟨(some 3), (.box (.tmp 1)), none, []⟩, ⟨(some 4), (.mov (.const (.int .i64 0))), none, []⟩, ⟨(some 5), (.mov (.const (.bool false))), none, []⟩]) (.seq (.ops [⟨(some 9), (.mov (.tmp 0)), none, []⟩, ⟨(some 10), (.loadN 3 (.tmp 3)), none, []⟩, ⟨(some 11), (.callv (.func 16) [(.tmp 9), (.tmp 10)]), none, []⟩, ⟨(some 8), (.mov (.tmp 11)), none, []⟩, ⟨(some 12), (.extract (.tmp 8) 0), none, []⟩, ⟨(some 13), (.extract (.tmp 8) 1), none, []⟩, ⟨(some 6), (.mov (.tmp 12)), none, []⟩, ⟨(some 7), (.mov (.tmp 13)), none, []⟩]) (.seq (.seq (.ops [⟨(some 14), (.mov (.tmp 7)), none, []⟩]) (.cond (.tmp 14) (.seq (.ops [⟨(some 15), (.mov (.tmp 0)), none, []⟩, ⟨(some 16), (.nilChk (.tmp 15)), none, []⟩, ⟨(some 17), (.fAddr 2 (.tmp 16)), none, []⟩, ⟨(some 18), (.load1 (.tmp 17)), none, []⟩, ⟨(some 19), (.bin .sub (.tmp 18) (.const (.int .i64 1))), none, []⟩, ⟨(some 20), (.nilChk (.tmp 15)), none, []⟩, ⟨(some 21), (.fAddr 2 (.tmp 20)), none, []⟩, ⟨none, (.store 1 (.tmp 21) (.tmp 19)), none, []⟩]) (.ops [⟨(some 22), (.mov (.tmp 0)), none, []⟩, ⟨(some 23), (.mov (.tmp 0)), none, []⟩, ⟨(some 24), (.mov (.tmp 0)), none, []⟩, ⟨(some 25), (.nilChk (.tmp 24)), none, []⟩, ⟨(some 26), (.fAddr 3 (.tmp 25)), none, []⟩, ⟨(some 27), (.load1 (.tmp 26)), none, []⟩, ⟨(some 28), (.loadN 3 (.tmp 3)), none, []⟩, ⟨(some 29), (.callv (.func 70) [(.tmp 23), (.tmp 27), (.tmp 28)]), none, []⟩, ⟨(some 30), (.nilChk (.tmp 22)), none, []⟩, ⟨(some 31), (.fAddr 3 (.tmp 30)), none, []⟩, ⟨none, (.store 1 (.tmp 31) (.tmp 29)), none, []⟩])) .skip)) (.seq (.ops [⟨(some 32), (.mov (.tmp 6)), none, []⟩, ⟨(some 33), (.mov (.tmp 7)), none, []⟩, ⟨(some 4), (.mov (.tmp 32)), none, []⟩, ⟨(some 5), (.mov (.tmp 33)), none, []⟩]) .ret)))) [(.tmp 4), (.tmp 5)])
def g40 : AFunc := (.code 13 (.seq (.ops [⟨(some 2), (.mov (.const (.int .i64 0))), none, []⟩]) (.seq (.ops [⟨(some 3), (.alloc [(.int .i64 0)]), none, []⟩, ⟨none, (.store 1 (.tmp 3) (.const (.int .i64 0))), none, []⟩]) (.seq (.seq (.ops [⟨(some 4), (.mov (.tmp 0)), none, []⟩, ⟨(some 5), (.eqp 0 true (.tmp 4) (.const (.pointer none))), none, []⟩]) (.cond (.tmp 5) (.ops [⟨(some 6), (.mov (.tmp 0)), none, []⟩, ⟨(some 7), (.nilChk (.tmp 6)), none, []⟩, ⟨(some 8), (.fAddr 3 (.tmp 7)), none, []⟩, ⟨(some 9), (.load1 (.tmp 8)), none, []⟩, ⟨(some 10), (.mkFunc 72 [] [(.tmp 3)]), none, []⟩, ⟨(some 11), (.callv (.func 71) [(.tmp 9), (.tmp 10)]), none, []⟩]) .skip)) (.seq (.ops [⟨(some 12), (.load1 (.tmp 3)), none, []⟩, ⟨(some 2), (.mov (.tmp 12)), none, []⟩]) .ret)))) [(.tmp 2)])
def g41 : AFunc := (.code 23 (.seq (.ops [⟨(some 2), (.box (.tmp 0)), none, []⟩, ⟨(some 4), (.mov (.const (.bool false))), none, []⟩]) (.seq (.ops [⟨(some 6), (.fAddr 1 (.tmp 2)), none, []⟩, ⟨(some 7), (.load1 (.tmp 6)), none, []⟩, ⟨(some 5), (.mov (.tmp 7)), none, []⟩]) (.seq (.seq (.ops [⟨(some 8), (.mov (.tmp 1)), none, []⟩, ⟨(some 9), (.bin .gtr (.tmp 8) (.const (.int .i64 63))), none, []⟩]) (.cond (.tmp 9) (.seq (.ops [⟨(some 10), (.fAddr 0 (.tmp 2)), none, []⟩, ⟨(some 11), (.load1 (.tmp 10)), none, []⟩, ⟨(some 5), (.mov (.tmp 11)), none, []⟩]) (.ops [⟨(some 12), (.mov (.tmp 1)), none, []⟩, ⟨(some 13), (.bin .sub (.tmp 12) (.const (.int .i64 64))), none, []⟩, ⟨(some 1), (.mov (.tmp 13)), none, []⟩])) .skip)) (.seq (.block 0 (.loop (.seq (.seq (.ops [⟨(some 14), (.mov (.tmp 1)), none, []⟩, ⟨(some 15), (.bin .gtr (.tmp 14) (.const (.int .i64 0))), none, []⟩]) (.cond (.tmp 15) .skip (.exit 0))) (.block 1 (.seq (.ops [⟨(some 16), (.mov (.tmp 5)), none, []⟩, ⟨(some 17), (.bin .quo (.tmp 16) (.const (.int .u64 2))), none, []⟩, ⟨(some 5), (.mov (.tmp 17)), none, []⟩]) (.ops [⟨(some 18), (.mov (.tmp 1)), none, []⟩, ⟨(some 19), (.bin .sub (.tmp 18) (.const (.int .i64 1))), none, []⟩, ⟨(some 1), (.mov (.tmp 19)), none, []⟩])))))) (.seq (.ops [⟨(some 20), (.mov (.tmp 5)), none, []⟩, ⟨(some 21), (.bin .rem (.tmp 20) (.const (.int .u64 2))), none, []⟩, ⟨(some 22), (.bin .eql (.tmp 21) (.const (.int .u64 1))), none, []⟩, ⟨(some 4), (.mov (.tmp 22)), none, []⟩]) .ret))))) [(.tmp 4)])
def g42 : AFunc := (.code 50 (.seq (.ops [⟨(some 3), (.box (.tmp 1)), none, []⟩, ⟨(some 4), (.mov (.const (.bool false))), none, []⟩]) (.seq (.seq (.ops [⟨(some 7), (.mov (.tmp 0)), none, []⟩, ⟨(some 8), (.eqp 0 false (.tmp 7) (.const (.pointer none))), none, []⟩, ⟨(some 9), (.mov (.tmp 8)), none, []⟩, ⟨(some 10), (.fAddr 2 (.tmp 3)), (some (9, false)), []⟩, ⟨(some 11), (.load1 (.tmp 10)), (some (9, false)), []⟩, ⟨(some 12), (.bin .lss (.tmp 11) (.const (.int .i64 0))), (some (9, false)), []⟩, ⟨(some 13), (.pick (.tmp 9) (.const (.bool true)) (.tmp 12)), none, []⟩, ⟨(some 14), (.mov (.tmp 13)), none, []⟩, ⟨(some 15), (.fAddr 2 (.tmp 3)), (some (14, false)), []⟩, ⟨(some 17), (.mov (.tmp 0)), (some (14, false)), []⟩, ⟨(some 18), (.nilChk (.tmp 17)), (some (14, false)), []⟩, ⟨(some 19), (.fAddr 0 (.tmp 18)), (some (14, false)), []⟩, ⟨(some 16), (.load1 (.tmp 15)), (some (14, false)), []⟩, ⟨(some 20), (.load1 (.tmp 19)), (some (14, false)), []⟩, ⟨(some 21), (.bin .gtr (.tmp 16) (.tmp 20)), (some (14, false)), []⟩, ⟨(some 22), (.pick (.tmp 14) (.const (.bool true)) (.tmp 21)), none, []⟩, ⟨(some 23), (.mov (.tmp 22)), none, []⟩, ⟨(some 24), (.fAddr 0 (.tmp 3)), (some (23, false)), []⟩, ⟨(some 26), (.mov (.tmp 0)), (some (23, false)), []⟩, ⟨(some 27), (.nilChk (.tmp 26)), (some (23, false)), []⟩, ⟨(some 28), (.fAddr 0 (.tmp 27)), (some (23, false)), []⟩, ⟨(some 25), (.loadN 2 (.tmp 24)), (some (23, false)), []⟩, ⟨(some 29), (.load1 (.tmp 28)), (some (23, false)), []⟩, ⟨(some 30), (.callv (.func 73) [(.tmp 25), (.tmp 29)]), (some (23, false)), []⟩, ⟨(some 31), (.un .not (.tmp 30)), (some (23, false)), []⟩, ⟨(some 32), (.pick (.tmp 23) (.const (.bool true)) (.tmp 31)), none, []⟩]) (.cond (.tmp 32) (.seq (.ops [⟨(some 4), (.mov (.const (.bool false))), none, []⟩]) .ret) .skip)) (.seq (.ops [⟨(some 34), (.mov (.tmp 0)), none, []⟩, ⟨(some 35), (.nilChk (.tmp 34)), none, []⟩, ⟨(some 36), (.fAddr 0 (.tmp 35)), none, []⟩, ⟨(some 38), (.fAddr 2 (.tmp 3)), none, []⟩, ⟨(some 37), (.load1 (.tmp 36)), none, []⟩, ⟨(some 39), (.load1 (.tmp 38)), none, []⟩, ⟨(some 40), (.callv (.func 74) [(.tmp 37), (.tmp 39)]), none, []⟩, ⟨(some 33), (.mov (.tmp 40)), none, []⟩, ⟨(some 41), (.extract (.tmp 33) 0), none, []⟩, ⟨(some 42), (.extract (.tmp 33) 1), none, []⟩, ⟨(some 5), (.alloc [(.int .u64 0), (.int .u64 0)]), none, []⟩, ⟨none, (.store 2 (.tmp 5) (.tmp 41)), none, []⟩, ⟨(some 6), (.mov (.tmp 42)), none, []⟩]) (.seq (.ops [⟨(some 43), (.fAddr 0 (.tmp 3)), none, []⟩, ⟨(some 47), (.fAddr 0 (.tmp 3)), none, []⟩, ⟨(some 44), (.loadN 2 (.tmp 43)), none, []⟩, ⟨(some 45), (.loadN 2 (.tmp 5)), none, []⟩, ⟨(some 48), (.loadN 2 (.tmp 47)), none, []⟩, ⟨(some 46), (.callv (.func 75) [(.tmp 44), (.tmp 45)]), none, [(47, 1)]⟩, ⟨(some 49), (.eqs false 2 [(0, 1), (1, 1)] (.tmp 46) (.tmp 48)), none, []⟩, ⟨(some 4), (.mov (.tmp 49)), none, []⟩]) .ret)))) [(.tmp 4)])
end Go.Proofs.Yticgkaanaimllaa.Ev

/- The functions of the program in the evaluator's form, as its own look-up lays them (part 1). Conditions: none; these are definitions. -/
namespace Go.Proofs.Yticgkaanaimllaa.Ev
set_option maxRecDepth 100000
def g43 : AFunc := (.code 73 (.seq (.ops [⟨(some 3), (.box (.tmp 1)), none, []⟩, ⟨(some 4), (.mov (.const (.pointer none))), none, []⟩]) (.seq (.seq (.ops [⟨(some 6), (.mov (.tmp 0)), none, []⟩, ⟨(some 7), (.loadN 3 (.tmp 3)), none, []⟩, ⟨(some 8), (.callv (.func 42) [(.tmp 6), (.tmp 7)]), none, []⟩, ⟨(some 9), (.un .not (.tmp 8)), none, []⟩]) (.cond (.tmp 9) (.seq (.ops [⟨(some 4), (.mov (.const (.pointer none))), none, []⟩]) .ret) .skip)) (.seq (.ops [⟨(some 10), (.mov (.tmp 0)), none, []⟩, ⟨(some 11), (.nilChk (.tmp 10)), none, []⟩, ⟨(some 12), (.fAddr 3 (.tmp 11)), none, []⟩, ⟨(some 13), (.load1 (.tmp 12)), none, []⟩, ⟨(some 5), (.mov (.tmp 13)), none, []⟩]) (.seq (.block 0 (.loop (.seq (.seq (.ops [⟨(some 14), (.mov (.tmp 5)), none, []⟩, ⟨(some 15), (.eqp 0 true (.tmp 14) (.const (.pointer none))), none, []⟩, ⟨(some 16), (.mov (.tmp 15)), none, []⟩, ⟨(some 17), (.mov (.tmp 5)), (some (16, true)), []⟩, ⟨(some 18), (.nilChk (.tmp 17)), (some (16, true)), []⟩, ⟨(some 19), (.fAddr 0 (.tmp 18)), (some (16, true)), []⟩, ⟨(some 20), (.fAddr 2 (.tmp 19)), (some (16, true)), []⟩, ⟨(some 22), (.fAddr 2 (.tmp 3)), (some (16, true)), []⟩, ⟨(some 21), (.load1 (.tmp 20)), (some (16, true)), []⟩, ⟨(some 23), (.load1 (.tmp 22)), (some (16, true)), []⟩, ⟨(some 24), (.bin .lss (.tmp 21) (.tmp 23)), (some (16, true)), []⟩, ⟨(some 25), (.pick (.tmp 16) (.tmp 24) (.const (.bool false))), none, []⟩, ⟨(some 26), (.mov (.tmp 25)), none, []⟩, ⟨(some 27), (.mov (.tmp 0)), (some (26, true)), []⟩, ⟨(some 28), (.mov (.tmp 5)), (some (26, true)), []⟩, ⟨(some 29), (.nilChk (.tmp 28)), (some (26, true)), []⟩, ⟨(some 30), (.fAddr 0 (.tmp 29)), (some (26, true)), []⟩, ⟨(some 34), (.mov (.tmp 5)), (some (26, true)), []⟩, ⟨(some 35), (.nilChk (.tmp 34)), (some (26, true)), []⟩, ⟨(some 36), (.fAddr 0 (.tmp 35)), (some (26, true)), []⟩, ⟨(some 37), (.fAddr 2 (.tmp 36)), (some (26, true)), []⟩, ⟨(some 31), (.loadN 3 (.tmp 30)), (some (26, true)), []⟩, ⟨(some 32), (.loadN 3 (.tmp 3)), (some (26, true)), []⟩, ⟨(some 38), (.load1 (.tmp 37)), (some (26, true)), []⟩, ⟨(some 33), (.callv (.func 51) [(.tmp 27), (.tmp 31), (.tmp 32)]), (some (26, true)), [(37, 1)]⟩, ⟨(some 39), (.bin .eql (.tmp 33) (.tmp 38)), (some (26, true)), []⟩, ⟨(some 40), (.pick (.tmp 26) (.tmp 39) (.const (.bool false))), none, []⟩]) (.cond (.tmp 40) .skip (.exit 0))) (.block 1 (.ops [⟨(some 41), (.mov (.tmp 5)), none, []⟩, ⟨(some 42), (.mov (.tmp 0)), none, []⟩, ⟨(some 43), (.fAddr 0 (.tmp 3)), none, []⟩, ⟨(some 45), (.mov (.tmp 5)), none, []⟩, ⟨(some 46), (.nilChk (.tmp 45)), none, []⟩, ⟨(some 47), (.fAddr 0 (.tmp 46)), none, []⟩, ⟨(some 48), (.fAddr 2 (.tmp 47)), none, []⟩, ⟨(some 51), (.nilChk (.tmp 41)), none, []⟩, ⟨(some 52), (.fAddr 5 (.tmp 51)), none, []⟩, ⟨(some 44), (.loadN 2 (.tmp 43)), none, []⟩, ⟨(some 49), (.load1 (.tmp 48)), none, []⟩, ⟨(some 50), (.callv (.func 76) [(.tmp 42), (.tmp 44), (.tmp 49)]), none, []⟩, ⟨(some 53), (.iAddrArr 2 1 (.tmp 52) (.tmp 50)), none, []⟩, ⟨(some 54), (.load1 (.tmp 53)), none, []⟩, ⟨(some 5), (.mov (.tmp 54)), none, []⟩]))))) (.seq (.seq (.ops [⟨(some 55), (.mov (.tmp 5)), none, []⟩, ⟨(some 56), (.eqp 0 false (.tmp 55) (.const (.pointer none))), none, []⟩, ⟨(some 57), (.mov (.tmp 56)), none, []⟩, ⟨(some 58), (.mov (.tmp 5)), (some (57, false)), []⟩, ⟨(some 59), (.nilChk (.tmp 58)), (some (57, false)), []⟩, ⟨(some 60), (.fAddr 0 (.tmp 59)), (some (57, false)), []⟩, ⟨(some 61), (.loadN 3 (.tmp 60)), (some (57, false)), []⟩, ⟨(some 62), (.loadN 3 (.tmp 3)), (some (57, false)), []⟩, ⟨(some 63), (.eqs true 3 [(0, 1), (1, 1), (2, 1)] (.tmp 61) (.tmp 62)), (some (57, false)), []⟩, ⟨(some 64), (.pick (.tmp 57) (.const (.bool true)) (.tmp 63)), none, []⟩, ⟨(some 65), (.mov (.tmp 64)), none, []⟩, ⟨(some 66), (.mov (.tmp 5)), (some (65, false)), []⟩, ⟨(some 67), (.nilChk (.tmp 66)), (some (65, false)), []⟩, ⟨(some 68), (.fAddr 3 (.tmp 67)), (some (65, false)), []⟩, ⟨(some 69), (.load1 (.tmp 68)), (some (65, false)), []⟩, ⟨(some 70), (.un .not (.tmp 69)), (some (65, false)), []⟩, ⟨(some 71), (.pick (.tmp 65) (.const (.bool true)) (.tmp 70)), none, []⟩]) (.cond (.tmp 71) (.seq (.ops [⟨(some 4), (.mov (.const (.pointer none))), none, []⟩]) .ret) .skip)) (.seq (.ops [⟨(some 72), (.mov (.tmp 5)), none, []⟩, ⟨(some 4), (.mov (.tmp 72)), none, []⟩]) .ret)))))) [(.tmp 4)])
def g44 : AFunc := (.code 121 (.seq (.ops [⟨(some 6), (.box (.tmp 2)), none, []⟩, ⟨(some 8), (.mov (.const (.pointer none))), none, []⟩]) (.seq (.seq (.ops [⟨(some 12), (.mov (.tmp 1)), none, []⟩, ⟨(some 13), (.eqp 0 false (.tmp 12) (.const (.pointer none))), none, []⟩]) (.cond (.tmp 13) (.seq (.ops [⟨(some 14), (.loadN 3 (.tmp 6)), none, []⟩, ⟨(some 15), (.mov (.tmp 3)), none, []⟩, ⟨(some 16), (.build [(.int .u64 0), (.int .u64 0), (.int .i64 0), (.bool false), (.int .i64 0), (.pointer none), (.pointer none)] [(0, (3, (.tmp 14))), (3, (1, (.const (.bool true)))), (4, (1, (.tmp 15)))]), none, []⟩, ⟨(some 17), (.box (.tmp 16)), none, []⟩, ⟨(some 8), (.mov (.tmp 17)), none, []⟩]) .ret) .skip)) (.seq (.ops [⟨(some 18), (.mov (.tmp 0)), none, []⟩, ⟨(some 19), (.mov (.tmp 1)), none, []⟩, ⟨(some 20), (.nilChk (.tmp 19)), none, []⟩, ⟨(some 21), (.fAddr 0 (.tmp 20)), none, []⟩, ⟨(some 22), (.loadN 3 (.tmp 21)), none, []⟩, ⟨(some 23), (.loadN 3 (.tmp 6)), none, []⟩, ⟨(some 24), (.callv (.func 51) [(.tmp 18), (.tmp 22), (.tmp 23)]), none, []⟩, ⟨(some 9), (.mov (.tmp 24)), none, []⟩]) (.seq (.block 0 (.seq (.ops [⟨(some 26), (.mov (.tmp 9)), none, []⟩, ⟨(some 27), (.mov (.tmp 1)), none, []⟩, ⟨(some 28), (.nilChk (.tmp 27)), none, []⟩, ⟨(some 29), (.fAddr 0 (.tmp 28)), none, []⟩, ⟨(some 30), (.fAddr 2 (.tmp 29)), none, []⟩, ⟨(some 31), (.load1 (.tmp 30)), none, []⟩, ⟨(some 32), (.bin .eql (.tmp 26) (.tmp 31)), none, []⟩, ⟨(some 33), (.mov (.tmp 32)), none, []⟩, ⟨(some 34), (.mov (.tmp 9)), (some (33, true)), []⟩, ⟨(some 35), (.fAddr 2 (.tmp 6)), (some (33, true)), []⟩, ⟨(some 36), (.load1 (.tmp 35)), (some (33, true)), []⟩, ⟨(some 37), (.bin .eql (.tmp 34) (.tmp 36)), (some (33, true)), []⟩, ⟨(some 38), (.pick (.tmp 33) (.tmp 37) (.const (.bool false))), none, []⟩, ⟨(some 25), (.mov (.tmp 38)), none, []⟩]) (.cond (.tmp 25) (.seq (.ops [⟨(some 39), (.mov (.tmp 1)), none, []⟩, ⟨(some 40), (.mov (.tmp 1)), none, []⟩, ⟨(some 41), (.mov (.tmp 3)), none, []⟩, ⟨(some 42), (.nilChk (.tmp 39)), none, []⟩, ⟨(some 43), (.fAddr 3 (.tmp 42)), none, []⟩, ⟨none, (.store 1 (.tmp 43) (.const (.bool true))), none, []⟩, ⟨(some 44), (.nilChk (.tmp 40)), none, []⟩, ⟨(some 45), (.fAddr 4 (.tmp 44)), none, []⟩, ⟨none, (.store 1 (.tmp 45) (.tmp 41)), none, []⟩]) (.seq (.ops [⟨(some 46), (.mov (.tmp 1)), none, []⟩, ⟨(some 8), (.mov (.tmp 46)), none, []⟩]) .ret)) (.seq (.ops [⟨(some 48), (.mov (.tmp 9)), none, []⟩, ⟨(some 49), (.mov (.tmp 1)), none, []⟩, ⟨(some 50), (.nilChk (.tmp 49)), none, []⟩, ⟨(some 51), (.fAddr 0 (.tmp 50)), none, []⟩, ⟨(some 52), (.fAddr 2 (.tmp 51)), none, []⟩, ⟨(some 53), (.load1 (.tmp 52)), none, []⟩, ⟨(some 54), (.bin .eql (.tmp 48) (.tmp 53)), none, []⟩, ⟨(some 47), (.mov (.tmp 54)), none, []⟩]) (.cond (.tmp 47) (.seq (.ops [⟨(some 55), (.mov (.tmp 0)), none, []⟩, ⟨(some 56), (.fAddr 0 (.tmp 6)), none, []⟩, ⟨(some 57), (.loadN 2 (.tmp 56)), none, []⟩, ⟨(some 58), (.mov (.tmp 9)), none, []⟩, ⟨(some 59), (.callv (.func 76) [(.tmp 55), (.tmp 57), (.tmp 58)]), none, []⟩, ⟨(some 10), (.mov (.tmp 59)), none, []⟩]) (.seq (.ops [⟨(some 60), (.mov (.tmp 1)), none, []⟩, ⟨(some 61), (.mov (.tmp 10)), none, []⟩, ⟨(some 62), (.mov (.tmp 0)), none, []⟩, ⟨(some 63), (.mov (.tmp 1)), none, []⟩, ⟨(some 64), (.mov (.tmp 10)), none, []⟩, ⟨(some 65), (.nilChk (.tmp 63)), none, []⟩, ⟨(some 66), (.fAddr 5 (.tmp 65)), none, []⟩, ⟨(some 67), (.iAddrArr 2 1 (.tmp 66) (.tmp 64)), none, []⟩, ⟨(some 70), (.mov (.tmp 3)), none, []⟩, ⟨(some 72), (.nilChk (.tmp 60)), none, []⟩, ⟨(some 73), (.fAddr 5 (.tmp 72)), none, []⟩, ⟨(some 68), (.load1 (.tmp 67)), none, []⟩, ⟨(some 69), (.loadN 3 (.tmp 6)), none, []⟩, ⟨(some 71), (.callv (.func 44) [(.tmp 62), (.tmp 68), (.tmp 69), (.tmp 70)]), none, []⟩, ⟨(some 74), (.iAddrArr 2 1 (.tmp 73) (.tmp 61)), none, []⟩, ⟨none, (.store 1 (.tmp 74) (.tmp 71)), none, []⟩]) (.seq (.ops [⟨(some 75), (.mov (.tmp 1)), none, []⟩, ⟨(some 8), (.mov (.tmp 75)), none, []⟩]) .ret))) .skip))))) (.seq (.ops [⟨(some 76), (.mov (.tmp 0)), none, []⟩, ⟨(some 77), (.fAddr 0 (.tmp 6)), none, []⟩, ⟨(some 78), (.loadN 2 (.tmp 77)), none, []⟩, ⟨(some 79), (.mov (.tmp 9)), none, []⟩, ⟨(some 80), (.callv (.func 77) [(.tmp 76), (.tmp 78), (.tmp 79)]), none, []⟩, ⟨(some 81), (.build [(.int .u64 0), (.int .u64 0), (.int .i64 0), (.bool false), (.int .i64 0), (.pointer none), (.pointer none)] [(0, (3, (.tmp 80)))]), none, []⟩, ⟨(some 82), (.box (.tmp 81)), none, []⟩, ⟨(some 11), (.mov (.tmp 82)), none, []⟩]) (.seq (.ops [⟨(some 83), (.mov (.tmp 11)), none, []⟩, ⟨(some 84), (.mov (.tmp 0)), none, []⟩, ⟨(some 85), (.mov (.tmp 1)), none, []⟩, ⟨(some 86), (.nilChk (.tmp 85)), none, []⟩, ⟨(some 87), (.fAddr 0 (.tmp 86)), none, []⟩, ⟨(some 88), (.fAddr 0 (.tmp 87)), none, []⟩, ⟨(some 90), (.mov (.tmp 9)), none, []⟩, ⟨(some 92), (.mov (.tmp 1)), none, []⟩, ⟨(some 93), (.nilChk (.tmp 83)), none, []⟩, ⟨(some 94), (.fAddr 5 (.tmp 93)), none, []⟩, ⟨(some 89), (.loadN 2 (.tmp 88)), none, []⟩, ⟨(some 91), (.callv (.func 76) [(.tmp 84), (.tmp 89), (.tmp 90)]), none, []⟩, ⟨(some 95), (.iAddrArr 2 1 (.tmp 94) (.tmp 91)), none, []⟩, ⟨none, (.store 1 (.tmp 95) (.tmp 92)), none, []⟩]) (.seq (.seq (.ops [⟨(some 96), (.mov (.tmp 9)), none, []⟩, ⟨(some 97), (.fAddr 2 (.tmp 6)), none, []⟩, ⟨(some 98), (.load1 (.tmp 97)), none, []⟩, ⟨(some 99), (.bin .eql (.tmp 96) (.tmp 98)), none, []⟩]) (.cond (.tmp 99) (.ops [⟨(some 100), (.mov (.tmp 11)), none, []⟩, ⟨(some 101), (.mov (.tmp 11)), none, []⟩, ⟨(some 102), (.mov (.tmp 3)), none, []⟩, ⟨(some 103), (.nilChk (.tmp 100)), none, []⟩, ⟨(some 104), (.fAddr 3 (.tmp 103)), none, []⟩, ⟨none, (.store 1 (.tmp 104) (.const (.bool true))), none, []⟩, ⟨(some 105), (.nilChk (.tmp 101)), none, []⟩, ⟨(some 106), (.fAddr 4 (.tmp 105)), none, []⟩, ⟨none, (.store 1 (.tmp 106) (.tmp 102)), none, []⟩]) (.ops [⟨(some 107), (.mov (.tmp 11)), none, []⟩, ⟨(some 108), (.mov (.tmp 0)), none, []⟩, ⟨(some 109), (.fAddr 0 (.tmp 6)), none, []⟩, ⟨(some 111), (.mov (.tmp 9)), none, []⟩, ⟨(some 114), (.mov (.tmp 3)), none, []⟩, ⟨(some 117), (.nilChk (.tmp 107)), none, []⟩, ⟨(some 118), (.fAddr 5 (.tmp 117)), none, []⟩, ⟨(some 110), (.loadN 2 (.tmp 109)), none, []⟩, ⟨(some 113), (.loadN 3 (.tmp 6)), none, []⟩, ⟨(some 115), (.build [(.int .u64 0), (.int .u64 0), (.int .i64 0), (.bool false), (.int .i64 0), (.pointer none), (.pointer none)] [(0, (3, (.tmp 113))), (3, (1, (.const (.bool true)))), (4, (1, (.tmp 114)))]), none, []⟩, ⟨(some 112), (.callv (.func 76) [(.tmp 108), (.tmp 110), (.tmp 111)]), none, [(6, 1)]⟩, ⟨(some 116), (.box (.tmp 115)), none, []⟩, ⟨(some 119), (.iAddrArr 2 1 (.tmp 118) (.tmp 112)), none, []⟩, ⟨none, (.store 1 (.tmp 119) (.tmp 116)), none, []⟩]))) (.seq (.ops [⟨(some 120), (.mov (.tmp 11)), none, []⟩, ⟨(some 8), (.mov (.tmp 120)), none, []⟩]) .ret)))))))) [(.tmp 8)])
def g45 : AFunc := (.code 73 (.seq (.ops [⟨(some 4), (.box (.tmp 1)), none, []⟩]) (.seq (.seq (.ops [⟨(some 7), (.mov (.tmp 0)), none, []⟩, ⟨(some 8), (.eqp 0 false (.tmp 7) (.const (.pointer none))), none, []⟩, ⟨(some 9), (.mov (.tmp 8)), none, []⟩, ⟨(some 11), (.mov (.tmp 0)), (some (9, false)), []⟩, ⟨(some 12), (.nilChk (.tmp 11)), (some (9, false)), []⟩, ⟨(some 13), (.fAddr 0 (.tmp 12)), (some (9, false)), []⟩, ⟨(some 10), (.loadN 2 (.tmp 4)), (some (9, false)), []⟩, ⟨(some 14), (.load1 (.tmp 13)), (some (9, false)), []⟩, ⟨(some 15), (.callv (.func 73) [(.tmp 10), (.tmp 14)]), (some (9, false)), []⟩, ⟨(some 16), (.un .not (.tmp 15)), (some (9, false)), []⟩, ⟨(some 17), (.pick (.tmp 9) (.const (.bool true)) (.tmp 16)), none, []⟩]) (.cond (.tmp 17) .ret .skip)) (.seq (.ops [⟨(some 18), (.mov (.tmp 0)), none, []⟩, ⟨(some 19), (.nilChk (.tmp 18)), none, []⟩, ⟨(some 20), (.fAddr 3 (.tmp 19)), none, []⟩, ⟨(some 21), (.load1 (.tmp 20)), none, []⟩, ⟨(some 6), (.mov (.tmp 21)), none, []⟩]) (.block 0 (.loop (.seq (.seq (.ops [⟨(some 22), (.mov (.tmp 6)), none, []⟩, ⟨(some 23), (.eqp 0 true (.tmp 22) (.const (.pointer none))), none, []⟩, ⟨(some 24), (.mov (.tmp 23)), none, []⟩, ⟨(some 25), (.mov (.tmp 6)), (some (24, true)), []⟩, ⟨(some 26), (.nilChk (.tmp 25)), (some (24, true)), []⟩, ⟨(some 27), (.fAddr 0 (.tmp 26)), (some (24, true)), []⟩, ⟨(some 28), (.fAddr 0 (.tmp 27)), (some (24, true)), []⟩, ⟨(some 31), (.mov (.tmp 0)), (some (24, true)), []⟩, ⟨(some 32), (.nilChk (.tmp 31)), (some (24, true)), []⟩, ⟨(some 33), (.fAddr 0 (.tmp 32)), (some (24, true)), []⟩, ⟨(some 36), (.mov (.tmp 6)), (some (24, true)), []⟩, ⟨(some 37), (.nilChk (.tmp 36)), (some (24, true)), []⟩, ⟨(some 38), (.fAddr 0 (.tmp 37)), (some (24, true)), []⟩, ⟨(some 39), (.fAddr 2 (.tmp 38)), (some (24, true)), []⟩, ⟨(some 29), (.loadN 2 (.tmp 28)), (some (24, true)), []⟩, ⟨(some 30), (.loadN 2 (.tmp 4)), (some (24, true)), []⟩, ⟨(some 34), (.load1 (.tmp 33)), (some (24, true)), []⟩, ⟨(some 40), (.load1 (.tmp 39)), (some (24, true)), []⟩, ⟨(some 35), (.callv (.func 78) [(.tmp 29), (.tmp 30), (.tmp 34)]), (some (24, true)), [(39, 1)]⟩, ⟨(some 41), (.bin .geq (.tmp 35) (.tmp 40)), (some (24, true)), []⟩, ⟨(some 42), (.pick (.tmp 24) (.tmp 41) (.const (.bool false))), none, []⟩]) (.cond (.tmp 42) .skip (.exit 0))) (.block 1 (.seq (.seq (.ops [⟨(some 43), (.mov (.tmp 6)), none, []⟩, ⟨(some 44), (.nilChk (.tmp 43)), none, []⟩, ⟨(some 45), (.fAddr 3 (.tmp 44)), none, []⟩, ⟨(some 46), (.load1 (.tmp 45)), none, []⟩]) (.cond (.tmp 46) (.ops [⟨(some 47), (.mov (.tmp 2)), none, []⟩, ⟨(some 48), (.mov (.tmp 6)), none, []⟩, ⟨(some 49), (.callv (.tmp 47) [(.tmp 48)]), none, []⟩]) .skip)) (.seq (.seq (.ops [⟨(some 50), (.mov (.tmp 6)), none, []⟩, ⟨(some 51), (.nilChk (.tmp 50)), none, []⟩, ⟨(some 52), (.fAddr 0 (.tmp 51)), none, []⟩, ⟨(some 53), (.fAddr 2 (.tmp 52)), none, []⟩, ⟨(some 55), (.mov (.tmp 0)), none, []⟩, ⟨(some 56), (.nilChk (.tmp 55)), none, []⟩, ⟨(some 57), (.fAddr 0 (.tmp 56)), none, []⟩, ⟨(some 54), (.load1 (.tmp 53)), none, []⟩, ⟨(some 58), (.load1 (.tmp 57)), none, []⟩, ⟨(some 59), (.bin .eql (.tmp 54) (.tmp 58)), none, []⟩]) (.cond (.tmp 59) .ret .skip)) (.ops [⟨(some 60), (.mov (.tmp 6)), none, []⟩, ⟨(some 61), (.mov (.tmp 0)), none, []⟩, ⟨(some 63), (.mov (.tmp 6)), none, []⟩, ⟨(some 64), (.nilChk (.tmp 63)), none, []⟩, ⟨(some 65), (.fAddr 0 (.tmp 64)), none, []⟩, ⟨(some 66), (.fAddr 2 (.tmp 65)), none, []⟩, ⟨(some 69), (.nilChk (.tmp 60)), none, []⟩, ⟨(some 70), (.fAddr 5 (.tmp 69)), none, []⟩, ⟨(some 62), (.loadN 2 (.tmp 4)), none, []⟩, ⟨(some 67), (.load1 (.tmp 66)), none, []⟩, ⟨(some 68), (.callv (.func 76) [(.tmp 61), (.tmp 62), (.tmp 67)]), none, []⟩, ⟨(some 71), (.iAddrArr 2 1 (.tmp 70) (.tmp 68)), none, []⟩, ⟨(some 72), (.load1 (.tmp 71)), none, []⟩, ⟨(some 6), (.mov (.tmp 72)), none, []⟩])))))))))) [])
def g46 : AFunc := (.code 4 (.ops [⟨(some 3), (.mov (.tmp 0)), none, []⟩, ⟨none, (.store 1 (.tmp 1) (.tmp 3)), none, []⟩]) [])
def g47 : AFunc := (.code 10 (.ops [⟨(some 4), (.mov (.tmp 0)), none, []⟩, ⟨(some 5), (.nilChk (.tmp 4)), none, []⟩, ⟨(some 6), (.fAddr 0 (.tmp 5)), none, []⟩, ⟨(some 3), (.load1 (.tmp 1)), none, []⟩, ⟨(some 7), (.loadN 3 (.tmp 6)), none, []⟩, ⟨(some 8), (.buildSlice 3 1 [(.int .u64 0), (.int .u64 0), (.int .i64 0)] [(0, (3, (.tmp 7)))]), none, []⟩, ⟨(some 9), (.append 3 24 (.tmp 3) (.tmp 8)), none, []⟩, ⟨none, (.store 1 (.tmp 1) (.tmp 9)), none, []⟩]) [])
def g48 : AFunc := (.code 6 (.seq (.ops [⟨(some 2), (.box (.tmp 0)), none, []⟩, ⟨(some 3), (.box (.tmp 1)), none, []⟩, ⟨(some 4), (.mov (.const .nilFunc)), none, []⟩]) (.seq (.ops [⟨(some 5), (.mkFunc 79 [] [(.tmp 2), (.tmp 3)]), none, []⟩, ⟨(some 4), (.mov (.tmp 5)), none, []⟩]) .ret)) [(.tmp 4)])
def g49 : AFunc := (.code 3 (.seq (.ops [⟨(some 1), (.box (.tmp 0)), none, []⟩, ⟨(some 2), (.mov (.const (.bool false))), none, []⟩]) (.seq (.ops [⟨(some 2), (.mov (.const (.bool true))), none, []⟩]) .ret)) [(.tmp 2)])
def g50 : AFunc := (.code 17 (.seq (.ops [⟨(some 3), (.box (.tmp 0)), none, []⟩, ⟨(some 4), (.mov (.const (.bool false))), none, []⟩]) (.seq (.ops [⟨(some 5), (.load1 (.tmp 1)), none, []⟩, ⟨(some 6), (.loadN 3 (.tmp 2)), none, []⟩, ⟨(some 7), (.callv (.func 42) [(.tmp 5), (.tmp 6)]), none, []⟩, ⟨(some 8), (.mov (.tmp 7)), none, []⟩, ⟨(some 13), (.fAddr 2 (.tmp 2)), (some (8, true)), []⟩, ⟨(some 9), (.load1 (.tmp 1)), (some (8, true)), []⟩, ⟨(some 10), (.loadN 3 (.tmp 2)), (some (8, true)), []⟩, ⟨(some 11), (.loadN 3 (.tmp 3)), (some (8, true)), []⟩, ⟨(some 14), (.load1 (.tmp 13)), (some (8, true)), []⟩, ⟨(some 12), (.callv (.func 51) [(.tmp 9), (.tmp 10), (.tmp 11)]), (some (8, true)), [(13, 1)]⟩, ⟨(some 15), (.bin .eql (.tmp 12) (.tmp 14)), (some (8, true)), []⟩, ⟨(some 16), (.pick (.tmp 8) (.tmp 15) (.const (.bool false))), none, []⟩, ⟨(some 4), (.mov (.tmp 16)), none, []⟩]) .ret)) [(.tmp 4)])
def g51 : AFunc := (.code 21 (.seq (.ops [⟨(some 4), (.box (.tmp 1)), none, []⟩, ⟨(some 5), (.box (.tmp 2)), none, []⟩, ⟨(some 6), (.mov (.const (.int .i64 0))), none, []⟩]) (.seq (.ops [⟨(some 7), (.fAddr 0 (.tmp 4)), none, []⟩, ⟨(some 9), (.fAddr 0 (.tmp 5)), none, []⟩, ⟨(some 11), (.mov (.tmp 0)), none, []⟩, ⟨(some 12), (.nilChk (.tmp 11)), none, []⟩, ⟨(some 13), (.fAddr 0 (.tmp 12)), none, []⟩, ⟨(some 16), (.fAddr 2 (.tmp 4)), none, []⟩, ⟨(some 18), (.fAddr 2 (.tmp 5)), none, []⟩, ⟨(some 8), (.loadN 2 (.tmp 7)), none, []⟩, ⟨(some 10), (.loadN 2 (.tmp 9)), none, []⟩, ⟨(some 14), (.load1 (.tmp 13)), none, []⟩, ⟨(some 17), (.load1 (.tmp 16)), none, []⟩, ⟨(some 19), (.load1 (.tmp 18)), none, []⟩, ⟨(some 15), (.callv (.func 78) [(.tmp 8), (.tmp 10), (.tmp 14)]), none, [(16, 1), (18, 1)]⟩, ⟨(some 20), (.mm false [(.tmp 15), (.tmp 17), (.tmp 19)]), none, []⟩, ⟨(some 6), (.mov (.tmp 20)), none, []⟩]) .ret)) [(.tmp 6)])
def g60 : AFunc := (.code 68 (.seq (.ops [⟨(some 5), (.box (.tmp 1)), none, []⟩, ⟨(some 8), (.mov (.const (.int .i64 0))), none, []⟩]) (.seq (.ops [⟨(some 16), (.mov (.tmp 2)), none, []⟩, ⟨(some 17), (.mov (.tmp 0)), none, []⟩, ⟨(some 18), (.nilChk (.tmp 17)), none, []⟩, ⟨(some 19), (.fAddr 0 (.tmp 18)), none, []⟩, ⟨(some 15), (.loadN 2 (.tmp 5)), none, []⟩, ⟨(some 20), (.load1 (.tmp 19)), none, []⟩, ⟨(some 21), (.callv (.func 13) [(.tmp 15), (.tmp 16), (.tmp 20)]), none, []⟩, ⟨(some 14), (.mov (.tmp 21)), none, []⟩, ⟨(some 22), (.extract (.tmp 14) 0), none, []⟩, ⟨(some 23), (.extract (.tmp 14) 1), none, []⟩, ⟨(some 9), (.mov (.tmp 22)), none, []⟩, ⟨(some 10), (.mov (.tmp 23)), none, []⟩]) (.seq (.seq (.ops [⟨(some 24), (.mov (.tmp 10)), none, []⟩, ⟨(some 25), (.un .not (.tmp 24)), none, []⟩]) (.cond (.tmp 25) (.seq (.ops [⟨(some 8), (.mov (.const (.int .i64 111))), none, []⟩]) .ret) .skip)) (.seq (.ops [⟨(some 27), (.mov (.tmp 0)), none, []⟩, ⟨(some 28), (.mov (.tmp 9)), none, []⟩, ⟨(some 29), (.callv (.func 86) [(.tmp 27), (.tmp 28)]), none, []⟩, ⟨(some 26), (.mov (.tmp 29)), none, []⟩, ⟨(some 30), (.extract (.tmp 26) 0), none, []⟩, ⟨(some 31), (.extract (.tmp 26) 1), none, []⟩, ⟨(some 11), (.mov (.tmp 30)), none, []⟩, ⟨(some 12), (.mov (.tmp 31)), none, []⟩]) (.seq (.seq (.ops [⟨(some 32), (.mov (.tmp 12)), none, []⟩]) (.cond (.tmp 32) (.seq (.ops [⟨(some 8), (.mov (.const (.int .i64 121))), none, []⟩]) .ret) .skip)) (.seq (.seq (.ops [⟨(some 33), (.mov (.tmp 0)), none, []⟩, ⟨(some 34), (.nilChk (.tmp 33)), none, []⟩, ⟨(some 35), (.fAddr 2 (.tmp 34)), none, []⟩, ⟨(some 38), (.mov (.tmp 0)), none, []⟩, ⟨(some 39), (.nilChk (.tmp 38)), none, []⟩, ⟨(some 40), (.fAddr 1 (.tmp 39)), none, []⟩, ⟨(some 36), (.load1 (.tmp 35)), none, []⟩, ⟨(some 37), (.lenSl (.tmp 36)), none, []⟩, ⟨(some 41), (.load1 (.tmp 40)), none, []⟩, ⟨(some 42), (.bin .geq (.tmp 37) (.tmp 41)), none, []⟩]) (.cond (.tmp 42) (.seq (.ops [⟨(some 8), (.mov (.const (.int .i64 120))), none, []⟩]) .ret) .skip)) (.seq (.ops [⟨(some 13), (.mov (.const (.slice none 0 0))), none, []⟩]) (.seq (.ops [⟨(some 43), (.mov (.tmp 13)), none, []⟩, ⟨(some 44), (.mov (.tmp 0)), none, []⟩, ⟨(some 45), (.nilChk (.tmp 44)), none, []⟩, ⟨(some 46), (.fAddr 2 (.tmp 45)), none, []⟩, ⟨(some 47), (.load1 (.tmp 46)), none, []⟩, ⟨(some 48), (.mov (.tmp 11)), none, []⟩, ⟨(some 49), (.slSl 2 (.tmp 47) none (some (.tmp 48))), none, []⟩, ⟨(some 50), (.append 2 24 (.tmp 43) (.tmp 49)), none, []⟩, ⟨(some 13), (.mov (.tmp 50)), none, []⟩]) (.seq (.ops [⟨(some 51), (.mov (.tmp 13)), none, []⟩, ⟨(some 52), (.mov (.tmp 9)), none, []⟩, ⟨(some 53), (.mov (.tmp 3)), none, []⟩, ⟨(some 54), (.build [(.string (bs [])), (.int .i64 0)] [(0, (1, (.tmp 52))), (1, (1, (.tmp 53)))]), none, []⟩, ⟨(some 55), (.buildSlice 2 1 [(.string (bs [])), (.int .i64 0)] [(0, (2, (.tmp 54)))]), none, []⟩, ⟨(some 56), (.append 2 24 (.tmp 51) (.tmp 55)), none, []⟩, ⟨(some 13), (.mov (.tmp 56)), none, []⟩]) (.seq (.ops [⟨(some 57), (.mov (.tmp 0)), none, []⟩, ⟨(some 58), (.mov (.tmp 13)), none, []⟩, ⟨(some 59), (.mov (.tmp 0)), none, []⟩, ⟨(some 60), (.nilChk (.tmp 59)), none, []⟩, ⟨(some 61), (.fAddr 2 (.tmp 60)), none, []⟩, ⟨(some 62), (.load1 (.tmp 61)), none, []⟩, ⟨(some 63), (.mov (.tmp 11)), none, []⟩, ⟨(some 64), (.slSl 2 (.tmp 62) (some (.tmp 63)) none), none, []⟩, ⟨(some 65), (.append 2 24 (.tmp 58) (.tmp 64)), none, []⟩, ⟨(some 66), (.nilChk (.tmp 57)), none, []⟩, ⟨(some 67), (.fAddr 2 (.tmp 66)), none, []⟩, ⟨none, (.store 1 (.tmp 67) (.tmp 65)), none, []⟩]) (.seq (.ops [⟨(some 8), (.mov (.const (.int .i64 0))), none, []⟩]) .ret))))))))))) [(.tmp 8)])
def g61 : AFunc := (.code 41 (.seq (.ops [⟨(some 5), (.box (.tmp 1)), none, []⟩, ⟨(some 8), (.mov (.const (.int .i64 0))), none, []⟩]) (.seq (.ops [⟨(some 15), (.mov (.tmp 2)), none, []⟩, ⟨(some 16), (.mov (.tmp 0)), none, []⟩, ⟨(some 17), (.nilChk (.tmp 16)), none, []⟩, ⟨(some 18), (.fAddr 0 (.tmp 17)), none, []⟩, ⟨(some 14), (.loadN 2 (.tmp 5)), none, []⟩, ⟨(some 19), (.load1 (.tmp 18)), none, []⟩, ⟨(some 20), (.callv (.func 13) [(.tmp 14), (.tmp 15), (.tmp 19)]), none, []⟩, ⟨(some 13), (.mov (.tmp 20)), none, []⟩, ⟨(some 21), (.extract (.tmp 13) 0), none, []⟩, ⟨(some 22), (.extract (.tmp 13) 1), none, []⟩, ⟨(some 9), (.mov (.tmp 21)), none, []⟩, ⟨(some 10), (.mov (.tmp 22)), none, []⟩]) (.seq (.seq (.ops [⟨(some 23), (.mov (.tmp 10)), none, []⟩, ⟨(some 24), (.un .not (.tmp 23)), none, []⟩]) (.cond (.tmp 24) (.seq (.ops [⟨(some 8), (.mov (.const (.int .i64 111))), none, []⟩]) .ret) .skip)) (.seq (.ops [⟨(some 26), (.mov (.tmp 0)), none, []⟩, ⟨(some 27), (.mov (.tmp 9)), none, []⟩, ⟨(some 28), (.callv (.func 86) [(.tmp 26), (.tmp 27)]), none, []⟩, ⟨(some 25), (.mov (.tmp 28)), none, []⟩, ⟨(some 29), (.extract (.tmp 25) 0), none, []⟩, ⟨(some 30), (.extract (.tmp 25) 1), none, []⟩, ⟨(some 11), (.mov (.tmp 29)), none, []⟩, ⟨(some 12), (.mov (.tmp 30)), none, []⟩]) (.seq (.seq (.ops [⟨(some 31), (.mov (.tmp 12)), none, []⟩, ⟨(some 32), (.un .not (.tmp 31)), none, []⟩]) (.cond (.tmp 32) (.seq (.ops [⟨(some 8), (.mov (.const (.int .i64 122))), none, []⟩]) .ret) .skip)) (.seq (.ops [⟨(some 33), (.mov (.tmp 0)), none, []⟩, ⟨(some 34), (.nilChk (.tmp 33)), none, []⟩, ⟨(some 35), (.fAddr 2 (.tmp 34)), none, []⟩, ⟨(some 36), (.load1 (.tmp 35)), none, []⟩, ⟨(some 37), (.mov (.tmp 11)), none, []⟩, ⟨(some 38), (.mov (.tmp 3)), none, []⟩, ⟨(some 39), (.iAddrSl 2 (.tmp 36) (.tmp 37)), none, []⟩, ⟨(some 40), (.fAddr 1 (.tmp 39)), none, []⟩, ⟨none, (.store 1 (.tmp 40) (.tmp 38)), none, []⟩]) (.seq (.ops [⟨(some 8), (.mov (.const (.int .i64 0))), none, []⟩]) .ret))))))) [(.tmp 8)])
def g62 : AFunc := (.code 61 (.seq (.ops [⟨(some 4), (.box (.tmp 1)), none, []⟩, ⟨(some 6), (.mov (.const (.int .i64 0))), none, []⟩, ⟨(some 7), (.mov (.const (.bool false))), none, []⟩]) (.seq (.ops [⟨(some 16), (.mov (.tmp 0)), none, []⟩, ⟨(some 17), (.loadN 2 (.tmp 4)), none, []⟩, ⟨(some 18), (.mov (.tmp 2)), none, []⟩, ⟨(some 19), (.callv (.func 63) [(.tmp 16), (.tmp 17), (.tmp 18)]), none, []⟩, ⟨(some 15), (.mov (.tmp 19)), none, []⟩, ⟨(some 20), (.extract (.tmp 15) 0), none, []⟩, ⟨(some 21), (.extract (.tmp 15) 1), none, []⟩, ⟨(some 8), (.mov (.tmp 20)), none, []⟩, ⟨(some 9), (.mov (.tmp 21)), none, []⟩]) (.seq (.seq (.ops [⟨(some 22), (.mov (.tmp 9)), none, []⟩, ⟨(some 23), (.un .not (.tmp 22)), none, []⟩]) (.cond (.tmp 23) (.seq (.ops [⟨(some 6), (.mov (.const (.int .i64 0))), none, []⟩, ⟨(some 7), (.mov (.const (.bool false))), none, []⟩]) .ret) .skip)) (.seq (.ops [⟨(some 26), (.mov (.tmp 2)), none, []⟩, ⟨(some 27), (.mov (.tmp 0)), none, []⟩, ⟨(some 28), (.nilChk (.tmp 27)), none, []⟩, ⟨(some 29), (.fAddr 0 (.tmp 28)), none, []⟩, ⟨(some 25), (.loadN 2 (.tmp 4)), none, []⟩, ⟨(some 30), (.load1 (.tmp 29)), none, []⟩, ⟨(some 31), (.callv (.func 13) [(.tmp 25), (.tmp 26), (.tmp 30)]), none, []⟩, ⟨(some 24), (.mov (.tmp 31)), none, []⟩, ⟨(some 32), (.extract (.tmp 24) 0), none, []⟩, ⟨(some 33), (.extract (.tmp 24) 1), none, []⟩, ⟨(some 10), (.mov (.tmp 32)), none, []⟩, ⟨(some 11), (.mov (.tmp 33)), none, []⟩]) (.seq (.ops [⟨(some 35), (.mov (.tmp 0)), none, []⟩, ⟨(some 36), (.mov (.tmp 10)), none, []⟩, ⟨(some 37), (.callv (.func 86) [(.tmp 35), (.tmp 36)]), none, []⟩, ⟨(some 34), (.mov (.tmp 37)), none, []⟩, ⟨(some 38), (.extract (.tmp 34) 0), none, []⟩, ⟨(some 39), (.extract (.tmp 34) 1), none, []⟩, ⟨(some 12), (.mov (.tmp 38)), none, []⟩, ⟨(some 13), (.mov (.tmp 39)), none, []⟩]) (.seq (.ops [⟨(some 14), (.mov (.const (.slice none 0 0))), none, []⟩]) (.seq (.ops [⟨(some 40), (.mov (.tmp 14)), none, []⟩, ⟨(some 41), (.mov (.tmp 0)), none, []⟩, ⟨(some 42), (.nilChk (.tmp 41)), none, []⟩, ⟨(some 43), (.fAddr 2 (.tmp 42)), none, []⟩, ⟨(some 44), (.load1 (.tmp 43)), none, []⟩, ⟨(some 45), (.mov (.tmp 12)), none, []⟩, ⟨(some 46), (.slSl 2 (.tmp 44) none (some (.tmp 45))), none, []⟩, ⟨(some 47), (.append 2 24 (.tmp 40) (.tmp 46)), none, []⟩, ⟨(some 14), (.mov (.tmp 47)), none, []⟩]) (.seq (.ops [⟨(some 48), (.mov (.tmp 0)), none, []⟩, ⟨(some 49), (.mov (.tmp 14)), none, []⟩, ⟨(some 50), (.mov (.tmp 0)), none, []⟩, ⟨(some 51), (.nilChk (.tmp 50)), none, []⟩, ⟨(some 52), (.fAddr 2 (.tmp 51)), none, []⟩, ⟨(some 53), (.load1 (.tmp 52)), none, []⟩, ⟨(some 54), (.mov (.tmp 12)), none, []⟩, ⟨(some 55), (.bin .add (.tmp 54) (.const (.int .i64 1))), none, []⟩, ⟨(some 56), (.slSl 2 (.tmp 53) (some (.tmp 55)) none), none, []⟩, ⟨(some 57), (.append 2 24 (.tmp 49) (.tmp 56)), none, []⟩, ⟨(some 58), (.nilChk (.tmp 48)), none, []⟩, ⟨(some 59), (.fAddr 2 (.tmp 58)), none, []⟩, ⟨none, (.store 1 (.tmp 59) (.tmp 57)), none, []⟩]) (.seq (.ops [⟨(some 60), (.mov (.tmp 8)), none, []⟩, ⟨(some 6), (.mov (.tmp 60)), none, []⟩, ⟨(some 7), (.mov (.const (.bool true))), none, []⟩]) .ret))))))))) [(.tmp 6), (.tmp 7)])
def g63 : AFunc := (.code 40 (.seq (.ops [⟨(some 4), (.box (.tmp 1)), none, []⟩, ⟨(some 6), (.mov (.const (.int .i64 0))), none, []⟩, ⟨(some 7), (.mov (.const (.bool false))), none, []⟩]) (.seq (.ops [⟨(some 14), (.mov (.tmp 2)), none, []⟩, ⟨(some 15), (.mov (.tmp 0)), none, []⟩, ⟨(some 16), (.nilChk (.tmp 15)), none, []⟩, ⟨(some 17), (.fAddr 0 (.tmp 16)), none, []⟩, ⟨(some 13), (.loadN 2 (.tmp 4)), none, []⟩, ⟨(some 18), (.load1 (.tmp 17)), none, []⟩, ⟨(some 19), (.callv (.func 13) [(.tmp 13), (.tmp 14), (.tmp 18)]), none, []⟩, ⟨(some 12), (.mov (.tmp 19)), none, []⟩, ⟨(some 20), (.extract (.tmp 12) 0), none, []⟩, ⟨(some 21), (.extract (.tmp 12) 1), none, []⟩, ⟨(some 8), (.mov (.tmp 20)), none, []⟩, ⟨(some 9), (.mov (.tmp 21)), none, []⟩]) (.seq (.seq (.ops [⟨(some 22), (.mov (.tmp 9)), none, []⟩, ⟨(some 23), (.un .not (.tmp 22)), none, []⟩]) (.cond (.tmp 23) (.seq (.ops [⟨(some 6), (.mov (.const (.int .i64 0))), none, []⟩, ⟨(some 7), (.mov (.const (.bool false))), none, []⟩]) .ret) .skip)) (.seq (.ops [⟨(some 25), (.mov (.tmp 0)), none, []⟩, ⟨(some 26), (.mov (.tmp 8)), none, []⟩, ⟨(some 27), (.callv (.func 86) [(.tmp 25), (.tmp 26)]), none, []⟩, ⟨(some 24), (.mov (.tmp 27)), none, []⟩, ⟨(some 28), (.extract (.tmp 24) 0), none, []⟩, ⟨(some 29), (.extract (.tmp 24) 1), none, []⟩, ⟨(some 10), (.mov (.tmp 28)), none, []⟩, ⟨(some 11), (.mov (.tmp 29)), none, []⟩]) (.seq (.seq (.ops [⟨(some 30), (.mov (.tmp 11)), none, []⟩, ⟨(some 31), (.un .not (.tmp 30)), none, []⟩]) (.cond (.tmp 31) (.seq (.ops [⟨(some 6), (.mov (.const (.int .i64 0))), none, []⟩, ⟨(some 7), (.mov (.const (.bool false))), none, []⟩]) .ret) .skip)) (.seq (.ops [⟨(some 32), (.mov (.tmp 0)), none, []⟩, ⟨(some 33), (.nilChk (.tmp 32)), none, []⟩, ⟨(some 34), (.fAddr 2 (.tmp 33)), none, []⟩, ⟨(some 35), (.load1 (.tmp 34)), none, []⟩, ⟨(some 36), (.mov (.tmp 10)), none, []⟩, ⟨(some 37), (.iAddrSl 2 (.tmp 35) (.tmp 36)), none, []⟩, ⟨(some 38), (.fAddr 1 (.tmp 37)), none, []⟩, ⟨(some 39), (.load1 (.tmp 38)), none, []⟩, ⟨(some 6), (.mov (.tmp 39)), none, []⟩, ⟨(some 7), (.mov (.const (.bool true))), none, []⟩]) .ret)))))) [(.tmp 6), (.tmp 7)])
def g64 : AFunc := (.code 20 (.seq (.ops [⟨(some 3), (.box (.tmp 1)), none, []⟩, ⟨(some 4), (.alloc [(.string (bs [])), (.int .i64 0)]), none, []⟩, ⟨(some 5), (.mov (.const (.bool false))), none, []⟩]) (.seq (.ops [⟨(some 7), (.mov (.tmp 0)), none, []⟩, ⟨(some 8), (.loadN 2 (.tmp 3)), none, []⟩, ⟨(some 9), (.callv (.func 87) [(.tmp 7), (.tmp 8)]), none, []⟩, ⟨(some 6), (.mov (.tmp 9)), none, []⟩]) (.seq (.seq (.ops [⟨(some 10), (.mov (.tmp 6)), none, []⟩, ⟨(some 11), (.lenSl (.tmp 10)), none, []⟩, ⟨(some 12), (.bin .eql (.tmp 11) (.const (.int .i64 0))), none, []⟩]) (.cond (.tmp 12) (.seq (.ops [⟨(some 13), (.build [(.string (bs [])), (.int .i64 0)] []), none, []⟩, ⟨none, (.store 2 (.tmp 4) (.tmp 13)), none, []⟩, ⟨(some 5), (.mov (.const (.bool false))), none, []⟩]) .ret) .skip)) (.seq (.ops [⟨(some 14), (.mov (.tmp 6)), none, []⟩, ⟨(some 15), (.mov (.tmp 6)), none, []⟩, ⟨(some 16), (.lenSl (.tmp 15)), none, []⟩, ⟨(some 17), (.bin .sub (.tmp 16) (.const (.int .i64 1))), none, []⟩, ⟨(some 18), (.iAddrSl 2 (.tmp 14) (.tmp 17)), none, []⟩, ⟨(some 19), (.loadN 2 (.tmp 18)), none, []⟩, ⟨none, (.store 2 (.tmp 4) (.tmp 19)), none, []⟩, ⟨(some 5), (.mov (.const (.bool true))), none, []⟩]) .ret)))) [(.cellN 4 2), (.tmp 5)])
def g65 : AFunc := (.code 127 (.seq (.ops [⟨(some 5), (.box (.tmp 2)), none, []⟩, ⟨(some 6), (.mov (.const (.bool false))), none, []⟩]) (.seq (.ops [⟨(some 17), (.mov (.tmp 1)), none, []⟩, ⟨(some 18), (.loadN 2 (.tmp 5)), none, []⟩, ⟨(some 19), (.callv (.func 87) [(.tmp 17), (.tmp 18)]), none, []⟩, ⟨(some 7), (.mov (.tmp 19)), none, []⟩]) (.seq (.ops [⟨(some 20), (.mov (.tmp 0)), none, []⟩, ⟨(some 21), (.loadN 2 (.tmp 5)), none, []⟩, ⟨(some 22), (.callv (.func 15) [(.tmp 20), (.tmp 21)]), none, []⟩, ⟨(some 8), (.mov (.tmp 22)), none, []⟩]) (.seq (.ops [⟨(some 23), (.mov (.tmp 0)), none, []⟩, ⟨(some 24), (.loadN 2 (.tmp 5)), none, []⟩, ⟨(some 25), (.callv (.func 15) [(.tmp 23), (.tmp 24)]), none, []⟩, ⟨(some 9), (.mov (.tmp 25)), none, []⟩]) (.seq (.seq (.ops [⟨(some 26), (.mov (.tmp 8)), none, []⟩, ⟨(some 27), (.lenSl (.tmp 26)), none, []⟩, ⟨(some 28), (.mov (.tmp 7)), none, []⟩, ⟨(some 29), (.lenSl (.tmp 28)), none, []⟩, ⟨(some 30), (.bin .neq (.tmp 27) (.tmp 29)), none, []⟩, ⟨(some 31), (.mov (.tmp 30)), none, []⟩, ⟨(some 32), (.mov (.tmp 9)), (some (31, false)), []⟩, ⟨(some 33), (.lenSl (.tmp 32)), (some (31, false)), []⟩, ⟨(some 34), (.mov (.tmp 7)), (some (31, false)), []⟩, ⟨(some 35), (.lenSl (.tmp 34)), (some (31, false)), []⟩, ⟨(some 36), (.bin .neq (.tmp 33) (.tmp 35)), (some (31, false)), []⟩, ⟨(some 37), (.pick (.tmp 31) (.const (.bool true)) (.tmp 36)), none, []⟩]) (.cond (.tmp 37) (.seq (.ops [⟨(some 6), (.mov (.const (.bool false))), none, []⟩]) .ret) .skip)) (.seq (.seq (.ops [⟨(some 10), (.mov (.const (.int .i64 0))), none, []⟩]) (.block 0 (.loop (.seq (.seq (.ops [⟨(some 38), (.mov (.tmp 10)), none, []⟩, ⟨(some 39), (.mov (.tmp 8)), none, []⟩, ⟨(some 40), (.lenSl (.tmp 39)), none, []⟩, ⟨(some 41), (.bin .lss (.tmp 38) (.tmp 40)), none, []⟩]) (.cond (.tmp 41) .skip (.exit 0))) (.seq (.block 1 (.ops [⟨(some 44), (.mov (.tmp 8)), none, []⟩, ⟨(some 45), (.mov (.tmp 10)), none, []⟩, ⟨(some 46), (.build [(.int .u64 0), (.int .u64 0), (.int .i64 0)] [(2, (1, (.const (.int .i64 (-5)))))]), none, []⟩, ⟨(some 47), (.iAddrSl 3 (.tmp 44) (.tmp 45)), none, []⟩, ⟨none, (.store 3 (.tmp 47) (.tmp 46)), none, []⟩])) (.ops [⟨(some 42), (.mov (.tmp 10)), none, []⟩, ⟨(some 43), (.bin .add (.tmp 42) (.const (.int .i64 1))), none, []⟩, ⟨(some 10), (.mov (.tmp 43)), none, []⟩])))))) (.seq (.ops [⟨(some 48), (.mov (.tmp 8)), none, []⟩, ⟨(some 49), (.build [(.int .u64 0), (.int .u64 0), (.int .i64 0)] [(2, (1, (.const (.int .i64 (-6)))))]), none, []⟩, ⟨(some 50), (.build [(.int .u64 0), (.int .u64 0), (.int .i64 0)] [(2, (1, (.const (.int .i64 (-7)))))]), none, []⟩, ⟨(some 51), (.buildSlice 3 2 [(.int .u64 0), (.int .u64 0), (.int .i64 0), (.int .u64 0), (.int .u64 0), (.int .i64 0)] [(0, (3, (.tmp 49))), (3, (3, (.tmp 50)))]), none, []⟩, ⟨(some 52), (.append 3 24 (.tmp 48) (.tmp 51)), none, []⟩, ⟨(some 11), (.mov (.tmp 52)), none, []⟩]) (.seq (.seq (.ops [⟨(some 12), (.mov (.const (.int .i64 0))), none, []⟩]) (.block 2 (.loop (.seq (.seq (.ops [⟨(some 53), (.mov (.tmp 12)), none, []⟩, ⟨(some 54), (.mov (.tmp 9)), none, []⟩, ⟨(some 55), (.lenSl (.tmp 54)), none, []⟩, ⟨(some 56), (.bin .lss (.tmp 53) (.tmp 55)), none, []⟩]) (.cond (.tmp 56) .skip (.exit 2))) (.seq (.block 3 (.seq (.ops [⟨(some 59), (.mov (.tmp 9)), none, []⟩, ⟨(some 60), (.mov (.tmp 12)), none, []⟩, ⟨(some 61), (.iAddrSl 3 (.tmp 59) (.tmp 60)), none, []⟩, ⟨(some 63), (.mov (.tmp 7)), none, []⟩, ⟨(some 64), (.mov (.tmp 12)), none, []⟩, ⟨(some 65), (.iAddrSl 2 (.tmp 63) (.tmp 64)), none, []⟩, ⟨(some 67), (.mov (.tmp 1)), none, []⟩, ⟨(some 68), (.nilChk (.tmp 67)), none, []⟩, ⟨(some 69), (.fAddr 0 (.tmp 68)), none, []⟩, ⟨(some 62), (.loadN 3 (.tmp 61)), none, []⟩, ⟨(some 66), (.loadN 2 (.tmp 65)), none, []⟩, ⟨(some 70), (.load1 (.tmp 69)), none, []⟩, ⟨(some 71), (.callv (.func 33) [(.tmp 62), (.tmp 66), (.tmp 70)]), none, []⟩, ⟨(some 13), (.mov (.tmp 71)), none, []⟩]) (.seq (.seq (.ops [⟨(some 72), (.mov (.tmp 13)), none, []⟩, ⟨(some 73), (.un .not (.tmp 72)), none, []⟩]) (.cond (.tmp 73) (.seq (.ops [⟨(some 6), (.mov (.const (.bool false))), none, []⟩]) .ret) .skip)) (.ops [⟨(some 74), (.mov (.tmp 9)), none, []⟩, ⟨(some 75), (.mov (.tmp 12)), none, []⟩, ⟨(some 76), (.build [(.int .u64 0), (.int .u64 0), (.int .i64 0)] [(2, (1, (.const (.int .i64 (-8)))))]), none, []⟩, ⟨(some 77), (.iAddrSl 3 (.tmp 74) (.tmp 75)), none, []⟩, ⟨none, (.store 3 (.tmp 77) (.tmp 76)), none, []⟩])))) (.ops [⟨(some 57), (.mov (.tmp 12)), none, []⟩, ⟨(some 58), (.bin .add (.tmp 57) (.const (.int .i64 1))), none, []⟩, ⟨(some 12), (.mov (.tmp 58)), none, []⟩])))))) (.seq (.ops [⟨(some 78), (.mov (.tmp 9)), none, []⟩, ⟨(some 79), (.build [(.int .u64 0), (.int .u64 0), (.int .i64 0)] [(2, (1, (.const (.int .i64 (-9)))))]), none, []⟩, ⟨(some 80), (.build [(.int .u64 0), (.int .u64 0), (.int .i64 0)] [(2, (1, (.const (.int .i64 (-9)))))]), none, []⟩, ⟨(some 81), (.buildSlice 3 2 [(.int .u64 0), (.int .u64 0), (.int .i64 0), (.int .u64 0), (.int .u64 0), (.int .i64 0)] [(0, (3, (.tmp 79))), (3, (3, (.tmp 80)))]), none, []⟩, ⟨(some 82), (.append 3 24 (.tmp 78) (.tmp 81)), none, []⟩, ⟨(some 14), (.mov (.tmp 82)), none, []⟩]) (.seq (.ops [⟨(some 83), (.mov (.tmp 7)), none, []⟩, ⟨(some 84), (.lenSl (.tmp 83)), none, []⟩, ⟨(some 15), (.mov (.tmp 84)), none, []⟩]) (.seq (.seq (.ops [⟨(some 16), (.mov (.const (.int .i64 0))), none, []⟩]) (.block 4 (.loop (.seq (.seq (.ops [⟨(some 85), (.mov (.tmp 16)), none, []⟩, ⟨(some 86), (.mov (.tmp 15)), none, []⟩, ⟨(some 87), (.bin .lss (.tmp 85) (.tmp 86)), none, []⟩]) (.cond (.tmp 87) .skip (.exit 4))) (.seq (.block 5 (.seq (.ops [⟨(some 90), (.mov (.tmp 11)), none, []⟩, ⟨(some 91), (.mov (.tmp 16)), none, []⟩, ⟨(some 92), (.iAddrSl 3 (.tmp 90) (.tmp 91)), none, []⟩, ⟨(some 93), (.fAddr 2 (.tmp 92)), none, []⟩, ⟨(some 94), (.load1 (.tmp 93)), none, []⟩, ⟨(some 95), (.bin .neq (.tmp 94) (.const (.int .i64 (-5)))), none, []⟩, ⟨(some 96), (.mov (.tmp 95)), none, []⟩, ⟨(some 97), (.mov (.tmp 14)), (some (96, false)), []⟩, ⟨(some 98), (.mov (.tmp 16)), (some (96, false)), []⟩, ⟨(some 99), (.iAddrSl 3 (.tmp 97) (.tmp 98)), (some (96, false)), []⟩, ⟨(some 100), (.fAddr 2 (.tmp 99)), (some (96, false)), []⟩, ⟨(some 101), (.load1 (.tmp 100)), (some (96, false)), []⟩, ⟨(some 102), (.bin .neq (.tmp 101) (.const (.int .i64 (-8)))), (some (96, false)), []⟩, ⟨(some 103), (.pick (.tmp 96) (.const (.bool true)) (.tmp 102)), none, []⟩]) (.cond (.tmp 103) (.seq (.ops [⟨(some 6), (.mov (.const (.bool false))), none, []⟩]) .ret) .skip))) (.ops [⟨(some 88), (.mov (.tmp 16)), none, []⟩, ⟨(some 89), (.bin .add (.tmp 88) (.const (.int .i64 1))), none, []⟩, ⟨(some 16), (.mov (.tmp 89)), none, []⟩])))))) (.seq (.ops [⟨(some 104), (.mov (.tmp 11)), none, []⟩, ⟨(some 105), (.mov (.tmp 15)), none, []⟩, ⟨(some 106), (.iAddrSl 3 (.tmp 104) (.tmp 105)), none, []⟩, ⟨(some 107), (.fAddr 2 (.tmp 106)), none, []⟩, ⟨(some 108), (.load1 (.tmp 107)), none, []⟩, ⟨(some 109), (.bin .eql (.tmp 108) (.const (.int .i64 (-6)))), none, []⟩, ⟨(some 110), (.mov (.tmp 109)), none, []⟩, ⟨(some 111), (.mov (.tmp 11)), (some (110, true)), []⟩, ⟨(some 112), (.mov (.tmp 15)), (some (110, true)), []⟩, ⟨(some 113), (.bin .add (.tmp 112) (.const (.int .i64 1))), (some (110, true)), []⟩, ⟨(some 114), (.iAddrSl 3 (.tmp 111) (.tmp 113)), (some (110, true)), []⟩, ⟨(some 115), (.fAddr 2 (.tmp 114)), (some (110, true)), []⟩, ⟨(some 116), (.load1 (.tmp 115)), (some (110, true)), []⟩, ⟨(some 117), (.bin .eql (.tmp 116) (.const (.int .i64 (-7)))), (some (110, true)), []⟩, ⟨(some 118), (.pick (.tmp 110) (.tmp 117) (.const (.bool false))), none, []⟩, ⟨(some 119), (.mov (.tmp 118)), none, []⟩, ⟨(some 120), (.mov (.tmp 14)), (some (119, true)), []⟩, ⟨(some 121), (.mov (.tmp 15)), (some (119, true)), []⟩, ⟨(some 122), (.iAddrSl 3 (.tmp 120) (.tmp 121)), (some (119, true)), []⟩, ⟨(some 123), (.fAddr 2 (.tmp 122)), (some (119, true)), []⟩, ⟨(some 124), (.load1 (.tmp 123)), (some (119, true)), []⟩, ⟨(some 125), (.bin .eql (.tmp 124) (.const (.int .i64 (-9)))), (some (119, true)), []⟩, ⟨(some 126), (.pick (.tmp 119) (.tmp 125) (.const (.bool false))), none, []⟩, ⟨(some 6), (.mov (.tmp 126)), none, []⟩]) .ret)))))))))))) [(.tmp 6)])
def g66 : AFunc := (.code 75 (.seq (.ops [⟨(some 2), (.mov (.const (.int .i64 0))), none, []⟩]) (.seq (.ops [⟨(some 10), (.mov (.tmp 0)), none, []⟩, ⟨(some 11), (.nilChk (.tmp 10)), none, []⟩, ⟨(some 12), (.fAddr 2 (.tmp 11)), none, []⟩, ⟨(some 13), (.load1 (.tmp 12)), none, []⟩, ⟨(some 14), (.lenSl (.tmp 13)), none, []⟩, ⟨(some 3), (.mov (.tmp 14)), none, []⟩]) (.seq (.seq (.ops [⟨(some 4), (.mov (.const (.int .i64 1))), none, []⟩]) (.block 0 (.loop (.seq (.seq (.ops [⟨(some 15), (.mov (.tmp 4)), none, []⟩, ⟨(some 16), (.mov (.tmp 0)), none, []⟩, ⟨(some 17), (.nilChk (.tmp 16)), none, []⟩, ⟨(some 18), (.fAddr 2 (.tmp 17)), none, []⟩, ⟨(some 19), (.load1 (.tmp 18)), none, []⟩, ⟨(some 20), (.lenSl (.tmp 19)), none, []⟩, ⟨(some 21), (.bin .lss (.tmp 15) (.tmp 20)), none, []⟩]) (.cond (.tmp 21) .skip (.exit 0))) (.seq (.block 1 (.seq (.ops [⟨(some 24), (.mov (.tmp 0)), none, []⟩, ⟨(some 25), (.nilChk (.tmp 24)), none, []⟩, ⟨(some 26), (.fAddr 2 (.tmp 25)), none, []⟩, ⟨(some 27), (.load1 (.tmp 26)), none, []⟩, ⟨(some 28), (.mov (.tmp 4)), none, []⟩, ⟨(some 29), (.bin .sub (.tmp 28) (.const (.int .i64 1))), none, []⟩, ⟨(some 30), (.iAddrSl 2 (.tmp 27) (.tmp 29)), none, []⟩, ⟨(some 31), (.fAddr 0 (.tmp 30)), none, []⟩, ⟨(some 32), (.load1 (.tmp 31)), none, []⟩, ⟨(some 5), (.mov (.tmp 32)), none, []⟩]) (.seq (.ops [⟨(some 33), (.mov (.tmp 0)), none, []⟩, ⟨(some 34), (.nilChk (.tmp 33)), none, []⟩, ⟨(some 35), (.fAddr 2 (.tmp 34)), none, []⟩, ⟨(some 36), (.load1 (.tmp 35)), none, []⟩, ⟨(some 37), (.mov (.tmp 4)), none, []⟩, ⟨(some 38), (.iAddrSl 2 (.tmp 36) (.tmp 37)), none, []⟩, ⟨(some 39), (.fAddr 0 (.tmp 38)), none, []⟩, ⟨(some 40), (.load1 (.tmp 39)), none, []⟩, ⟨(some 6), (.mov (.tmp 40)), none, []⟩]) (.seq (.ops [⟨(some 7), (.mov (.const (.int .i64 0))), none, []⟩]) (.seq (.block 2 (.loop (.seq (.seq (.ops [⟨(some 41), (.mov (.tmp 7)), none, []⟩, ⟨(some 42), (.mov (.tmp 5)), none, []⟩, ⟨(some 43), (.lenStr (.tmp 42)), none, []⟩, ⟨(some 44), (.bin .lss (.tmp 41) (.tmp 43)), none, []⟩, ⟨(some 45), (.mov (.tmp 44)), none, []⟩, ⟨(some 46), (.mov (.tmp 7)), (some (45, true)), []⟩, ⟨(some 47), (.mov (.tmp 6)), (some (45, true)), []⟩, ⟨(some 48), (.lenStr (.tmp 47)), (some (45, true)), []⟩, ⟨(some 49), (.bin .lss (.tmp 46) (.tmp 48)), (some (45, true)), []⟩, ⟨(some 50), (.pick (.tmp 45) (.tmp 49) (.const (.bool false))), none, []⟩, ⟨(some 51), (.mov (.tmp 50)), none, []⟩, ⟨(some 52), (.mov (.tmp 5)), (some (51, true)), []⟩, ⟨(some 53), (.mov (.tmp 7)), (some (51, true)), []⟩, ⟨(some 54), (.idxStr (.tmp 52) (.tmp 53)), (some (51, true)), []⟩, ⟨(some 55), (.mov (.tmp 6)), (some (51, true)), []⟩, ⟨(some 56), (.mov (.tmp 7)), (some (51, true)), []⟩, ⟨(some 57), (.idxStr (.tmp 55) (.tmp 56)), (some (51, true)), []⟩, ⟨(some 58), (.bin .eql (.tmp 54) (.tmp 57)), (some (51, true)), []⟩, ⟨(some 59), (.pick (.tmp 51) (.tmp 58) (.const (.bool false))), none, []⟩]) (.cond (.tmp 59) .skip (.exit 2))) (.block 3 (.ops [⟨(some 60), (.mov (.tmp 7)), none, []⟩, ⟨(some 61), (.bin .add (.tmp 60) (.const (.int .i64 1))), none, []⟩, ⟨(some 7), (.mov (.tmp 61)), none, []⟩]))))) (.seq (.ops [⟨(some 63), (.mov (.tmp 0)), none, []⟩, ⟨(some 64), (.mov (.tmp 5)), none, []⟩, ⟨(some 65), (.mov (.tmp 7)), none, []⟩, ⟨(some 66), (.slStr (.tmp 64) none (some (.tmp 65))), none, []⟩, ⟨(some 67), (.callv (.func 86) [(.tmp 63), (.tmp 66)]), none, []⟩, ⟨(some 62), (.mov (.tmp 67)), none, []⟩, ⟨(some 68), (.extract (.tmp 62) 0), none, []⟩, ⟨(some 69), (.extract (.tmp 62) 1), none, []⟩, ⟨(some 8), (.mov (.tmp 68)), none, []⟩, ⟨(some 9), (.mov (.tmp 69)), none, []⟩]) (.seq (.ops [⟨(some 70), (.mov (.tmp 9)), none, []⟩, ⟨(some 71), (.un .not (.tmp 70)), none, []⟩]) (.cond (.tmp 71) (.ops [⟨(some 72), (.mov (.tmp 3)), none, []⟩, ⟨(some 73), (.bin .add (.tmp 72) (.const (.int .i64 1))), none, []⟩, ⟨(some 3), (.mov (.tmp 73)), none, []⟩]) .skip)))))))) (.ops [⟨(some 22), (.mov (.tmp 4)), none, []⟩, ⟨(some 23), (.bin .add (.tmp 22) (.const (.int .i64 1))), none, []⟩, ⟨(some 4), (.mov (.tmp 23)), none, []⟩])))))) (.seq (.ops [⟨(some 74), (.mov (.tmp 3)), none, []⟩, ⟨(some 2), (.mov (.tmp 74)), none, []⟩]) .ret)))) [(.tmp 2)])
def g67 : AFunc := (.code 18 (.seq (.ops [⟨(some 4), (.mov (.const (.bool false))), none, []⟩]) (.seq (.ops [⟨(some 5), (.mov (.tmp 0)), none, []⟩, ⟨(some 6), (.lenStr (.tmp 5)), none, []⟩, ⟨(some 7), (.mov (.tmp 1)), none, []⟩, ⟨(some 8), (.lenStr (.tmp 7)), none, []⟩, ⟨(some 9), (.bin .leq (.tmp 6) (.tmp 8)), none, []⟩, ⟨(some 10), (.mov (.tmp 9)), none, []⟩, ⟨(some 11), (.mov (.tmp 1)), (some (10, true)), []⟩, ⟨(some 12), (.mov (.tmp 0)), (some (10, true)), []⟩, ⟨(some 13), (.lenStr (.tmp 12)), (some (10, true)), []⟩, ⟨(some 14), (.slStr (.tmp 11) none (some (.tmp 13))), (some (10, true)), []⟩, ⟨(some 15), (.mov (.tmp 0)), (some (10, true)), []⟩, ⟨(some 16), (.bin .eql (.tmp 14) (.tmp 15)), (some (10, true)), []⟩, ⟨(some 17), (.pick (.tmp 10) (.tmp 16) (.const (.bool false))), none, []⟩, ⟨(some 4), (.mov (.tmp 17)), none, []⟩]) .ret)) [(.tmp 4)])
def g68 : AFunc := (.code 42 (.seq (.ops [⟨(some 4), (.alloc [(.int .u64 0), (.int .u64 0)]), none, []⟩]) (.seq (.ops [⟨(some 5), (.alloc [(.int .u64 0), (.int .u64 0)]), none, []⟩]) (.seq (.seq (.ops [⟨(some 6), (.mov (.const (.int .i64 0))), none, []⟩]) (.block 0 (.loop (.seq (.seq (.ops [⟨(some 7), (.mov (.tmp 6)), none, []⟩, ⟨(some 8), (.mov (.tmp 1)), none, []⟩, ⟨(some 9), (.bin .lss (.tmp 7) (.tmp 8)), none, []⟩]) (.cond (.tmp 9) .skip (.exit 0))) (.seq (.block 1 (.seq (.ops [⟨(some 12), (.fAddr 0 (.tmp 5)), none, []⟩, ⟨(some 13), (.load1 (.tmp 12)), none, []⟩, ⟨(some 14), (.bin .mul (.const (.int .u64 2)) (.tmp 13)), none, []⟩, ⟨(some 15), (.fAddr 0 (.tmp 5)), none, []⟩, ⟨none, (.store 1 (.tmp 15) (.tmp 14)), none, []⟩]) (.seq (.seq (.ops [⟨(some 16), (.fAddr 1 (.tmp 5)), none, []⟩, ⟨(some 17), (.load1 (.tmp 16)), none, []⟩, ⟨(some 18), (.bin .geq (.tmp 17) (.const (.int .u64 9223372036854775808))), none, []⟩]) (.cond (.tmp 18) (.ops [⟨(some 19), (.fAddr 0 (.tmp 5)), none, []⟩, ⟨(some 20), (.load1 (.tmp 19)), none, []⟩, ⟨(some 21), (.bin .add (.tmp 20) (.const (.int .u64 1))), none, []⟩, ⟨(some 22), (.fAddr 0 (.tmp 5)), none, []⟩, ⟨none, (.store 1 (.tmp 22) (.tmp 21)), none, []⟩]) .skip)) (.seq (.ops [⟨(some 23), (.fAddr 1 (.tmp 5)), none, []⟩, ⟨(some 24), (.load1 (.tmp 23)), none, []⟩, ⟨(some 25), (.bin .mul (.const (.int .u64 2)) (.tmp 24)), none, []⟩, ⟨(some 26), (.fAddr 1 (.tmp 5)), none, []⟩, ⟨none, (.store 1 (.tmp 26) (.tmp 25)), none, []⟩]) (.seq (.ops [⟨(some 27), (.mov (.tmp 6)), none, []⟩, ⟨(some 28), (.mov (.tmp 0)), none, []⟩, ⟨(some 29), (.lenStr (.tmp 28)), none, []⟩, ⟨(some 30), (.bin .lss (.tmp 27) (.tmp 29)), none, []⟩, ⟨(some 31), (.mov (.tmp 30)), none, []⟩, ⟨(some 32), (.mov (.tmp 0)), (some (31, true)), []⟩, ⟨(some 33), (.mov (.tmp 6)), (some (31, true)), []⟩, ⟨(some 34), (.idxStr (.tmp 32) (.tmp 33)), (some (31, true)), []⟩, ⟨(some 35), (.bin .eql (.tmp 34) (.const (.int .u8 49))), (some (31, true)), []⟩, ⟨(some 36), (.pick (.tmp 31) (.tmp 35) (.const (.bool false))), none, []⟩]) (.cond (.tmp 36) (.ops [⟨(some 37), (.fAddr 1 (.tmp 5)), none, []⟩, ⟨(some 38), (.load1 (.tmp 37)), none, []⟩, ⟨(some 39), (.bin .add (.tmp 38) (.const (.int .u64 1))), none, []⟩, ⟨(some 40), (.fAddr 1 (.tmp 5)), none, []⟩, ⟨none, (.store 1 (.tmp 40) (.tmp 39)), none, []⟩]) .skip)))))) (.ops [⟨(some 10), (.mov (.tmp 6)), none, []⟩, ⟨(some 11), (.bin .add (.tmp 10) (.const (.int .i64 1))), none, []⟩, ⟨(some 6), (.mov (.tmp 11)), none, []⟩])))))) (.seq (.ops [⟨(some 41), (.loadN 2 (.tmp 5)), none, []⟩, ⟨none, (.store 2 (.tmp 4) (.tmp 41)), none, []⟩]) .ret)))) [(.cellN 4 2)])
def g69 : AFunc := (.code 25 (.seq (.ops [⟨(some 2), (.mov (.const (.pointer none))), none, []⟩]) (.seq (.seq (.ops [⟨(some 6), (.mov (.tmp 0)), none, []⟩, ⟨(some 7), (.eqp 0 false (.tmp 6) (.const (.pointer none))), none, []⟩]) (.cond (.tmp 7) (.seq (.ops [⟨(some 2), (.mov (.const (.pointer none))), none, []⟩]) .ret) .skip)) (.seq (.ops [⟨(some 8), (.mov (.tmp 0)), none, []⟩, ⟨(some 9), (.nilChk (.tmp 8)), none, []⟩, ⟨(some 10), (.loadN 7 (.tmp 9)), none, []⟩, ⟨(some 3), (.alloc [(.int .u64 0), (.int .u64 0), (.int .i64 0), (.bool false), (.int .i64 0), (.pointer none), (.pointer none)]), none, []⟩, ⟨none, (.store 7 (.tmp 3) (.tmp 10)), none, []⟩]) (.seq (.seq (.ops [⟨(some 11), (.mov (.tmp 0)), none, []⟩, ⟨(some 12), (.nilChk (.tmp 11)), none, []⟩, ⟨(some 13), (.fAddr 5 (.tmp 12)), none, []⟩, ⟨(some 14), (.loadN 2 (.tmp 13)), none, []⟩, ⟨(some 15), (.mov (.const (.int .i64 0))), none, []⟩]) (.block 0 (.loop (.seq (.ops [⟨(some 16), (.bin .lss (.tmp 15) (.const (.int .i64 2))), none, []⟩]) (.seq (.cond (.tmp 16) .skip (.exit 0)) (.seq (.block 1 (.seq (.ops [⟨(some 17), (.mov (.tmp 15)), none, []⟩, ⟨(some 18), (.idxArr1 2 (.tmp 14) (.tmp 15)), none, []⟩, ⟨(some 4), (.mov (.tmp 17)), none, []⟩, ⟨(some 5), (.mov (.tmp 18)), none, []⟩]) (.ops [⟨(some 19), (.mov (.tmp 4)), none, []⟩, ⟨(some 20), (.mov (.tmp 5)), none, []⟩, ⟨(some 21), (.callv (.func 69) [(.tmp 20)]), none, []⟩, ⟨(some 22), (.fAddr 5 (.tmp 3)), none, []⟩, ⟨(some 23), (.iAddrArr 2 1 (.tmp 22) (.tmp 19)), none, []⟩, ⟨none, (.store 1 (.tmp 23) (.tmp 21)), none, []⟩]))) (.ops [⟨(some 24), (.bin .add (.tmp 15) (.const (.int .i64 1))), none, []⟩, ⟨(some 15), (.mov (.tmp 24)), none, []⟩]))))))) (.seq (.ops [⟨(some 2), (.mov (.tmp 3)), none, []⟩]) .ret))))) [(.tmp 2)])
def g70 : AFunc := (.code 84 (.seq (.ops [⟨(some 5), (.box (.tmp 2)), none, []⟩, ⟨(some 6), (.mov (.const (.pointer none))), none, []⟩]) (.seq (.seq (.ops [⟨(some 9), (.mov (.tmp 1)), none, []⟩, ⟨(some 10), (.nilChk (.tmp 9)), none, []⟩, ⟨(some 11), (.fAddr 0 (.tmp 10)), none, []⟩, ⟨(some 12), (.loadN 3 (.tmp 11)), none, []⟩, ⟨(some 13), (.loadN 3 (.tmp 5)), none, []⟩, ⟨(some 14), (.eqs false 3 [(0, 1), (1, 1), (2, 1)] (.tmp 12) (.tmp 13)), none, []⟩]) (.cond (.tmp 14) (.seq (.ops [⟨(some 7), (.mov (.const (.int .i64 0))), none, []⟩]) (.ops [⟨(some 15), (.mov (.tmp 1)), none, []⟩, ⟨(some 16), (.mov (.tmp 1)), none, []⟩, ⟨(some 17), (.mov (.tmp 7)), none, []⟩, ⟨(some 18), (.nilChk (.tmp 15)), none, []⟩, ⟨(some 19), (.fAddr 3 (.tmp 18)), none, []⟩, ⟨none, (.store 1 (.tmp 19) (.const (.bool false))), none, []⟩, ⟨(some 20), (.nilChk (.tmp 16)), none, []⟩, ⟨(some 21), (.fAddr 4 (.tmp 20)), none, []⟩, ⟨none, (.store 1 (.tmp 21) (.tmp 17)), none, []⟩])) (.seq (.ops [⟨(some 22), (.mov (.tmp 0)), none, []⟩, ⟨(some 23), (.fAddr 0 (.tmp 5)), none, []⟩, ⟨(some 25), (.mov (.tmp 1)), none, []⟩, ⟨(some 26), (.nilChk (.tmp 25)), none, []⟩, ⟨(some 27), (.fAddr 0 (.tmp 26)), none, []⟩, ⟨(some 28), (.fAddr 2 (.tmp 27)), none, []⟩, ⟨(some 24), (.loadN 2 (.tmp 23)), none, []⟩, ⟨(some 29), (.load1 (.tmp 28)), none, []⟩, ⟨(some 30), (.callv (.func 76) [(.tmp 22), (.tmp 24), (.tmp 29)]), none, []⟩, ⟨(some 8), (.mov (.tmp 30)), none, []⟩]) (.ops [⟨(some 31), (.mov (.tmp 1)), none, []⟩, ⟨(some 32), (.mov (.tmp 8)), none, []⟩, ⟨(some 33), (.mov (.tmp 0)), none, []⟩, ⟨(some 34), (.mov (.tmp 1)), none, []⟩, ⟨(some 35), (.mov (.tmp 8)), none, []⟩, ⟨(some 36), (.nilChk (.tmp 34)), none, []⟩, ⟨(some 37), (.fAddr 5 (.tmp 36)), none, []⟩, ⟨(some 38), (.iAddrArr 2 1 (.tmp 37) (.tmp 35)), none, []⟩, ⟨(some 42), (.nilChk (.tmp 31)), none, []⟩, ⟨(some 43), (.fAddr 5 (.tmp 42)), none, []⟩, ⟨(some 39), (.load1 (.tmp 38)), none, []⟩, ⟨(some 40), (.loadN 3 (.tmp 5)), none, []⟩, ⟨(some 41), (.callv (.func 70) [(.tmp 33), (.tmp 39), (.tmp 40)]), none, []⟩, ⟨(some 44), (.iAddrArr 2 1 (.tmp 43) (.tmp 32)), none, []⟩, ⟨none, (.store 1 (.tmp 44) (.tmp 41)), none, []⟩])))) (.seq (.block 0 (.seq (.ops [⟨(some 46), (.mov (.tmp 1)), none, []⟩, ⟨(some 47), (.nilChk (.tmp 46)), none, []⟩, ⟨(some 48), (.fAddr 3 (.tmp 47)), none, []⟩, ⟨(some 49), (.load1 (.tmp 48)), none, []⟩, ⟨(some 50), (.mov (.tmp 49)), none, []⟩, ⟨(some 51), (.mov (.tmp 1)), (some (50, false)), []⟩, ⟨(some 52), (.nilChk (.tmp 51)), (some (50, false)), []⟩, ⟨(some 53), (.fAddr 5 (.tmp 52)), (some (50, false)), []⟩, ⟨(some 54), (.iAddrArr 2 1 (.tmp 53) (.const (.int .i64 0))), (some (50, false)), []⟩, ⟨(some 55), (.load1 (.tmp 54)), (some (50, false)), []⟩, ⟨(some 56), (.eqp 0 true (.tmp 55) (.const (.pointer none))), (some (50, false)), []⟩, ⟨(some 57), (.mov (.tmp 56)), (some (50, false)), []⟩, ⟨(some 58), (.mov (.tmp 1)), (some (57, true)), []⟩, ⟨(some 59), (.nilChk (.tmp 58)), (some (57, true)), []⟩, ⟨(some 60), (.fAddr 5 (.tmp 59)), (some (57, true)), []⟩, ⟨(some 61), (.iAddrArr 2 1 (.tmp 60) (.const (.int .i64 1))), (some (57, true)), []⟩, ⟨(some 62), (.load1 (.tmp 61)), (some (57, true)), []⟩, ⟨(some 63), (.eqp 0 true (.tmp 62) (.const (.pointer none))), (some (57, true)), []⟩, ⟨(some 64), (.pick (.tmp 57) (.tmp 63) (.const (.bool false))), (some (50, false)), []⟩, ⟨(some 65), (.pick (.tmp 50) (.const (.bool true)) (.tmp 64)), none, []⟩, ⟨(some 45), (.mov (.tmp 65)), none, []⟩]) (.cond (.tmp 45) (.seq (.ops [⟨(some 66), (.mov (.tmp 1)), none, []⟩, ⟨(some 6), (.mov (.tmp 66)), none, []⟩]) .ret) (.seq (.ops [⟨(some 68), (.mov (.tmp 1)), none, []⟩, ⟨(some 69), (.nilChk (.tmp 68)), none, []⟩, ⟨(some 70), (.fAddr 5 (.tmp 69)), none, []⟩, ⟨(some 71), (.iAddrArr 2 1 (.tmp 70) (.const (.int .i64 0))), none, []⟩, ⟨(some 72), (.load1 (.tmp 71)), none, []⟩, ⟨(some 73), (.eqp 0 true (.tmp 72) (.const (.pointer none))), none, []⟩, ⟨(some 67), (.mov (.tmp 73)), none, []⟩]) (.cond (.tmp 67) (.seq (.ops [⟨(some 74), (.mov (.tmp 1)), none, []⟩, ⟨(some 75), (.nilChk (.tmp 74)), none, []⟩, ⟨(some 76), (.fAddr 5 (.tmp 75)), none, []⟩, ⟨(some 77), (.iAddrArr 2 1 (.tmp 76) (.const (.int .i64 0))), none, []⟩, ⟨(some 78), (.load1 (.tmp 77)), none, []⟩, ⟨(some 6), (.mov (.tmp 78)), none, []⟩]) .ret) .skip))))) (.seq (.ops [⟨(some 79), (.mov (.tmp 1)), none, []⟩, ⟨(some 80), (.nilChk (.tmp 79)), none, []⟩, ⟨(some 81), (.fAddr 5 (.tmp 80)), none, []⟩, ⟨(some 82), (.iAddrArr 2 1 (.tmp 81) (.const (.int .i64 1))), none, []⟩, ⟨(some 83), (.load1 (.tmp 82)), none, []⟩, ⟨(some 6), (.mov (.tmp 83)), none, []⟩]) .ret)))) [(.tmp 6)])
def g71 : AFunc := (.code 23 (.seq (.seq (.ops [⟨(some 4), (.mov (.tmp 0)), none, []⟩, ⟨(some 5), (.eqp 0 false (.tmp 4) (.const (.pointer none))), none, []⟩]) (.cond (.tmp 5) .ret .skip)) (.seq (.ops [⟨(some 6), (.mov (.tmp 1)), none, []⟩, ⟨(some 7), (.mov (.tmp 0)), none, []⟩, ⟨(some 8), (.callv (.tmp 6) [(.tmp 7)]), none, []⟩]) (.seq (.ops [⟨(some 9), (.mov (.tmp 0)), none, []⟩, ⟨(some 10), (.nilChk (.tmp 9)), none, []⟩, ⟨(some 11), (.fAddr 5 (.tmp 10)), none, []⟩, ⟨(some 12), (.iAddrArr 2 1 (.tmp 11) (.const (.int .i64 0))), none, []⟩, ⟨(some 13), (.load1 (.tmp 12)), none, []⟩, ⟨(some 14), (.mov (.tmp 1)), none, []⟩, ⟨(some 15), (.callv (.func 71) [(.tmp 13), (.tmp 14)]), none, []⟩]) (.ops [⟨(some 16), (.mov (.tmp 0)), none, []⟩, ⟨(some 17), (.nilChk (.tmp 16)), none, []⟩, ⟨(some 18), (.fAddr 5 (.tmp 17)), none, []⟩, ⟨(some 19), (.iAddrArr 2 1 (.tmp 18) (.const (.int .i64 1))), none, []⟩, ⟨(some 20), (.load1 (.tmp 19)), none, []⟩, ⟨(some 21), (.mov (.tmp 1)), none, []⟩, ⟨(some 22), (.callv (.func 71) [(.tmp 20), (.tmp 21)]), none, []⟩])))) [])
def g72 : AFunc := (.code 5 (.ops [⟨(some 3), (.load1 (.tmp 1)), none, []⟩, ⟨(some 4), (.bin .add (.tmp 3) (.const (.int .i64 1))), none, []⟩, ⟨none, (.store 1 (.tmp 1) (.tmp 4)), none, []⟩]) [])
def g73 : AFunc := (.code 14 (.seq (.ops [⟨(some 2), (.box (.tmp 0)), none, []⟩, ⟨(some 4), (.mov (.const (.bool false))), none, []⟩]) (.seq (.ops [⟨(some 5), (.mov (.tmp 1)), none, []⟩, ⟨(some 6), (.callv (.func 88) [(.tmp 5)]), none, []⟩, ⟨(some 7), (.mov (.tmp 6)), none, []⟩, ⟨(some 8), (.loadN 2 (.tmp 2)), (some (7, true)), []⟩, ⟨(some 9), (.mov (.tmp 1)), (some (7, true)), []⟩, ⟨(some 10), (.callv (.func 89) [(.tmp 8), (.tmp 9)]), (some (7, true)), []⟩, ⟨(some 11), (.build [(.int .u64 0), (.int .u64 0)] []), (some (7, true)), []⟩, ⟨(some 12), (.eqs false 2 [(0, 1), (1, 1)] (.tmp 10) (.tmp 11)), (some (7, true)), []⟩, ⟨(some 13), (.pick (.tmp 7) (.tmp 12) (.const (.bool false))), none, []⟩, ⟨(some 4), (.mov (.tmp 13)), none, []⟩]) .ret)) [(.tmp 4)])
def g74 : AFunc := (.code 26 (.seq (.ops [⟨(some 4), (.alloc [(.int .u64 0), (.int .u64 0)]), none, []⟩, ⟨(some 5), (.mov (.const (.int .i64 0))), none, []⟩]) (.seq (.block 0 (.seq (.ops [⟨(some 7), (.mov (.tmp 0)), none, []⟩, ⟨(some 8), (.callv (.func 88) [(.tmp 7)]), none, []⟩, ⟨(some 9), (.un .not (.tmp 8)), none, []⟩, ⟨(some 6), (.mov (.tmp 9)), none, []⟩]) (.cond (.tmp 6) (.seq (.ops [⟨(some 10), (.build [(.int .u64 0), (.int .u64 0)] []), none, []⟩, ⟨none, (.store 2 (.tmp 4) (.tmp 10)), none, []⟩, ⟨(some 5), (.mov (.const (.int .i64 10))), none, []⟩]) .ret) (.seq (.ops [⟨(some 12), (.mov (.tmp 1)), none, []⟩, ⟨(some 13), (.bin .lss (.tmp 12) (.const (.int .i64 0))), none, []⟩, ⟨(some 14), (.mov (.tmp 13)), none, []⟩, ⟨(some 15), (.mov (.tmp 1)), (some (14, false)), []⟩, ⟨(some 16), (.mov (.tmp 0)), (some (14, false)), []⟩, ⟨(some 17), (.bin .gtr (.tmp 15) (.tmp 16)), (some (14, false)), []⟩, ⟨(some 18), (.pick (.tmp 14) (.const (.bool true)) (.tmp 17)), none, []⟩, ⟨(some 11), (.mov (.tmp 18)), none, []⟩]) (.cond (.tmp 11) (.seq (.ops [⟨(some 19), (.build [(.int .u64 0), (.int .u64 0)] []), none, []⟩, ⟨none, (.store 2 (.tmp 4) (.tmp 19)), none, []⟩, ⟨(some 5), (.mov (.const (.int .i64 1))), none, []⟩]) .ret) .skip))))) (.seq (.ops [⟨(some 20), (.mov (.tmp 1)), none, []⟩, ⟨(some 21), (.callv (.func 91) [(.tmp 20)]), none, []⟩, ⟨(some 22), (.mov (.tmp 0)), none, []⟩, ⟨(some 23), (.mov (.tmp 1)), none, []⟩, ⟨(some 24), (.bin .sub (.tmp 22) (.tmp 23)), none, []⟩, ⟨(some 25), (.callv (.func 90) [(.tmp 21), (.tmp 24)]), none, []⟩, ⟨none, (.store 2 (.tmp 4) (.tmp 25)), none, []⟩, ⟨(some 5), (.mov (.const (.int .i64 0))), none, []⟩]) .ret))) [(.cellN 4 2), (.tmp 5)])
def g75 : AFunc := (.code 16 (.seq (.ops [⟨(some 2), (.box (.tmp 0)), none, []⟩, ⟨(some 3), (.box (.tmp 1)), none, []⟩, ⟨(some 4), (.alloc [(.int .u64 0), (.int .u64 0)]), none, []⟩]) (.seq (.ops [⟨(some 5), (.fAddr 0 (.tmp 2)), none, []⟩, ⟨(some 6), (.load1 (.tmp 5)), none, []⟩, ⟨(some 7), (.fAddr 0 (.tmp 3)), none, []⟩, ⟨(some 8), (.load1 (.tmp 7)), none, []⟩, ⟨(some 9), (.bin .and (.tmp 6) (.tmp 8)), none, []⟩, ⟨(some 10), (.fAddr 1 (.tmp 2)), none, []⟩, ⟨(some 11), (.load1 (.tmp 10)), none, []⟩, ⟨(some 12), (.fAddr 1 (.tmp 3)), none, []⟩, ⟨(some 13), (.load1 (.tmp 12)), none, []⟩, ⟨(some 14), (.bin .and (.tmp 11) (.tmp 13)), none, []⟩, ⟨(some 15), (.build [(.int .u64 0), (.int .u64 0)] [(0, (1, (.tmp 9))), (1, (1, (.tmp 14)))]), none, []⟩, ⟨none, (.store 2 (.tmp 4) (.tmp 15)), none, []⟩]) .ret)) [(.cellN 4 2)])
def g76 : AFunc := (.code 14 (.seq (.ops [⟨(some 4), (.box (.tmp 1)), none, []⟩, ⟨(some 6), (.mov (.const (.int .i64 0))), none, []⟩]) (.seq (.seq (.ops [⟨(some 8), (.mov (.tmp 0)), none, []⟩, ⟨(some 9), (.nilChk (.tmp 8)), none, []⟩, ⟨(some 10), (.fAddr 0 (.tmp 9)), none, []⟩, ⟨(some 12), (.mov (.tmp 2)), none, []⟩, ⟨(some 7), (.loadN 2 (.tmp 4)), none, []⟩, ⟨(some 11), (.load1 (.tmp 10)), none, []⟩, ⟨(some 13), (.callv (.func 92) [(.tmp 7), (.tmp 11), (.tmp 12)]), none, []⟩]) (.cond (.tmp 13) (.seq (.ops [⟨(some 6), (.mov (.const (.int .i64 1))), none, []⟩]) .ret) .skip)) (.seq (.ops [⟨(some 6), (.mov (.const (.int .i64 0))), none, []⟩]) .ret))) [(.tmp 6)])
def g77 : AFunc := (.code 23 (.seq (.ops [⟨(some 4), (.box (.tmp 1)), none, []⟩, ⟨(some 6), (.alloc [(.int .u64 0), (.int .u64 0), (.int .i64 0)]), none, []⟩]) (.seq (.ops [⟨(some 10), (.mov (.tmp 0)), none, []⟩, ⟨(some 11), (.nilChk (.tmp 10)), none, []⟩, ⟨(some 12), (.fAddr 0 (.tmp 11)), none, []⟩, ⟨(some 13), (.load1 (.tmp 12)), none, []⟩, ⟨(some 14), (.mov (.tmp 2)), none, []⟩, ⟨(some 15), (.callv (.func 74) [(.tmp 13), (.tmp 14)]), none, []⟩, ⟨(some 9), (.mov (.tmp 15)), none, []⟩, ⟨(some 16), (.extract (.tmp 9) 0), none, []⟩, ⟨(some 17), (.extract (.tmp 9) 1), none, []⟩, ⟨(some 7), (.alloc [(.int .u64 0), (.int .u64 0)]), none, []⟩, ⟨none, (.store 2 (.tmp 7) (.tmp 16)), none, []⟩, ⟨(some 8), (.mov (.tmp 17)), none, []⟩]) (.seq (.ops [⟨(some 18), (.loadN 2 (.tmp 4)), none, []⟩, ⟨(some 19), (.loadN 2 (.tmp 7)), none, []⟩, ⟨(some 20), (.callv (.func 75) [(.tmp 18), (.tmp 19)]), none, []⟩, ⟨(some 21), (.mov (.tmp 2)), none, []⟩, ⟨(some 22), (.build [(.int .u64 0), (.int .u64 0), (.int .i64 0)] [(0, (2, (.tmp 20))), (2, (1, (.tmp 21)))]), none, []⟩, ⟨none, (.store 3 (.tmp 6) (.tmp 22)), none, []⟩]) .ret))) [(.cellN 6 3)])
def g78 : AFunc := (.code 31 (.seq (.ops [⟨(some 3), (.box (.tmp 0)), none, []⟩, ⟨(some 4), (.box (.tmp 1)), none, []⟩, ⟨(some 6), (.mov (.const (.int .i64 0))), none, []⟩]) (.seq (.seq (.ops [⟨(some 8), (.mov (.tmp 2)), none, []⟩, ⟨(some 9), (.callv (.func 88) [(.tmp 8)]), none, []⟩, ⟨(some 10), (.un .not (.tmp 9)), none, []⟩]) (.cond (.tmp 10) (.seq (.ops [⟨(some 6), (.mov (.const (.int .i64 0))), none, []⟩]) .ret) .skip)) (.seq (.ops [⟨(some 11), (.loadN 2 (.tmp 3)), none, []⟩, ⟨(some 12), (.loadN 2 (.tmp 4)), none, []⟩, ⟨(some 13), (.callv (.func 93) [(.tmp 11), (.tmp 12)]), none, []⟩, ⟨(some 14), (.mov (.tmp 2)), none, []⟩, ⟨(some 15), (.bin .sub (.const (.int .i64 128)) (.tmp 14)), none, []⟩, ⟨(some 16), (.callv (.func 90) [(.tmp 13), (.tmp 15)]), none, []⟩, ⟨(some 7), (.alloc [(.int .u64 0), (.int .u64 0)]), none, []⟩, ⟨none, (.store 2 (.tmp 7) (.tmp 16)), none, []⟩]) (.seq (.seq (.ops [⟨(some 17), (.fAddr 0 (.tmp 7)), none, []⟩, ⟨(some 18), (.load1 (.tmp 17)), none, []⟩, ⟨(some 19), (.bin .neq (.tmp 18) (.const (.int .u64 0))), none, []⟩]) (.cond (.tmp 19) (.seq (.ops [⟨(some 20), (.mov (.tmp 2)), none, []⟩, ⟨(some 21), (.fAddr 0 (.tmp 7)), none, []⟩, ⟨(some 22), (.load1 (.tmp 21)), none, []⟩, ⟨(some 23), (.callv (.func 94) [(.tmp 22)]), none, []⟩, ⟨(some 24), (.mm false [(.tmp 20), (.tmp 23)]), none, []⟩, ⟨(some 6), (.mov (.tmp 24)), none, []⟩]) .ret) .skip)) (.seq (.ops [⟨(some 25), (.mov (.tmp 2)), none, []⟩, ⟨(some 26), (.fAddr 1 (.tmp 7)), none, []⟩, ⟨(some 27), (.load1 (.tmp 26)), none, []⟩, ⟨(some 28), (.callv (.func 94) [(.tmp 27)]), none, []⟩, ⟨(some 29), (.bin .add (.const (.int .i64 64)) (.tmp 28)), none, []⟩, ⟨(some 30), (.mm false [(.tmp 25), (.tmp 29)]), none, []⟩, ⟨(some 6), (.mov (.tmp 30)), none, []⟩]) .ret))))) [(.tmp 6)])
def g79 : AFunc := (.code 29 (.seq (.seq (.ops [⟨(some 7), (.load1 (.tmp 1)), none, []⟩, ⟨(some 8), (.eqp 0 false (.tmp 7) (.const (.pointer none))), none, []⟩]) (.cond (.tmp 8) .ret .skip)) (.seq (.ops [⟨(some 4), (.alloc [(.slice none 0 0)]), none, []⟩]) (.seq (.ops [⟨(some 9), (.load1 (.tmp 1)), none, []⟩, ⟨(some 10), (.nilChk (.tmp 9)), none, []⟩, ⟨(some 11), (.fAddr 3 (.tmp 10)), none, []⟩, ⟨(some 12), (.load1 (.tmp 11)), none, []⟩, ⟨(some 13), (.mkFunc 80 [] [(.tmp 2), (.tmp 4)]), none, []⟩, ⟨(some 14), (.callv (.func 71) [(.tmp 12), (.tmp 13)]), none, []⟩]) (.seq (.ops [⟨(some 15), (.load1 (.tmp 4)), none, []⟩, ⟨(some 16), (.lenSl (.tmp 15)), none, []⟩, ⟨(some 17), (.mov (.const (.int .i64 0))), none, []⟩]) (.block 0 (.loop (.seq (.ops [⟨(some 18), (.bin .lss (.tmp 17) (.tmp 16)), none, []⟩]) (.seq (.cond (.tmp 18) .skip (.exit 0)) (.seq (.block 1 (.seq (.ops [⟨(some 19), (.iAddrSl 7 (.tmp 15) (.tmp 17)), none, []⟩, ⟨(some 20), (.loadN 7 (.tmp 19)), none, []⟩, ⟨(some 6), (.alloc [(.int .u64 0), (.int .u64 0), (.int .i64 0), (.bool false), (.int .i64 0), (.pointer none), (.pointer none)]), none, []⟩, ⟨none, (.store 7 (.tmp 6) (.tmp 20)), none, []⟩]) (.seq (.ops [⟨(some 21), (.mov (.tmp 0)), none, []⟩, ⟨(some 22), (.fAddr 0 (.tmp 6)), none, []⟩, ⟨(some 23), (.loadN 3 (.tmp 22)), none, []⟩, ⟨(some 24), (.fAddr 4 (.tmp 6)), none, []⟩, ⟨(some 25), (.load1 (.tmp 24)), none, []⟩, ⟨(some 26), (.callv (.tmp 21) [(.tmp 23), (.tmp 25)]), none, []⟩, ⟨(some 27), (.un .not (.tmp 26)), none, []⟩]) (.cond (.tmp 27) .ret .skip)))) (.ops [⟨(some 28), (.bin .add (.tmp 17) (.const (.int .i64 1))), none, []⟩, ⟨(some 17), (.mov (.tmp 28)), none, []⟩])))))))))) [])
def g80 : AFunc := (.code 22 (.seq (.ops [⟨(some 4), (.mov (.tmp 0)), none, []⟩, ⟨(some 5), (.nilChk (.tmp 4)), none, []⟩, ⟨(some 6), (.fAddr 3 (.tmp 5)), none, []⟩, ⟨(some 7), (.load1 (.tmp 6)), none, []⟩, ⟨(some 8), (.mov (.tmp 7)), none, []⟩, ⟨(some 10), (.mov (.tmp 0)), (some (8, true)), []⟩, ⟨(some 11), (.nilChk (.tmp 10)), (some (8, true)), []⟩, ⟨(some 12), (.fAddr 0 (.tmp 11)), (some (8, true)), []⟩, ⟨(some 9), (.load1 (.tmp 1)), (some (8, true)), []⟩, ⟨(some 13), (.loadN 3 (.tmp 12)), (some (8, true)), []⟩, ⟨(some 14), (.callv (.tmp 9) [(.tmp 13)]), (some (8, true)), []⟩, ⟨(some 15), (.pick (.tmp 8) (.tmp 14) (.const (.bool false))), none, []⟩]) (.cond (.tmp 15) (.ops [⟨(some 17), (.mov (.tmp 0)), none, []⟩, ⟨(some 18), (.nilChk (.tmp 17)), none, []⟩, ⟨(some 16), (.load1 (.tmp 2)), none, []⟩, ⟨(some 19), (.loadN 7 (.tmp 18)), none, []⟩, ⟨(some 20), (.buildSlice 7 1 [(.int .u64 0), (.int .u64 0), (.int .i64 0), (.bool false), (.int .i64 0), (.pointer none), (.pointer none)] [(0, (7, (.tmp 19)))]), none, []⟩, ⟨(some 21), (.append 7 56 (.tmp 16) (.tmp 20)), none, []⟩, ⟨none, (.store 1 (.tmp 2) (.tmp 21)), none, []⟩]) .skip)) [])
def g86 : AFunc := (.code 42 (.seq (.ops [⟨(some 4), (.mov (.const (.int .i64 0))), none, []⟩, ⟨(some 5), (.mov (.const (.bool false))), none, []⟩]) (.seq (.seq (.ops [⟨(some 6), (.mov (.const (.int .i64 0))), none, []⟩]) (.block 0 (.loop (.seq (.seq (.ops [⟨(some 7), (.mov (.tmp 6)), none, []⟩, ⟨(some 8), (.mov (.tmp 0)), none, []⟩, ⟨(some 9), (.nilChk (.tmp 8)), none, []⟩, ⟨(some 10), (.fAddr 2 (.tmp 9)), none, []⟩, ⟨(some 11), (.load1 (.tmp 10)), none, []⟩, ⟨(some 12), (.lenSl (.tmp 11)), none, []⟩, ⟨(some 13), (.bin .lss (.tmp 7) (.tmp 12)), none, []⟩]) (.cond (.tmp 13) .skip (.exit 0))) (.seq (.block 1 (.seq (.ops [⟨(some 16), (.mov (.tmp 0)), none, []⟩, ⟨(some 17), (.nilChk (.tmp 16)), none, []⟩, ⟨(some 18), (.fAddr 2 (.tmp 17)), none, []⟩, ⟨(some 19), (.load1 (.tmp 18)), none, []⟩, ⟨(some 20), (.mov (.tmp 6)), none, []⟩, ⟨(some 21), (.iAddrSl 2 (.tmp 19) (.tmp 20)), none, []⟩, ⟨(some 22), (.fAddr 0 (.tmp 21)), none, []⟩, ⟨(some 23), (.load1 (.tmp 22)), none, []⟩, ⟨(some 24), (.mov (.tmp 1)), none, []⟩, ⟨(some 25), (.bin .geq (.tmp 23) (.tmp 24)), none, []⟩]) (.cond (.tmp 25) (.seq (.ops [⟨(some 26), (.mov (.tmp 6)), none, []⟩, ⟨(some 27), (.mov (.tmp 0)), none, []⟩, ⟨(some 28), (.nilChk (.tmp 27)), none, []⟩, ⟨(some 29), (.fAddr 2 (.tmp 28)), none, []⟩, ⟨(some 31), (.mov (.tmp 6)), none, []⟩, ⟨(some 35), (.mov (.tmp 1)), none, []⟩, ⟨(some 4), (.mov (.tmp 26)), none, []⟩, ⟨(some 30), (.load1 (.tmp 29)), none, []⟩, ⟨(some 32), (.iAddrSl 2 (.tmp 30) (.tmp 31)), none, []⟩, ⟨(some 33), (.fAddr 0 (.tmp 32)), none, []⟩, ⟨(some 34), (.load1 (.tmp 33)), none, []⟩, ⟨(some 36), (.bin .eql (.tmp 34) (.tmp 35)), none, []⟩, ⟨(some 5), (.mov (.tmp 36)), none, []⟩]) .ret) .skip))) (.ops [⟨(some 14), (.mov (.tmp 6)), none, []⟩, ⟨(some 15), (.bin .add (.tmp 14) (.const (.int .i64 1))), none, []⟩, ⟨(some 6), (.mov (.tmp 15)), none, []⟩])))))) (.seq (.ops [⟨(some 37), (.mov (.tmp 0)), none, []⟩, ⟨(some 38), (.nilChk (.tmp 37)), none, []⟩, ⟨(some 39), (.fAddr 2 (.tmp 38)), none, []⟩, ⟨(some 40), (.load1 (.tmp 39)), none, []⟩, ⟨(some 41), (.lenSl (.tmp 40)), none, []⟩, ⟨(some 4), (.mov (.tmp 41)), none, []⟩, ⟨(some 5), (.mov (.const (.bool false))), none, []⟩]) .ret))) [(.tmp 4), (.tmp 5)])
def g87 : AFunc := (.code 53 (.seq (.ops [⟨(some 3), (.box (.tmp 1)), none, []⟩, ⟨(some 4), (.mov (.const (.slice none 0 0))), none, []⟩]) (.seq (.ops [⟨(some 12), (.mov (.tmp 0)), none, []⟩, ⟨(some 13), (.nilChk (.tmp 12)), none, []⟩, ⟨(some 14), (.fAddr 0 (.tmp 13)), none, []⟩, ⟨(some 11), (.loadN 2 (.tmp 3)), none, []⟩, ⟨(some 15), (.load1 (.tmp 14)), none, []⟩, ⟨(some 16), (.callv (.func 11) [(.tmp 11), (.tmp 15)]), none, []⟩, ⟨(some 10), (.mov (.tmp 16)), none, []⟩, ⟨(some 17), (.extract (.tmp 10) 0), none, []⟩, ⟨(some 18), (.extract (.tmp 10) 1), none, []⟩, ⟨(some 5), (.mov (.tmp 17)), none, []⟩, ⟨(some 6), (.mov (.tmp 18)), none, []⟩]) (.seq (.ops [⟨(some 7), (.mov (.const (.slice none 0 0))), none, []⟩]) (.seq (.seq (.ops [⟨(some 8), (.mov (.const (.int .i64 0))), none, []⟩]) (.block 0 (.loop (.seq (.seq (.ops [⟨(some 19), (.mov (.tmp 8)), none, []⟩, ⟨(some 20), (.mov (.tmp 0)), none, []⟩, ⟨(some 21), (.nilChk (.tmp 20)), none, []⟩, ⟨(some 22), (.fAddr 2 (.tmp 21)), none, []⟩, ⟨(some 23), (.load1 (.tmp 22)), none, []⟩, ⟨(some 24), (.lenSl (.tmp 23)), none, []⟩, ⟨(some 25), (.bin .lss (.tmp 19) (.tmp 24)), none, []⟩, ⟨(some 26), (.mov (.tmp 25)), none, []⟩, ⟨(some 27), (.mov (.tmp 6)), (some (26, true)), []⟩, ⟨(some 28), (.pick (.tmp 26) (.tmp 27) (.const (.bool false))), none, []⟩]) (.cond (.tmp 28) .skip (.exit 0))) (.seq (.block 1 (.seq (.ops [⟨(some 31), (.mov (.tmp 0)), none, []⟩, ⟨(some 32), (.nilChk (.tmp 31)), none, []⟩, ⟨(some 33), (.fAddr 2 (.tmp 32)), none, []⟩, ⟨(some 34), (.load1 (.tmp 33)), none, []⟩, ⟨(some 35), (.mov (.tmp 8)), none, []⟩, ⟨(some 36), (.iAddrSl 2 (.tmp 34) (.tmp 35)), none, []⟩, ⟨(some 37), (.fAddr 0 (.tmp 36)), none, []⟩, ⟨(some 38), (.load1 (.tmp 37)), none, []⟩, ⟨(some 39), (.mov (.tmp 5)), none, []⟩, ⟨(some 40), (.callv (.func 67) [(.tmp 38), (.tmp 39)]), none, []⟩, ⟨(some 9), (.mov (.tmp 40)), none, []⟩]) (.seq (.ops [⟨(some 41), (.mov (.tmp 9)), none, []⟩]) (.cond (.tmp 41) (.ops [⟨(some 42), (.mov (.tmp 7)), none, []⟩, ⟨(some 43), (.mov (.tmp 0)), none, []⟩, ⟨(some 44), (.nilChk (.tmp 43)), none, []⟩, ⟨(some 45), (.fAddr 2 (.tmp 44)), none, []⟩, ⟨(some 46), (.load1 (.tmp 45)), none, []⟩, ⟨(some 47), (.mov (.tmp 8)), none, []⟩, ⟨(some 48), (.iAddrSl 2 (.tmp 46) (.tmp 47)), none, []⟩, ⟨(some 49), (.loadN 2 (.tmp 48)), none, []⟩, ⟨(some 50), (.buildSlice 2 1 [(.string (bs [])), (.int .i64 0)] [(0, (2, (.tmp 49)))]), none, []⟩, ⟨(some 51), (.append 2 24 (.tmp 42) (.tmp 50)), none, []⟩, ⟨(some 7), (.mov (.tmp 51)), none, []⟩]) .skip)))) (.ops [⟨(some 29), (.mov (.tmp 8)), none, []⟩, ⟨(some 30), (.bin .add (.tmp 29) (.const (.int .i64 1))), none, []⟩, ⟨(some 8), (.mov (.tmp 30)), none, []⟩])))))) (.seq (.ops [⟨(some 52), (.mov (.tmp 7)), none, []⟩, ⟨(some 4), (.mov (.tmp 52)), none, []⟩]) .ret))))) [(.tmp 4)])
def g88 : AFunc := (.code 9 (.seq (.ops [⟨(some 2), (.mov (.const (.bool false))), none, []⟩]) (.seq (.ops [⟨(some 3), (.mov (.tmp 0)), none, []⟩, ⟨(some 4), (.bin .geq (.tmp 3) (.const (.int .i64 1))), none, []⟩, ⟨(some 5), (.mov (.tmp 4)), none, []⟩, ⟨(some 6), (.mov (.tmp 0)), (some (5, true)), []⟩, ⟨(some 7), (.bin .leq (.tmp 6) (.const (.int .i64 128))), (some (5, true)), []⟩, ⟨(some 8), (.pick (.tmp 5) (.tmp 7) (.const (.bool false))), none, []⟩, ⟨(some 2), (.mov (.tmp 8)), none, []⟩]) .ret)) [(.tmp 2)])
def g89 : AFunc := (.code 28 (.seq (.ops [⟨(some 2), (.box (.tmp 0)), none, []⟩, ⟨(some 4), (.alloc [(.int .u64 0), (.int .u64 0)]), none, []⟩]) (.seq (.seq (.ops [⟨(some 5), (.mov (.tmp 1)), none, []⟩, ⟨(some 6), (.bin .geq (.tmp 5) (.const (.int .i64 64))), none, []⟩]) (.cond (.tmp 6) (.seq (.ops [⟨(some 7), (.fAddr 0 (.tmp 2)), none, []⟩, ⟨(some 8), (.load1 (.tmp 7)), none, []⟩, ⟨(some 9), (.mov (.tmp 1)), none, []⟩, ⟨(some 10), (.bin .sub (.tmp 9) (.const (.int .i64 64))), none, []⟩, ⟨(some 11), (.bin .shr (.tmp 8) (.tmp 10)), none, []⟩, ⟨(some 12), (.build [(.int .u64 0), (.int .u64 0)] [(1, (1, (.tmp 11)))]), none, []⟩, ⟨none, (.store 2 (.tmp 4) (.tmp 12)), none, []⟩]) .ret) .skip)) (.seq (.ops [⟨(some 13), (.fAddr 0 (.tmp 2)), none, []⟩, ⟨(some 15), (.mov (.tmp 1)), none, []⟩, ⟨(some 17), (.fAddr 1 (.tmp 2)), none, []⟩, ⟨(some 19), (.mov (.tmp 1)), none, []⟩, ⟨(some 21), (.fAddr 0 (.tmp 2)), none, []⟩, ⟨(some 23), (.mov (.tmp 1)), none, []⟩, ⟨(some 24), (.bin .sub (.const (.int .i64 64)) (.tmp 23)), none, []⟩, ⟨(some 14), (.load1 (.tmp 13)), none, []⟩, ⟨(some 16), (.bin .shr (.tmp 14) (.tmp 15)), none, []⟩, ⟨(some 18), (.load1 (.tmp 17)), none, []⟩, ⟨(some 20), (.bin .shr (.tmp 18) (.tmp 19)), none, []⟩, ⟨(some 22), (.load1 (.tmp 21)), none, []⟩, ⟨(some 25), (.bin .shl (.tmp 22) (.tmp 24)), none, []⟩, ⟨(some 26), (.bin .or (.tmp 20) (.tmp 25)), none, []⟩, ⟨(some 27), (.build [(.int .u64 0), (.int .u64 0)] [(0, (1, (.tmp 16))), (1, (1, (.tmp 26)))]), none, []⟩, ⟨none, (.store 2 (.tmp 4) (.tmp 27)), none, []⟩]) .ret))) [(.cellN 4 2)])
def g90 : AFunc := (.code 28 (.seq (.ops [⟨(some 2), (.box (.tmp 0)), none, []⟩, ⟨(some 4), (.alloc [(.int .u64 0), (.int .u64 0)]), none, []⟩]) (.seq (.seq (.ops [⟨(some 5), (.mov (.tmp 1)), none, []⟩, ⟨(some 6), (.bin .geq (.tmp 5) (.const (.int .i64 64))), none, []⟩]) (.cond (.tmp 6) (.seq (.ops [⟨(some 7), (.fAddr 1 (.tmp 2)), none, []⟩, ⟨(some 8), (.load1 (.tmp 7)), none, []⟩, ⟨(some 9), (.mov (.tmp 1)), none, []⟩, ⟨(some 10), (.bin .sub (.tmp 9) (.const (.int .i64 64))), none, []⟩, ⟨(some 11), (.bin .shl (.tmp 8) (.tmp 10)), none, []⟩, ⟨(some 12), (.build [(.int .u64 0), (.int .u64 0)] [(0, (1, (.tmp 11)))]), none, []⟩, ⟨none, (.store 2 (.tmp 4) (.tmp 12)), none, []⟩]) .ret) .skip)) (.seq (.ops [⟨(some 13), (.fAddr 0 (.tmp 2)), none, []⟩, ⟨(some 15), (.mov (.tmp 1)), none, []⟩, ⟨(some 17), (.fAddr 1 (.tmp 2)), none, []⟩, ⟨(some 19), (.mov (.tmp 1)), none, []⟩, ⟨(some 20), (.bin .sub (.const (.int .i64 64)) (.tmp 19)), none, []⟩, ⟨(some 23), (.fAddr 1 (.tmp 2)), none, []⟩, ⟨(some 25), (.mov (.tmp 1)), none, []⟩, ⟨(some 14), (.load1 (.tmp 13)), none, []⟩, ⟨(some 16), (.bin .shl (.tmp 14) (.tmp 15)), none, []⟩, ⟨(some 18), (.load1 (.tmp 17)), none, []⟩, ⟨(some 21), (.bin .shr (.tmp 18) (.tmp 20)), none, []⟩, ⟨(some 22), (.bin .or (.tmp 16) (.tmp 21)), none, []⟩, ⟨(some 24), (.load1 (.tmp 23)), none, []⟩, ⟨(some 26), (.bin .shl (.tmp 24) (.tmp 25)), none, []⟩, ⟨(some 27), (.build [(.int .u64 0), (.int .u64 0)] [(0, (1, (.tmp 22))), (1, (1, (.tmp 26)))]), none, []⟩, ⟨none, (.store 2 (.tmp 4) (.tmp 27)), none, []⟩]) .ret))) [(.cellN 4 2)])
def g91 : AFunc := (.code 7 (.seq (.ops [⟨(some 2), (.alloc [(.int .u64 0), (.int .u64 0)]), none, []⟩]) (.seq (.ops [⟨(some 3), (.build [(.int .u64 0), (.int .u64 0)] [(0, (1, (.const (.int .u64 18446744073709551615)))), (1, (1, (.const (.int .u64 18446744073709551615))))]), none, []⟩, ⟨(some 4), (.mov (.tmp 0)), none, []⟩, ⟨(some 5), (.bin .sub (.const (.int .i64 128)) (.tmp 4)), none, []⟩, ⟨(some 6), (.callv (.func 89) [(.tmp 3), (.tmp 5)]), none, []⟩, ⟨none, (.store 2 (.tmp 2) (.tmp 6)), none, []⟩]) .ret)) [(.cellN 2 2)])
def g92 : AFunc := (.code 28 (.seq (.ops [⟨(some 3), (.box (.tmp 0)), none, []⟩, ⟨(some 6), (.mov (.const (.bool false))), none, []⟩]) (.seq (.seq (.ops [⟨(some 7), (.mov (.tmp 1)), none, []⟩, ⟨(some 8), (.callv (.func 88) [(.tmp 7)]), none, []⟩, ⟨(some 9), (.un .not (.tmp 8)), none, []⟩, ⟨(some 10), (.mov (.tmp 9)), none, []⟩, ⟨(some 11), (.mov (.tmp 2)), (some (10, false)), []⟩, ⟨(some 12), (.bin .lss (.tmp 11) (.const (.int .i64 0))), (some (10, false)), []⟩, ⟨(some 13), (.pick (.tmp 10) (.const (.bool true)) (.tmp 12)), none, []⟩, ⟨(some 14), (.mov (.tmp 13)), none, []⟩, ⟨(some 15), (.mov (.tmp 2)), (some (14, false)), []⟩, ⟨(some 16), (.mov (.tmp 1)), (some (14, false)), []⟩, ⟨(some 17), (.bin .geq (.tmp 15) (.tmp 16)), (some (14, false)), []⟩, ⟨(some 18), (.pick (.tmp 14) (.const (.bool true)) (.tmp 17)), none, []⟩]) (.cond (.tmp 18) (.seq (.ops [⟨(some 6), (.mov (.const (.bool false))), none, []⟩]) .ret) .skip)) (.seq (.ops [⟨(some 19), (.loadN 2 (.tmp 3)), none, []⟩, ⟨(some 20), (.mov (.tmp 1)), none, []⟩, ⟨(some 21), (.bin .sub (.tmp 20) (.const (.int .i64 1))), none, []⟩, ⟨(some 22), (.mov (.tmp 2)), none, []⟩, ⟨(some 23), (.bin .sub (.tmp 21) (.tmp 22)), none, []⟩, ⟨(some 24), (.callv (.func 89) [(.tmp 19), (.tmp 23)]), none, []⟩, ⟨(some 25), (.field1 1 (.tmp 24)), none, []⟩, ⟨(some 26), (.bin .and (.tmp 25) (.const (.int .u64 1))), none, []⟩, ⟨(some 27), (.bin .eql (.tmp 26) (.const (.int .u64 1))), none, []⟩, ⟨(some 6), (.mov (.tmp 27)), none, []⟩]) .ret))) [(.tmp 6)])
def g93 : AFunc := (.code 16 (.seq (.ops [⟨(some 2), (.box (.tmp 0)), none, []⟩, ⟨(some 3), (.box (.tmp 1)), none, []⟩, ⟨(some 4), (.alloc [(.int .u64 0), (.int .u64 0)]), none, []⟩]) (.seq (.ops [⟨(some 5), (.fAddr 0 (.tmp 2)), none, []⟩, ⟨(some 6), (.load1 (.tmp 5)), none, []⟩, ⟨(some 7), (.fAddr 0 (.tmp 3)), none, []⟩, ⟨(some 8), (.load1 (.tmp 7)), none, []⟩, ⟨(some 9), (.bin .xor (.tmp 6) (.tmp 8)), none, []⟩, ⟨(some 10), (.fAddr 1 (.tmp 2)), none, []⟩, ⟨(some 11), (.load1 (.tmp 10)), none, []⟩, ⟨(some 12), (.fAddr 1 (.tmp 3)), none, []⟩, ⟨(some 13), (.load1 (.tmp 12)), none, []⟩, ⟨(some 14), (.bin .xor (.tmp 11) (.tmp 13)), none, []⟩, ⟨(some 15), (.build [(.int .u64 0), (.int .u64 0)] [(0, (1, (.tmp 9))), (1, (1, (.tmp 14)))]), none, []⟩, ⟨none, (.store 2 (.tmp 4) (.tmp 15)), none, []⟩]) .ret)) [(.cellN 4 2)])
def g94 : AFunc := (.code 6 (.seq (.ops [⟨(some 2), (.mov (.const (.int .i64 0))), none, []⟩]) (.seq (.ops [⟨(some 3), (.mov (.tmp 0)), none, []⟩, ⟨(some 4), (.callv (.func 95) [(.tmp 3)]), none, []⟩, ⟨(some 5), (.bin .sub (.const (.int .i64 64)) (.tmp 4)), none, []⟩, ⟨(some 2), (.mov (.tmp 5)), none, []⟩]) .ret)) [(.tmp 2)])
def g95 : AFunc := (.code 25 (.seq (.ops [⟨(some 2), (.mov (.const (.int .i64 0))), none, []⟩]) (.seq (.seq (.ops [⟨(some 3), (.mov (.tmp 0)), none, []⟩, ⟨(some 4), (.bin .geq (.tmp 3) (.const (.int .u64 4294967296))), none, []⟩]) (.cond (.tmp 4) (.seq (.ops [⟨(some 5), (.mov (.tmp 0)), none, []⟩, ⟨(some 6), (.bin .shr (.tmp 5) (.const (.int .u64 32))), none, []⟩, ⟨(some 0), (.mov (.tmp 6)), none, []⟩]) (.ops [⟨(some 2), (.mov (.const (.int .i64 32))), none, []⟩])) .skip)) (.seq (.seq (.ops [⟨(some 7), (.mov (.tmp 0)), none, []⟩, ⟨(some 8), (.bin .geq (.tmp 7) (.const (.int .u64 65536))), none, []⟩]) (.cond (.tmp 8) (.seq (.ops [⟨(some 9), (.mov (.tmp 0)), none, []⟩, ⟨(some 10), (.bin .shr (.tmp 9) (.const (.int .u64 16))), none, []⟩, ⟨(some 0), (.mov (.tmp 10)), none, []⟩]) (.ops [⟨(some 11), (.mov (.tmp 2)), none, []⟩, ⟨(some 12), (.bin .add (.tmp 11) (.const (.int .i64 16))), none, []⟩, ⟨(some 2), (.mov (.tmp 12)), none, []⟩])) .skip)) (.seq (.seq (.ops [⟨(some 13), (.mov (.tmp 0)), none, []⟩, ⟨(some 14), (.bin .geq (.tmp 13) (.const (.int .u64 256))), none, []⟩]) (.cond (.tmp 14) (.seq (.ops [⟨(some 15), (.mov (.tmp 0)), none, []⟩, ⟨(some 16), (.bin .shr (.tmp 15) (.const (.int .u64 8))), none, []⟩, ⟨(some 0), (.mov (.tmp 16)), none, []⟩]) (.ops [⟨(some 17), (.mov (.tmp 2)), none, []⟩, ⟨(some 18), (.bin .add (.tmp 17) (.const (.int .i64 8))), none, []⟩, ⟨(some 2), (.mov (.tmp 18)), none, []⟩])) .skip)) (.seq (.ops [⟨(some 19), (.mov (.tmp 2)), none, []⟩, ⟨(some 20), (.mov (.tmp 0)), none, []⟩, ⟨(some 21), (.conv .u8 (.tmp 20)), none, []⟩, ⟨(some 22), (.idxStr (.const (.string (bs [0, 1, 2, 2, 3, 3, 3, 3, 4, 4, 4, 4, 4, 4, 4, 4, 5, 5, 5, 5, 5, 5, 5, 5, 5, 5, 5, 5, 5, 5, 5, 5, 6, 6, 6, 6, 6, 6, 6, 6, 6, 6, 6, 6, 6, 6, 6, 6, 6, 6, 6, 6, 6, 6, 6, 6, 6, 6, 6, 6, 6, 6, 6, 6, 7, 7, 7, 7, 7, 7, 7, 7, 7, 7, 7, 7, 7, 7, 7, 7, 7, 7, 7, 7, 7, 7, 7, 7, 7, 7, 7, 7, 7, 7, 7, 7, 7, 7, 7, 7, 7, 7, 7, 7, 7, 7, 7, 7, 7, 7, 7, 7, 7, 7, 7, 7, 7, 7, 7, 7, 7, 7, 7, 7, 7, 7, 7, 7, 8, 8, 8, 8, 8, 8, 8, 8, 8, 8, 8, 8, 8, 8, 8, 8, 8, 8, 8, 8, 8, 8, 8, 8, 8, 8, 8, 8, 8, 8, 8, 8, 8, 8, 8, 8, 8, 8, 8, 8, 8, 8, 8, 8, 8, 8, 8, 8, 8, 8, 8, 8, 8, 8, 8, 8, 8, 8, 8, 8, 8, 8, 8, 8, 8, 8, 8, 8, 8, 8, 8, 8, 8, 8, 8, 8, 8, 8, 8, 8, 8, 8, 8, 8, 8, 8, 8, 8, 8, 8, 8, 8, 8, 8, 8, 8, 8, 8, 8, 8, 8, 8, 8, 8, 8, 8, 8, 8, 8, 8, 8, 8, 8, 8, 8, 8, 8, 8, 8, 8, 8, 8, 8, 8, 8, 8, 8, 8]))) (.tmp 21)), none, []⟩, ⟨(some 23), (.conv .i64 (.tmp 22)), none, []⟩, ⟨(some 24), (.bin .add (.tmp 19) (.tmp 23)), none, []⟩, ⟨(some 2), (.mov (.tmp 24)), none, []⟩]) .ret))))) [(.tmp 2)])
end Go.Proofs.Yticgkaanaimllaa.Ev

/- The table of the evaluator's functions; each is what the program's own function is laid as. Conditions: none. -/
namespace Go.Proofs.Yticgkaanaimllaa.Ev
set_option maxRecDepth 100000
noncomputable def T : Pg := ⟨Try.prog, Try.prog.globals.size⟩
theorem follows : T.P.follows .mixedOrders = true := by kernel_rfl
theorem t6 : Laid T 6 g6 := ⟨Try.f6, Try.func6, by kernel_rfl⟩
theorem t7 : Laid T 7 g7 := ⟨Try.f7, Try.func7, by kernel_rfl⟩
theorem t9 : Laid T 9 g9 := ⟨Try.f9, Try.func9, by kernel_rfl⟩
theorem t10 : Laid T 10 g10 := ⟨Try.f10, Try.func10, by kernel_rfl⟩
theorem t11 : Laid T 11 g11 := ⟨Try.f11, Try.func11, by kernel_rfl⟩
theorem t12 : Laid T 12 g12 := ⟨Try.f12, Try.func12, by kernel_rfl⟩
theorem t13 : Laid T 13 g13 := ⟨Try.f13, Try.func13, by kernel_rfl⟩
theorem t14 : Laid T 14 g14 := ⟨Try.f14, Try.func14, by kernel_rfl⟩
theorem t15 : Laid T 15 g15 := ⟨Try.f15, Try.func15, by kernel_rfl⟩
theorem t16 : Laid T 16 g16 := ⟨Try.f16, Try.func16, by kernel_rfl⟩
theorem t17 : Laid T 17 g17 := ⟨Try.f17, Try.func17, by kernel_rfl⟩
theorem t18 : Laid T 18 g18 := ⟨Try.f18, Try.func18, by kernel_rfl⟩
theorem t19 : Laid T 19 g19 := ⟨Try.f19, Try.func19, by kernel_rfl⟩
theorem t28 : Laid T 28 g28 := ⟨Try.f28, Try.func28, by kernel_rfl⟩
theorem t29 : Laid T 29 g29 := ⟨Try.f29, Try.func29, by kernel_rfl⟩
theorem t30 : Laid T 30 g30 := ⟨Try.f30, Try.func30, by kernel_rfl⟩
theorem t31 : Laid T 31 g31 := ⟨Try.f31, Try.func31, by kernel_rfl⟩
theorem t32 : Laid T 32 g32 := ⟨Try.f32, Try.func32, by kernel_rfl⟩
theorem t33 : Laid T 33 g33 := ⟨Try.f33, Try.func33, by kernel_rfl⟩
theorem t34 : Laid T 34 g34 := ⟨Try.f34, Try.func34, by kernel_rfl⟩
theorem t35 : Laid T 35 g35 := ⟨Try.f35, Try.func35, by kernel_rfl⟩
theorem t36 : Laid T 36 g36 := ⟨Try.f36, Try.func36, by kernel_rfl⟩
theorem t37 : Laid T 37 g37 := ⟨Try.f37, Try.func37, by kernel_rfl⟩
theorem t38 : Laid T 38 g38 := ⟨Try.f38, Try.func38, by kernel_rfl⟩
theorem t39 : Laid T 39 g39 := ⟨Try.f39, Try.func39, by kernel_rfl⟩
theorem t40 : Laid T 40 g40 := ⟨Try.f40, Try.func40, by kernel_rfl⟩
theorem t41 : Laid T 41 g41 := ⟨Try.f41, Try.func41, by kernel_rfl⟩
theorem t42 : Laid T 42 g42 := ⟨Try.f42, Try.func42, by kernel_rfl⟩
theorem t43 : Laid T 43 g43 := ⟨Try.f43, Try.func43, by kernel_rfl⟩
theorem t44 : Laid T 44 g44 := ⟨Try.f44, Try.func44, by kernel_rfl⟩
theorem t45 : Laid T 45 g45 := ⟨Try.f45, Try.func45, by kernel_rfl⟩
theorem t46 : Laid T 46 g46 := ⟨Try.f46, Try.func46, by kernel_rfl⟩
theorem t47 : Laid T 47 g47 := ⟨Try.f47, Try.func47, by kernel_rfl⟩
theorem t48 : Laid T 48 g48 := ⟨Try.f48, Try.func48, by kernel_rfl⟩
theorem t49 : Laid T 49 g49 := ⟨Try.f49, Try.func49, by kernel_rfl⟩
theorem t50 : Laid T 50 g50 := ⟨Try.f50, Try.func50, by kernel_rfl⟩
theorem t51 : Laid T 51 g51 := ⟨Try.f51, Try.func51, by kernel_rfl⟩
theorem t60 : Laid T 60 g60 := ⟨Try.f60, Try.func60, by kernel_rfl⟩
theorem t61 : Laid T 61 g61 := ⟨Try.f61, Try.func61, by kernel_rfl⟩
theorem t62 : Laid T 62 g62 := ⟨Try.f62, Try.func62, by kernel_rfl⟩
theorem t63 : Laid T 63 g63 := ⟨Try.f63, Try.func63, by kernel_rfl⟩
theorem t64 : Laid T 64 g64 := ⟨Try.f64, Try.func64, by kernel_rfl⟩
theorem t65 : Laid T 65 g65 := ⟨Try.f65, Try.func65, by kernel_rfl⟩
theorem t66 : Laid T 66 g66 := ⟨Try.f66, Try.func66, by kernel_rfl⟩
theorem t67 : Laid T 67 g67 := ⟨Try.f67, Try.func67, by kernel_rfl⟩
theorem t68 : Laid T 68 g68 := ⟨Try.f68, Try.func68, by kernel_rfl⟩
theorem t69 : Laid T 69 g69 := ⟨Try.f69, Try.func69, by kernel_rfl⟩
theorem t70 : Laid T 70 g70 := ⟨Try.f70, Try.func70, by kernel_rfl⟩
theorem t71 : Laid T 71 g71 := ⟨Try.f71, Try.func71, by kernel_rfl⟩
theorem t72 : Laid T 72 g72 := ⟨Try.f72, Try.func72, by kernel_rfl⟩
theorem t73 : Laid T 73 g73 := ⟨Try.f73, Try.func73, by kernel_rfl⟩
theorem t74 : Laid T 74 g74 := ⟨Try.f74, Try.func74, by kernel_rfl⟩
theorem t75 : Laid T 75 g75 := ⟨Try.f75, Try.func75, by kernel_rfl⟩
theorem t76 : Laid T 76 g76 := ⟨Try.f76, Try.func76, by kernel_rfl⟩
theorem t77 : Laid T 77 g77 := ⟨Try.f77, Try.func77, by kernel_rfl⟩
theorem t78 : Laid T 78 g78 := ⟨Try.f78, Try.func78, by kernel_rfl⟩
theorem t79 : Laid T 79 g79 := ⟨Try.f79, Try.func79, by kernel_rfl⟩
theorem t80 : Laid T 80 g80 := ⟨Try.f80, Try.func80, by kernel_rfl⟩
theorem t86 : Laid T 86 g86 := ⟨Try.f86, Try.func86, by kernel_rfl⟩
theorem t87 : Laid T 87 g87 := ⟨Try.f87, Try.func87, by kernel_rfl⟩
theorem t88 : Laid T 88 g88 := ⟨Try.f88, Try.func88, by kernel_rfl⟩
theorem t89 : Laid T 89 g89 := ⟨Try.f89, Try.func89, by kernel_rfl⟩
theorem t90 : Laid T 90 g90 := ⟨Try.f90, Try.func90, by kernel_rfl⟩
theorem t91 : Laid T 91 g91 := ⟨Try.f91, Try.func91, by kernel_rfl⟩
theorem t92 : Laid T 92 g92 := ⟨Try.f92, Try.func92, by kernel_rfl⟩
theorem t93 : Laid T 93 g93 := ⟨Try.f93, Try.func93, by kernel_rfl⟩
theorem t94 : Laid T 94 g94 := ⟨Try.f94, Try.func94, by kernel_rfl⟩
theorem t95 : Laid T 95 g95 := ⟨Try.f95, Try.func95, by kernel_rfl⟩
def Tab : Table := fun f =>
  match f with
  | 6 => some g6
  | 7 => some g7
  | 9 => some g9
  | 10 => some g10
  | 11 => some g11
  | 12 => some g12
  | 13 => some g13
  | 14 => some g14
  | 15 => some g15
  | 16 => some g16
  | 17 => some g17
  | 18 => some g18
  | 19 => some g19
  | 28 => some g28
  | 29 => some g29
  | 30 => some g30
  | 31 => some g31
  | 32 => some g32
  | 33 => some g33
  | 34 => some g34
  | 35 => some g35
  | 36 => some g36
  | 37 => some g37
  | 38 => some g38
  | 39 => some g39
  | 40 => some g40
  | 41 => some g41
  | 42 => some g42
  | 43 => some g43
  | 44 => some g44
  | 45 => some g45
  | 46 => some g46
  | 47 => some g47
  | 48 => some g48
  | 49 => some g49
  | 50 => some g50
  | 51 => some g51
  | 60 => some g60
  | 61 => some g61
  | 62 => some g62
  | 63 => some g63
  | 64 => some g64
  | 65 => some g65
  | 66 => some g66
  | 67 => some g67
  | 68 => some g68
  | 69 => some g69
  | 70 => some g70
  | 71 => some g71
  | 72 => some g72
  | 73 => some g73
  | 74 => some g74
  | 75 => some g75
  | 76 => some g76
  | 77 => some g77
  | 78 => some g78
  | 79 => some g79
  | 80 => some g80
  | 86 => some g86
  | 87 => some g87
  | 88 => some g88
  | 89 => some g89
  | 90 => some g90
  | 91 => some g91
  | 92 => some g92
  | 93 => some g93
  | 94 => some g94
  | 95 => some g95
  | _ => none
theorem table_ok : TableOK T.P T.G Tab := by
  intro f af h
  unfold Tab at h
  split at h
  · cases h; exact t6
  · cases h; exact t7
  · cases h; exact t9
  · cases h; exact t10
  · cases h; exact t11
  · cases h; exact t12
  · cases h; exact t13
  · cases h; exact t14
  · cases h; exact t15
  · cases h; exact t16
  · cases h; exact t17
  · cases h; exact t18
  · cases h; exact t19
  · cases h; exact t28
  · cases h; exact t29
  · cases h; exact t30
  · cases h; exact t31
  · cases h; exact t32
  · cases h; exact t33
  · cases h; exact t34
  · cases h; exact t35
  · cases h; exact t36
  · cases h; exact t37
  · cases h; exact t38
  · cases h; exact t39
  · cases h; exact t40
  · cases h; exact t41
  · cases h; exact t42
  · cases h; exact t43
  · cases h; exact t44
  · cases h; exact t45
  · cases h; exact t46
  · cases h; exact t47
  · cases h; exact t48
  · cases h; exact t49
  · cases h; exact t50
  · cases h; exact t51
  · cases h; exact t60
  · cases h; exact t61
  · cases h; exact t62
  · cases h; exact t63
  · cases h; exact t64
  · cases h; exact t65
  · cases h; exact t66
  · cases h; exact t67
  · cases h; exact t68
  · cases h; exact t69
  · cases h; exact t70
  · cases h; exact t71
  · cases h; exact t72
  · cases h; exact t73
  · cases h; exact t74
  · cases h; exact t75
  · cases h; exact t76
  · cases h; exact t77
  · cases h; exact t78
  · cases h; exact t79
  · cases h; exact t80
  · cases h; exact t86
  · cases h; exact t87
  · cases h; exact t88
  · cases h; exact t89
  · cases h; exact t90
  · cases h; exact t91
  · cases h; exact t92
  · cases h; exact t93
  · cases h; exact t94
  · cases h; exact t95
  · cases h
end Go.Proofs.Yticgkaanaimllaa.Ev

/- Values of 128 bits as two words: plain laws of bits. -/
namespace Go.Proofs.Yticgkaanaimllaa.Ev
set_option maxRecDepth 100000
set_option linter.unusedSimpArgs false
set_option linter.unusedVariables false

def W64 : Nat := 2 ^ 64
theorem W64_eq : W64 = 18446744073709551616 := rfl

theorem wr_u64n (n : Nat) : IntKind.wrap .u64 (n : Int) = ((n % W64 : Nat) : Int) := by
  simp [IntKind.wrap, IntKind.signed, IntKind.bits, W64]

theorem bin_shr64 {k' : IntKind} {a b : Nat} (hb : b ≤ 64) : binV .shr (.int .u64 (a : Int)) (.int k' (b : Int)) = some (.int .u64 ((a >>> b : Nat) : Int)) := by
  have e : pr (Op.shift .shr .u64 (a : Int) k' (b : Int)) = some (.int .u64 ((a : Int).fdiv (2 ^ min b 64))) := by
    simp only [Op.shift, if_neg (show ¬ ((b : Int) < 0) by omega), Int.toNat_natCast]
    rfl
  simp only [binV, intBin, if_neg (show ¬ ((b : Int) < 0) by omega), e, Nat.min_eq_left hb]
  rw [Int.fdiv_eq_ediv_of_nonneg _ (by exact_mod_cast Nat.zero_le _), Nat.shiftRight_eq_div_pow]
  norm_cast

theorem bin_shl64 {k' : IntKind} {a b : Nat} (hb : b ≤ 64) : binV .shl (.int .u64 (a : Int)) (.int k' (b : Int)) = some (.int .u64 (((a <<< b) % W64 : Nat) : Int)) := by
  have e : pr (Op.shift .shl .u64 (a : Int) k' (b : Int)) = some (.int .u64 (IntKind.wrap .u64 ((a : Int) * (2 ^ min b 64)))) := by
    simp only [Op.shift, if_neg (show ¬ ((b : Int) < 0) by omega), Int.toNat_natCast]
    rfl
  simp only [binV, intBin, if_neg (show ¬ ((b : Int) < 0) by omega), e, Nat.min_eq_left hb]
  rw [show ((a : Int) * 2 ^ b) = ((a * 2 ^ b : Nat) : Int) by norm_cast, wr_u64n, Nat.shiftLeft_eq]

theorem ofInt_nat (a : Nat) : (BitVec.ofInt IntKind.u64.bits (a : Int)).toNat = a % W64 := by
  rw [BitVec.ofInt_natCast, BitVec.toNat_ofNat]
  rfl

theorem bin_and64 {a b : Nat} (ha : a < 18446744073709551616) (hb : b < 18446744073709551616) : binV .and (.int .u64 (a : Int)) (.int .u64 (b : Int)) = some (.int .u64 ((a &&& b : Nat) : Int)) := by
  have e : pr (Op.intBits .and .u64 (a : Int) (b : Int)) = some (.int .u64 (IntKind.wrap .u64 ((BitVec.ofInt IntKind.u64.bits (a : Int) &&& BitVec.ofInt IntKind.u64.bits (b : Int)).toNat : Int))) := rfl
  simp only [binV, intBin, if_true, e]
  rw [BitVec.toNat_and, ofInt_nat, ofInt_nat, W64, Nat.mod_eq_of_lt (by omega), Nat.mod_eq_of_lt (by omega), wr_u64n, Nat.mod_eq_of_lt]
  exact Nat.lt_of_le_of_lt Nat.and_le_left ha
theorem bin_or64 {a b : Nat} (ha : a < 18446744073709551616) (hb : b < 18446744073709551616) : binV .or (.int .u64 (a : Int)) (.int .u64 (b : Int)) = some (.int .u64 ((a ||| b : Nat) : Int)) := by
  have e : pr (Op.intBits .or .u64 (a : Int) (b : Int)) = some (.int .u64 (IntKind.wrap .u64 ((BitVec.ofInt IntKind.u64.bits (a : Int) ||| BitVec.ofInt IntKind.u64.bits (b : Int)).toNat : Int))) := rfl
  simp only [binV, intBin, if_true, e]
  rw [BitVec.toNat_or, ofInt_nat, ofInt_nat, W64, Nat.mod_eq_of_lt (by omega), Nat.mod_eq_of_lt (by omega), wr_u64n, Nat.mod_eq_of_lt]
  exact Nat.or_lt_two_pow (n := 64) ha hb
theorem bin_xor64 {a b : Nat} (ha : a < 18446744073709551616) (hb : b < 18446744073709551616) : binV .xor (.int .u64 (a : Int)) (.int .u64 (b : Int)) = some (.int .u64 ((a ^^^ b : Nat) : Int)) := by
  have e : pr (Op.intBits .xor .u64 (a : Int) (b : Int)) = some (.int .u64 (IntKind.wrap .u64 ((BitVec.ofInt IntKind.u64.bits (a : Int) ^^^ BitVec.ofInt IntKind.u64.bits (b : Int)).toNat : Int))) := rfl
  simp only [binV, intBin, if_true, e]
  rw [BitVec.toNat_xor, ofInt_nat, ofInt_nat, W64, Nat.mod_eq_of_lt (by omega), Nat.mod_eq_of_lt (by omega), wr_u64n, Nat.mod_eq_of_lt]
  exact Nat.xor_lt_two_pow (n := 64) ha hb

/-! Two words. -/
theorem hi_lt {v : Nat} (h : v < 2 ^ 128) : v / W64 < 18446744073709551616 := by
  rw [W64_eq]
  have : (2 : Nat) ^ 128 = 18446744073709551616 * 18446744073709551616 := by decide
  omega
theorem lo_lt (v : Nat) : v % W64 < 18446744073709551616 := Nat.mod_lt _ (by decide)

theorem shr_hi {v n : Nat} : (v >>> n) / W64 = (v / W64) >>> n := by
  simp only [W64, Nat.shiftRight_eq_div_pow, Nat.div_div_eq_div_mul, Nat.mul_comm]
theorem shr_lo {v n : Nat} (hn : n ≤ 64) : (v >>> n) % W64 = ((v % W64) >>> n) ||| (((v / W64) <<< (64 - n)) % W64) := by
  refine Nat.eq_of_testBit_eq fun i => ?_
  simp only [W64, Nat.testBit_mod_two_pow, Nat.testBit_shiftRight, Nat.testBit_or, Nat.testBit_shiftLeft, Nat.testBit_div_two_pow]
  by_cases h1 : i < 64
  · by_cases h2 : n + i < 64
    · have h3 : ¬ (64 - n ≤ i) := by omega
      simp [h1, h2, h3]
    · have h3 : 64 - n ≤ i := by omega
      have h4 : i - (64 - n) + 64 = n + i := by omega
      simp [h1, h2, h3, h4]
  · have h2 : ¬ (n + i < 64) := by omega
    simp [h1, h2]
theorem shr_hi2 {v n : Nat} (hv : v < 2 ^ 128) (hn : 64 ≤ n) : (v >>> n) / W64 = 0 := by
  rw [shr_hi, Nat.shiftRight_eq_div_pow]
  have h1 := hi_lt hv
  refine Nat.div_eq_of_lt (Nat.lt_of_lt_of_le h1 ?_)
  exact Nat.pow_le_pow_right (n := 2) (by omega) hn
theorem shr_lo2 {v n : Nat} (hv : v < 2 ^ 128) (hn : 64 ≤ n) : (v >>> n) % W64 = (v / W64) >>> (n - 64) := by
  have : v >>> n = (v / W64) >>> (n - 64) := by
    rw [W64, ← Nat.shiftRight_eq_div_pow, ← Nat.shiftRight_add]
    congr 1
    omega
  rw [this]
  refine Nat.mod_eq_of_lt (Nat.lt_of_le_of_lt (Nat.shiftRight_le _ _) ?_)
  exact hi_lt hv

/-- Cut to 128 bits. -/
def shl (v n : Nat) : Nat := (v <<< n) % 2 ^ 128
theorem shl_lt (v n : Nat) : shl v n < 2 ^ 128 := Nat.mod_lt _ (by decide)
theorem testBit_shl (v n i : Nat) : (shl v n).testBit i = (decide (i < 128) && (decide (n ≤ i) && v.testBit (i - n))) := by
  simp only [shl, Nat.testBit_mod_two_pow, Nat.testBit_shiftLeft]
theorem shl_hi {v n : Nat} (hv : v < 2 ^ 128) (hn : n ≤ 64) : shl v n / W64 = (((v / W64) <<< n) % W64) ||| ((v % W64) >>> (64 - n)) := by
  refine Nat.eq_of_testBit_eq fun i => ?_
  simp only [W64, Nat.testBit_mod_two_pow, Nat.testBit_shiftRight, Nat.testBit_or, Nat.testBit_shiftLeft, Nat.testBit_div_two_pow, testBit_shl]
  by_cases h1 : i < 64
  · have h0 : i + 64 < 128 := by omega
    have h00 : n ≤ i + 64 := by omega
    by_cases h2 : n ≤ i
    · have h3 : ¬ (64 - n + i < 64) := by omega
      have h4 : i + 64 - n = i - n + 64 := by omega
      simp [h0, h00, h1, h2, h3, h4]
    · have h3 : 64 - n + i < 64 := by omega
      have h4 : i + 64 - n = 64 - n + i := by omega
      simp [h0, h00, h1, h2, h3, h4]
  · have h0 : ¬ i + 64 < 128 := by omega
    have h3 : ¬ (64 - n + i < 64) := by omega
    simp [h0, h1, h3]
theorem shl_lo {v n : Nat} (hn : n ≤ 64) : shl v n % W64 = ((v % W64) <<< n) % W64 := by
  refine Nat.eq_of_testBit_eq fun i => ?_
  simp only [W64, Nat.testBit_mod_two_pow, Nat.testBit_shiftLeft, testBit_shl]
  by_cases h1 : i < 64
  · have h0 : i < 128 := by omega
    have h2 : i - n < 64 := by omega
    simp [h0, h1, h2]
  · simp [h1]
theorem shl_hi2 {v n : Nat} (hn : 64 ≤ n) : shl v n / W64 = ((v % W64) <<< (n - 64)) % W64 := by
  refine Nat.eq_of_testBit_eq fun i => ?_
  simp only [W64, Nat.testBit_mod_two_pow, Nat.testBit_shiftLeft, Nat.testBit_div_two_pow, testBit_shl]
  by_cases h1 : i < 64
  · have h0 : i + 64 < 128 := by omega
    by_cases h2 : n ≤ i + 64
    · have h3 : n - 64 ≤ i := by omega
      have h4 : i - (n - 64) < 64 := by omega
      have h5 : i + 64 - n = i - (n - 64) := by omega
      simp [h0, h1, h2, h3, h4, h5]
    · have h3 : ¬ n - 64 ≤ i := by omega
      simp [h0, h1, h2, h3]
  · have h0 : ¬ i + 64 < 128 := by omega
    simp [h0, h1]
theorem shl_lo2 {v n : Nat} (hn : 64 ≤ n) : shl v n % W64 = 0 := by
  refine Nat.eq_of_testBit_eq fun i => ?_
  simp only [W64, Nat.testBit_mod_two_pow, testBit_shl, Nat.zero_testBit]
  by_cases h1 : i < 64
  · have h2 : ¬ n ≤ i := by omega
    simp [h1, h2]
  · simp [h1]
theorem and_hi (v w : Nat) : (v &&& w) / W64 = (v / W64) &&& (w / W64) := by
  refine Nat.eq_of_testBit_eq fun i => ?_
  simp only [W64, Nat.testBit_and, Nat.testBit_div_two_pow]
theorem and_lo (v w : Nat) : (v &&& w) % W64 = (v % W64) &&& (w % W64) := by
  refine Nat.eq_of_testBit_eq fun i => ?_
  simp only [W64, Nat.testBit_and, Nat.testBit_mod_two_pow]
  cases decide (i < 64) <;> simp
theorem xor_hi (v w : Nat) : (v ^^^ w) / W64 = (v / W64) ^^^ (w / W64) := by
  refine Nat.eq_of_testBit_eq fun i => ?_
  simp only [W64, Nat.testBit_xor, Nat.testBit_div_two_pow]
theorem xor_lo (v w : Nat) : (v ^^^ w) % W64 = (v % W64) ^^^ (w % W64) := by
  refine Nat.eq_of_testBit_eq fun i => ?_
  simp only [W64, Nat.testBit_xor, Nat.testBit_mod_two_pow]
  cases decide (i < 64) <;> simp
theorem two_words {v w : Nat} : v = w ↔ v / W64 = w / W64 ∧ v % W64 = w % W64 :=
  ⟨fun h => by rw [h]; exact ⟨rfl, rfl⟩, fun h => by rw [← Nat.div_add_mod v W64, ← Nat.div_add_mod w W64, h.1, h.2]⟩

end Go.Proofs.Yticgkaanaimllaa.Ev

/- Values of 128 bits: the program's functions over them. -/
namespace Go.Proofs.Yticgkaanaimllaa.Ev
set_option maxRecDepth 100000
set_option linter.unusedSimpArgs false
set_option linter.unusedVariables false
variable {R : FRes → Heap → Prop} {H : Heap}

abbrev bvA (v : Nat) : Value := .agg #[.int .u64 ((v / W64 : Nat) : Int), .int .u64 ((v % W64 : Nat) : Int)]
theorem scoped_bv {n : Nat} (v : Nat) : Scoped n (bvA v) := .closed rfl

/-- Is it a width? -/
def isw (w : Int) : Bool := decide (1 ≤ w) && decide (w ≤ 128)

theorem isw_s {w : Int} (h : R (.ret (.bool (isw w))) H) : WD T 88 [.int .i64 w] H R := by
  refine WD.gc0 (WD.of follows t88 (by simp) ?_)
  unfold isw at h
  by_cases h1 : 1 ≤ w
  · by_cases h2 : w ≤ 128
    · simp (disch := omega) only [kB, kcx, kdm, kdn, kel, aop, resultsL, resultOf, Nat.reduceEqDiff, reduceCtorEq, eq1, apartOK, apart2, AObj.live, Int.reduceEq, Int.reduceLT, Int.reduceLE, Int.reduceAdd, Int.reduceSub, Int.reduceMul, Int.reduceToNat, cutCells, Nat.reduceAdd, Nat.reduceLeDiff, Nat.reduceLT, Nat.reduceMul, Nat.reduceSub, h1, h2]
      simp only [h1, h2, decide_true, Bool.and_self] at h
      exact ⟨_, rfl, ⟨[], (List.append_nil _).symm⟩, .closed rfl, h⟩
    · simp (disch := omega) only [kB, kcx, kdm, kdn, kel, aop, resultsL, resultOf, Nat.reduceEqDiff, reduceCtorEq, eq1, apartOK, apart2, AObj.live, Int.reduceEq, Int.reduceLT, Int.reduceLE, Int.reduceAdd, Int.reduceSub, Int.reduceMul, Int.reduceToNat, cutCells, Nat.reduceAdd, Nat.reduceLeDiff, Nat.reduceLT, Nat.reduceMul, Nat.reduceSub, h1, h2]
      simp only [h1, h2, decide_true, decide_false, Bool.and_false] at h
      exact ⟨_, rfl, ⟨[], (List.append_nil _).symm⟩, .closed rfl, h⟩
  · simp (disch := omega) only [kB, kcx, kdm, kdn, kel, aop, resultsL, resultOf, Nat.reduceEqDiff, reduceCtorEq, eq1, apartOK, apart2, AObj.live, Int.reduceEq, Int.reduceLT, Int.reduceLE, Int.reduceAdd, Int.reduceSub, Int.reduceMul, Int.reduceToNat, cutCells, Nat.reduceAdd, Nat.reduceLeDiff, Nat.reduceLT, Nat.reduceMul, Nat.reduceSub, h1]
    simp only [h1, decide_false, Bool.false_and] at h
    exact ⟨_, rfl, ⟨[], (List.append_nil _).symm⟩, .closed rfl, h⟩

theorem right_s {v n : Nat} (hv : v < 2 ^ 128) (hn : n ≤ 128) (h : R (.ret (bvA (v >>> n))) H) : WD T 89 [bvA v, .int .i64 n] H R := by
  refine WD.gc0 (WD.of follows t89 (by simp) ?_)
  have b1 := hi_lt hv
  have b2 := lo_lt v
  by_cases h1 : 64 ≤ n
  · have h1' : (64 : Int) ≤ (n : Int) := by omega
    have e := bin_shr64 (k' := .i64) (a := v / W64) (b := n - 64) (by omega)
    have e2 : ((n - 64 : Nat) : Int) = (n : Int) - 64 := by omega
    rw [e2] at e
    rw [bvA, shr_hi2 hv h1, shr_lo2 hv h1] at h
    simp (disch := omega) only [kB, kcx, kdm, kdn, kel, aop, resultsL, resultOf, Nat.reduceEqDiff, reduceCtorEq, eq1, apartOK, apart2, AObj.live, Int.reduceEq, Int.reduceLT, Int.reduceLE, Int.reduceAdd, Int.reduceSub, Int.reduceMul, Int.reduceToNat, cutCells, Nat.reduceAdd, Nat.reduceLeDiff, Nat.reduceLT, Nat.reduceMul, Nat.reduceSub, h1', wr_i64, e]
    exact ⟨_, rfl, ⟨_, rfl⟩, .closed rfl, h⟩
  · have h1' : ¬ (64 : Int) ≤ (n : Int) := by omega
    have e1 := bin_shr64 (k' := .i64) (a := v / W64) (b := n) (by omega)
    have e2 := bin_shr64 (k' := .i64) (a := v % W64) (b := n) (by omega)
    have e3 := bin_shl64 (k' := .i64) (a := v / W64) (b := 64 - n) (by omega)
    have e4 : ((64 - n : Nat) : Int) = 64 - (n : Int) := by omega
    rw [e4] at e3
    have e5 := bin_or64 (a := (v % W64) >>> n) (b := ((v / W64) <<< (64 - n)) % W64) (Nat.lt_of_le_of_lt (Nat.shiftRight_le _ _) b2) (lo_lt _)
    rw [bvA, shr_hi, shr_lo (by omega)] at h
    simp (disch := omega) only [kB, kcx, kdm, kdn, kel, aop, resultsL, resultOf, Nat.reduceEqDiff, reduceCtorEq, eq1, apartOK, apart2, AObj.live, Int.reduceEq, Int.reduceLT, Int.reduceLE, Int.reduceAdd, Int.reduceSub, Int.reduceMul, Int.reduceToNat, cutCells, Nat.reduceAdd, Nat.reduceLeDiff, Nat.reduceLT, Nat.reduceMul, Nat.reduceSub, h1', wr_i64, e1, e2, e3, e5]
    exact ⟨_, rfl, ⟨_, rfl⟩, .closed rfl, h⟩

theorem left_s {v n : Nat} (hv : v < 2 ^ 128) (hn : n ≤ 128) (h : R (.ret (bvA (shl v n))) H) : WD T 90 [bvA v, .int .i64 n] H R := by
  refine WD.gc0 (WD.of follows t90 (by simp) ?_)
  have b1 := hi_lt hv
  have b2 := lo_lt v
  by_cases h1 : 64 ≤ n
  · have h1' : (64 : Int) ≤ (n : Int) := by omega
    have e := bin_shl64 (k' := .i64) (a := v % W64) (b := n - 64) (by omega)
    have e2 : ((n - 64 : Nat) : Int) = (n : Int) - 64 := by omega
    rw [e2] at e
    rw [bvA, shl_hi2 h1, shl_lo2 h1] at h
    simp (disch := omega) only [kB, kcx, kdm, kdn, kel, aop, resultsL, resultOf, Nat.reduceEqDiff, reduceCtorEq, eq1, apartOK, apart2, AObj.live, Int.reduceEq, Int.reduceLT, Int.reduceLE, Int.reduceAdd, Int.reduceSub, Int.reduceMul, Int.reduceToNat, cutCells, Nat.reduceAdd, Nat.reduceLeDiff, Nat.reduceLT, Nat.reduceMul, Nat.reduceSub, h1', wr_i64, e]
    exact ⟨_, rfl, ⟨_, rfl⟩, .closed rfl, h⟩
  · have h1' : ¬ (64 : Int) ≤ (n : Int) := by omega
    have e1 := bin_shl64 (k' := .i64) (a := v / W64) (b := n) (by omega)
    have e2 := bin_shr64 (k' := .i64) (a := v % W64) (b := 64 - n) (by omega)
    have e3 := bin_shl64 (k' := .i64) (a := v % W64) (b := n) (by omega)
    have e4 : ((64 - n : Nat) : Int) = 64 - (n : Int) := by omega
    rw [e4] at e2
    have e5 := bin_or64 (a := ((v / W64) <<< n) % W64) (b := (v % W64) >>> (64 - n)) (lo_lt _) (Nat.lt_of_le_of_lt (Nat.shiftRight_le _ _) b2)
    rw [bvA, shl_hi hv (by omega), shl_lo (by omega)] at h
    simp (disch := omega) only [kB, kcx, kdm, kdn, kel, aop, resultsL, resultOf, Nat.reduceEqDiff, reduceCtorEq, eq1, apartOK, apart2, AObj.live, Int.reduceEq, Int.reduceLT, Int.reduceLE, Int.reduceAdd, Int.reduceSub, Int.reduceMul, Int.reduceToNat, cutCells, Nat.reduceAdd, Nat.reduceLeDiff, Nat.reduceLT, Nat.reduceMul, Nat.reduceSub, h1', wr_i64, e1, e2, e3, e5]
    exact ⟨_, rfl, ⟨_, rfl⟩, .closed rfl, h⟩

def onesN (n : Nat) : Nat := 2 ^ n - 1
theorem ones_shr {n : Nat} (hn : n ≤ 128) : (2 ^ 128 - 1) >>> (128 - n) = onesN n := by
  rw [Nat.shiftRight_eq_div_pow, onesN]
  have h1 : 2 ^ 128 = 2 ^ n * 2 ^ (128 - n) := by rw [← Nat.pow_add]; congr 1; omega
  have h2 : 0 < 2 ^ (128 - n) := Nat.pow_pos (by decide)
  have h3 : 0 < 2 ^ n := Nat.pow_pos (by decide)
  rw [h1]
  refine Nat.div_eq_of_lt_le ?_ ?_
  · rw [Nat.sub_mul, Nat.one_mul]; omega
  · rw [Nat.add_mul, Nat.sub_mul, Nat.one_mul]
    have : 2 ^ (128 - n) ≤ 2 ^ n * 2 ^ (128 - n) := Nat.le_mul_of_pos_left _ h3
    omega
theorem onesN_lt {n : Nat} (hn : n ≤ 128) : onesN n < 2 ^ 128 := by
  have := Nat.pow_le_pow_right (n := 2) (by omega) hn
  have h3 : 0 < 2 ^ n := Nat.pow_pos (by decide)
  unfold onesN
  omega

theorem ones_s {n : Nat} (hn : n ≤ 128) (h : R (.ret (bvA (onesN n))) H) : WD T 91 [.int .i64 n] H R := by
  refine WD.gc0 (WD.of follows t91 (by simp) ?_)
  have e1 : (128 : Int) - (n : Int) = ((128 - n : Nat) : Int) := by omega
  simp (disch := omega) only [kB, kcx, kdm, kdn, kel, aop, resultsL, resultOf, Nat.reduceEqDiff, reduceCtorEq, eq1, apartOK, apart2, AObj.live, Int.reduceEq, Int.reduceLT, Int.reduceLE, Int.reduceAdd, Int.reduceSub, Int.reduceMul, Int.reduceToNat, cutCells, Nat.reduceAdd, Nat.reduceLeDiff, Nat.reduceLT, Nat.reduceMul, Nat.reduceSub, wr_i64, e1]
  refine right_s (v := 2 ^ 128 - 1) (n := 128 - n) (by decide) (by omega) ?_
  rw [ones_shr hn]
  simp (disch := omega) only [kB, kcx, kdm, kdn, kel, aop, resultsL, resultOf, Nat.reduceEqDiff, reduceCtorEq, eq1, apartOK, apart2, AObj.live, Int.reduceEq, Int.reduceLT, Int.reduceLE, Int.reduceAdd, Int.reduceSub, Int.reduceMul, Int.reduceToNat, cutCells, Nat.reduceAdd, Nat.reduceLeDiff, Nat.reduceLT, Nat.reduceMul, Nat.reduceSub]
  exact ⟨_, rfl, ⟨_, rfl⟩, .closed rfl, h⟩

/-- The n highest bits of a width. -/
def maskN (w n : Nat) : Nat := shl (onesN n) (w - n)

theorem mask_s {w n : Nat} (hw : 1 ≤ w) (hw2 : w ≤ 128) (hn : n ≤ w) (h : R (.ret (.tuple #[bvA (maskN w n), .int .i64 0])) H) : WD T 74 [.int .i64 w, .int .i64 n] H R := by
  refine WD.gc0 (WD.of follows t74 (by simp) ?_)
  simp (disch := omega) only [kB, kcx, kdm, kdn, kel, aop, resultsL, resultOf, Nat.reduceEqDiff, reduceCtorEq, eq1, apartOK, apart2, AObj.live, Int.reduceEq, Int.reduceLT, Int.reduceLE, Int.reduceAdd, Int.reduceSub, Int.reduceMul, Int.reduceToNat, cutCells, Nat.reduceAdd, Nat.reduceLeDiff, Nat.reduceLT, Nat.reduceMul, Nat.reduceSub]
  refine isw_s ?_
  have e0 : isw (w : Int) = true := by simp [isw]; omega
  have e1 : ¬ (n : Int) < 0 := by omega
  have e2 : ¬ (w : Int) < (n : Int) := by omega
  have e3 : (w : Int) - (n : Int) = ((w - n : Nat) : Int) := by omega
  simp (disch := omega) only [kB, kcx, kdm, kdn, kel, aop, resultsL, resultOf, Nat.reduceEqDiff, reduceCtorEq, eq1, apartOK, apart2, AObj.live, Int.reduceEq, Int.reduceLT, Int.reduceLE, Int.reduceAdd, Int.reduceSub, Int.reduceMul, Int.reduceToNat, cutCells, Nat.reduceAdd, Nat.reduceLeDiff, Nat.reduceLT, Nat.reduceMul, Nat.reduceSub, e0, e1, e2]
  refine ones_s (by omega) ?_
  simp (disch := omega) only [kB, kcx, kdm, kdn, kel, aop, resultsL, resultOf, Nat.reduceEqDiff, reduceCtorEq, eq1, apartOK, apart2, AObj.live, Int.reduceEq, Int.reduceLT, Int.reduceLE, Int.reduceAdd, Int.reduceSub, Int.reduceMul, Int.reduceToNat, cutCells, Nat.reduceAdd, Nat.reduceLeDiff, Nat.reduceLT, Nat.reduceMul, Nat.reduceSub, wr_i64, e3]
  refine left_s (onesN_lt (by omega)) (by omega) ?_
  simp (disch := omega) only [kB, kcx, kdm, kdn, kel, aop, resultsL, resultOf, Nat.reduceEqDiff, reduceCtorEq, eq1, apartOK, apart2, AObj.live, Int.reduceEq, Int.reduceLT, Int.reduceLE, Int.reduceAdd, Int.reduceSub, Int.reduceMul, Int.reduceToNat, cutCells, Nat.reduceAdd, Nat.reduceLeDiff, Nat.reduceLT, Nat.reduceMul, Nat.reduceSub]
  exact ⟨_, rfl, ⟨_, rfl⟩, .tup2 (.closed rfl) (.closed rfl), h⟩

theorem and_s {v w : Nat} (hv : v < 2 ^ 128) (hw : w < 2 ^ 128) (h : R (.ret (bvA (v &&& w))) H) : WD T 75 [bvA v, bvA w] H R := by
  refine WD.gc0 (WD.of follows t75 (by simp) ?_)
  have e1 := bin_and64 (hi_lt hv) (hi_lt hw)
  have e2 := bin_and64 (lo_lt v) (lo_lt w)
  rw [bvA, and_hi, and_lo] at h
  simp (disch := omega) only [kB, kcx, kdm, kdn, kel, aop, resultsL, resultOf, Nat.reduceEqDiff, reduceCtorEq, eq1, apartOK, apart2, AObj.live, Int.reduceEq, Int.reduceLT, Int.reduceLE, Int.reduceAdd, Int.reduceSub, Int.reduceMul, Int.reduceToNat, cutCells, Nat.reduceAdd, Nat.reduceLeDiff, Nat.reduceLT, Nat.reduceMul, Nat.reduceSub, e1, e2]
  exact ⟨_, rfl, ⟨_, rfl⟩, .closed rfl, h⟩

theorem xor_s {v w : Nat} (hv : v < 2 ^ 128) (hw : w < 2 ^ 128) (h : R (.ret (bvA (v ^^^ w))) H) : WD T 93 [bvA v, bvA w] H R := by
  refine WD.gc0 (WD.of follows t93 (by simp) ?_)
  have e1 := bin_xor64 (hi_lt hv) (hi_lt hw)
  have e2 := bin_xor64 (lo_lt v) (lo_lt w)
  rw [bvA, xor_hi, xor_lo] at h
  simp (disch := omega) only [kB, kcx, kdm, kdn, kel, aop, resultsL, resultOf, Nat.reduceEqDiff, reduceCtorEq, eq1, apartOK, apart2, AObj.live, Int.reduceEq, Int.reduceLT, Int.reduceLE, Int.reduceAdd, Int.reduceSub, Int.reduceMul, Int.reduceToNat, cutCells, Nat.reduceAdd, Nat.reduceLeDiff, Nat.reduceLT, Nat.reduceMul, Nat.reduceSub, e1, e2]
  exact ⟨_, rfl, ⟨_, rfl⟩, .closed rfl, h⟩

/-! The number of a word's bits. -/
def bitLen : Nat → Nat → Nat
  | 0, _ => 0
  | k + 1, n => if n = 0 then 0 else bitLen k (n / 2) + 1

end Go.Proofs.Yticgkaanaimllaa.Ev

/- Values of 128 bits: lengths, common bits, single bits. -/
namespace Go.Proofs.Yticgkaanaimllaa.Ev
set_option maxRecDepth 100000
set_option linter.unusedSimpArgs false
set_option linter.unusedVariables false
variable {R : FRes → Heap → Prop} {H : Heap}

/-- How many bits a number has. -/
def blen (n : Nat) : Nat := if n = 0 then 0 else n.log2 + 1
theorem blen_le {n m : Nat} : blen n ≤ m ↔ n < 2 ^ m := by
  unfold blen
  by_cases h : n = 0
  · subst h
    simp
    exact Nat.pow_pos (by decide)
  · rw [if_neg h]
    exact Nat.log2_lt h
theorem blen_eq {a b : Nat} (h : ∀ m, a ≤ m ↔ b ≤ m) : a = b := Nat.le_antisymm ((h b).2 (Nat.le_refl _)) ((h a).1 (Nat.le_refl _))
theorem blen_shr (x k : Nat) : blen (x >>> k) = blen x - k := by
  refine blen_eq fun m => ?_
  rw [blen_le, Nat.shiftRight_eq_div_pow, Nat.div_lt_iff_lt_mul (Nat.pow_pos (by decide)), ← Nat.pow_add, ← blen_le]
  omega
theorem blen_ge {x k : Nat} (h : 2 ^ k ≤ x) : blen x = blen (x >>> k) + k := by
  rw [blen_shr]
  have : ¬ blen x ≤ k := fun q => absurd (blen_le.1 q) (Nat.not_lt.2 h)
  omega
theorem blen_zero : blen 0 = 0 := rfl
theorem blen_pos {x : Nat} (h : x ≠ 0) : 0 < blen x := by
  unfold blen
  rw [if_neg h]
  omega

def len8 : List UInt8 := (List.range 256).map fun n => UInt8.ofNat (blen n)
theorem len8_get {x : Nat} (h : x < 256) : len8[x]? = some (UInt8.ofNat (blen x)) := by simp [len8, h]
theorem len8_eq : len8 = [0, 1, 2, 2, 3, 3, 3, 3, 4, 4, 4, 4, 4, 4, 4, 4, 5, 5, 5, 5, 5, 5, 5, 5, 5, 5, 5, 5, 5, 5, 5, 5, 6, 6, 6, 6, 6, 6, 6, 6, 6, 6, 6, 6, 6, 6, 6, 6, 6, 6, 6, 6, 6, 6, 6, 6, 6, 6, 6, 6, 6, 6, 6, 6,
  7, 7, 7, 7, 7, 7, 7, 7, 7, 7, 7, 7, 7, 7, 7, 7, 7, 7, 7, 7, 7, 7, 7, 7, 7, 7, 7, 7, 7, 7, 7, 7, 7, 7, 7, 7, 7, 7, 7, 7, 7, 7, 7, 7, 7, 7, 7, 7, 7, 7, 7, 7, 7, 7, 7, 7, 7, 7, 7, 7, 7, 7, 7, 7,
  8, 8, 8, 8, 8, 8, 8, 8, 8, 8, 8, 8, 8, 8, 8, 8, 8, 8, 8, 8, 8, 8, 8, 8, 8, 8, 8, 8, 8, 8, 8, 8, 8, 8, 8, 8, 8, 8, 8, 8, 8, 8, 8, 8, 8, 8, 8, 8, 8, 8, 8, 8, 8, 8, 8, 8, 8, 8, 8, 8, 8, 8, 8, 8,
  8, 8, 8, 8, 8, 8, 8, 8, 8, 8, 8, 8, 8, 8, 8, 8, 8, 8, 8, 8, 8, 8, 8, 8, 8, 8, 8, 8, 8, 8, 8, 8, 8, 8, 8, 8, 8, 8, 8, 8, 8, 8, 8, 8, 8, 8, 8, 8, 8, 8, 8, 8, 8, 8, 8, 8, 8, 8, 8, 8, 8, 8, 8, 8] := by decide +kernel

abbrev QL (R : FRes → Heap → Prop) : Post := retK [.tmp 2] R

theorem len64_3 {z n : Nat} (hx : z < 256) (hn : n ≤ 56) {e : Env} (he : (∃ x : Nat → Value, e = [.int .u64 (z : Int), x 1, .int .i64 (n : Int), x 3, x 4, x 5, x 6, x 7, x 8, x 9, x 10, x 11, x 12, x 13, x 14, x 15, x 16, x 17, x 18, x 19, x 20, x 21, x 22, x 23, x 24])) (h : R (.ret (.int .i64 ((blen z + n : Nat) : Int))) H) : WC T (g95.body.at [1, 1, 1, 1]) e H (QL R) := by
  obtain ⟨y, rfl⟩ := he
  simp only [AFunc.body, g95, ACode.at]
  rw [← len8_eq]
  have h8 := len8_get hx
  have hl : len8.length = 256 := by decide +kernel
  have hb : blen z ≤ 8 := blen_le.2 hx
  have hw : IntKind.wrap .u8 (z : Int) = z := by
    simp [IntKind.wrap, IntKind.signed, IntKind.bits]
    omega
  have hu : ((UInt8.ofNat (blen z)).toNat : Int) = blen z := by
    rw [UInt8.toNat_ofNat']
    omega
  have hx' : ((z : Nat) : Int) < 256 := by omega
  have hs : (n : Int) + (blen z : Int) = ((blen z + n : Nat) : Int) := by omega
  simp (disch := omega) only [kB, kcx, kdm, kdn, kel, aop, resultsL, resultOf, Nat.reduceEqDiff, reduceCtorEq, eq1, apartOK, apart2, AObj.live, Int.reduceEq, Int.reduceLT, Int.reduceLE, Int.reduceAdd, Int.reduceSub, Int.reduceMul, Int.reduceToNat, cutCells, Nat.reduceAdd, Nat.reduceLeDiff, Nat.reduceLT, Nat.reduceMul, Nat.reduceSub, hw, hl, h8, hu, wr_i64, hs]
  exact h

theorem len64_2 {z n : Nat} (hx : z < 65536) (hn : n ≤ 48) {e : Env} (he : (∃ x : Nat → Value, e = [.int .u64 (z : Int), x 1, .int .i64 (n : Int), x 3, x 4, x 5, x 6, x 7, x 8, x 9, x 10, x 11, x 12, x 13, x 14, x 15, x 16, x 17, x 18, x 19, x 20, x 21, x 22, x 23, x 24])) (h : R (.ret (.int .i64 ((blen z + n : Nat) : Int))) H) : WC T (g95.body.at [1, 1, 1]) e H (QL R) := by
  obtain ⟨y, rfl⟩ := he
  obtain ⟨Z, hZ⟩ : ∃ Z, Z = WC T (g95.body.at [1, 1, 1, 1]) := ⟨_, rfl⟩
  have hrest : ∀ (z n : Nat) (e : Env), z < 256 → n ≤ 56 → (∃ x : Nat → Value, e = [.int .u64 (z : Int), x 1, .int .i64 (n : Int), x 3, x 4, x 5, x 6, x 7, x 8, x 9, x 10, x 11, x 12, x 13, x 14, x 15, x 16, x 17, x 18, x 19, x 20, x 21, x 22, x 23, x 24]) → R (.ret (.int .i64 ((blen z + n : Nat) : Int))) H → Z e H (QL R) := fun z n e h1 h2 he hR => by rw [hZ]; exact len64_3 h1 h2 he hR
  have hZ' := hZ.symm
  clear hZ
  simp only [AFunc.body, g95, ACode.at] at hZ' ⊢
  by_cases h1 : 256 ≤ z
  · have h1' : (256 : Int) ≤ (z : Int) := by omega
    have e1 := bin_shr64 (k' := .u64) (a := z) (b := 8) (by omega)
    have e2 : (((8 : Nat) : Int)) = 8 := rfl
    rw [e2] at e1
    have hs : (n : Int) + 8 = ((n + 8 : Nat) : Int) := by omega
    simp (disch := omega) only [kB, kcx, kdm, kdn, kel, aop, resultsL, resultOf, Nat.reduceEqDiff, reduceCtorEq, eq1, apartOK, apart2, AObj.live, Int.reduceEq, Int.reduceLT, Int.reduceLE, Int.reduceAdd, Int.reduceSub, Int.reduceMul, Int.reduceToNat, cutCells, Nat.reduceAdd, Nat.reduceLeDiff, Nat.reduceLT, Nat.reduceMul, Nat.reduceSub, hZ', h1', e1, wr_i64, hs]
    refine hrest (z >>> 8) (n + 8) _ (by rw [Nat.shiftRight_eq_div_pow]; omega) (by omega) (by exact ex_env rfl) ?_
    rw [blen_ge (k := 8) (by omega)] at h
    rwa [show blen (z >>> 8) + (n + 8) = blen (z >>> 8) + 8 + n by omega]
  · have h1' : ¬ (256 : Int) ≤ (z : Int) := by omega
    simp (disch := omega) only [kB, kcx, kdm, kdn, kel, aop, resultsL, resultOf, Nat.reduceEqDiff, reduceCtorEq, eq1, apartOK, apart2, AObj.live, Int.reduceEq, Int.reduceLT, Int.reduceLE, Int.reduceAdd, Int.reduceSub, Int.reduceMul, Int.reduceToNat, cutCells, Nat.reduceAdd, Nat.reduceLeDiff, Nat.reduceLT, Nat.reduceMul, Nat.reduceSub, hZ', h1']
    exact hrest z n _ (by omega) (by omega) (by exact ex_env rfl) h

theorem len64_1 {z n : Nat} (hx : z < 4294967296) (hn : n ≤ 32) {e : Env} (he : (∃ x : Nat → Value, e = [.int .u64 (z : Int), x 1, .int .i64 (n : Int), x 3, x 4, x 5, x 6, x 7, x 8, x 9, x 10, x 11, x 12, x 13, x 14, x 15, x 16, x 17, x 18, x 19, x 20, x 21, x 22, x 23, x 24])) (h : R (.ret (.int .i64 ((blen z + n : Nat) : Int))) H) : WC T (g95.body.at [1, 1]) e H (QL R) := by
  obtain ⟨y, rfl⟩ := he
  obtain ⟨Z, hZ⟩ : ∃ Z, Z = WC T (g95.body.at [1, 1, 1]) := ⟨_, rfl⟩
  have hrest : ∀ (z n : Nat) (e : Env), z < 65536 → n ≤ 48 → (∃ x : Nat → Value, e = [.int .u64 (z : Int), x 1, .int .i64 (n : Int), x 3, x 4, x 5, x 6, x 7, x 8, x 9, x 10, x 11, x 12, x 13, x 14, x 15, x 16, x 17, x 18, x 19, x 20, x 21, x 22, x 23, x 24]) → R (.ret (.int .i64 ((blen z + n : Nat) : Int))) H → Z e H (QL R) := fun z n e h1 h2 he hR => by rw [hZ]; exact len64_2 h1 h2 he hR
  have hZ' := hZ.symm
  clear hZ
  simp only [AFunc.body, g95, ACode.at] at hZ' ⊢
  by_cases h1 : 65536 ≤ z
  · have h1' : (65536 : Int) ≤ (z : Int) := by omega
    have e1 := bin_shr64 (k' := .u64) (a := z) (b := 16) (by omega)
    have e2 : (((16 : Nat) : Int)) = 16 := rfl
    rw [e2] at e1
    have hs : (n : Int) + 16 = ((n + 16 : Nat) : Int) := by omega
    simp (disch := omega) only [kB, kcx, kdm, kdn, kel, aop, resultsL, resultOf, Nat.reduceEqDiff, reduceCtorEq, eq1, apartOK, apart2, AObj.live, Int.reduceEq, Int.reduceLT, Int.reduceLE, Int.reduceAdd, Int.reduceSub, Int.reduceMul, Int.reduceToNat, cutCells, Nat.reduceAdd, Nat.reduceLeDiff, Nat.reduceLT, Nat.reduceMul, Nat.reduceSub, hZ', h1', e1, wr_i64, hs]
    refine hrest (z >>> 16) (n + 16) _ (by rw [Nat.shiftRight_eq_div_pow]; omega) (by omega) (by exact ex_env rfl) ?_
    rw [blen_ge (k := 16) (by omega)] at h
    rwa [show blen (z >>> 16) + (n + 16) = blen (z >>> 16) + 16 + n by omega]
  · have h1' : ¬ (65536 : Int) ≤ (z : Int) := by omega
    simp (disch := omega) only [kB, kcx, kdm, kdn, kel, aop, resultsL, resultOf, Nat.reduceEqDiff, reduceCtorEq, eq1, apartOK, apart2, AObj.live, Int.reduceEq, Int.reduceLT, Int.reduceLE, Int.reduceAdd, Int.reduceSub, Int.reduceMul, Int.reduceToNat, cutCells, Nat.reduceAdd, Nat.reduceLeDiff, Nat.reduceLT, Nat.reduceMul, Nat.reduceSub, hZ', h1']
    exact hrest z n _ (by omega) (by omega) (by exact ex_env rfl) h

theorem len64_s {z : Nat} (hx : z < 18446744073709551616) (h : R (.ret (.int .i64 (blen z : Nat))) H) : WD T 95 [.int .u64 (z : Int)] H R := by
  obtain ⟨Z, hZ⟩ : ∃ Z, Z = WC T (g95.body.at [1, 1]) := ⟨_, rfl⟩
  have hrest : ∀ (z n : Nat) (e : Env), z < 4294967296 → n ≤ 32 → (∃ x : Nat → Value, e = [.int .u64 (z : Int), x 1, .int .i64 (n : Int), x 3, x 4, x 5, x 6, x 7, x 8, x 9, x 10, x 11, x 12, x 13, x 14, x 15, x 16, x 17, x 18, x 19, x 20, x 21, x 22, x 23, x 24]) → R (.ret (.int .i64 ((blen z + n : Nat) : Int))) H → Z e H (QL R) := fun z n e h1 h2 he hR => by rw [hZ]; exact len64_1 h1 h2 he hR
  have hZ' := hZ.symm
  clear hZ
  simp only [AFunc.body, g95, ACode.at] at hZ'
  refine WD.of follows t95 (by simp) ?_
  by_cases h1 : 4294967296 ≤ z
  · have h1' : (4294967296 : Int) ≤ (z : Int) := by omega
    have e1 := bin_shr64 (k' := .u64) (a := z) (b := 32) (by omega)
    have e2 : (((32 : Nat) : Int)) = 32 := rfl
    rw [e2] at e1
    simp (disch := omega) only [kB, kcx, kdm, kdn, kel, aop, resultsL, resultOf, Nat.reduceEqDiff, reduceCtorEq, eq1, apartOK, apart2, AObj.live, Int.reduceEq, Int.reduceLT, Int.reduceLE, Int.reduceAdd, Int.reduceSub, Int.reduceMul, Int.reduceToNat, cutCells, Nat.reduceAdd, Nat.reduceLeDiff, Nat.reduceLT, Nat.reduceMul, Nat.reduceSub, hZ', h1', e1, wr_i64]
    refine hrest (z >>> 32) 32 _ (by rw [Nat.shiftRight_eq_div_pow]; omega) (by omega) (by exact ex_env rfl) ?_
    rwa [blen_ge (k := 32) (by omega)] at h
  · have h1' : ¬ (4294967296 : Int) ≤ (z : Int) := by omega
    simp (disch := omega) only [kB, kcx, kdm, kdn, kel, aop, resultsL, resultOf, Nat.reduceEqDiff, reduceCtorEq, eq1, apartOK, apart2, AObj.live, Int.reduceEq, Int.reduceLT, Int.reduceLE, Int.reduceAdd, Int.reduceSub, Int.reduceMul, Int.reduceToNat, cutCells, Nat.reduceAdd, Nat.reduceLeDiff, Nat.reduceLT, Nat.reduceMul, Nat.reduceSub, hZ', h1']
    exact hrest z 0 _ (by omega) (by omega) (by exact ex_env rfl) h

end Go.Proofs.Yticgkaanaimllaa.Ev

/- Values of 128 bits: common bits, single bits, what fits. -/
namespace Go.Proofs.Yticgkaanaimllaa.Ev
set_option maxRecDepth 100000
set_option linter.unusedSimpArgs false
set_option linter.unusedVariables false
variable {R : FRes → Heap → Prop} {H : Heap}

theorem lz_s {z : Nat} (hx : z < 18446744073709551616) (h : R (.ret (.int .i64 ((64 - blen z : Nat) : Int))) H) : WD T 94 [.int .u64 (z : Int)] H R := by
  refine WD.of follows t94 (by simp) ?_
  simp (disch := omega) only [kB, kcx, kdm, kdn, kel, aop, resultsL, resultOf, Nat.reduceEqDiff, reduceCtorEq, eq1, apartOK, apart2, AObj.live, Int.reduceEq, Int.reduceLT, Int.reduceLE, Int.reduceAdd, Int.reduceSub, Int.reduceMul, Int.reduceToNat, cutCells, Nat.reduceAdd, Nat.reduceLeDiff, Nat.reduceLT, Nat.reduceMul, Nat.reduceSub]
  refine len64_s hx ?_
  have hb : blen z ≤ 64 := blen_le.2 hx
  have hs : (64 : Int) - (blen z : Int) = ((64 - blen z : Nat) : Int) := by omega
  simp (disch := omega) only [kB, kcx, kdm, kdn, kel, aop, resultsL, resultOf, Nat.reduceEqDiff, reduceCtorEq, eq1, apartOK, apart2, AObj.live, Int.reduceEq, Int.reduceLT, Int.reduceLE, Int.reduceAdd, Int.reduceSub, Int.reduceMul, Int.reduceToNat, cutCells, Nat.reduceAdd, Nat.reduceLeDiff, Nat.reduceLT, Nat.reduceMul, Nat.reduceSub, wr_i64, hs]
  exact h

theorem shl_eq {z k m : Nat} (hz : z < 2 ^ m) (hm : m + k ≤ 128) : shl z k = z * 2 ^ k := by
  unfold shl
  rw [Nat.shiftLeft_eq]
  refine Nat.mod_eq_of_lt (Nat.lt_of_lt_of_le (Nat.mul_lt_mul_of_pos_right hz (Nat.pow_pos (by decide))) ?_)
  rw [← Nat.pow_add]
  exact Nat.pow_le_pow_right (by decide) hm
theorem blen_mul {z k : Nat} (hz : z ≠ 0) : blen (z * 2 ^ k) = blen z + k := by
  have h1 : (z * 2 ^ k) >>> k = z := by rw [Nat.shiftRight_eq_div_pow, Nat.mul_div_cancel _ (Nat.pow_pos (by decide))]
  have h2 : 2 ^ k ≤ z * 2 ^ k := Nat.le_mul_of_pos_left _ (by omega)
  rw [blen_ge h2, h1]

/-- How many of the highest bits of a width two numbers have in common. -/
def cmn (w a b : Nat) : Nat := w - blen (a ^^^ b)

theorem mm_two {k : IntKind} {a b : Nat} : mmL false (.int k (a : Int)) [.int k (b : Int)] = some (.int k ((min a b : Nat) : Int)) := by
  simp only [mmL, mm2, if_true, Bool.false_eq_true, if_false]
  by_cases h : (b : Int) < (a : Int)
  · rw [if_pos h, Nat.min_eq_right (by omega)]
  · rw [if_neg h, Nat.min_eq_left (by omega)]
theorem mm_three {k : IntKind} {a b c : Nat} : mmL false (.int k (a : Int)) [.int k (b : Int), .int k (c : Int)] = some (.int k ((min (min a b) c : Nat) : Int)) := by
  have h1 := mm_two (k := k) (a := a) (b := b)
  have h2 := mm_two (k := k) (a := min a b) (b := c)
  simp only [mmL] at h1 h2 ⊢
  cases hm : mm2 false (.int k (a : Int)) (.int k (b : Int)) with
  | none => rw [hm] at h1; cases h1
  | some z => rw [hm] at h1; cases h1; exact h2

theorem common_s {w a b : Nat} (hw : 1 ≤ w) (hw2 : w ≤ 128) (ha : a < 2 ^ w) (hb : b < 2 ^ w) (h : R (.ret (.int .i64 (cmn w a b : Nat))) H) : WD T 78 [bvA a, bvA b, .int .i64 w] H R := by
  refine WD.gc0 (WD.of follows t78 (by simp) ?_)
  have hp : 2 ^ w ≤ 2 ^ 128 := Nat.pow_le_pow_right (by decide) hw2
  have e0 : isw (w : Int) = true := by simp [isw]; omega
  simp (disch := omega) only [kB, kcx, kdm, kdn, kel, aop, resultsL, resultOf, Nat.reduceEqDiff, reduceCtorEq, eq1, apartOK, apart2, AObj.live, Int.reduceEq, Int.reduceLT, Int.reduceLE, Int.reduceAdd, Int.reduceSub, Int.reduceMul, Int.reduceToNat, cutCells, Nat.reduceAdd, Nat.reduceLeDiff, Nat.reduceLT, Nat.reduceMul, Nat.reduceSub]
  refine isw_s ?_
  simp (disch := omega) only [kB, kcx, kdm, kdn, kel, aop, resultsL, resultOf, Nat.reduceEqDiff, reduceCtorEq, eq1, apartOK, apart2, AObj.live, Int.reduceEq, Int.reduceLT, Int.reduceLE, Int.reduceAdd, Int.reduceSub, Int.reduceMul, Int.reduceToNat, cutCells, Nat.reduceAdd, Nat.reduceLeDiff, Nat.reduceLT, Nat.reduceMul, Nat.reduceSub, e0]
  refine xor_s (by omega) (by omega) ?_
  have e1 : (128 : Int) - (w : Int) = ((128 - w : Nat) : Int) := by omega
  have hx : a ^^^ b < 2 ^ w := Nat.xor_lt_two_pow ha hb
  simp (disch := omega) only [kB, kcx, kdm, kdn, kel, aop, resultsL, resultOf, Nat.reduceEqDiff, reduceCtorEq, eq1, apartOK, apart2, AObj.live, Int.reduceEq, Int.reduceLT, Int.reduceLE, Int.reduceAdd, Int.reduceSub, Int.reduceMul, Int.reduceToNat, cutCells, Nat.reduceAdd, Nat.reduceLeDiff, Nat.reduceLT, Nat.reduceMul, Nat.reduceSub, wr_i64, e1]
  refine left_s (by omega) (by omega) ?_
  have hs := shl_eq (k := 128 - w) hx (by omega)
  have hlt := shl_lt (a ^^^ b) (128 - w)
  have h1 : blen (shl (a ^^^ b) (128 - w) / W64) = blen (shl (a ^^^ b) (128 - w)) - 64 := by
    rw [W64, ← Nat.shiftRight_eq_div_pow, blen_shr]
  have h2 := hi_lt hlt
  have h3 := lo_lt (shl (a ^^^ b) (128 - w))
  have hbl : blen (a ^^^ b) ≤ w := blen_le.2 hx
  have hbl2 : blen (shl (a ^^^ b) (128 - w)) = if a ^^^ b = 0 then 0 else blen (a ^^^ b) + (128 - w) := by
    rw [hs]
    split
    · rename_i q; rw [q, Nat.zero_mul]; rfl
    · rename_i q; exact blen_mul q
  have hdm := Nat.div_add_mod (shl (a ^^^ b) (128 - w)) W64
  have hz0 : a ^^^ b = 0 → blen (a ^^^ b) = 0 := fun q => by rw [q]; rfl
  generalize hS : shl (a ^^^ b) (128 - w) = s at *
  by_cases hh : s / W64 = 0
  · have hh' : ((s / W64 : Nat) : Int) = 0 := by omega
    simp (disch := omega) only [kB, kcx, kdm, kdn, kel, aop, resultsL, resultOf, Nat.reduceEqDiff, reduceCtorEq, eq1, apartOK, apart2, AObj.live, Int.reduceEq, Int.reduceLT, Int.reduceLE, Int.reduceAdd, Int.reduceSub, Int.reduceMul, Int.reduceToNat, cutCells, Nat.reduceAdd, Nat.reduceLeDiff, Nat.reduceLT, Nat.reduceMul, Nat.reduceSub, hh']
    refine lz_s h3 ?_
    have hsl : s % W64 = s := by rw [hh, Nat.mul_zero, Nat.zero_add] at hdm; exact hdm
    have hb64 : blen s ≤ 64 := by rw [hh] at h1; have : blen 0 = 0 := rfl; omega
    rw [hsl]
    have e2 : (64 : Int) + ((64 - blen s : Nat) : Int) = ((128 - blen s : Nat) : Int) := by omega
    have e3 : min w (128 - blen s) = cmn w a b := by
      unfold cmn
      rw [hbl2]
      split
      · rename_i q; rw [hz0 q]; omega
      · omega
    have e4 := mm_two (k := .i64) (a := w) (b := 128 - blen s)
    rw [e3] at e4
    simp (disch := omega) only [kB, kcx, kdm, kdn, kel, aop, resultsL, resultOf, Nat.reduceEqDiff, reduceCtorEq, eq1, apartOK, apart2, AObj.live, Int.reduceEq, Int.reduceLT, Int.reduceLE, Int.reduceAdd, Int.reduceSub, Int.reduceMul, Int.reduceToNat, cutCells, Nat.reduceAdd, Nat.reduceLeDiff, Nat.reduceLT, Nat.reduceMul, Nat.reduceSub, wr_i64, e2, e4]
    exact ⟨_, rfl, ⟨_, rfl⟩, .closed rfl, h⟩
  · have hh' : ¬ ((s / W64 : Nat) : Int) = 0 := by omega
    simp (disch := omega) only [kB, kcx, kdm, kdn, kel, aop, resultsL, resultOf, Nat.reduceEqDiff, reduceCtorEq, eq1, apartOK, apart2, AObj.live, Int.reduceEq, Int.reduceLT, Int.reduceLE, Int.reduceAdd, Int.reduceSub, Int.reduceMul, Int.reduceToNat, cutCells, Nat.reduceAdd, Nat.reduceLeDiff, Nat.reduceLT, Nat.reduceMul, Nat.reduceSub, hh']
    refine lz_s h2 ?_
    rw [h1]
    have hpos := blen_pos hh
    have hx0 : ¬ a ^^^ b = 0 := fun q => by rw [if_pos q] at hbl2; omega
    rw [if_neg hx0] at hbl2
    have e3 : min w (64 - (blen s - 64)) = cmn w a b := by
      unfold cmn
      omega
    have e4 := mm_two (k := .i64) (a := w) (b := 64 - (blen s - 64))
    rw [e3] at e4
    simp (disch := omega) only [kB, kcx, kdm, kdn, kel, aop, resultsL, resultOf, Nat.reduceEqDiff, reduceCtorEq, eq1, apartOK, apart2, AObj.live, Int.reduceEq, Int.reduceLT, Int.reduceLE, Int.reduceAdd, Int.reduceSub, Int.reduceMul, Int.reduceToNat, cutCells, Nat.reduceAdd, Nat.reduceLeDiff, Nat.reduceLT, Nat.reduceMul, Nat.reduceSub, wr_i64, e4]
    exact ⟨_, rfl, ⟨_, rfl⟩, .closed rfl, h⟩

theorem eq_bv {v w : Nat} : eqL [(1, .int .u64 ((v / W64 : Nat) : Int), .int .u64 ((w / W64 : Nat) : Int)), (1, .int .u64 ((v % W64 : Nat) : Int), .int .u64 ((w % W64 : Nat) : Int))] = some (decide (v = w)) := by
  have e : ∀ x y : Nat, ((x : Int) == (y : Int)) = decide (x = y) := fun x y => by rw [Bool.eq_iff_iff]; simp; omega
  simp only [eqL, eqT1, if_true, e]
  by_cases h1 : v / W64 = w / W64 <;> by_cases h2 : v % W64 = w % W64 <;> simp [h1, h2, two_words (v := v) (w := w)]
theorem eq_bv0 {v : Nat} : eqL [(1, .int .u64 ((v / W64 : Nat) : Int), .int .u64 0), (1, .int .u64 ((v % W64 : Nat) : Int), .int .u64 0)] = some (decide (v = 0)) := eq_bv (w := 0)

theorem shr_zero {a w : Nat} : a >>> w = 0 ↔ a < 2 ^ w := by
  rw [Nat.shiftRight_eq_div_pow, Nat.div_eq_zero_iff_lt (Nat.pow_pos (by decide))]

/-- Does it fit? -/
theorem fits_s {w a : Nat} (hw : 1 ≤ w) (hw2 : w ≤ 128) (ha : a < 2 ^ 128) (h : R (.ret (.bool (decide (a < 2 ^ w)))) H) : WD T 73 [bvA a, .int .i64 w] H R := by
  refine WD.gc0 (WD.of follows t73 (by simp) ?_)
  have e0 : isw (w : Int) = true := by simp [isw]; omega
  simp (disch := omega) only [kB, kcx, kdm, kdn, kel, aop, resultsL, resultOf, Nat.reduceEqDiff, reduceCtorEq, eq1, apartOK, apart2, AObj.live, Int.reduceEq, Int.reduceLT, Int.reduceLE, Int.reduceAdd, Int.reduceSub, Int.reduceMul, Int.reduceToNat, cutCells, Nat.reduceAdd, Nat.reduceLeDiff, Nat.reduceLT, Nat.reduceMul, Nat.reduceSub]
  refine isw_s ?_
  simp (disch := omega) only [kB, kcx, kdm, kdn, kel, aop, resultsL, resultOf, Nat.reduceEqDiff, reduceCtorEq, eq1, apartOK, apart2, AObj.live, Int.reduceEq, Int.reduceLT, Int.reduceLE, Int.reduceAdd, Int.reduceSub, Int.reduceMul, Int.reduceToNat, cutCells, Nat.reduceAdd, Nat.reduceLeDiff, Nat.reduceLT, Nat.reduceMul, Nat.reduceSub, e0]
  refine right_s ha hw2 ?_
  have e1 := eq_bv0 (v := a >>> w)
  have e2 : decide (a >>> w = 0) = decide (a < 2 ^ w) := by rw [Bool.eq_iff_iff]; simp [shr_zero]
  rw [e2] at e1
  simp (disch := omega) only [kB, kcx, kdm, kdn, kel, aop, resultsL, resultOf, Nat.reduceEqDiff, reduceCtorEq, eq1, apartOK, apart2, AObj.live, Int.reduceEq, Int.reduceLT, Int.reduceLE, Int.reduceAdd, Int.reduceSub, Int.reduceMul, Int.reduceToNat, cutCells, Nat.reduceAdd, Nat.reduceLeDiff, Nat.reduceLT, Nat.reduceMul, Nat.reduceSub, e1]
  exact ⟨_, rfl, ⟨_, rfl⟩, .closed rfl, h⟩

theorem bit_s {w a i : Nat} (hw : 1 ≤ w) (hw2 : w ≤ 128) (hi : i < w) (ha : a < 2 ^ 128) (h : R (.ret (.bool (a.testBit (w - 1 - i)))) H) : WD T 92 [bvA a, .int .i64 w, .int .i64 i] H R := by
  refine WD.gc0 (WD.of follows t92 (by simp) ?_)
  have e0 : isw (w : Int) = true := by simp [isw]; omega
  have e1 : ¬ (i : Int) < 0 := by omega
  have e2 : ¬ (w : Int) ≤ (i : Int) := by omega
  simp (disch := omega) only [kB, kcx, kdm, kdn, kel, aop, resultsL, resultOf, Nat.reduceEqDiff, reduceCtorEq, eq1, apartOK, apart2, AObj.live, Int.reduceEq, Int.reduceLT, Int.reduceLE, Int.reduceAdd, Int.reduceSub, Int.reduceMul, Int.reduceToNat, cutCells, Nat.reduceAdd, Nat.reduceLeDiff, Nat.reduceLT, Nat.reduceMul, Nat.reduceSub]
  refine isw_s ?_
  have e3 : (w : Int) - 1 = ((w - 1 : Nat) : Int) := by omega
  have e4 : ((w - 1 : Nat) : Int) - (i : Int) = ((w - 1 - i : Nat) : Int) := by omega
  simp (disch := omega) only [kB, kcx, kdm, kdn, kel, aop, resultsL, resultOf, Nat.reduceEqDiff, reduceCtorEq, eq1, apartOK, apart2, AObj.live, Int.reduceEq, Int.reduceLT, Int.reduceLE, Int.reduceAdd, Int.reduceSub, Int.reduceMul, Int.reduceToNat, cutCells, Nat.reduceAdd, Nat.reduceLeDiff, Nat.reduceLT, Nat.reduceMul, Nat.reduceSub, e0, e1, e2, wr_i64, e3, e4]
  refine right_s ha (by omega) ?_
  have e5 := bin_and64 (lo_lt (a >>> (w - 1 - i))) (b := 1) (by decide)
  have e6 : ((1 : Nat) : Int) = 1 := rfl
  rw [e6] at e5
  have e7 : (((a >>> (w - 1 - i)) % W64) &&& 1) = if a.testBit (w - 1 - i) = true then 1 else 0 := by
    rw [Nat.and_one_is_mod, W64, Nat.mod_mod_of_dvd _ (by decide), Nat.testBit_eq_decide_div_mod_eq, Nat.shiftRight_eq_div_pow]
    simp only [decide_eq_true_eq]
    split <;> omega
  rw [e7] at e5
  cases hb : a.testBit (w - 1 - i) with
  | true =>
    rw [hb] at e5 h
    have e8 : (((if true = true then 1 else 0 : Nat)) : Int) = 1 := rfl
    rw [e8] at e5
    simp (disch := omega) only [kB, kcx, kdm, kdn, kel, aop, resultsL, resultOf, Nat.reduceEqDiff, reduceCtorEq, eq1, apartOK, apart2, AObj.live, Int.reduceEq, Int.reduceLT, Int.reduceLE, Int.reduceAdd, Int.reduceSub, Int.reduceMul, Int.reduceToNat, cutCells, Nat.reduceAdd, Nat.reduceLeDiff, Nat.reduceLT, Nat.reduceMul, Nat.reduceSub, e5]
    exact ⟨_, rfl, ⟨_, rfl⟩, .closed rfl, h⟩
  | false =>
    rw [hb] at e5 h
    have e8 : (((if false = true then 1 else 0 : Nat)) : Int) = 0 := rfl
    rw [e8] at e5
    simp (disch := omega) only [kB, kcx, kdm, kdn, kel, aop, resultsL, resultOf, Nat.reduceEqDiff, reduceCtorEq, eq1, apartOK, apart2, AObj.live, Int.reduceEq, Int.reduceLT, Int.reduceLE, Int.reduceAdd, Int.reduceSub, Int.reduceMul, Int.reduceToNat, cutCells, Nat.reduceAdd, Nat.reduceLeDiff, Nat.reduceLT, Nat.reduceMul, Nat.reduceSub, e5]
    exact ⟨_, rfl, ⟨_, rfl⟩, .closed rfl, h⟩

end Go.Proofs.Yticgkaanaimllaa.Ev

/- Which tries there are. -/
namespace Go.Proofs.Yticgkaanaimllaa.Ev
set_option maxRecDepth 100000
set_option linter.unusedSimpArgs false
set_option linter.unusedVariables false
variable {R : FRes → Heap → Prop} {H : Heap}

def isTrue : Option (FRes × Heap) → Bool
  | some (.ret (.bool true), _) => true
  | _ => false
theorem of_isTrue {x : Option (FRes × Heap)} (h : isTrue x = true) : ∃ H1, x = some (.ret (.bool true), H1) := by
  unfold isTrue at h
  split at h
  · exact ⟨_, rfl⟩
  · cases h

theorem live_ev : isTrue (evalFn Tab 64 9 [] []) = true := by kernel_rfl

theorem globs : T.G ≤ ([] : Heap).length := by
  have : T.G = 0 := by unfold T; kernel_rfl
  rw [this]
  exact Nat.le_refl _

theorem live_s (h : R (.ret (.bool true)) H) : WD T 9 [] H R := by
  obtain ⟨H1, he⟩ := of_isTrue live_ev
  exact WD.frame0 (H0 := []) ⟨H, rfl⟩ globs (fun o ho => by cases ho) (by simp) .bool (WD.ev follows table_ok he rfl) h

theorem eqP_nn {H : Heap} : eqP H 0 (.pointer none) (.pointer none) = some true := rfl
theorem eqP_sn {H : Heap} {a : Addr} : eqP H 0 (.pointer (some a)) (.pointer none) = some false := rfl
theorem eqP_ns {H : Heap} {a : Addr} : eqP H 0 (.pointer none) (.pointer (some a)) = some false := rfl
theorem eqF_n {H : Heap} {f : Fn} {a b : Array Value} : eqP H 2 (.func f a b) .nilFunc = some false := rfl

/-- A prefix. -/
abbrev pfA (hi lo n : Int) : Value := .agg #[.int .u64 hi, .int .u64 lo, .int .i64 n]


def rightN (w m : Int) : Bool := decide (1 ≤ w) && decide (w ≤ 128) && decide (1 ≤ m) && decide (m ≤ 4096)

theorem new_s {w m : Int} (h : R (if rightN w m = true then .ret (.tuple #[.pointer (some ⟨H.length, 0, none⟩), .int .i64 0]) else .ret (.tuple #[.pointer none, .int .i64 1])) (if rightN w m = true then H ++ [.row [.int .i64 w, .int .i64 m, .int .i64 0, .pointer none] 0 true] else H)) :
    WD T 10 [.int .i64 w, .int .i64 m] H R := by
  refine WD.of follows t10 (by simp) ?_
  unfold rightN at h
  by_cases h1 : w < 1
  · have h1' : ¬ 1 ≤ w := by omega
    simp (disch := omega) only [kB, kcx, kdm, kdn, kel, aop, resultsL, resultOf, Nat.reduceEqDiff, reduceCtorEq, eq1, apartOK, apart2, AObj.live, Int.reduceEq, Int.reduceLT, Int.reduceLE, Int.reduceAdd, Int.reduceSub, Int.reduceMul, Int.reduceToNat, cutCells, Nat.reduceAdd, Nat.reduceLeDiff, Nat.reduceLT, Nat.reduceMul, Nat.reduceSub, h1]
    simpa [h1'] using h
  · have h1' : 1 ≤ w := by omega
    by_cases h2 : 128 < w
    · have h2' : ¬ w ≤ 128 := by omega
      simp (disch := omega) only [kB, kcx, kdm, kdn, kel, aop, resultsL, resultOf, Nat.reduceEqDiff, reduceCtorEq, eq1, apartOK, apart2, AObj.live, Int.reduceEq, Int.reduceLT, Int.reduceLE, Int.reduceAdd, Int.reduceSub, Int.reduceMul, Int.reduceToNat, cutCells, Nat.reduceAdd, Nat.reduceLeDiff, Nat.reduceLT, Nat.reduceMul, Nat.reduceSub, h1, h2]
      simpa [h1', h2'] using h
    · have h2' : w ≤ 128 := by omega
      by_cases h3 : m < 1
      · have h3' : ¬ 1 ≤ m := by omega
        simp (disch := omega) only [kB, kcx, kdm, kdn, kel, aop, resultsL, resultOf, Nat.reduceEqDiff, reduceCtorEq, eq1, apartOK, apart2, AObj.live, Int.reduceEq, Int.reduceLT, Int.reduceLE, Int.reduceAdd, Int.reduceSub, Int.reduceMul, Int.reduceToNat, cutCells, Nat.reduceAdd, Nat.reduceLeDiff, Nat.reduceLT, Nat.reduceMul, Nat.reduceSub, h1, h2, h3]
        simpa [h1', h2', h3'] using h
      · have h3' : 1 ≤ m := by omega
        by_cases h4 : 4096 < m
        · have h4' : ¬ m ≤ 4096 := by omega
          simp (disch := omega) only [kB, kcx, kdm, kdn, kel, aop, resultsL, resultOf, Nat.reduceEqDiff, reduceCtorEq, eq1, apartOK, apart2, AObj.live, Int.reduceEq, Int.reduceLT, Int.reduceLE, Int.reduceAdd, Int.reduceSub, Int.reduceMul, Int.reduceToNat, cutCells, Nat.reduceAdd, Nat.reduceLeDiff, Nat.reduceLT, Nat.reduceMul, Nat.reduceSub, h1, h2, h3, h4]
          simpa [h1', h2', h3', h4'] using h
        · have h4' : m ≤ 4096 := by omega
          simp (disch := omega) only [kB, kcx, kdm, kdn, kel, aop, resultsL, resultOf, Nat.reduceEqDiff, reduceCtorEq, eq1, apartOK, apart2, AObj.live, Int.reduceEq, Int.reduceLT, Int.reduceLE, Int.reduceAdd, Int.reduceSub, Int.reduceMul, Int.reduceToNat, cutCells, Nat.reduceAdd, Nat.reduceLeDiff, Nat.reduceLT, Nat.reduceMul, Nat.reduceSub, h1, h2, h3, h4]
          simpa [h1', h2', h3', h4'] using h

end Go.Proofs.Yticgkaanaimllaa.Ev

/- The trie's own small functions. -/
namespace Go.Proofs.Yticgkaanaimllaa.Ev
set_option maxRecDepth 100000
set_option linter.unusedSimpArgs false
set_option linter.unusedVariables false
variable {R : FRes → Heap → Prop} {H : Heap}

/-- A prefix as a value. -/
abbrev pfv (a : Nat) (n : Int) : Value := .agg #[.int .u64 ((a / W64 : Nat) : Int), .int .u64 ((a % W64 : Nat) : Int), .int .i64 n]

/-- A trie's block. -/
def TB (H : Heap) (b : Nat) (w m l : Nat) (rt : Value) : Prop := hget H b = .row [.int .i64 (w : Int), .int .i64 (m : Int), .int .i64 (l : Int), rt] 0 true

/-- Is it a prefix of the width? -/
def rgt (w a : Nat) (n : Int) : Bool := decide (0 ≤ n) && decide (n ≤ (w : Int)) && decide (a < 2 ^ w) && decide (a &&& maskN w n.toNat = a)

theorem eqT_sn {H : Heap} {a : Addr} : eqP H 0 (.pointer (some a)) (.pointer none) = some false := rfl

theorem right_t {b w a : Nat} {n m l : Int} {rt : Value} (hb : ∃ wr, hget H b = .row [.int .i64 (w : Int), .int .i64 m, .int .i64 l, rt] 0 wr) (hw : 1 ≤ w) (hw2 : w ≤ 128) (ha : a < 2 ^ 128) (h : R (.ret (.bool (rgt w a n))) H) :
    WD T 42 [.pointer (some ⟨b, 0, none⟩), pfv a n] H R := by
  refine WD.gc0 (WD.of follows t42 (by simp) ?_)
  obtain ⟨wr, hb⟩ := hb
  have lb := hget_lt hb rfl
  by_cases h1 : n < 0
  · have : rgt w a n = false := by simp only [rgt, decide_eq_false (show ¬ 0 ≤ n by omega), Bool.false_and]
    rw [this] at h
    simp (disch := omega) only [kB, kcx, kdm, kdn, kel, aop, resultsL, resultOf, Nat.reduceEqDiff, reduceCtorEq, eq1, apartOK, apart2, AObj.live, Int.reduceEq, Int.reduceLT, Int.reduceLE, Int.reduceAdd, Int.reduceSub, Int.reduceMul, Int.reduceToNat, cutCells, Nat.reduceAdd, Nat.reduceLeDiff, Nat.reduceLT, Nat.reduceMul, Nat.reduceSub, eqT_sn, h1]
    exact ⟨_, rfl, ⟨_, rfl⟩, .closed rfl, h⟩
  by_cases h2 : (w : Int) < n
  · have : rgt w a n = false := by simp only [rgt, decide_eq_false (show ¬ n ≤ (w : Int) by omega), Bool.and_false, Bool.false_and]
    rw [this] at h
    simp (disch := omega) only [kB, kcx, kdm, kdn, kel, aop, resultsL, resultOf, Nat.reduceEqDiff, reduceCtorEq, eq1, apartOK, apart2, AObj.live, Int.reduceEq, Int.reduceLT, Int.reduceLE, Int.reduceAdd, Int.reduceSub, Int.reduceMul, Int.reduceToNat, cutCells, Nat.reduceAdd, Nat.reduceLeDiff, Nat.reduceLT, Nat.reduceMul, Nat.reduceSub, eqT_sn, h1, hb, h2]
    exact ⟨_, rfl, ⟨_, rfl⟩, .closed rfl, h⟩
  simp (disch := omega) only [kB, kcx, kdm, kdn, kel, aop, resultsL, resultOf, Nat.reduceEqDiff, reduceCtorEq, eq1, apartOK, apart2, AObj.live, Int.reduceEq, Int.reduceLT, Int.reduceLE, Int.reduceAdd, Int.reduceSub, Int.reduceMul, Int.reduceToNat, cutCells, Nat.reduceAdd, Nat.reduceLeDiff, Nat.reduceLT, Nat.reduceMul, Nat.reduceSub, eqT_sn, h1, hb, h2]
  refine fits_s hw hw2 ha ?_
  by_cases h3 : a < 2 ^ w
  case neg =>
    have : rgt w a n = false := by simp only [rgt, decide_eq_false h3, Bool.and_false, Bool.false_and]
    rw [this] at h
    simp (disch := omega) only [kB, kcx, kdm, kdn, kel, aop, resultsL, resultOf, Nat.reduceEqDiff, reduceCtorEq, eq1, apartOK, apart2, AObj.live, Int.reduceEq, Int.reduceLT, Int.reduceLE, Int.reduceAdd, Int.reduceSub, Int.reduceMul, Int.reduceToNat, cutCells, Nat.reduceAdd, Nat.reduceLeDiff, Nat.reduceLT, Nat.reduceMul, Nat.reduceSub, h3]
    exact ⟨_, rfl, ⟨_, rfl⟩, .closed rfl, h⟩
  obtain ⟨k, rfl⟩ : ∃ k : Nat, n = k := ⟨n.toNat, by omega⟩
  simp (disch := omega) only [kB, kcx, kdm, kdn, kel, aop, resultsL, resultOf, Nat.reduceEqDiff, reduceCtorEq, eq1, apartOK, apart2, AObj.live, Int.reduceEq, Int.reduceLT, Int.reduceLE, Int.reduceAdd, Int.reduceSub, Int.reduceMul, Int.reduceToNat, cutCells, Nat.reduceAdd, Nat.reduceLeDiff, Nat.reduceLT, Nat.reduceMul, Nat.reduceSub, h3, hb]
  refine mask_s hw hw2 (by omega) ?_
  simp (disch := omega) only [kB, kcx, kdm, kdn, kel, aop, resultsL, resultOf, Nat.reduceEqDiff, reduceCtorEq, eq1, apartOK, apart2, AObj.live, Int.reduceEq, Int.reduceLT, Int.reduceLE, Int.reduceAdd, Int.reduceSub, Int.reduceMul, Int.reduceToNat, cutCells, Nat.reduceAdd, Nat.reduceLeDiff, Nat.reduceLT, Nat.reduceMul, Nat.reduceSub]
  refine WV.of (fun c hc => ?_) ?_
  · simp only [List.mem_cons, List.not_mem_nil, or_false] at hc
    subst hc
    simp (disch := omega) only [kB, kcx, kdm, kdn, kel, aop, resultsL, resultOf, Nat.reduceEqDiff, reduceCtorEq, eq1, apartOK, apart2, AObj.live, Int.reduceEq, Int.reduceLT, Int.reduceLE, Int.reduceAdd, Int.reduceSub, Int.reduceMul, Int.reduceToNat, cutCells, Nat.reduceAdd, Nat.reduceLeDiff, Nat.reduceLT, Nat.reduceMul, Nat.reduceSub]
    rfl
  refine and_s ha (shl_lt _ _) ?_
  rw [thaw_frz0]
  have e1 := eq_bv (v := a &&& maskN w k) (w := a)
  have e2 : decide (a &&& maskN w k = a) = rgt w a (k : Int) := by
    simp only [rgt, decide_eq_true h3, decide_eq_true (show (0 : Int) ≤ (k : Int) by omega), decide_eq_true (show (k : Int) ≤ (w : Int) by omega), Bool.true_and, Int.toNat_natCast]
  rw [e2] at e1
  simp (disch := omega) only [kB, kcx, kdm, kdn, kel, aop, resultsL, resultOf, Nat.reduceEqDiff, reduceCtorEq, eq1, apartOK, apart2, AObj.live, Int.reduceEq, Int.reduceLT, Int.reduceLE, Int.reduceAdd, Int.reduceSub, Int.reduceMul, Int.reduceToNat, cutCells, Nat.reduceAdd, Nat.reduceLeDiff, Nat.reduceLT, Nat.reduceMul, Nat.reduceSub, e1]
  exact ⟨_, rfl, ⟨_, rfl⟩, .closed rfl, h⟩

end Go.Proofs.Yticgkaanaimllaa.Ev

/- The trie's nodes; the node of just a prefix. -/
namespace Go.Proofs.Yticgkaanaimllaa.Ev
set_option maxRecDepth 100000
set_option linter.unusedSimpArgs false
set_option linter.unusedVariables false
variable {R : FRes → Heap → Prop} {H : Heap}

/-- A trie's head, be it to be written or not. -/
def TH (H : Heap) (b w : Nat) : Prop := ∃ (m l : Int) (rt : Value) (wr : Bool), hget H b = .row [.int .i64 (w : Int), .int .i64 m, .int .i64 l, rt] 0 wr
theorem TH.app {G : Heap} {b w : Nat} (h : TH H b w) : TH (H ++ G) b w := by
  obtain ⟨m, l, rt, wr, h⟩ := h
  exact ⟨m, l, rt, wr, by rw [hget_old (hget_lt h rfl)]; exact h⟩
theorem TH.frz {b w : Nat} (h : TH H b w) (bs : List Nat) : TH (Ev.frz H bs) b w := by
  obtain ⟨m, l, rt, wr, h⟩ := h
  rcases hget_frz bs H b with q | ⟨cs, u, q1, q2⟩
  · exact ⟨m, l, rt, wr, q.trans h⟩
  · rw [h] at q1
    cases q1
    exact ⟨m, l, rt, false, q2⟩

def sideN (w a n : Nat) : Nat := if a.testBit (w - 1 - n) = true then 1 else 0

theorem side_t {b w a n : Nat} (hb : TH H b w) (hw : 1 ≤ w) (hw2 : w ≤ 128) (hn : n < w) (ha : a < 2 ^ 128) (h : R (.ret (.int .i64 (sideN w a n : Nat))) H) : WD T 76 [.pointer (some ⟨b, 0, none⟩), bvA a, .int .i64 n] H R := by
  refine WD.gc0 (WD.of follows t76 (by simp) ?_)
  obtain ⟨m, l, rt, wr, hb⟩ := hb
  have lb := hget_lt hb rfl
  simp (disch := omega) only [kB, kcx, kdm, kdn, kel, aop, resultsL, resultOf, Nat.reduceEqDiff, reduceCtorEq, eq1, apartOK, apart2, AObj.live, Int.reduceEq, Int.reduceLT, Int.reduceLE, Int.reduceAdd, Int.reduceSub, Int.reduceMul, Int.reduceToNat, cutCells, Nat.reduceAdd, Nat.reduceLeDiff, Nat.reduceLT, Nat.reduceMul, Nat.reduceSub, hb]
  refine bit_s hw hw2 hn ha ?_
  unfold sideN at h
  cases hc : a.testBit (w - 1 - n) with
  | true =>
    rw [hc] at h
    simp (disch := omega) only [kB, kcx, kdm, kdn, kel, aop, resultsL, resultOf, Nat.reduceEqDiff, reduceCtorEq, eq1, apartOK, apart2, AObj.live, Int.reduceEq, Int.reduceLT, Int.reduceLE, Int.reduceAdd, Int.reduceSub, Int.reduceMul, Int.reduceToNat, cutCells, Nat.reduceAdd, Nat.reduceLeDiff, Nat.reduceLT, Nat.reduceMul, Nat.reduceSub]
    exact ⟨_, rfl, ⟨_, rfl⟩, .closed rfl, h⟩
  | false =>
    rw [hc] at h
    simp (disch := omega) only [kB, kcx, kdm, kdn, kel, aop, resultsL, resultOf, Nat.reduceEqDiff, reduceCtorEq, eq1, apartOK, apart2, AObj.live, Int.reduceEq, Int.reduceLT, Int.reduceLE, Int.reduceAdd, Int.reduceSub, Int.reduceMul, Int.reduceToNat, cutCells, Nat.reduceAdd, Nat.reduceLeDiff, Nat.reduceLT, Nat.reduceMul, Nat.reduceSub]
    exact ⟨_, rfl, ⟨_, rfl⟩, .closed rfl, h⟩

/-- How many bits two prefixes have in common. -/
def cmp (w a n c k : Nat) : Nat := min (min (cmn w a c) n) k

theorem common_t {b w a n c k : Nat} (hb : TH H b w) (hw : 1 ≤ w) (hw2 : w ≤ 128) (ha : a < 2 ^ w) (hc : c < 2 ^ w) (h : R (.ret (.int .i64 (cmp w a n c k : Nat))) H) : WD T 51 [.pointer (some ⟨b, 0, none⟩), pfv a n, pfv c k] H R := by
  refine WD.gc0 (WD.of follows t51 (by simp) ?_)
  have hb1 := hb
  obtain ⟨m, l, rt, wr, hb⟩ := hb
  have lb := hget_lt hb rfl
  simp (disch := omega) only [kB, kcx, kdm, kdn, kel, aop, resultsL, resultOf, Nat.reduceEqDiff, reduceCtorEq, eq1, apartOK, apart2, AObj.live, Int.reduceEq, Int.reduceLT, Int.reduceLE, Int.reduceAdd, Int.reduceSub, Int.reduceMul, Int.reduceToNat, cutCells, Nat.reduceAdd, Nat.reduceLeDiff, Nat.reduceLT, Nat.reduceMul, Nat.reduceSub, hb]
  refine WV.of (fun c hc => ?_) ?_
  · simp only [List.mem_cons, List.not_mem_nil, or_false] at hc
    rcases hc with rfl | rfl <;> (simp (disch := omega) only [kB, kcx, kdm, kdn, kel, aop, resultsL, resultOf, Nat.reduceEqDiff, reduceCtorEq, eq1, apartOK, apart2, AObj.live, Int.reduceEq, Int.reduceLT, Int.reduceLE, Int.reduceAdd, Int.reduceSub, Int.reduceMul, Int.reduceToNat, cutCells, Nat.reduceAdd, Nat.reduceLeDiff, Nat.reduceLT, Nat.reduceMul, Nat.reduceSub]; rfl)
  refine common_s hw hw2 ha hc ?_
  rw [thaw_frz0]
  have e1 := mm_three (k := .i64) (a := cmn w a c) (b := n) (c := k)
  simp (disch := omega) only [kB, kcx, kdm, kdn, kel, aop, resultsL, resultOf, Nat.reduceEqDiff, reduceCtorEq, eq1, apartOK, apart2, AObj.live, Int.reduceEq, Int.reduceLT, Int.reduceLE, Int.reduceAdd, Int.reduceSub, Int.reduceMul, Int.reduceToNat, cutCells, Nat.reduceAdd, Nat.reduceLeDiff, Nat.reduceLT, Nat.reduceMul, Nat.reduceSub, e1]
  exact ⟨_, rfl, ⟨_, rfl⟩, .closed rfl, h⟩

theorem cut_t {b w a n : Nat} (hb : TH H b w) (hw : 1 ≤ w) (hw2 : w ≤ 128) (hn : n ≤ w) (ha : a < 2 ^ 128) (h : R (.ret (pfv (a &&& maskN w n) n)) H) : WD T 77 [.pointer (some ⟨b, 0, none⟩), bvA a, .int .i64 n] H R := by
  refine WD.gc0 (WD.of follows t77 (by simp) ?_)
  obtain ⟨m, l, rt, wr, hb⟩ := hb
  have lb := hget_lt hb rfl
  simp (disch := omega) only [kB, kcx, kdm, kdn, kel, aop, resultsL, resultOf, Nat.reduceEqDiff, reduceCtorEq, eq1, apartOK, apart2, AObj.live, Int.reduceEq, Int.reduceLT, Int.reduceLE, Int.reduceAdd, Int.reduceSub, Int.reduceMul, Int.reduceToNat, cutCells, Nat.reduceAdd, Nat.reduceLeDiff, Nat.reduceLT, Nat.reduceMul, Nat.reduceSub, hb]
  refine mask_s hw hw2 hn ?_
  simp (disch := omega) only [kB, kcx, kdm, kdn, kel, aop, resultsL, resultOf, Nat.reduceEqDiff, reduceCtorEq, eq1, apartOK, apart2, AObj.live, Int.reduceEq, Int.reduceLT, Int.reduceLE, Int.reduceAdd, Int.reduceSub, Int.reduceMul, Int.reduceToNat, cutCells, Nat.reduceAdd, Nat.reduceLeDiff, Nat.reduceLT, Nat.reduceMul, Nat.reduceSub]
  refine and_s ha (shl_lt _ _) ?_
  simp (disch := omega) only [kB, kcx, kdm, kdn, kel, aop, resultsL, resultOf, Nat.reduceEqDiff, reduceCtorEq, eq1, apartOK, apart2, AObj.live, Int.reduceEq, Int.reduceLT, Int.reduceLE, Int.reduceAdd, Int.reduceSub, Int.reduceMul, Int.reduceToNat, cutCells, Nat.reduceAdd, Nat.reduceLeDiff, Nat.reduceLT, Nat.reduceMul, Nat.reduceSub]
  exact ⟨_, rfl, ⟨_, rfl⟩, .closed rfl, h⟩

/-- A tree of nodes, each with its block's number. -/
inductive Tr where
  | nil
  | node (b a n : Nat) (full : Bool) (v : Int) (l r : Tr)

def Tr.ptr : Tr → Value
  | .nil => .pointer none
  | .node b _ _ _ _ _ _ => .pointer (some ⟨b, 0, none⟩)
def nodeRow (a n : Nat) (full : Bool) (v : Int) (l r : Value) : List Value :=
  [.int .u64 ((a / W64 : Nat) : Int), .int .u64 ((a % W64 : Nat) : Int), .int .i64 (n : Int), .bool full, .int .i64 v, l, r]
/-- So the tree lies. -/
def TA (H : Heap) : Tr → Prop
  | .nil => True
  | .node b a n full v l r => (∃ wr, hget H b = .row (nodeRow a n full v l.ptr r.ptr) 0 wr) ∧ TA H l ∧ TA H r
def Tr.size : Tr → Nat
  | .nil => 0
  | .node _ _ _ _ _ l r => l.size + r.size + 1
/-- Its prefixes are right. -/
def TW (w : Nat) : Tr → Prop
  | .nil => True
  | .node _ a n _ _ l r => n ≤ w ∧ a < 2 ^ w ∧ a &&& maskN w n = a ∧ TW w l ∧ TW w r

theorem TA.app {G : Heap} : ∀ {t : Tr}, TA H t → TA (H ++ G) t
  | .nil, _ => trivial
  | .node b a n full v l r, ⟨⟨wr, h1⟩, h2, h3⟩ => ⟨⟨wr, by rw [hget_old (hget_lt h1 rfl)]; exact h1⟩, h2.app, h3.app⟩

def Tr.kid : Tr → Nat → Tr
  | .nil, _ => .nil
  | .node _ _ _ _ _ l r, s => if s = 0 then l else r

/-- The subtree that is reached on the way to a prefix. -/
def atT (w a k : Nat) : Tr → Tr
  | .nil => .nil
  | .node b c n full v l r => if n < k ∧ cmp w c n a k = n then (if sideN w a n = 0 then atT w a k l else atT w a k r) else .node b c n full v l r

def atR (a k : Nat) : Tr → Value
  | .nil => .pointer none
  | .node b c n full _ _ _ => if c = a ∧ n = k ∧ full = true then .pointer (some ⟨b, 0, none⟩) else .pointer none
def atV (w a k : Nat) (t : Tr) : Value := atR a k (atT w a k t)

theorem eq_pf {a n c k : Nat} : eqL [(1, .int .u64 ((a / W64 : Nat) : Int), .int .u64 ((c / W64 : Nat) : Int)), (1, .int .u64 ((a % W64 : Nat) : Int), .int .u64 ((c % W64 : Nat) : Int)), (1, .int .i64 (n : Int), .int .i64 (k : Int))] = some (decide (a = c ∧ n = k)) := by
  have e : ∀ x y : Nat, ((x : Int) == (y : Int)) = decide (x = y) := fun x y => by rw [Bool.eq_iff_iff]; simp; omega
  simp only [eqL, eqT1, if_true, e]
  by_cases h1 : a / W64 = c / W64 <;> by_cases h2 : a % W64 = c % W64 <;> by_cases h3 : n = k <;> simp [h1, h2, h3, two_words (v := a) (w := c)]

def atI (w a k b : Nat) (t0 : Tr) (H : Heap) : Nat → Env → Heap → Prop := fun z e H' =>
  ∃ t : Tr, z = t.size ∧ H' = H ++ [.row [.int .u64 ((a / W64 : Nat) : Int), .int .u64 ((a % W64 : Nat) : Int), .int .i64 (k : Int)] 0 true] ∧ TA H t ∧ TW w t ∧ atT w a k t = atT w a k t0 ∧
    (∃ x : Nat → Value, e = [.pointer (some ⟨b, 0, none⟩), x 1, x 2, .pointer (some ⟨H.length, 0, none⟩), x 4, t.ptr, x 6, x 7, x 8, x 9, x 10, x 11, x 12, x 13, x 14, x 15, x 16, x 17, x 18, x 19, x 20, x 21, x 22, x 23, x 24, x 25, x 26, x 27, x 28, x 29, x 30, x 31, x 32, x 33, x 34, x 35, x 36, x 37, x 38, x 39, x 40, x 41, x 42, x 43, x 44, x 45, x 46, x 47, x 48, x 49, x 50, x 51, x 52, x 53, x 54, x 55, x 56, x 57, x 58, x 59, x 60, x 61, x 62, x 63, x 64, x 65, x 66, x 67, x 68, x 69, x 70, x 71, x 72])

/-- Behind the loop: is it just the prefix, with something? -/
theorem at_rest {w a k b : Nat} {t : Tr} (ht : TA H t) {e : Env} (hp : hget H b = .row [.int .u64 ((a / W64 : Nat) : Int), .int .u64 ((a % W64 : Nat) : Int), .int .i64 (k : Int)] 0 true) (he : (∃ x : Nat → Value, e = [x 0, x 1, x 2, .pointer (some ⟨b, 0, none⟩), x 4, t.ptr, x 6, x 7, x 8, x 9, x 10, x 11, x 12, x 13, x 14, x 15, x 16, x 17, x 18, x 19, x 20, x 21, x 22, x 23, x 24, x 25, x 26, x 27, x 28, x 29, x 30, x 31, x 32, x 33, x 34, x 35, x 36, x 37, x 38, x 39, x 40, x 41, x 42, x 43, x 44, x 45, x 46, x 47, x 48, x 49, x 50, x 51, x 52, x 53, x 54, x 55, x 56, x 57, x 58, x 59, x 60, x 61, x 62, x 63, x 64, x 65, x 66, x 67, x 68, x 69, x 70, x 71, x 72]))
    (h : R (.ret (atR a k t)) H) :
    WC T (g43.body.at [1, 1, 1, 1]) e H (retK [.tmp 4] R) := by
  obtain ⟨x, rfl⟩ := he
  simp only [AFunc.body, g43, ACode.at]
  cases t with
  | nil =>
    simp only [Tr.ptr]
    simp only [atR] at h
    simp (disch := omega) only [kB, kcx, kdm, kdn, kel, aop, resultsL, resultOf, Nat.reduceEqDiff, reduceCtorEq, eq1, apartOK, apart2, AObj.live, Int.reduceEq, Int.reduceLT, Int.reduceLE, Int.reduceAdd, Int.reduceSub, Int.reduceMul, Int.reduceToNat, cutCells, Nat.reduceAdd, Nat.reduceLeDiff, Nat.reduceLT, Nat.reduceMul, Nat.reduceSub, eqP_nn]
    exact h
  | node b1 c n full v l r =>
    obtain ⟨⟨wr, h1⟩, _, _⟩ := ht
    simp only [Tr.ptr]
    simp only [atR] at h
    by_cases q : c = a ∧ n = k
    · have e1 := eq_pf (a := c) (n := n) (c := a) (k := k)
      rw [decide_eq_true q] at e1
      cases full with
      | true =>
        simp (disch := omega) only [kB, kcx, kdm, kdn, kel, aop, resultsL, resultOf, Nat.reduceEqDiff, reduceCtorEq, eq1, apartOK, apart2, AObj.live, Int.reduceEq, Int.reduceLT, Int.reduceLE, Int.reduceAdd, Int.reduceSub, Int.reduceMul, Int.reduceToNat, cutCells, Nat.reduceAdd, Nat.reduceLeDiff, Nat.reduceLT, Nat.reduceMul, Nat.reduceSub, eqP_sn, h1, hp, nodeRow, e1]
        rw [if_pos ⟨q.1, q.2, rfl⟩] at h
        exact h
      | false =>
        simp (disch := omega) only [kB, kcx, kdm, kdn, kel, aop, resultsL, resultOf, Nat.reduceEqDiff, reduceCtorEq, eq1, apartOK, apart2, AObj.live, Int.reduceEq, Int.reduceLT, Int.reduceLE, Int.reduceAdd, Int.reduceSub, Int.reduceMul, Int.reduceToNat, cutCells, Nat.reduceAdd, Nat.reduceLeDiff, Nat.reduceLT, Nat.reduceMul, Nat.reduceSub, eqP_sn, h1, hp, nodeRow, e1]
        rw [if_neg (fun z => by cases z.2.2)] at h
        exact h
    · have e1 := eq_pf (a := c) (n := n) (c := a) (k := k)
      rw [decide_eq_false q] at e1
      simp (disch := omega) only [kB, kcx, kdm, kdn, kel, aop, resultsL, resultOf, Nat.reduceEqDiff, reduceCtorEq, eq1, apartOK, apart2, AObj.live, Int.reduceEq, Int.reduceLT, Int.reduceLE, Int.reduceAdd, Int.reduceSub, Int.reduceMul, Int.reduceToNat, cutCells, Nat.reduceAdd, Nat.reduceLeDiff, Nat.reduceLT, Nat.reduceMul, Nat.reduceSub, eqP_sn, h1, hp, nodeRow, e1]
      rw [if_neg (fun z => q ⟨z.1, z.2.1⟩)] at h
      exact h

theorem at_t {b w a : Nat} {n m l : Int} {wr : Bool} {t : Tr} (hb : hget H b = .row [.int .i64 (w : Int), .int .i64 m, .int .i64 l, t.ptr] 0 wr) (hw : 1 ≤ w) (hw2 : w ≤ 128) (ha : a < 2 ^ 128) (ht : TA H t) (htw : TW w t)
    (h : R (.ret (if rgt w a n = true then atV w a n.toNat t else .pointer none)) H) : WD T 43 [.pointer (some ⟨b, 0, none⟩), pfv a n] H R := by
  have hth : TH H b w := ⟨m, l, t.ptr, wr, hb⟩
  have lb := hget_lt hb rfl
  have key : ∀ R : FRes → Heap → Prop, R (.ret (if rgt w a n = true then atV w a n.toNat t else .pointer none)) (H ++ [.row [.int .u64 ((a / W64 : Nat) : Int), .int .u64 ((a % W64 : Nat) : Int), .int .i64 n] 0 true]) → WD T 43 [.pointer (some ⟨b, 0, none⟩), pfv a n] H R := by
    clear h
    intro R h
    obtain ⟨Z, hZ⟩ : ∃ Z, Z = WC T (g43.body.at [1, 1, 1, 1]) := ⟨_, rfl⟩
    have hrest : ∀ (k : Nat) (t : Tr) (H : Heap) (b : Nat) (e : Env), TA H t → hget H b = .row [.int .u64 ((a / W64 : Nat) : Int), .int .u64 ((a % W64 : Nat) : Int), .int .i64 (k : Int)] 0 true → (∃ x : Nat → Value, e = [x 0, x 1, x 2, .pointer (some ⟨b, 0, none⟩), x 4, t.ptr, x 6, x 7, x 8, x 9, x 10, x 11, x 12, x 13, x 14, x 15, x 16, x 17, x 18, x 19, x 20, x 21, x 22, x 23, x 24, x 25, x 26, x 27, x 28, x 29, x 30, x 31, x 32, x 33, x 34, x 35, x 36, x 37, x 38, x 39, x 40, x 41, x 42, x 43, x 44, x 45, x 46, x 47, x 48, x 49, x 50, x 51, x 52, x 53, x 54, x 55, x 56, x 57, x 58, x 59, x 60, x 61, x 62, x 63, x 64, x 65, x 66, x 67, x 68, x 69, x 70, x 71, x 72]) →
        R (.ret (atR a k t)) H → Z e H (retK [.tmp 4] R) := fun k t H b e h1 h2 he hR => by rw [hZ]; exact at_rest (w := w) h1 h2 he hR
    have hZ' := hZ.symm
    clear hZ
    simp only [AFunc.body, g43, ACode.at] at hZ'
    refine WD.of follows t43 (by simp) ?_
    simp (disch := omega) only [kB, kcx, kdm, kdn, kel, aop, resultsL, resultOf, Nat.reduceEqDiff, reduceCtorEq, eq1, apartOK, apart2, AObj.live, Int.reduceEq, Int.reduceLT, Int.reduceLE, Int.reduceAdd, Int.reduceSub, Int.reduceMul, Int.reduceToNat, cutCells, Nat.reduceAdd, Nat.reduceLeDiff, Nat.reduceLT, Nat.reduceMul, Nat.reduceSub, hZ']
    refine right_t ⟨wr, by rw [hget_old lb]; exact hb⟩ hw hw2 ha ?_
    cases hr : rgt w a n with
    | false =>
      rw [hr] at h
      simp (disch := omega) only [kB, kcx, kdm, kdn, kel, aop, resultsL, resultOf, Nat.reduceEqDiff, reduceCtorEq, eq1, apartOK, apart2, AObj.live, Int.reduceEq, Int.reduceLT, Int.reduceLE, Int.reduceAdd, Int.reduceSub, Int.reduceMul, Int.reduceToNat, cutCells, Nat.reduceAdd, Nat.reduceLeDiff, Nat.reduceLT, Nat.reduceMul, Nat.reduceSub, hZ']
      simpa using h
    | true =>
    rw [hr, if_pos rfl] at h
    have hr2 := hr
    simp only [rgt, Bool.and_eq_true, decide_eq_true_eq] at hr2
    obtain ⟨⟨⟨r1, r2⟩, r3⟩, r4⟩ := hr2
    obtain ⟨k, rfl⟩ : ∃ k : Nat, n = k := ⟨n.toNat, by omega⟩
    simp only [Int.toNat_natCast] at h r4
    have hkw : k ≤ w := by omega
    simp (disch := omega) only [kB, kcx, kdm, kdn, kel, aop, resultsL, resultOf, Nat.reduceEqDiff, reduceCtorEq, eq1, apartOK, apart2, AObj.live, Int.reduceEq, Int.reduceLT, Int.reduceLE, Int.reduceAdd, Int.reduceSub, Int.reduceMul, Int.reduceToNat, cutCells, Nat.reduceAdd, Nat.reduceLeDiff, Nat.reduceLT, Nat.reduceMul, Nat.reduceSub, hb, hZ']
    refine WLoop.inv (atI w a k b t H) ?_ t.size _ _ ⟨t, rfl, rfl, ht, htw, rfl, ex_env rfl⟩
    rintro z e H' ⟨t1, rfl, rfl, ht1, htw1, hat, ⟨x, rfl⟩⟩
    cases t1 with
    | nil =>
      simp only [Tr.ptr]
      simp (disch := omega) only [kB, kcx, kdm, kdn, kel, aop, resultsL, resultOf, Nat.reduceEqDiff, reduceCtorEq, eq1, apartOK, apart2, AObj.live, Int.reduceEq, Int.reduceLT, Int.reduceLE, Int.reduceAdd, Int.reduceSub, Int.reduceMul, Int.reduceToNat, cutCells, Nat.reduceAdd, Nat.reduceLeDiff, Nat.reduceLT, Nat.reduceMul, Nat.reduceSub, eqP_nn]
      refine hrest k .nil _ H.length _ trivial (by rw [hget_last]) (by exact ex_env rfl) ?_
      unfold atV at h
      rw [← hat] at h
      exact h
    | node b1 c k1 full v l r =>
      obtain ⟨⟨wr1, q1⟩, q2, q3⟩ := ht1
      obtain ⟨t1, t2, t3, t4, t5⟩ := htw1
      have hpn : 2 ^ w ≤ 2 ^ 128 := Nat.pow_le_pow_right (by decide) hw2
      have l1 := hget_lt q1 rfl
      simp only [Tr.ptr]
      unfold nodeRow at q1
      have fin : ∀ e, atT w a k (.node b1 c k1 full v l r) = .node b1 c k1 full v l r → (∃ x : Nat → Value, e = [x 0, x 1, x 2, .pointer (some ⟨H.length, 0, none⟩), x 4, .pointer (some ⟨b1, 0, none⟩), x 6, x 7, x 8, x 9, x 10, x 11, x 12, x 13, x 14, x 15, x 16, x 17, x 18, x 19, x 20, x 21, x 22, x 23, x 24, x 25, x 26, x 27, x 28, x 29, x 30, x 31, x 32, x 33, x 34, x 35, x 36, x 37, x 38, x 39, x 40, x 41, x 42, x 43, x 44, x 45, x 46, x 47, x 48, x 49, x 50, x 51, x 52, x 53, x 54, x 55, x 56, x 57, x 58, x 59, x 60, x 61, x 62, x 63, x 64, x 65, x 66, x 67, x 68, x 69, x 70, x 71, x 72]) → Z e (H ++ [.row [.int .u64 ((a / W64 : Nat) : Int), .int .u64 ((a % W64 : Nat) : Int), .int .i64 (k : Int)] 0 true]) (retK [.tmp 4] R) := fun e hT he => by
        refine hrest k (.node b1 c k1 full v l r) _ H.length e (TA.app ⟨⟨wr1, q1⟩, q2, q3⟩) (by rw [hget_last]) he ?_
        unfold atV at h
        rw [← hat, hT] at h
        exact h
      by_cases hlt : (k1 : Int) < (k : Int)
      case neg =>
        have hT : atT w a k (.node b1 c k1 full v l r) = .node b1 c k1 full v l r := by rw [atT, if_neg (fun q => hlt (by have := q.1; omega))]
        simp (disch := omega) only [kB, kcx, kdm, kdn, kel, aop, resultsL, resultOf, Nat.reduceEqDiff, reduceCtorEq, eq1, apartOK, apart2, AObj.live, Int.reduceEq, Int.reduceLT, Int.reduceLE, Int.reduceAdd, Int.reduceSub, Int.reduceMul, Int.reduceToNat, cutCells, Nat.reduceAdd, Nat.reduceLeDiff, Nat.reduceLT, Nat.reduceMul, Nat.reduceSub, eqP_sn, q1, hlt]
        exact fin _ hT (by exact ex_env rfl)
      simp (disch := omega) only [kB, kcx, kdm, kdn, kel, aop, resultsL, resultOf, Nat.reduceEqDiff, reduceCtorEq, eq1, apartOK, apart2, AObj.live, Int.reduceEq, Int.reduceLT, Int.reduceLE, Int.reduceAdd, Int.reduceSub, Int.reduceMul, Int.reduceToNat, cutCells, Nat.reduceAdd, Nat.reduceLeDiff, Nat.reduceLT, Nat.reduceMul, Nat.reduceSub, eqP_sn, q1, hlt]
      refine WV.of (fun c hc => ?_) ?_
      · simp only [List.mem_cons, List.not_mem_nil, or_false] at hc
        subst hc
        rw [hget_old l1, q1]
        rfl
      refine common_t (hth.app.frz _) hw hw2 t2 r3 ?_
      rw [thaw_frz0]
      by_cases hcm : ((cmp w c k1 a k : Nat) : Int) = (k1 : Int)
      case neg =>
        have hT : atT w a k (.node b1 c k1 full v l r) = .node b1 c k1 full v l r := by rw [atT, if_neg (fun q => hcm (by have := q.2; omega))]
        simp (disch := omega) only [kB, kcx, kdm, kdn, kel, aop, resultsL, resultOf, Nat.reduceEqDiff, reduceCtorEq, eq1, apartOK, apart2, AObj.live, Int.reduceEq, Int.reduceLT, Int.reduceLE, Int.reduceAdd, Int.reduceSub, Int.reduceMul, Int.reduceToNat, cutCells, Nat.reduceAdd, Nat.reduceLeDiff, Nat.reduceLT, Nat.reduceMul, Nat.reduceSub, eqP_sn, q1, hcm]
        exact fin _ hT (by exact ex_env rfl)
      simp (disch := omega) only [kB, kcx, kdm, kdn, kel, aop, resultsL, resultOf, Nat.reduceEqDiff, reduceCtorEq, eq1, apartOK, apart2, AObj.live, Int.reduceEq, Int.reduceLT, Int.reduceLE, Int.reduceAdd, Int.reduceSub, Int.reduceMul, Int.reduceToNat, cutCells, Nat.reduceAdd, Nat.reduceLeDiff, Nat.reduceLT, Nat.reduceMul, Nat.reduceSub, eqP_sn, q1, hcm]
      refine side_t hth.app hw hw2 (by omega) ha ?_
      have hT : atT w a k (.node b1 c k1 full v l r) = if sideN w a k1 = 0 then atT w a k l else atT w a k r := by rw [atT, if_pos ⟨by omega, by omega⟩]
      by_cases hs : sideN w a k1 = 0
      · have hs2 : ((sideN w a k1 : Nat) : Int) = 0 := by omega
        have c02 : ((0 : Nat) : Int) < ((2 : Nat) : Int) := by decide
        simp (disch := omega) only [kB, kcx, kdm, kdn, kel, aop, resultsL, resultOf, Nat.reduceEqDiff, reduceCtorEq, eq1, apartOK, apart2, AObj.live, Int.reduceEq, Int.reduceLT, Int.reduceLE, Int.reduceAdd, Int.reduceSub, Int.reduceMul, Int.reduceToNat, cutCells, Nat.reduceAdd, Nat.reduceLeDiff, Nat.reduceLT, Nat.reduceMul, Nat.reduceSub, q1, hs, hs2, c02]
        rw [if_pos hs] at hT
        exact ⟨l.size, by simp only [Tr.size]; omega, l, rfl, rfl, q2, t4, by rw [← hat, hT], ex_env rfl⟩
      · have hs1 : sideN w a k1 = 1 := by unfold sideN at hs ⊢; split <;> simp_all
        have hs2 : ((sideN w a k1 : Nat) : Int) = 1 := by omega
        have c12 : ((1 : Nat) : Int) < ((2 : Nat) : Int) := by decide
        simp (disch := omega) only [kB, kcx, kdm, kdn, kel, aop, resultsL, resultOf, Nat.reduceEqDiff, reduceCtorEq, eq1, apartOK, apart2, AObj.live, Int.reduceEq, Int.reduceLT, Int.reduceLE, Int.reduceAdd, Int.reduceSub, Int.reduceMul, Int.reduceToNat, cutCells, Nat.reduceAdd, Nat.reduceLeDiff, Nat.reduceLT, Nat.reduceMul, Nat.reduceSub, q1, hs1, hs2, c12]
        rw [if_neg hs] at hT
        exact ⟨r.size, by simp only [Tr.size]; omega, r, rfl, rfl, q3, t5, by rw [← hat, hT], ex_env rfl⟩
  refine WD.gc0 (key _ ⟨_, rfl, ⟨_, rfl⟩, ?_, h⟩)
  split
  · unfold atV atR
    have hsc : ∀ t : Tr, TA H t → Scoped H.length t.ptr := fun t ht => by
      cases t with
      | nil => exact .ptrNil
      | node b1 c k1 full v l r => obtain ⟨⟨wr1, q1⟩, _, _⟩ := ht; exact .ptr (hget_lt q1 rfl)
    have hta : ∀ t : Tr, TA H t → TA H (atT w a n.toNat t) := fun t ht => by
      induction t with
      | nil => exact trivial
      | node b1 c k1 full v l r ihl ihr =>
        rw [atT]
        split
        · split
          · exact ihl ht.2.1
          · exact ihr ht.2.2
        · exact ht
    have := hsc _ (hta t ht)
    generalize atT w a n.toNat t = t1 at this
    cases t1 with
    | nil => exact .ptrNil
    | node b1 c k1 full v l r =>
      simp only
      split
      · exact this
      · exact .ptrNil
  · exact .ptrNil

end Go.Proofs.Yticgkaanaimllaa.Ev
