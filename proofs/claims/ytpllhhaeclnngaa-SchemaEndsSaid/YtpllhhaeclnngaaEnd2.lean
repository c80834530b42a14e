/- Parts of the proof: EvTab0, EvTab1, EvTab, S0, Y1, Q1, S1, S2, C1, C2, Q2, Y2, Y3, Y4, Y5, Y6, Y7. Conditions: none. -/
import Derived.Test.YtpllhhaeclnngaaEnd1
import Derived.Test.YtpllhhaeclnngaaProg
namespace Go.Proofs.Ytpllhhaeclnngaa.Ev
set_option maxRecDepth 100000
set_option linter.unusedSimpArgs false
set_option linter.unusedVariables false
open Go.Proofs.Ytpllhhaeclnngaa.Ev renaming resultsL → Za, resultOf → Zb, eq1 → Zd, apartOK → Ze, apart2 → Zf, cutCells → Zo
open Go.Proofs.Ytpllhhaeclnngaa.Ev.AObj renaming live → Zg
open Nat renaming reduceEqDiff → Zc, reduceAdd → Zp, reduceLeDiff → Zq, reduceLT → Zr, reduceMul → Zs, reduceSub → Zt
open Int renaming reduceEq → Zh, reduceLT → Zi, reduceLE → Zj, reduceAdd → Zk, reduceSub → Zl, reduceMul → Zm, reduceToNat → Zn
section
open Option renaming some → s, none → n
open Go.Operand renaming tmp → t, const → c
open AOp renaming mov → m, fAddr → f, load1 → l, loadN → d, callv → k, iAddrSl → a
open ACode renaming seq → q, ops → o, cond → w
open Go.Value renaming int → i, string → g
set_option maxRecDepth 100000
def g3 : AFunc := (.code 18 (q (o [⟨s 0, m (c (.bool false)), n, []⟩]) (q (o [⟨s 1, m (c (.bool true)), n, []⟩]) (q (o [⟨s 2, m (c (.bool true)), n, []⟩]) (q (o [⟨s 3, m (c (.bool true)), n, []⟩]) (q (o [⟨s 4, m (c (.bool true)), n, []⟩]) (q (o [⟨s 5, m (t 1), n, []⟩, ⟨s 6, m (t 5), n, []⟩, ⟨s 7, m (t 2), s (6, true), []⟩, ⟨s 8, .pick (t 6) (t 7) (c (.bool false)), n, []⟩, ⟨s 9, m (t 8), n, []⟩, ⟨s 10, m (t 3), s (9, true), []⟩, ⟨s 11, .pick (t 9) (t 10) (c (.bool false)), n, []⟩, ⟨s 12, m (t 11), n, []⟩, ⟨s 13, m (t 4), s (12, true), []⟩, ⟨s 14, .pick (t 12) (t 13) (c (.bool false)), n, []⟩, ⟨s 15, m (t 14), n, []⟩, ⟨s 16, k (.func 8) [], s (15, true), []⟩, ⟨s 17, .pick (t 15) (t 16) (c (.bool false)), n, []⟩, ⟨s 0, m (t 17), n, []⟩]) .ret)))))) [(.tmp 0)])
def g7 : AFunc := (.code 54 (q (o [⟨s 2, .box (t 0), n, []⟩, ⟨s 4, m (c (.bool false)), n, []⟩]) (q (q (o [⟨s 11, k (.func 8) [], n, []⟩, ⟨s 12, .un .not (t 11), n, []⟩]) (w (t 12) (q (o [⟨s 4, m (c (.bool false)), n, []⟩]) .ret) .skip)) (q (o [⟨s 13, d 6 (t 2), n, []⟩, ⟨s 14, k (.func 16) [(t 13)], n, []⟩, ⟨s 5, m (t 14), n, []⟩]) (q (q (o [⟨s 15, m (t 5), n, []⟩, ⟨s 16, .un .not (t 15), n, []⟩, ⟨s 17, m (t 16), n, []⟩, ⟨s 18, f 2 (t 2), s (17, false), []⟩, ⟨s 19, l (t 18), s (17, false), []⟩, ⟨s 20, .lenSl (t 19), s (17, false), []⟩, ⟨s 21, .bin .eql (t 20) (c (i .i64 0)), s (17, false), []⟩, ⟨s 22, .pick (t 17) (c (.bool true)) (t 21), n, []⟩]) (w (t 22) (q (o [⟨s 4, m (c (.bool true)), n, []⟩]) .ret) .skip)) (q (o [⟨s 6, m (c (i .i64 0)), n, []⟩]) (q (q (o [⟨s 7, m (c (i .i64 0)), n, []⟩]) (.block 0 (.loop (q (q (o [⟨s 23, m (t 6), n, []⟩, ⟨s 24, .bin .geq (t 23) (c (i .i64 0)), n, []⟩]) (w (t 24) .skip (.exit 0))) (q (.block 1 (q (q (o [⟨s 27, m (t 7), n, []⟩, ⟨s 28, .bin .geq (t 27) (c (i .i64 32)), n, []⟩]) (w (t 28) (q (o [⟨s 4, m (c (.bool false)), n, []⟩]) .ret) .skip)) (q (o [⟨s 31, f 2 (t 2), n, []⟩, ⟨s 33, m (t 6), n, []⟩, ⟨s 30, d 6 (t 2), n, []⟩, ⟨s 32, l (t 31), n, []⟩, ⟨s 34, a 6 (t 32) (t 33), n, []⟩, ⟨s 35, f 1 (t 34), n, []⟩, ⟨s 36, l (t 35), n, []⟩, ⟨s 37, k (.func 21) [(t 30), (t 36)], n, []⟩, ⟨s 29, m (t 37), n, []⟩, ⟨s 38, .extract (t 29) 0, n, []⟩, ⟨s 39, .extract (t 29) 1, n, []⟩, ⟨s 8, .alloc [(g (bs [])), (.slice n 0 0)], n, []⟩, ⟨n, .store 2 (t 8) (t 38), n, []⟩, ⟨s 9, m (t 39), n, []⟩]) (q (q (o [⟨s 40, m (t 9), n, []⟩, ⟨s 41, .un .not (t 40), n, []⟩]) (w (t 41) (q (o [⟨s 4, m (c (.bool false)), n, []⟩]) .ret) .skip)) (q (o [⟨s 10, m (c (i .i64 (-1))), n, []⟩]) (q (q (o [⟨s 42, m (t 7), n, []⟩, ⟨s 43, m (t 1), n, []⟩, ⟨s 44, .lenSl (t 43), n, []⟩, ⟨s 45, .bin .lss (t 42) (t 44), n, []⟩]) (w (t 45) (o [⟨s 46, m (t 1), n, []⟩, ⟨s 47, m (t 7), n, []⟩, ⟨s 48, a 1 (t 46) (t 47), n, []⟩, ⟨s 49, l (t 48), n, []⟩, ⟨s 10, m (t 49), n, []⟩]) .skip)) (o [⟨s 50, d 6 (t 2), n, []⟩, ⟨s 51, m (t 6), n, []⟩, ⟨s 52, m (t 10), n, []⟩, ⟨s 53, k (.func 22) [(t 50), (t 51), (t 52)], n, []⟩, ⟨s 6, m (t 53), n, []⟩]))))))) (o [⟨s 25, m (t 7), n, []⟩, ⟨s 26, .bin .add (t 25) (c (i .i64 1)), n, []⟩, ⟨s 7, m (t 26), n, []⟩])))))) (q (o [⟨s 4, m (c (.bool true)), n, []⟩]) .ret))))))) [(.tmp 4)])
def g8 : AFunc := (.code 118 (q (o [⟨s 0, m (c (.bool false)), n, []⟩]) (q (o [⟨s 12, k (.func 23) [(c (.bool false))], n, []⟩, ⟨s 1, .alloc [(.slice n 0 0), (.slice n 0 0), (.slice n 0 0), (.slice n 0 0), (.slice n 0 0), (.slice n 0 0)], n, []⟩, ⟨n, .store 6 (t 1) (t 12), n, []⟩]) (q (o [⟨s 14, d 6 (t 1), n, []⟩, ⟨s 15, k (.func 24) [(t 14)], n, []⟩, ⟨s 13, m (t 15), n, []⟩, ⟨s 16, .extract (t 13) 0, n, []⟩, ⟨s 17, .extract (t 13) 1, n, []⟩, ⟨s 2, m (t 16), n, []⟩, ⟨s 3, m (t 17), n, []⟩]) (q (o [⟨s 19, k (.func 23) [(c (.bool true))], n, []⟩, ⟨s 20, k (.func 24) [(t 19)], n, []⟩, ⟨s 18, m (t 20), n, []⟩, ⟨s 21, .extract (t 18) 0, n, []⟩, ⟨s 22, .extract (t 18) 1, n, []⟩, ⟨s 4, m (t 21), n, []⟩, ⟨s 5, m (t 22), n, []⟩]) (q (o [⟨s 24, d 6 (t 1), n, []⟩, ⟨s 25, k (.func 25) [(t 24), (c (g (bs [114, 111, 117, 116, 101])))], n, []⟩, ⟨s 23, m (t 25), n, []⟩, ⟨s 26, .extract (t 23) 0, n, []⟩, ⟨s 27, .extract (t 23) 1, n, []⟩, ⟨s 6, m (t 26), n, []⟩, ⟨s 7, m (t 27), n, []⟩]) (q (o [⟨s 28, d 6 (t 1), n, []⟩, ⟨s 29, k (.func 12) [(t 28)], n, []⟩, ⟨s 8, m (t 29), n, []⟩]) (q (o [⟨s 31, d 6 (t 1), n, []⟩, ⟨s 32, k (.func 18) [(t 31), (c (g (bs [114, 111, 117, 116, 101])))], n, []⟩, ⟨s 30, m (t 32), n, []⟩, ⟨s 33, .extract (t 30) 0, n, []⟩, ⟨s 34, .extract (t 30) 1, n, []⟩, ⟨s 35, .extract (t 30) 2, n, []⟩, ⟨s 9, .alloc [(g (bs [])), (.slice n 0 0), (.slice n 0 0), (i .i64 0), (g (bs [])), (.slice n 0 0), (.bool false)], n, []⟩, ⟨n, .store 7 (t 9) (t 33), n, []⟩, ⟨s 10, m (t 34), n, []⟩, ⟨s 11, m (t 35), n, []⟩]) (q (q (o [⟨s 36, m (t 2), n, []⟩, ⟨s 37, .bin .neq (t 36) (c (i .i64 0)), n, []⟩, ⟨s 38, m (t 37), n, []⟩, ⟨s 39, m (t 3), s (38, false), []⟩, ⟨s 40, .bin .neq (t 39) (c (g (bs []))), s (38, false), []⟩, ⟨s 41, .pick (t 38) (c (.bool true)) (t 40), n, []⟩, ⟨s 42, m (t 41), n, []⟩, ⟨s 43, m (t 4), s (42, false), []⟩, ⟨s 44, .bin .neq (t 43) (c (i .i64 76)), s (42, false), []⟩, ⟨s 45, .pick (t 42) (c (.bool true)) (t 44), n, []⟩, ⟨s 46, m (t 45), n, []⟩, ⟨s 47, m (t 5), s (46, false), []⟩, ⟨s 48, .bin .neq (t 47) (c (g (bs [116, 97, 98, 108, 101, 32, 114, 111, 117, 116, 101]))), s (46, false), []⟩, ⟨s 49, .pick (t 46) (c (.bool true)) (t 48), n, []⟩, ⟨s 50, m (t 49), n, []⟩, ⟨s 51, m (t 7), s (50, false), []⟩, ⟨s 52, .bin .neq (t 51) (c (i .i64 0)), s (50, false), []⟩, ⟨s 53, .pick (t 50) (c (.bool true)) (t 52), n, []⟩, ⟨s 54, m (t 53), n, []⟩, ⟨s 55, m (t 6), s (54, false), []⟩, ⟨s 56, .lenSl (t 55), s (54, false), []⟩, ⟨s 57, .bin .neq (t 56) (c (i .i64 1)), s (54, false), []⟩, ⟨s 58, .pick (t 54) (c (.bool true)) (t 57), n, []⟩, ⟨s 59, m (t 58), n, []⟩, ⟨s 60, m (t 6), s (59, false), []⟩, ⟨s 61, a 1 (t 60) (c (i .i64 0)), s (59, false), []⟩, ⟨s 62, l (t 61), s (59, false), []⟩, ⟨s 63, .bin .neq (t 62) (c (i .i64 32)), s (59, false), []⟩, ⟨s 64, .pick (t 59) (c (.bool true)) (t 63), n, []⟩, ⟨s 65, m (t 64), n, []⟩, ⟨s 66, m (t 8), s (65, false), []⟩, ⟨s 67, .lenSl (t 66), s (65, false), []⟩, ⟨s 68, .bin .neq (t 67) (c (i .i64 1)), s (65, false), []⟩, ⟨s 69, .pick (t 65) (c (.bool true)) (t 68), n, []⟩, ⟨s 70, m (t 69), n, []⟩, ⟨s 71, m (t 8), s (70, false), []⟩, ⟨s 72, a 1 (t 71) (c (i .i64 0)), s (70, false), []⟩, ⟨s 73, l (t 72), s (70, false), []⟩, ⟨s 74, .bin .neq (t 73) (c (g (bs [114, 111, 117, 116, 101]))), s (70, false), []⟩, ⟨s 75, .pick (t 70) (c (.bool true)) (t 74), n, []⟩, ⟨s 76, m (t 75), n, []⟩, ⟨s 77, m (t 11), s (76, false), []⟩, ⟨s 78, .un .not (t 77), s (76, false), []⟩, ⟨s 79, .pick (t 76) (c (.bool true)) (t 78), n, []⟩, ⟨s 80, m (t 79), n, []⟩, ⟨s 81, m (t 10), s (80, false), []⟩, ⟨s 82, .bin .neq (t 81) (c (i .i64 0)), s (80, false), []⟩, ⟨s 83, .pick (t 80) (c (.bool true)) (t 82), n, []⟩, ⟨s 84, m (t 83), n, []⟩, ⟨s 85, f 3 (t 9), s (84, false), []⟩, ⟨s 86, l (t 85), s (84, false), []⟩, ⟨s 87, .bin .neq (t 86) (c (i .i64 4)), s (84, false), []⟩, ⟨s 88, .pick (t 84) (c (.bool true)) (t 87), n, []⟩]) (w (t 88) (q (o [⟨s 0, m (c (.bool false)), n, []⟩]) .ret) .skip)) (q (o [⟨s 89, d 6 (t 1), n, []⟩, ⟨s 90, k (.func 14) [(t 89)], n, []⟩, ⟨s 91, .bin .eql (t 90) (c (i .i64 1)), n, []⟩, ⟨s 92, m (t 91), n, []⟩, ⟨s 93, d 7 (t 9), s (92, true), []⟩, ⟨s 94, k (.func 26) [(t 93)], s (92, true), []⟩, ⟨s 95, .bin .eql (t 94) (c (i .i64 2)), s (92, true), []⟩, ⟨s 96, .pick (t 92) (t 95) (c (.bool false)), n, []⟩, ⟨s 97, m (t 96), n, []⟩, ⟨s 98, k (.func 9) [(c (g (bs [114, 111, 117, 116, 101])))], s (97, true), []⟩, ⟨s 99, .pick (t 97) (t 98) (c (.bool false)), n, []⟩, ⟨s 100, m (t 99), n, []⟩, ⟨s 102, .build [(g (bs [])), (g (bs []))] [(0, (1, (c (g (bs [109, 101, 116, 97]))))), (1, (1, (c (g (bs [112, 111, 114, 116])))))], s (100, true), []⟩, ⟨s 101, d 6 (t 1), s (100, true), []⟩, ⟨s 103, k (.func 27) [(t 101), (t 102)], s (100, true), []⟩, ⟨s 104, .bin .eql (t 103) (c (i .i64 9)), s (100, true), []⟩, ⟨s 105, .pick (t 100) (t 104) (c (.bool false)), n, []⟩, ⟨s 106, m (t 105), n, []⟩, ⟨s 107, d 6 (t 1), s (106, true), []⟩, ⟨s 108, d 6 (t 1), s (106, true), []⟩, ⟨s 109, k (.func 29) [(t 108)], s (106, true), [(1, 1)]⟩, ⟨s 110, k (.func 28) [(t 107), (t 109)], s (106, true), []⟩, ⟨s 111, .pick (t 106) (t 110) (c (.bool false)), n, []⟩, ⟨s 112, m (t 111), n, []⟩, ⟨s 113, d 6 (t 1), s (112, true), []⟩, ⟨s 114, k (.func 23) [(c (.bool true))], s (112, true), [(1, 1)]⟩, ⟨s 115, k (.func 28) [(t 113), (t 114)], s (112, true), []⟩, ⟨s 116, .un .not (t 115), s (112, true), []⟩, ⟨s 117, .pick (t 112) (t 116) (c (.bool false)), n, []⟩, ⟨s 0, m (t 117), n, []⟩]) .ret))))))))) [(.tmp 0)])
def g9 : AFunc := (.code 51 (q (o [⟨s 2, m (c (.bool false)), n, []⟩]) (q (q (o [⟨s 6, m (t 0), n, []⟩, ⟨s 7, .bin .eql (t 6) (c (g (bs []))), n, []⟩, ⟨s 8, m (t 7), n, []⟩, ⟨s 9, m (t 0), s (8, false), []⟩, ⟨s 10, .lenStr (t 9), s (8, false), []⟩, ⟨s 11, .bin .gtr (t 10) (c (i .i64 32)), s (8, false), []⟩, ⟨s 12, .pick (t 8) (c (.bool true)) (t 11), n, []⟩]) (w (t 12) (q (o [⟨s 2, m (c (.bool false)), n, []⟩]) .ret) .skip)) (q (q (o [⟨s 13, m (t 0), n, []⟩, ⟨s 14, .s2b (t 13), n, []⟩, ⟨s 15, .lenSl (t 14), n, []⟩, ⟨s 16, m (c (i .i64 0)), n, []⟩]) (.block 0 (.loop (q (o [⟨s 17, .bin .lss (t 16) (t 15), n, []⟩]) (q (w (t 17) .skip (.exit 0)) (q (.block 1 (q (o [⟨s 18, m (t 16), n, []⟩, ⟨s 19, a 1 (t 14) (t 16), n, []⟩, ⟨s 20, l (t 19), n, []⟩, ⟨s 3, m (t 18), n, []⟩, ⟨s 4, m (t 20), n, []⟩]) (q (o [⟨s 21, m (t 4), n, []⟩, ⟨s 22, .bin .leq (c (i .u8 97)) (t 21), n, []⟩, ⟨s 23, m (t 22), n, []⟩, ⟨s 24, m (t 4), s (23, true), []⟩, ⟨s 25, .bin .leq (t 24) (c (i .u8 122)), s (23, true), []⟩, ⟨s 26, .pick (t 23) (t 25) (c (.bool false)), n, []⟩, ⟨s 5, m (t 26), n, []⟩]) (q (o [⟨s 27, m (t 5), n, []⟩, ⟨s 28, .un .not (t 27), n, []⟩, ⟨s 29, m (t 28), n, []⟩, ⟨s 30, m (t 3), s (29, true), []⟩, ⟨s 31, .bin .eql (t 30) (c (i .i64 0)), s (29, true), []⟩, ⟨s 32, m (t 31), s (29, true), []⟩, ⟨s 33, m (t 4), s (32, false), []⟩, ⟨s 34, .bin .neq (t 33) (c (i .u8 95)), s (32, false), []⟩, ⟨s 35, m (t 34), s (32, false), []⟩, ⟨s 36, m (t 4), s (35, true), []⟩, ⟨s 37, .bin .lss (t 36) (c (i .u8 48)), s (35, true), []⟩, ⟨s 38, m (t 37), s (35, true), []⟩, ⟨s 39, m (t 4), s (38, false), []⟩, ⟨s 40, .bin .gtr (t 39) (c (i .u8 57)), s (38, false), []⟩, ⟨s 41, .pick (t 38) (c (.bool true)) (t 40), s (35, true), []⟩, ⟨s 42, .pick (t 35) (t 41) (c (.bool false)), s (32, false), []⟩, ⟨s 43, .pick (t 32) (c (.bool true)) (t 42), s (29, true), []⟩, ⟨s 44, .pick (t 29) (t 43) (c (.bool false)), n, []⟩]) (w (t 44) (q (o [⟨s 2, m (c (.bool false)), n, []⟩]) .ret) .skip))))) (o [⟨s 45, .bin .add (t 16) (c (i .i64 1)), n, []⟩, ⟨s 16, m (t 45), n, []⟩]))))))) (q (o [⟨s 46, m (t 0), n, []⟩, ⟨s 47, .bin .add (c (g (bs [32]))) (t 46), n, []⟩, ⟨s 48, .bin .add (t 47) (c (g (bs [32]))), n, []⟩, ⟨s 49, k (.func 30) [(c (g (bs [32, 97, 99, 99, 101, 112, 116, 32, 97, 99, 116, 105, 111, 110, 32, 97, 100, 100, 32, 97, 103, 97, 105, 110, 32, 97, 112, 112, 108, 121, 32, 99, 97, 110, 32, 99, 111, 110, 116, 114, 111, 108, 32, 100, 101, 102, 97, 117, 108, 116, 32, 100, 114, 111, 112, 32, 101, 108, 115, 101, 32, 101, 120, 97, 99, 116, 32, 101, 120, 105, 116, 32, 102, 105, 120, 101, 100, 32, 104, 101, 97, 100, 101, 114, 32, 105, 102, 32, 107, 101, 121, 32, 109, 101, 116, 97, 32, 111, 110, 32, 112, 114, 101, 102, 105, 120, 32, 114, 97, 110, 103, 101, 32, 114, 101, 106, 101, 99, 116, 32, 114, 101, 109, 111, 118, 101, 32, 115, 105, 122, 101, 32, 115, 116, 97, 116, 101, 32, 115, 117, 109, 32, 116, 97, 98, 108, 101, 32, 116, 97, 107, 101, 32, 116, 101, 114, 110, 97, 114, 121, 32, 118, 97, 108, 105, 100, 32]))), (t 48)], n, []⟩, ⟨s 50, .un .not (t 49), n, []⟩, ⟨s 2, m (t 50), n, []⟩]) .ret)))) [(.tmp 2)])
def g10 : AFunc := (.code 61 (q (o [⟨s 2, m (c (.bool false)), n, []⟩]) (q (q (o [⟨s 7, m (t 0), n, []⟩, ⟨s 8, .lenStr (t 7), n, []⟩, ⟨s 9, .bin .lss (t 8) (c (i .i64 1)), n, []⟩, ⟨s 10, m (t 9), n, []⟩, ⟨s 11, m (t 0), s (10, false), []⟩, ⟨s 12, .lenStr (t 11), s (10, false), []⟩, ⟨s 13, .bin .gtr (t 12) (c (i .i64 32)), s (10, false), []⟩, ⟨s 14, .pick (t 10) (c (.bool true)) (t 13), n, []⟩]) (w (t 14) (q (o [⟨s 2, m (c (.bool false)), n, []⟩]) .ret) .skip)) (q (q (o [⟨s 3, m (c (i .i64 0)), n, []⟩]) (.block 0 (.loop (q (q (o [⟨s 15, m (t 3), n, []⟩, ⟨s 16, m (t 0), n, []⟩, ⟨s 17, .lenStr (t 16), n, []⟩, ⟨s 18, .bin .lss (t 15) (t 17), n, []⟩]) (w (t 18) .skip (.exit 0))) (q (.block 1 (q (o [⟨s 21, m (t 0), n, []⟩, ⟨s 22, m (t 3), n, []⟩, ⟨s 23, .idxStr (t 21) (t 22), n, []⟩, ⟨s 24, .bin .geq (t 23) (c (i .u8 97)), n, []⟩, ⟨s 25, m (t 24), n, []⟩, ⟨s 26, m (t 0), s (25, true), []⟩, ⟨s 27, m (t 3), s (25, true), []⟩, ⟨s 28, .idxStr (t 26) (t 27), s (25, true), []⟩, ⟨s 29, .bin .leq (t 28) (c (i .u8 122)), s (25, true), []⟩, ⟨s 30, .pick (t 25) (t 29) (c (.bool false)), n, []⟩, ⟨s 4, m (t 30), n, []⟩]) (q (o [⟨s 31, m (t 0), n, []⟩, ⟨s 32, m (t 3), n, []⟩, ⟨s 33, .idxStr (t 31) (t 32), n, []⟩, ⟨s 34, .bin .geq (t 33) (c (i .u8 48)), n, []⟩, ⟨s 35, m (t 34), n, []⟩, ⟨s 36, m (t 0), s (35, true), []⟩, ⟨s 37, m (t 3), s (35, true), []⟩, ⟨s 38, .idxStr (t 36) (t 37), s (35, true), []⟩, ⟨s 39, .bin .leq (t 38) (c (i .u8 57)), s (35, true), []⟩, ⟨s 40, .pick (t 35) (t 39) (c (.bool false)), n, []⟩, ⟨s 41, m (t 40), n, []⟩, ⟨s 42, m (t 0), s (41, false), []⟩, ⟨s 43, m (t 3), s (41, false), []⟩, ⟨s 44, .idxStr (t 42) (t 43), s (41, false), []⟩, ⟨s 45, .bin .eql (t 44) (c (i .u8 95)), s (41, false), []⟩, ⟨s 46, .pick (t 41) (c (.bool true)) (t 45), n, []⟩, ⟨s 5, m (t 46), n, []⟩]) (q (o [⟨s 47, m (t 4), n, []⟩, ⟨s 48, .un .not (t 47), n, []⟩, ⟨s 49, m (t 48), n, []⟩, ⟨s 50, m (t 3), s (49, true), []⟩, ⟨s 51, .bin .eql (t 50) (c (i .i64 0)), s (49, true), []⟩, ⟨s 52, m (t 51), s (49, true), []⟩, ⟨s 53, m (t 5), s (52, false), []⟩, ⟨s 54, .un .not (t 53), s (52, false), []⟩, ⟨s 55, .pick (t 52) (c (.bool true)) (t 54), s (49, true), []⟩, ⟨s 56, .pick (t 49) (t 55) (c (.bool false)), n, []⟩]) (w (t 56) (q (o [⟨s 2, m (c (.bool false)), n, []⟩]) .ret) .skip))))) (o [⟨s 19, m (t 3), n, []⟩, ⟨s 20, .bin .add (t 19) (c (i .i64 1)), n, []⟩, ⟨s 3, m (t 20), n, []⟩])))))) (q (o [⟨s 57, m (t 0), n, []⟩, ⟨s 58, k (.func 31) [(t 57)], n, []⟩, ⟨s 6, m (t 58), n, []⟩]) (q (o [⟨s 59, m (t 6), n, []⟩, ⟨s 60, .un .not (t 59), n, []⟩, ⟨s 2, m (t 60), n, []⟩]) .ret))))) [(.tmp 2)])
def g11 : AFunc := (.code 26 (q (o [⟨s 4, m (c (.bool false)), n, []⟩]) (q (q (o [⟨s 6, m (t 0), n, []⟩, ⟨s 7, .lenSl (t 6), n, []⟩, ⟨s 8, m (t 1), n, []⟩, ⟨s 9, .lenSl (t 8), n, []⟩, ⟨s 10, .bin .neq (t 7) (t 9), n, []⟩]) (w (t 10) (q (o [⟨s 4, m (c (.bool false)), n, []⟩]) .ret) .skip)) (q (q (o [⟨s 5, m (c (i .i64 0)), n, []⟩]) (.block 0 (.loop (q (q (o [⟨s 11, m (t 5), n, []⟩, ⟨s 12, m (t 0), n, []⟩, ⟨s 13, .lenSl (t 12), n, []⟩, ⟨s 14, .bin .lss (t 11) (t 13), n, []⟩]) (w (t 14) .skip (.exit 0))) (q (.block 1 (q (o [⟨s 17, m (t 0), n, []⟩, ⟨s 18, m (t 5), n, []⟩, ⟨s 19, a 1 (t 17) (t 18), n, []⟩, ⟨s 21, m (t 1), n, []⟩, ⟨s 22, m (t 5), n, []⟩, ⟨s 23, a 1 (t 21) (t 22), n, []⟩, ⟨s 20, l (t 19), n, []⟩, ⟨s 24, l (t 23), n, []⟩, ⟨s 25, .bin .neq (t 20) (t 24), n, []⟩]) (w (t 25) (q (o [⟨s 4, m (c (.bool false)), n, []⟩]) .ret) .skip))) (o [⟨s 15, m (t 5), n, []⟩, ⟨s 16, .bin .add (t 15) (c (i .i64 1)), n, []⟩, ⟨s 5, m (t 16), n, []⟩])))))) (q (o [⟨s 4, m (c (.bool true)), n, []⟩]) .ret)))) [(.tmp 4)])
def g12 : AFunc := (.code 12 (q (o [⟨s 1, .box (t 0), n, []⟩, ⟨s 2, m (c (.slice n 0 0)), n, []⟩]) (q (q (o [⟨s 4, d 6 (t 1), n, []⟩, ⟨s 5, k (.func 32) [(t 4)], n, []⟩, ⟨s 6, .bin .neq (t 5) (c (i .i64 0)), n, []⟩]) (w (t 6) (q (o [⟨s 2, m (c (.slice n 0 0)), n, []⟩]) .ret) .skip)) (q (o [⟨s 3, .alloc [(.slice n 0 0)], n, []⟩]) (q (o [⟨s 7, f 5 (t 1), n, []⟩, ⟨s 8, l (t 7), n, []⟩, ⟨s 9, .mkFunc 34 [] [(t 3)], n, []⟩, ⟨s 10, k (.func 33) [(t 8), (c (i .i64 1)), (t 9)], n, []⟩]) (q (o [⟨s 11, l (t 3), n, []⟩, ⟨s 2, m (t 11), n, []⟩]) .ret))))) [(.tmp 2)])
def g14 : AFunc := (.code 27 (q (o [⟨s 1, .box (t 0), n, []⟩, ⟨s 2, m (c (i .i64 0)), n, []⟩]) (q (q (o [⟨s 7, d 6 (t 1), n, []⟩, ⟨s 8, k (.func 32) [(t 7)], n, []⟩, ⟨s 9, .bin .neq (t 8) (c (i .i64 0)), n, []⟩]) (w (t 9) (q (o [⟨s 2, m (c (i .i64 0)), n, []⟩]) .ret) .skip)) (q (o [⟨s 11, f 5 (t 1), n, []⟩, ⟨s 12, l (t 11), n, []⟩, ⟨s 13, k (.func 38) [(t 12)], n, []⟩, ⟨s 10, m (t 13), n, []⟩, ⟨s 14, .extract (t 10) 0, n, []⟩, ⟨s 15, .extract (t 10) 1, n, []⟩, ⟨s 3, m (t 14), n, []⟩, ⟨s 4, m (t 15), n, []⟩]) (q (q (o [⟨s 16, m (t 4), n, []⟩, ⟨s 17, .lenSl (t 16), n, []⟩, ⟨s 18, m (c (i .i64 0)), n, []⟩]) (.block 0 (.loop (q (o [⟨s 19, .bin .lss (t 18) (t 17), n, []⟩]) (q (w (t 19) .skip (.exit 0)) (q (.block 1 (q (o [⟨s 20, a 1 (t 16) (t 18), n, []⟩, ⟨s 21, l (t 20), n, []⟩, ⟨s 6, m (t 21), n, []⟩]) (o [⟨s 22, m (t 3), n, []⟩, ⟨s 23, m (t 6), n, []⟩, ⟨s 24, .mm true [(t 22), (t 23)], n, []⟩, ⟨s 3, m (t 24), n, []⟩]))) (o [⟨s 25, .bin .add (t 18) (c (i .i64 1)), n, []⟩, ⟨s 18, m (t 25), n, []⟩]))))))) (q (o [⟨s 26, m (t 3), n, []⟩, ⟨s 2, m (t 26), n, []⟩]) .ret))))) [(.tmp 2)])
def g16 : AFunc := (.code 16 (q (o [⟨s 1, .box (t 0), n, []⟩, ⟨s 2, m (c (.bool false)), n, []⟩]) (q (o [⟨s 6, d 6 (t 1), n, []⟩, ⟨s 7, k (.func 24) [(t 6)], n, []⟩, ⟨s 5, m (t 7), n, []⟩, ⟨s 8, .extract (t 5) 0, n, []⟩, ⟨s 9, .extract (t 5) 1, n, []⟩, ⟨s 3, m (t 8), n, []⟩, ⟨s 4, m (t 9), n, []⟩]) (q (o [⟨s 10, m (t 3), n, []⟩, ⟨s 11, .bin .eql (t 10) (c (i .i64 0)), n, []⟩, ⟨s 12, m (t 11), n, []⟩, ⟨s 13, m (t 4), s (12, true), []⟩, ⟨s 14, .bin .eql (t 13) (c (g (bs []))), s (12, true), []⟩, ⟨s 15, .pick (t 12) (t 14) (c (.bool false)), n, []⟩, ⟨s 2, m (t 15), n, []⟩]) .ret))) [(.tmp 2)])
def g18 : AFunc := (.code 21 (q (o [⟨s 2, .box (t 0), n, []⟩, ⟨s 4, .alloc [(g (bs [])), (.slice n 0 0), (.slice n 0 0), (i .i64 0), (g (bs [])), (.slice n 0 0), (.bool false)], n, []⟩, ⟨s 5, m (c (i .i64 0)), n, []⟩, ⟨s 6, m (c (.bool false)), n, []⟩]) (q (q (o [⟨s 8, d 6 (t 2), n, []⟩, ⟨s 9, m (t 1), n, []⟩, ⟨s 10, k (.func 40) [(t 8), (t 9)], n, []⟩, ⟨s 7, m (t 10), n, []⟩]) (q (o [⟨s 11, m (t 7), n, []⟩, ⟨s 12, .bin .geq (t 11) (c (i .i64 0)), n, []⟩]) (w (t 12) (q (o [⟨s 13, f 4 (t 2), n, []⟩, ⟨s 14, l (t 13), n, []⟩, ⟨s 15, m (t 7), n, []⟩, ⟨s 16, a 7 (t 14) (t 15), n, []⟩, ⟨s 17, d 7 (t 16), n, []⟩, ⟨s 18, k (.func 41) [(t 17)], n, []⟩, ⟨s 19, m (t 7), n, []⟩, ⟨n, .store 7 (t 4) (t 18), n, []⟩, ⟨s 5, m (t 19), n, []⟩, ⟨s 6, m (c (.bool true)), n, []⟩]) .ret) .skip))) (q (o [⟨s 20, .build [(g (bs [])), (.slice n 0 0), (.slice n 0 0), (i .i64 0), (g (bs [])), (.slice n 0 0), (.bool false)] [], n, []⟩, ⟨n, .store 7 (t 4) (t 20), n, []⟩, ⟨s 5, m (c (i .i64 0)), n, []⟩, ⟨s 6, m (c (.bool false)), n, []⟩]) .ret))) [(.cellN 4 7), (.tmp 5), (.tmp 6)])
def g21 : AFunc := (.code 24 (q (o [⟨s 2, .box (t 0), n, []⟩, ⟨s 4, .alloc [(g (bs [])), (.slice n 0 0)], n, []⟩, ⟨s 5, m (c (.bool false)), n, []⟩]) (q (q (o [⟨s 8, d 6 (t 2), n, []⟩, ⟨s 9, m (t 1), n, []⟩, ⟨s 10, k (.func 42) [(t 8), (t 9)], n, []⟩, ⟨s 6, m (t 10), n, []⟩]) (q (o [⟨s 11, m (t 6), n, []⟩, ⟨s 12, .bin .geq (t 11) (c (i .i64 0)), n, []⟩]) (w (t 12) (q (o [⟨s 13, f 0 (t 2), n, []⟩, ⟨s 14, l (t 13), n, []⟩, ⟨s 15, m (t 6), n, []⟩, ⟨s 16, a 2 (t 14) (t 15), n, []⟩, ⟨s 17, d 2 (t 16), n, []⟩, ⟨s 7, .alloc [(g (bs [])), (.slice n 0 0)], n, []⟩, ⟨n, .store 2 (t 7) (t 17), n, []⟩]) (q (o [⟨s 18, f 1 (t 7), n, []⟩, ⟨s 19, l (t 18), n, []⟩, ⟨s 20, k (.func 43) [(t 19)], n, []⟩, ⟨s 21, f 1 (t 7), n, []⟩, ⟨n, .store 1 (t 21) (t 20), n, []⟩]) (q (o [⟨s 22, d 2 (t 7), n, []⟩, ⟨n, .store 2 (t 4) (t 22), n, []⟩, ⟨s 5, m (c (.bool true)), n, []⟩]) .ret))) .skip))) (q (o [⟨s 23, .build [(g (bs [])), (.slice n 0 0)] [], n, []⟩, ⟨n, .store 2 (t 4) (t 23), n, []⟩, ⟨s 5, m (c (.bool false)), n, []⟩]) .ret))) [(.cellN 4 2), (.tmp 5)])
def g22 : AFunc := (.code 48 (q (o [⟨s 3, .box (t 0), n, []⟩, ⟨s 6, m (c (i .i64 0)), n, []⟩]) (q (o [⟨s 10, f 2 (t 3), n, []⟩, ⟨s 11, l (t 10), n, []⟩, ⟨s 12, m (t 1), n, []⟩, ⟨s 13, a 6 (t 11) (t 12), n, []⟩, ⟨s 14, d 6 (t 13), n, []⟩, ⟨s 7, .alloc [(g (bs [])), (g (bs [])), (g (bs [])), (g (bs [])), (.slice n 0 0), (g (bs []))], n, []⟩, ⟨n, .store 6 (t 7) (t 14), n, []⟩]) (q (o [⟨s 15, f 5 (t 7), n, []⟩, ⟨s 16, l (t 15), n, []⟩, ⟨s 8, m (t 16), n, []⟩]) (q (q (o [⟨s 17, m (t 2), n, []⟩, ⟨s 18, .bin .geq (t 17) (c (i .i64 0)), n, []⟩, ⟨s 19, m (t 18), n, []⟩, ⟨s 20, m (t 2), s (19, true), []⟩, ⟨s 21, f 4 (t 7), s (19, true), []⟩, ⟨s 22, l (t 21), s (19, true), []⟩, ⟨s 23, .lenSl (t 22), s (19, true), []⟩, ⟨s 24, .bin .lss (t 20) (t 23), s (19, true), []⟩, ⟨s 25, .pick (t 19) (t 24) (c (.bool false)), n, []⟩]) (w (t 25) (o [⟨s 26, f 4 (t 7), n, []⟩, ⟨s 27, l (t 26), n, []⟩, ⟨s 28, m (t 2), n, []⟩, ⟨s 29, a 5 (t 27) (t 28), n, []⟩, ⟨s 30, f 4 (t 29), n, []⟩, ⟨s 31, l (t 30), n, []⟩, ⟨s 8, m (t 31), n, []⟩]) .skip)) (q (q (o [⟨s 9, m (c (i .i64 0)), n, []⟩]) (.block 0 (.loop (q (q (o [⟨s 32, m (t 9), n, []⟩, ⟨s 33, f 2 (t 3), n, []⟩, ⟨s 34, l (t 33), n, []⟩, ⟨s 35, .lenSl (t 34), n, []⟩, ⟨s 36, .bin .lss (t 32) (t 35), n, []⟩]) (w (t 36) .skip (.exit 0))) (q (.block 1 (q (o [⟨s 39, f 2 (t 3), n, []⟩, ⟨s 40, l (t 39), n, []⟩, ⟨s 41, m (t 9), n, []⟩, ⟨s 42, a 6 (t 40) (t 41), n, []⟩, ⟨s 43, f 0 (t 42), n, []⟩, ⟨s 44, l (t 43), n, []⟩, ⟨s 45, m (t 8), n, []⟩, ⟨s 46, .bin .eql (t 44) (t 45), n, []⟩]) (w (t 46) (q (o [⟨s 47, m (t 9), n, []⟩, ⟨s 6, m (t 47), n, []⟩]) .ret) .skip))) (o [⟨s 37, m (t 9), n, []⟩, ⟨s 38, .bin .add (t 37) (c (i .i64 1)), n, []⟩, ⟨s 9, m (t 38), n, []⟩])))))) (q (o [⟨s 6, m (c (i .i64 (-1))), n, []⟩]) .ret)))))) [(.tmp 6)])
def g23 : AFunc := (.code 59 (q (o [⟨s 2, .alloc [(.slice n 0 0), (.slice n 0 0), (.slice n 0 0), (.slice n 0 0), (.slice n 0 0), (.slice n 0 0)], n, []⟩]) (q (o [⟨s 3, .alloc [(.slice n 0 0), (.slice n 0 0), (.slice n 0 0), (.slice n 0 0), (.slice n 0 0), (.slice n 0 0)], n, []⟩]) (q (o [⟨s 4, .build [(g (bs [])), (i .i64 0)] [(0, (1, (c (g (bs [116, 116, 108]))))), (1, (1, (c (i .i64 8))))], n, []⟩, ⟨s 5, .build [(g (bs [])), (i .i64 0)] [(0, (1, (c (g (bs [115, 114, 99]))))), (1, (1, (c (i .i64 32))))], n, []⟩, ⟨s 6, .buildSlice 2 2 [(g (bs [])), (i .i64 0), (g (bs [])), (i .i64 0)] [(0, (2, (t 4))), (2, (2, (t 5)))], n, []⟩, ⟨s 7, .build [(g (bs [])), (.slice n 0 0)] [(0, (1, (c (g (bs [105, 112]))))), (1, (1, (t 6)))], n, []⟩, ⟨s 8, .buildSlice 2 1 [(g (bs [])), (.slice n 0 0)] [(0, (2, (t 7)))], n, []⟩, ⟨s 9, f 0 (t 3), n, []⟩, ⟨n, .store 1 (t 9) (t 8), n, []⟩]) (q (o [⟨s 10, .build [(g (bs [])), (i .i64 0)] [(0, (1, (c (g (bs [112, 111, 114, 116]))))), (1, (1, (c (i .i64 9))))], n, []⟩, ⟨s 11, .buildSlice 2 1 [(g (bs [])), (i .i64 0)] [(0, (2, (t 10)))], n, []⟩, ⟨s 12, f 1 (t 3), n, []⟩, ⟨n, .store 1 (t 12) (t 11), n, []⟩]) (q (o [⟨s 13, .build [(g (bs [])), (g (bs []))] [(0, (1, (c (g (bs [105, 112]))))), (1, (1, (c (g (bs [116, 116, 108])))))], n, []⟩, ⟨s 14, .build [(i .u64 0), (i .u64 0)] [(1, (1, (c (i .u64 255))))], n, []⟩, ⟨s 15, .build [(i .u64 0), (i .u64 0), (i .u64 0), (i .u64 0), (g (bs []))] [(2, (2, (t 14))), (4, (1, (c (g (bs [114, 101, 106, 101, 99, 116])))))], n, []⟩, ⟨s 16, .buildSlice 5 1 [(i .u64 0), (i .u64 0), (i .u64 0), (i .u64 0), (g (bs []))] [(0, (5, (t 15)))], n, []⟩, ⟨s 17, .build [(g (bs [])), (g (bs [])), (g (bs [])), (g (bs [])), (.slice n 0 0), (g (bs []))] [(0, (1, (c (g (bs [98, 101, 103, 105, 110]))))), (1, (1, (c (g (bs [105, 112]))))), (2, (2, (t 13))), (4, (1, (t 16))), (5, (1, (c (g (bs [97, 99, 99, 101, 112, 116])))))], n, []⟩, ⟨s 18, .buildSlice 6 1 [(g (bs [])), (g (bs [])), (g (bs [])), (g (bs [])), (.slice n 0 0), (g (bs []))] [(0, (6, (t 17)))], n, []⟩, ⟨s 19, f 2 (t 3), n, []⟩, ⟨n, .store 1 (t 19) (t 18), n, []⟩]) (q (o [⟨s 20, .build [(g (bs [])), (i .i64 0)] [(0, (1, (c (g (bs [112]))))), (1, (1, (c (i .i64 9))))], n, []⟩, ⟨s 21, .buildSlice 2 1 [(g (bs [])), (i .i64 0)] [(0, (2, (t 20)))], n, []⟩, ⟨s 22, .build [(g (bs [])), (g (bs []))] [(0, (1, (c (g (bs [109, 101, 116, 97]))))), (1, (1, (c (g (bs [112, 111, 114, 116])))))], n, []⟩, ⟨s 23, .build [(g (bs [])), (g (bs []))] [(1, (1, (c (g (bs [112])))))], n, []⟩, ⟨s 24, .build [(g (bs [])), (g (bs [])), (i .u64 0), (i .u64 0)] [(0, (2, (t 23)))], n, []⟩, ⟨s 25, .build [(i .i64 0), (g (bs [])), (g (bs [])), (i .i64 0), (g (bs [])), (g (bs [])), (i .u64 0), (i .u64 0), (g (bs [])), (g (bs [])), (i .u64 0), (i .u64 0)] [(0, (1, (c (i .i64 1)))), (1, (2, (t 22))), (4, (4, (t 24)))], n, []⟩, ⟨s 26, .buildSlice 12 1 [(i .i64 0), (g (bs [])), (g (bs [])), (i .i64 0), (g (bs [])), (g (bs [])), (i .u64 0), (i .u64 0), (g (bs [])), (g (bs [])), (i .u64 0), (i .u64 0)] [(0, (12, (t 25)))], n, []⟩, ⟨s 27, .build [(g (bs [])), (.slice n 0 0), (.slice n 0 0)] [(0, (1, (c (g (bs [111, 117, 116]))))), (1, (1, (t 21))), (2, (1, (t 26)))], n, []⟩, ⟨s 28, .buildSlice 3 1 [(g (bs [])), (.slice n 0 0), (.slice n 0 0)] [(0, (3, (t 27)))], n, []⟩, ⟨s 29, f 3 (t 3), n, []⟩, ⟨n, .store 1 (t 29) (t 28), n, []⟩]) (q (o [⟨s 30, .build [(g (bs [])), (g (bs []))] [(0, (1, (c (g (bs [105, 112]))))), (1, (1, (c (g (bs [115, 114, 99])))))], n, []⟩, ⟨s 31, .build [(g (bs [])), (g (bs [])), (i .i64 0)] [(0, (2, (t 30))), (2, (1, (c (i .i64 2))))], n, []⟩, ⟨s 32, .buildSlice 3 1 [(g (bs [])), (g (bs [])), (i .i64 0)] [(0, (3, (t 31)))], n, []⟩, ⟨s 33, .buildSlice 1 1 [(g (bs []))] [(0, (1, (c (g (bs [111, 117, 116])))))], n, []⟩, ⟨s 34, .build [(i .u64 0), (i .u64 0)] [(1, (1, (c (i .u64 511))))], n, []⟩, ⟨s 35, .buildSlice 2 1 [(i .u64 0), (i .u64 0)] [(0, (2, (t 34)))], n, []⟩, ⟨s 36, .build [(g (bs [])), (.slice n 0 0)] [(0, (1, (c (g (bs [111, 117, 116]))))), (1, (1, (t 35)))], n, []⟩, ⟨s 37, .build [(g (bs [])), (.slice n 0 0), (.slice n 0 0), (i .i64 0), (g (bs [])), (.slice n 0 0), (.bool false)] [(0, (1, (c (g (bs [114, 111, 117, 116, 101]))))), (1, (1, (t 32))), (2, (1, (t 33))), (3, (1, (c (i .i64 4)))), (4, (2, (t 36)))], n, []⟩, ⟨s 38, .buildSlice 7 1 [(g (bs [])), (.slice n 0 0), (.slice n 0 0), (i .i64 0), (g (bs [])), (.slice n 0 0), (.bool false)] [(0, (7, (t 37)))], n, []⟩, ⟨s 39, f 4 (t 3), n, []⟩, ⟨n, .store 1 (t 39) (t 38), n, []⟩]) (q (q (o [⟨s 40, m (t 0), n, []⟩]) (w (t 40) (o [⟨s 41, f 4 (t 3), n, []⟩, ⟨s 43, f 4 (t 3), n, []⟩, ⟨s 49, .build [(i .u64 0), (i .u64 0)] [], n, []⟩, ⟨s 42, l (t 41), n, []⟩, ⟨s 44, l (t 43), n, []⟩, ⟨s 45, a 7 (t 44) (c (i .i64 0)), n, []⟩, ⟨s 46, f 4 (t 45), n, []⟩, ⟨s 47, f 1 (t 46), n, []⟩, ⟨s 48, l (t 47), n, []⟩, ⟨s 50, .buildSlice 2 1 [(i .u64 0), (i .u64 0)] [(0, (2, (t 49)))], n, []⟩, ⟨s 51, .append 2 16 (t 48) (t 50), n, [(41, 1)]⟩, ⟨s 52, a 7 (t 42) (c (i .i64 0)), n, []⟩, ⟨s 53, f 4 (t 52), n, []⟩, ⟨s 54, f 1 (t 53), n, []⟩, ⟨n, .store 1 (t 54) (t 51), n, []⟩]) .skip)) (q (o [⟨s 55, .build [(i .i64 0), (g (bs [])), (i .i64 0), (g (bs [])), (g (bs [])), (i .u64 0), (i .u64 0), (g (bs [])), (g (bs [])), (i .u64 0), (i .u64 0), (.slice n 0 0), (.slice n 0 0)] [(0, (1, (c (i .i64 1)))), (1, (1, (c (g (bs [114, 111, 117, 116, 101])))))], n, []⟩, ⟨s 56, .buildSlice 13 1 [(i .i64 0), (g (bs [])), (i .i64 0), (g (bs [])), (g (bs [])), (i .u64 0), (i .u64 0), (g (bs [])), (g (bs [])), (i .u64 0), (i .u64 0), (.slice n 0 0), (.slice n 0 0)] [(0, (13, (t 55)))], n, []⟩, ⟨s 57, f 5 (t 3), n, []⟩, ⟨n, .store 1 (t 57) (t 56), n, []⟩]) (q (o [⟨s 58, d 6 (t 3), n, []⟩, ⟨n, .store 6 (t 2) (t 58), n, []⟩]) .ret)))))))))) [(.cellN 2 6)])
def g24 : AFunc := (.dfr 35 (.pre (o [⟨s 1, .box (t 0), n, []⟩, ⟨s 2, .alloc [(i .i64 0)], n, []⟩, ⟨s 3, .alloc [(g (bs []))], n, []⟩]) (.here 7 44 [(t 2), (t 3)] (q (o [⟨s 8, d 6 (t 1), n, []⟩, ⟨s 9, .build [(.slice n 0 0), (.slice n 0 0), (.slice n 0 0), (.slice n 0 0), (.slice n 0 0), (.slice n 0 0), (g (bs []))] [(0, (6, (t 8)))], n, []⟩, ⟨s 4, .alloc [(.slice n 0 0), (.slice n 0 0), (.slice n 0 0), (.slice n 0 0), (.slice n 0 0), (.slice n 0 0), (g (bs []))], n, []⟩, ⟨n, .store 7 (t 4) (t 9), n, []⟩]) (q (o [⟨s 10, k (.func 45) [(t 4)], n, []⟩]) (q (o [⟨s 11, f 6 (t 4), n, []⟩, ⟨n, .store 1 (t 11) (c (g (bs [109, 101, 116, 97]))), n, []⟩]) (q (o [⟨s 12, f 1 (t 1), n, []⟩, ⟨s 13, l (t 12), n, []⟩, ⟨s 14, .lenSl (t 13), n, []⟩, ⟨s 15, .bin .leq (t 14) (c (i .i64 32)), n, []⟩, ⟨s 16, k (.func 46) [(t 4), (t 15), (c (i .i64 74))], n, []⟩]) (q (o [⟨s 17, f 1 (t 1), n, []⟩, ⟨s 18, l (t 17), n, []⟩, ⟨s 19, k (.func 47) [(t 4), (t 18)], n, []⟩]) (q (o [⟨s 20, k (.func 48) [(t 4)], n, []⟩]) (q (o [⟨s 21, k (.func 49) [(t 4)], n, []⟩]) (q (o [⟨s 22, k (.func 50) [(t 4)], n, []⟩]) (q (o [⟨s 23, f 6 (t 4), n, []⟩, ⟨n, .store 1 (t 23) (c (g (bs [99, 111, 110, 116, 114, 111, 108]))), n, []⟩]) (q (q (o [⟨s 24, d 6 (t 1), n, []⟩, ⟨s 25, k (.func 32) [(t 24)], n, []⟩, ⟨s 5, m (t 25), n, []⟩]) (q (o [⟨s 26, m (t 5), n, []⟩, ⟨s 27, .bin .neq (t 26) (c (i .i64 0)), n, []⟩]) (w (t 27) (o [⟨s 28, m (t 5), n, []⟩, ⟨s 29, k (.func 46) [(t 4), (c (.bool false)), (t 28)], n, []⟩]) .skip))) (q (o [⟨s 30, .mkMap, n, []⟩, ⟨s 6, .alloc [(.map n)], n, []⟩, ⟨n, .store 1 (t 6) (t 30), n, []⟩]) (q (o [⟨s 31, f 5 (t 1), n, []⟩, ⟨s 32, l (t 31), n, []⟩, ⟨s 33, .mkFunc 51 [] [(t 4), (t 6)], n, []⟩, ⟨s 34, k (.func 33) [(t 32), (c (i .i64 1)), (t 33)], n, []⟩]) (q (o [⟨n, .store 1 (t 2) (c (i .i64 0)), n, []⟩, ⟨n, .store 1 (t 3) (c (g (bs []))), n, []⟩]) .ret))))))))))))))) [(.cell1 2), (.cell1 3)])
def g25 : AFunc := (.code 35 (q (o [⟨s 2, .box (t 0), n, []⟩, ⟨s 4, m (c (.slice n 0 0)), n, []⟩, ⟨s 5, m (c (i .i64 0)), n, []⟩]) (q (o [⟨s 10, d 6 (t 2), n, []⟩, ⟨s 11, m (t 1), n, []⟩, ⟨s 12, k (.func 40) [(t 10), (t 11)], n, []⟩, ⟨s 6, m (t 12), n, []⟩]) (q (q (o [⟨s 13, m (t 6), n, []⟩, ⟨s 14, .bin .lss (t 13) (c (i .i64 0)), n, []⟩]) (w (t 14) (q (o [⟨s 4, m (c (.slice n 0 0)), n, []⟩, ⟨s 5, m (c (i .i64 110)), n, []⟩]) .ret) .skip)) (q (o [⟨s 7, m (c (.slice n 0 0)), n, []⟩]) (q (q (o [⟨s 15, f 4 (t 2), n, []⟩, ⟨s 16, l (t 15), n, []⟩, ⟨s 17, m (t 6), n, []⟩, ⟨s 18, a 7 (t 16) (t 17), n, []⟩, ⟨s 19, f 1 (t 18), n, []⟩, ⟨s 20, l (t 19), n, []⟩, ⟨s 21, .lenSl (t 20), n, []⟩, ⟨s 22, m (c (i .i64 0)), n, []⟩]) (.block 0 (.loop (q (o [⟨s 23, .bin .lss (t 22) (t 21), n, []⟩]) (q (w (t 23) .skip (.exit 0)) (q (.block 1 (q (o [⟨s 24, a 3 (t 20) (t 22), n, []⟩, ⟨s 25, d 3 (t 24), n, []⟩, ⟨s 9, .alloc [(g (bs [])), (g (bs [])), (i .i64 0)], n, []⟩, ⟨n, .store 3 (t 9) (t 25), n, []⟩]) (o [⟨s 26, m (t 7), n, []⟩, ⟨s 27, d 6 (t 2), n, []⟩, ⟨s 28, f 0 (t 9), n, []⟩, ⟨s 29, d 2 (t 28), n, []⟩, ⟨s 30, k (.func 27) [(t 27), (t 29)], n, []⟩, ⟨s 31, .buildSlice 1 1 [(i .i64 0)] [(0, (1, (t 30)))], n, []⟩, ⟨s 32, .append 1 8 (t 26) (t 31), n, []⟩, ⟨s 7, m (t 32), n, []⟩]))) (o [⟨s 33, .bin .add (t 22) (c (i .i64 1)), n, []⟩, ⟨s 22, m (t 33), n, []⟩]))))))) (q (o [⟨s 34, m (t 7), n, []⟩, ⟨s 4, m (t 34), n, []⟩, ⟨s 5, m (c (i .i64 0)), n, []⟩]) .ret)))))) [(.tmp 4), (.tmp 5)])
def g26 : AFunc := (.code 15 (q (o [⟨s 1, .box (t 0), n, []⟩, ⟨s 2, m (c (i .i64 0)), n, []⟩]) (q (o [⟨s 4, .mkFunc 53 [] [(t 1)], n, []⟩, ⟨s 3, m (t 4), n, []⟩]) (q (.block 0 (q (o [⟨s 6, m (t 3), n, []⟩, ⟨s 7, k (t 6) [(c (i .i64 3))], n, []⟩, ⟨s 8, m (t 7), n, []⟩, ⟨s 9, m (t 3), s (8, false), []⟩, ⟨s 10, k (t 9) [(c (i .i64 4))], s (8, false), []⟩, ⟨s 11, .pick (t 8) (c (.bool true)) (t 10), n, []⟩, ⟨s 5, m (t 11), n, []⟩]) (w (t 5) (q (o [⟨s 2, m (c (i .i64 3)), n, []⟩]) .ret) (q (o [⟨s 13, m (t 3), n, []⟩, ⟨s 14, k (t 13) [(c (i .i64 2))], n, []⟩, ⟨s 12, m (t 14), n, []⟩]) (w (t 12) (q (o [⟨s 2, m (c (i .i64 2)), n, []⟩]) .ret) .skip))))) (q (o [⟨s 2, m (c (i .i64 1)), n, []⟩]) .ret)))) [(.tmp 2)])
def g27 : AFunc := (.code 23 (q (o [⟨s 2, .box (t 0), n, []⟩, ⟨s 3, .box (t 1), n, []⟩, ⟨s 4, m (c (i .i64 0)), n, []⟩]) (q (o [⟨s 8, d 6 (t 2), n, []⟩, ⟨s 9, d 2 (t 3), n, []⟩, ⟨s 10, k (.func 56) [(t 8), (t 9)], n, []⟩, ⟨s 7, m (t 10), n, []⟩, ⟨s 11, .extract (t 7) 0, n, []⟩, ⟨s 12, .extract (t 7) 1, n, []⟩, ⟨s 5, .alloc [(g (bs [])), (i .i64 0)], n, []⟩, ⟨n, .store 2 (t 5) (t 11), n, []⟩, ⟨s 6, m (t 12), n, []⟩]) (q (q (o [⟨s 13, f 1 (t 5), n, []⟩, ⟨s 14, l (t 13), n, []⟩, ⟨s 15, .bin .lss (t 14) (c (i .i64 1)), n, []⟩, ⟨s 16, m (t 15), n, []⟩, ⟨s 17, f 1 (t 5), s (16, false), []⟩, ⟨s 18, l (t 17), s (16, false), []⟩, ⟨s 19, .bin .gtr (t 18) (c (i .i64 128)), s (16, false), []⟩, ⟨s 20, .pick (t 16) (c (.bool true)) (t 19), n, []⟩]) (w (t 20) (q (o [⟨s 4, m (c (i .i64 0)), n, []⟩]) .ret) .skip)) (q (o [⟨s 21, f 1 (t 5), n, []⟩, ⟨s 22, l (t 21), n, []⟩, ⟨s 4, m (t 22), n, []⟩]) .ret)))) [(.tmp 4)])
def g28 : AFunc := (.code 45 (q (o [⟨s 2, .box (t 0), n, []⟩, ⟨s 3, .box (t 1), n, []⟩, ⟨s 4, m (c (.bool false)), n, []⟩]) (q (o [⟨s 5, f 1 (t 2), n, []⟩, ⟨s 6, l (t 5), n, []⟩, ⟨s 7, f 1 (t 3), n, []⟩, ⟨s 8, l (t 7), n, []⟩, ⟨s 9, k (.func 57) [(t 6), (t 8)], n, []⟩, ⟨s 10, m (t 9), n, []⟩, ⟨s 11, f 0 (t 2), s (10, true), []⟩, ⟨s 12, l (t 11), s (10, true), []⟩, ⟨s 13, f 0 (t 3), s (10, true), []⟩, ⟨s 14, l (t 13), s (10, true), []⟩, ⟨s 15, k (.func 58) [(t 12), (t 14), (.func 59)], s (10, true), []⟩, ⟨s 16, .pick (t 10) (t 15) (c (.bool false)), n, []⟩, ⟨s 17, m (t 16), n, []⟩, ⟨s 18, f 2 (t 2), s (17, true), []⟩, ⟨s 19, l (t 18), s (17, true), []⟩, ⟨s 20, f 2 (t 3), s (17, true), []⟩, ⟨s 21, l (t 20), s (17, true), []⟩, ⟨s 22, k (.func 60) [(t 19), (t 21), (.func 61)], s (17, true), []⟩, ⟨s 23, .pick (t 17) (t 22) (c (.bool false)), n, []⟩, ⟨s 24, m (t 23), n, []⟩, ⟨s 25, f 3 (t 2), s (24, true), []⟩, ⟨s 26, l (t 25), s (24, true), []⟩, ⟨s 27, f 3 (t 3), s (24, true), []⟩, ⟨s 28, l (t 27), s (24, true), []⟩, ⟨s 29, k (.func 63) [(t 26), (t 28), (.func 64)], s (24, true), []⟩, ⟨s 30, .pick (t 24) (t 29) (c (.bool false)), n, []⟩, ⟨s 31, m (t 30), n, []⟩, ⟨s 32, f 4 (t 2), s (31, true), []⟩, ⟨s 33, l (t 32), s (31, true), []⟩, ⟨s 34, f 4 (t 3), s (31, true), []⟩, ⟨s 35, l (t 34), s (31, true), []⟩, ⟨s 36, k (.func 66) [(t 33), (t 35), (.func 67)], s (31, true), []⟩, ⟨s 37, .pick (t 31) (t 36) (c (.bool false)), n, []⟩, ⟨s 38, m (t 37), n, []⟩, ⟨s 39, f 5 (t 2), s (38, true), []⟩, ⟨s 40, l (t 39), s (38, true), []⟩, ⟨s 41, f 5 (t 3), s (38, true), []⟩, ⟨s 42, l (t 41), s (38, true), []⟩, ⟨s 43, k (.func 68) [(t 40), (t 42)], s (38, true), []⟩, ⟨s 44, .pick (t 38) (t 43) (c (.bool false)), n, []⟩, ⟨s 4, m (t 44), n, []⟩]) .ret)) [(.tmp 4)])
def g29 : AFunc := (.code 104 (q (o [⟨s 1, .box (t 0), n, []⟩, ⟨s 2, .alloc [(.slice n 0 0), (.slice n 0 0), (.slice n 0 0), (.slice n 0 0), (.slice n 0 0), (.slice n 0 0)], n, []⟩]) (q (o [⟨s 7, f 0 (t 1), n, []⟩, ⟨s 8, l (t 7), n, []⟩, ⟨s 9, k (.func 69) [(t 8)], n, []⟩, ⟨s 10, f 0 (t 1), n, []⟩, ⟨n, .store 1 (t 10) (t 9), n, []⟩]) (q (q (o [⟨s 11, f 0 (t 1), n, []⟩, ⟨s 12, l (t 11), n, []⟩, ⟨s 13, .lenSl (t 12), n, []⟩, ⟨s 14, m (c (i .i64 0)), n, []⟩]) (.block 0 (.loop (q (o [⟨s 15, .bin .lss (t 14) (t 13), n, []⟩]) (q (w (t 15) .skip (.exit 0)) (q (.block 1 (q (o [⟨s 16, m (t 14), n, []⟩, ⟨s 3, m (t 16), n, []⟩]) (o [⟨s 17, f 0 (t 1), n, []⟩, ⟨s 19, m (t 3), n, []⟩, ⟨s 20, f 0 (t 1), n, []⟩, ⟨s 22, m (t 3), n, []⟩, ⟨s 18, l (t 17), n, []⟩, ⟨s 21, l (t 20), n, []⟩, ⟨s 23, a 2 (t 21) (t 22), n, []⟩, ⟨s 24, f 1 (t 23), n, []⟩, ⟨s 25, l (t 24), n, []⟩, ⟨s 26, k (.func 43) [(t 25)], n, [(17, 1)]⟩, ⟨s 27, a 2 (t 18) (t 19), n, []⟩, ⟨s 28, f 1 (t 27), n, []⟩, ⟨n, .store 1 (t 28) (t 26), n, []⟩]))) (o [⟨s 29, .bin .add (t 14) (c (i .i64 1)), n, []⟩, ⟨s 14, m (t 29), n, []⟩]))))))) (q (o [⟨s 30, f 1 (t 1), n, []⟩, ⟨s 31, l (t 30), n, []⟩, ⟨s 32, k (.func 43) [(t 31)], n, []⟩, ⟨s 33, f 1 (t 1), n, []⟩, ⟨n, .store 1 (t 33) (t 32), n, []⟩]) (q (o [⟨s 34, f 2 (t 1), n, []⟩, ⟨s 35, l (t 34), n, []⟩, ⟨s 36, k (.func 70) [(t 35)], n, []⟩, ⟨s 37, f 2 (t 1), n, []⟩, ⟨n, .store 1 (t 37) (t 36), n, []⟩]) (q (q (o [⟨s 38, f 2 (t 1), n, []⟩, ⟨s 39, l (t 38), n, []⟩, ⟨s 40, .lenSl (t 39), n, []⟩, ⟨s 41, m (c (i .i64 0)), n, []⟩]) (.block 2 (.loop (q (o [⟨s 42, .bin .lss (t 41) (t 40), n, []⟩]) (q (w (t 42) .skip (.exit 2)) (q (.block 3 (q (o [⟨s 43, m (t 41), n, []⟩, ⟨s 4, m (t 43), n, []⟩]) (o [⟨s 44, f 2 (t 1), n, []⟩, ⟨s 46, m (t 4), n, []⟩, ⟨s 47, f 2 (t 1), n, []⟩, ⟨s 49, m (t 4), n, []⟩, ⟨s 45, l (t 44), n, []⟩, ⟨s 48, l (t 47), n, []⟩, ⟨s 50, a 6 (t 48) (t 49), n, []⟩, ⟨s 51, f 4 (t 50), n, []⟩, ⟨s 52, l (t 51), n, []⟩, ⟨s 53, k (.func 71) [(t 52)], n, [(44, 1)]⟩, ⟨s 54, a 6 (t 45) (t 46), n, []⟩, ⟨s 55, f 4 (t 54), n, []⟩, ⟨n, .store 1 (t 55) (t 53), n, []⟩]))) (o [⟨s 56, .bin .add (t 41) (c (i .i64 1)), n, []⟩, ⟨s 41, m (t 56), n, []⟩]))))))) (q (o [⟨s 57, f 3 (t 1), n, []⟩, ⟨s 58, l (t 57), n, []⟩, ⟨s 59, k (.func 72) [(t 58)], n, []⟩, ⟨s 60, f 3 (t 1), n, []⟩, ⟨n, .store 1 (t 60) (t 59), n, []⟩]) (q (q (o [⟨s 61, f 3 (t 1), n, []⟩, ⟨s 62, l (t 61), n, []⟩, ⟨s 63, .lenSl (t 62), n, []⟩, ⟨s 64, m (c (i .i64 0)), n, []⟩]) (.block 4 (.loop (q (o [⟨s 65, .bin .lss (t 64) (t 63), n, []⟩]) (q (w (t 65) .skip (.exit 4)) (q (.block 5 (q (o [⟨s 66, m (t 64), n, []⟩, ⟨s 5, m (t 66), n, []⟩]) (o [⟨s 67, f 3 (t 1), n, []⟩, ⟨s 69, m (t 5), n, []⟩, ⟨s 70, f 3 (t 1), n, []⟩, ⟨s 72, m (t 5), n, []⟩, ⟨s 68, l (t 67), n, []⟩, ⟨s 71, l (t 70), n, []⟩, ⟨s 73, a 3 (t 71) (t 72), n, []⟩, ⟨s 74, d 3 (t 73), n, []⟩, ⟨s 75, k (.func 73) [(t 74)], n, [(67, 1)]⟩, ⟨s 76, a 3 (t 68) (t 69), n, []⟩, ⟨n, .store 3 (t 76) (t 75), n, []⟩]))) (o [⟨s 77, .bin .add (t 64) (c (i .i64 1)), n, []⟩, ⟨s 64, m (t 77), n, []⟩]))))))) (q (o [⟨s 78, f 4 (t 1), n, []⟩, ⟨s 79, l (t 78), n, []⟩, ⟨s 80, k (.func 74) [(t 79)], n, []⟩, ⟨s 81, f 4 (t 1), n, []⟩, ⟨n, .store 1 (t 81) (t 80), n, []⟩]) (q (q (o [⟨s 82, f 4 (t 1), n, []⟩, ⟨s 83, l (t 82), n, []⟩, ⟨s 84, .lenSl (t 83), n, []⟩, ⟨s 85, m (c (i .i64 0)), n, []⟩]) (.block 6 (.loop (q (o [⟨s 86, .bin .lss (t 85) (t 84), n, []⟩]) (q (w (t 86) .skip (.exit 6)) (q (.block 7 (q (o [⟨s 87, m (t 85), n, []⟩, ⟨s 6, m (t 87), n, []⟩]) (o [⟨s 88, f 4 (t 1), n, []⟩, ⟨s 90, m (t 6), n, []⟩, ⟨s 91, f 4 (t 1), n, []⟩, ⟨s 93, m (t 6), n, []⟩, ⟨s 89, l (t 88), n, []⟩, ⟨s 92, l (t 91), n, []⟩, ⟨s 94, a 7 (t 92) (t 93), n, []⟩, ⟨s 95, d 7 (t 94), n, []⟩, ⟨s 96, k (.func 41) [(t 95)], n, [(88, 1)]⟩, ⟨s 97, a 7 (t 89) (t 90), n, []⟩, ⟨n, .store 7 (t 97) (t 96), n, []⟩]))) (o [⟨s 98, .bin .add (t 85) (c (i .i64 1)), n, []⟩, ⟨s 85, m (t 98), n, []⟩]))))))) (q (o [⟨s 99, f 5 (t 1), n, []⟩, ⟨s 100, l (t 99), n, []⟩, ⟨s 101, k (.func 75) [(t 100)], n, []⟩, ⟨s 102, f 5 (t 1), n, []⟩, ⟨n, .store 1 (t 102) (t 101), n, []⟩]) (q (o [⟨s 103, d 6 (t 1), n, []⟩, ⟨n, .store 6 (t 2) (t 103), n, []⟩]) .ret)))))))))))) [(.cellN 2 6)])
def g30 : AFunc := (.code 24 (q (o [⟨s 4, m (c (.bool false)), n, []⟩]) (q (q (o [⟨s 5, m (c (i .i64 0)), n, []⟩]) (.block 0 (.loop (q (q (o [⟨s 6, m (t 5), n, []⟩, ⟨s 7, m (t 1), n, []⟩, ⟨s 8, .lenStr (t 7), n, []⟩, ⟨s 9, .bin .add (t 6) (t 8), n, []⟩, ⟨s 10, m (t 0), n, []⟩, ⟨s 11, .lenStr (t 10), n, []⟩, ⟨s 12, .bin .leq (t 9) (t 11), n, []⟩]) (w (t 12) .skip (.exit 0))) (q (.block 1 (q (o [⟨s 15, m (t 0), n, []⟩, ⟨s 16, m (t 5), n, []⟩, ⟨s 17, m (t 5), n, []⟩, ⟨s 18, m (t 1), n, []⟩, ⟨s 19, .lenStr (t 18), n, []⟩, ⟨s 20, .bin .add (t 17) (t 19), n, []⟩, ⟨s 21, .slStr (t 15) (s (t 16)) (s (t 20)), n, []⟩, ⟨s 22, m (t 1), n, []⟩, ⟨s 23, .bin .eql (t 21) (t 22), n, []⟩]) (w (t 23) (q (o [⟨s 4, m (c (.bool true)), n, []⟩]) .ret) .skip))) (o [⟨s 13, m (t 5), n, []⟩, ⟨s 14, .bin .add (t 13) (c (i .i64 1)), n, []⟩, ⟨s 5, m (t 14), n, []⟩])))))) (q (o [⟨s 4, m (c (.bool false)), n, []⟩]) .ret))) [(.tmp 4)])
def g31 : AFunc := (.code 35 (q (o [⟨s 2, m (c (.bool false)), n, []⟩]) (q (q (o [⟨s 3, m (t 0), n, []⟩]) (.block 0 (q (q (o [⟨s 5, .bin .eql (t 3) (c (g (bs [97, 99, 99, 101, 112, 116]))), n, []⟩, ⟨s 4, m (t 5), n, []⟩]) (w (t 4) .skip (q (o [⟨s 6, .bin .eql (t 3) (c (g (bs [97, 99, 116, 105, 111, 110]))), n, []⟩, ⟨s 4, m (t 6), n, []⟩]) (w (t 4) .skip (q (o [⟨s 7, .bin .eql (t 3) (c (g (bs [97, 100, 100]))), n, []⟩, ⟨s 4, m (t 7), n, []⟩]) (w (t 4) .skip (q (o [⟨s 8, .bin .eql (t 3) (c (g (bs [97, 103, 97, 105, 110]))), n, []⟩, ⟨s 4, m (t 8), n, []⟩]) (w (t 4) .skip (q (o [⟨s 9, .bin .eql (t 3) (c (g (bs [97, 112, 112, 108, 121]))), n, []⟩, ⟨s 4, m (t 9), n, []⟩]) (w (t 4) .skip (q (o [⟨s 10, .bin .eql (t 3) (c (g (bs [99, 97, 110]))), n, []⟩, ⟨s 4, m (t 10), n, []⟩]) (w (t 4) .skip (q (o [⟨s 11, .bin .eql (t 3) (c (g (bs [99, 111, 110, 116, 114, 111, 108]))), n, []⟩, ⟨s 4, m (t 11), n, []⟩]) (w (t 4) .skip (q (o [⟨s 12, .bin .eql (t 3) (c (g (bs [100, 101, 102, 97, 117, 108, 116]))), n, []⟩, ⟨s 4, m (t 12), n, []⟩]) (w (t 4) .skip (q (o [⟨s 13, .bin .eql (t 3) (c (g (bs [100, 114, 111, 112]))), n, []⟩, ⟨s 4, m (t 13), n, []⟩]) (w (t 4) .skip (q (o [⟨s 14, .bin .eql (t 3) (c (g (bs [101, 108, 115, 101]))), n, []⟩, ⟨s 4, m (t 14), n, []⟩]) (w (t 4) .skip (q (o [⟨s 15, .bin .eql (t 3) (c (g (bs [101, 120, 97, 99, 116]))), n, []⟩, ⟨s 4, m (t 15), n, []⟩]) (w (t 4) .skip (q (o [⟨s 16, .bin .eql (t 3) (c (g (bs [101, 120, 105, 116]))), n, []⟩, ⟨s 4, m (t 16), n, []⟩]) (w (t 4) .skip (q (o [⟨s 17, .bin .eql (t 3) (c (g (bs [102, 105, 120, 101, 100]))), n, []⟩, ⟨s 4, m (t 17), n, []⟩]) (w (t 4) .skip (q (o [⟨s 18, .bin .eql (t 3) (c (g (bs [104, 101, 97, 100, 101, 114]))), n, []⟩, ⟨s 4, m (t 18), n, []⟩]) (w (t 4) .skip (q (o [⟨s 19, .bin .eql (t 3) (c (g (bs [105, 102]))), n, []⟩, ⟨s 4, m (t 19), n, []⟩]) (w (t 4) .skip (o [⟨s 20, .bin .eql (t 3) (c (g (bs [107, 101, 121]))), n, []⟩, ⟨s 4, m (t 20), n, []⟩]))))))))))))))))))))))))))))))) (w (t 4) (q (o [⟨s 2, m (c (.bool true)), n, []⟩]) .ret) (q (q (o [⟨s 22, .bin .eql (t 3) (c (g (bs [109, 101, 116, 97]))), n, []⟩, ⟨s 21, m (t 22), n, []⟩]) (w (t 21) .skip (q (o [⟨s 23, .bin .eql (t 3) (c (g (bs [111, 110]))), n, []⟩, ⟨s 21, m (t 23), n, []⟩]) (w (t 21) .skip (q (o [⟨s 24, .bin .eql (t 3) (c (g (bs [112, 114, 101, 102, 105, 120]))), n, []⟩, ⟨s 21, m (t 24), n, []⟩]) (w (t 21) .skip (q (o [⟨s 25, .bin .eql (t 3) (c (g (bs [114, 97, 110, 103, 101]))), n, []⟩, ⟨s 21, m (t 25), n, []⟩]) (w (t 21) .skip (q (o [⟨s 26, .bin .eql (t 3) (c (g (bs [114, 101, 106, 101, 99, 116]))), n, []⟩, ⟨s 21, m (t 26), n, []⟩]) (w (t 21) .skip (q (o [⟨s 27, .bin .eql (t 3) (c (g (bs [114, 101, 109, 111, 118, 101]))), n, []⟩, ⟨s 21, m (t 27), n, []⟩]) (w (t 21) .skip (q (o [⟨s 28, .bin .eql (t 3) (c (g (bs [115, 105, 122, 101]))), n, []⟩, ⟨s 21, m (t 28), n, []⟩]) (w (t 21) .skip (q (o [⟨s 29, .bin .eql (t 3) (c (g (bs [115, 116, 97, 116, 101]))), n, []⟩, ⟨s 21, m (t 29), n, []⟩]) (w (t 21) .skip (q (o [⟨s 30, .bin .eql (t 3) (c (g (bs [115, 117, 109]))), n, []⟩, ⟨s 21, m (t 30), n, []⟩]) (w (t 21) .skip (q (o [⟨s 31, .bin .eql (t 3) (c (g (bs [116, 97, 98, 108, 101]))), n, []⟩, ⟨s 21, m (t 31), n, []⟩]) (w (t 21) .skip (q (o [⟨s 32, .bin .eql (t 3) (c (g (bs [116, 97, 107, 101]))), n, []⟩, ⟨s 21, m (t 32), n, []⟩]) (w (t 21) .skip (q (o [⟨s 33, .bin .eql (t 3) (c (g (bs [116, 101, 114, 110, 97, 114, 121]))), n, []⟩, ⟨s 21, m (t 33), n, []⟩]) (w (t 21) .skip (o [⟨s 34, .bin .eql (t 3) (c (g (bs [118, 97, 108, 105, 100]))), n, []⟩, ⟨s 21, m (t 34), n, []⟩]))))))))))))))))))))))))) (w (t 21) (q (o [⟨s 2, m (c (.bool true)), n, []⟩]) .ret) .skip)))))) (q (o [⟨s 2, m (c (.bool false)), n, []⟩]) .ret))) [(.tmp 2)])
def g32 : AFunc := (.code 15 (q (o [⟨s 1, .box (t 0), n, []⟩, ⟨s 2, m (c (i .i64 0)), n, []⟩]) (q (o [⟨s 3, .alloc [(i .i64 0)], n, []⟩, ⟨s 4, .alloc [(.bool false)], n, []⟩, ⟨n, .store 1 (t 3) (c (i .i64 0)), n, []⟩, ⟨n, .store 1 (t 4) (c (.bool false)), n, []⟩]) (q (o [⟨s 6, f 5 (t 1), n, []⟩, ⟨s 7, l (t 6), n, []⟩, ⟨s 8, .mkFunc 76 [] [(t 3), (t 4)], n, []⟩, ⟨s 9, k (.func 33) [(t 7), (c (i .i64 1)), (t 8)], n, []⟩, ⟨s 5, m (t 9), n, []⟩]) (q (.block 0 (q (o [⟨s 11, m (t 5), n, []⟩, ⟨s 12, .un .not (t 11), n, []⟩, ⟨s 10, m (t 12), n, []⟩]) (w (t 10) (q (o [⟨s 2, m (c (i .i64 74)), n, []⟩]) .ret) (q (o [⟨s 14, l (t 4), n, []⟩, ⟨s 13, m (t 14), n, []⟩]) (w (t 13) (q (o [⟨s 2, m (c (i .i64 77)), n, []⟩]) .ret) .skip))))) (q (o [⟨s 2, m (c (i .i64 0)), n, []⟩]) .ret))))) [(.tmp 2)])
def g33 : AFunc := (.code 39 (q (o [⟨s 6, m (c (.bool false)), n, []⟩]) (q (q (o [⟨s 9, m (t 0), n, []⟩, ⟨s 10, .lenSl (t 9), n, []⟩, ⟨s 11, m (c (i .i64 0)), n, []⟩]) (.block 0 (.loop (q (o [⟨s 12, .bin .lss (t 11) (t 10), n, []⟩]) (q (w (t 12) .skip (.exit 0)) (q (.block 1 (q (o [⟨s 13, a 13 (t 9) (t 11), n, []⟩, ⟨s 14, d 13 (t 13), n, []⟩, ⟨s 8, .alloc [(i .i64 0), (g (bs [])), (i .i64 0), (g (bs [])), (g (bs [])), (i .u64 0), (i .u64 0), (g (bs [])), (g (bs [])), (i .u64 0), (i .u64 0), (.slice n 0 0), (.slice n 0 0)], n, []⟩, ⟨n, .store 13 (t 8) (t 14), n, []⟩]) (q (o [⟨s 15, m (t 2), n, []⟩, ⟨s 16, d 13 (t 8), n, []⟩, ⟨s 17, m (t 1), n, []⟩, ⟨s 18, k (t 15) [(t 16), (t 17)], n, []⟩, ⟨s 19, .un .not (t 18), n, []⟩, ⟨s 20, m (t 19), n, []⟩, ⟨s 21, f 11 (t 8), s (20, false), []⟩, ⟨s 22, l (t 21), s (20, false), []⟩, ⟨s 23, m (t 1), s (20, false), []⟩, ⟨s 24, .bin .add (t 23) (c (i .i64 1)), s (20, false), []⟩, ⟨s 25, m (t 2), s (20, false), []⟩, ⟨s 26, k (.func 33) [(t 22), (t 24), (t 25)], s (20, false), []⟩, ⟨s 27, .un .not (t 26), s (20, false), []⟩, ⟨s 28, .pick (t 20) (c (.bool true)) (t 27), n, []⟩, ⟨s 29, m (t 28), n, []⟩, ⟨s 30, f 12 (t 8), s (29, false), []⟩, ⟨s 31, l (t 30), s (29, false), []⟩, ⟨s 32, m (t 1), s (29, false), []⟩, ⟨s 33, .bin .add (t 32) (c (i .i64 1)), s (29, false), []⟩, ⟨s 34, m (t 2), s (29, false), []⟩, ⟨s 35, k (.func 33) [(t 31), (t 33), (t 34)], s (29, false), []⟩, ⟨s 36, .un .not (t 35), s (29, false), []⟩, ⟨s 37, .pick (t 29) (c (.bool true)) (t 36), n, []⟩]) (w (t 37) (q (o [⟨s 6, m (c (.bool false)), n, []⟩]) .ret) .skip)))) (o [⟨s 38, .bin .add (t 11) (c (i .i64 1)), n, []⟩, ⟨s 11, m (t 38), n, []⟩]))))))) (q (o [⟨s 6, m (c (.bool true)), n, []⟩]) .ret))) [(.tmp 6)])
def g34 : AFunc := (.code 21 (q (o [⟨s 3, .box (t 0), n, []⟩, ⟨s 5, m (c (.bool false)), n, []⟩]) (q (q (o [⟨s 6, f 0 (t 3), n, []⟩, ⟨s 7, l (t 6), n, []⟩, ⟨s 8, .bin .eql (t 7) (c (i .i64 1)), n, []⟩, ⟨s 9, m (t 8), n, []⟩, ⟨s 10, l (t 2), s (9, true), []⟩, ⟨s 11, f 1 (t 3), s (9, true), []⟩, ⟨s 12, l (t 11), s (9, true), []⟩, ⟨s 13, k (.func 35) [(t 10), (t 12)], s (9, true), []⟩, ⟨s 14, .un .not (t 13), s (9, true), []⟩, ⟨s 15, .pick (t 9) (t 14) (c (.bool false)), n, []⟩]) (w (t 15) (o [⟨s 16, l (t 2), n, []⟩, ⟨s 17, f 1 (t 3), n, []⟩, ⟨s 18, l (t 17), n, []⟩, ⟨s 19, .buildSlice 1 1 [(g (bs []))] [(0, (1, (t 18)))], n, []⟩, ⟨s 20, .append 1 16 (t 16) (t 19), n, []⟩, ⟨n, .store 1 (t 2) (t 20), n, []⟩]) .skip)) (q (o [⟨s 5, m (c (.bool true)), n, []⟩]) .ret))) [(.tmp 5)])
def g35 : AFunc := (.code 9 (q (o [⟨s 4, m (c (.bool false)), n, []⟩]) (q (o [⟨s 5, m (t 0), n, []⟩, ⟨s 6, m (t 1), n, []⟩, ⟨s 7, k (.func 77) [(t 5), (t 6)], n, []⟩, ⟨s 8, .bin .geq (t 7) (c (i .i64 0)), n, []⟩, ⟨s 4, m (t 8), n, []⟩]) .ret)) [(.tmp 4)])
def g36 : AFunc := (.code 25 (q (o [⟨s 1, .box (t 0), n, []⟩, ⟨s 2, m (c (.slice n 0 0)), n, []⟩, ⟨s 3, m (c (i .i64 0)), n, []⟩]) (q (o [⟨s 6, f 5 (t 1), n, []⟩, ⟨s 7, l (t 6), n, []⟩, ⟨s 8, k (.func 78) [(c (.slice n 0 0)), (t 7), (c (i .i64 1))], n, []⟩, ⟨s 4, m (t 8), n, []⟩]) (q (q (o [⟨s 9, m (t 4), n, []⟩, ⟨s 10, .lenSl (t 9), n, []⟩, ⟨s 11, .bin .gtr (t 10) (c (i .i64 128)), n, []⟩]) (w (t 11) (q (o [⟨s 2, m (c (.slice n 0 0)), n, []⟩, ⟨s 3, m (c (i .i64 74)), n, []⟩]) .ret) .skip)) (q (q (o [⟨s 5, m (c (i .i64 0)), n, []⟩]) (.block 0 (.loop (q (q (o [⟨s 12, m (t 5), n, []⟩, ⟨s 13, m (t 4), n, []⟩, ⟨s 14, .lenSl (t 13), n, []⟩, ⟨s 15, .bin .lss (t 12) (t 14), n, []⟩]) (w (t 15) .skip (.exit 0))) (q (.block 1 (q (o [⟨s 18, m (t 4), n, []⟩, ⟨s 19, m (t 5), n, []⟩, ⟨s 20, a 14 (t 18) (t 19), n, []⟩, ⟨s 21, f 13 (t 20), n, []⟩, ⟨s 22, l (t 21), n, []⟩, ⟨s 23, .bin .gtr (t 22) (c (i .i64 8)), n, []⟩]) (w (t 23) (q (o [⟨s 2, m (c (.slice n 0 0)), n, []⟩, ⟨s 3, m (c (i .i64 77)), n, []⟩]) .ret) .skip))) (o [⟨s 16, m (t 5), n, []⟩, ⟨s 17, .bin .add (t 16) (c (i .i64 1)), n, []⟩, ⟨s 5, m (t 17), n, []⟩])))))) (q (o [⟨s 24, m (t 4), n, []⟩, ⟨s 2, m (t 24), n, []⟩, ⟨s 3, m (c (i .i64 0)), n, []⟩]) .ret))))) [(.tmp 2), (.tmp 3)])
def g37 : AFunc := (.code 18 (q (o [⟨s 4, m (c (.bool false)), n, []⟩]) (q (q (o [⟨s 5, m (c (i .i64 0)), n, []⟩]) (.block 0 (.loop (q (q (o [⟨s 6, m (t 5), n, []⟩, ⟨s 7, m (t 0), n, []⟩, ⟨s 8, .lenSl (t 7), n, []⟩, ⟨s 9, .bin .lss (t 6) (t 8), n, []⟩]) (w (t 9) .skip (.exit 0))) (q (.block 1 (q (o [⟨s 12, m (t 0), n, []⟩, ⟨s 13, m (t 5), n, []⟩, ⟨s 14, a 1 (t 12) (t 13), n, []⟩, ⟨s 15, l (t 14), n, []⟩, ⟨s 16, m (t 1), n, []⟩, ⟨s 17, .bin .eql (t 15) (t 16), n, []⟩]) (w (t 17) (q (o [⟨s 4, m (c (.bool true)), n, []⟩]) .ret) .skip))) (o [⟨s 10, m (t 5), n, []⟩, ⟨s 11, .bin .add (t 10) (c (i .i64 1)), n, []⟩, ⟨s 5, m (t 11), n, []⟩])))))) (q (o [⟨s 4, m (c (.bool false)), n, []⟩]) .ret))) [(.tmp 4)])
def g38 : AFunc := (.code 74 (q (o [⟨s 2, m (c (i .i64 0)), n, []⟩, ⟨s 3, m (c (.slice n 0 0)), n, []⟩]) (q (o [⟨s 4, m (c (i .i64 0)), n, []⟩]) (q (o [⟨s 5, m (c (.slice n 0 0)), n, []⟩]) (q (q (o [⟨s 14, m (t 0), n, []⟩, ⟨s 15, .lenSl (t 14), n, []⟩, ⟨s 16, m (c (i .i64 0)), n, []⟩]) (.block 0 (.loop (q (o [⟨s 17, .bin .lss (t 16) (t 15), n, []⟩]) (q (w (t 17) .skip (.exit 0)) (q (.block 1 (q (o [⟨s 18, a 13 (t 14) (t 16), n, []⟩, ⟨s 19, d 13 (t 18), n, []⟩, ⟨s 7, .alloc [(i .i64 0), (g (bs [])), (i .i64 0), (g (bs [])), (g (bs [])), (i .u64 0), (i .u64 0), (g (bs [])), (g (bs [])), (i .u64 0), (i .u64 0), (.slice n 0 0), (.slice n 0 0)], n, []⟩, ⟨n, .store 13 (t 7) (t 19), n, []⟩]) (q (q (o [⟨s 20, f 0 (t 7), n, []⟩, ⟨s 21, l (t 20), n, []⟩]) (.block 2 (q (o [⟨s 23, .bin .eql (t 21) (c (i .i64 3)), n, []⟩, ⟨s 22, m (t 23), n, []⟩]) (w (t 22) (q (o [⟨s 24, m (t 5), n, []⟩, ⟨s 25, m (t 4), n, []⟩, ⟨s 26, .buildSlice 1 1 [(i .i64 0)] [(0, (1, (t 25)))], n, []⟩, ⟨s 27, .append 1 8 (t 24) (t 26), n, []⟩, ⟨s 2, m (c (i .i64 (-1))), n, []⟩, ⟨s 3, m (t 27), n, []⟩]) .ret) (q (o [⟨s 29, .bin .eql (t 21) (c (i .i64 1)), n, []⟩, ⟨s 28, m (t 29), n, []⟩]) (w (t 28) (o [⟨s 30, m (t 4), n, []⟩, ⟨s 31, .bin .add (t 30) (c (i .i64 1)), n, []⟩, ⟨s 4, m (t 31), n, []⟩]) (q (o [⟨s 33, .bin .eql (t 21) (c (i .i64 2)), n, []⟩, ⟨s 32, m (t 33), n, []⟩]) (w (t 32) .skip (.exit 1))))))))) (q (o [⟨s 35, f 11 (t 7), n, []⟩, ⟨s 36, l (t 35), n, []⟩, ⟨s 37, k (.func 38) [(t 36)], n, []⟩, ⟨s 34, m (t 37), n, []⟩, ⟨s 38, .extract (t 34) 0, n, []⟩, ⟨s 39, .extract (t 34) 1, n, []⟩, ⟨s 8, m (t 38), n, []⟩, ⟨s 9, m (t 39), n, []⟩]) (q (o [⟨s 41, f 12 (t 7), n, []⟩, ⟨s 42, l (t 41), n, []⟩, ⟨s 43, k (.func 38) [(t 42)], n, []⟩, ⟨s 40, m (t 43), n, []⟩, ⟨s 44, .extract (t 40) 0, n, []⟩, ⟨s 45, .extract (t 40) 1, n, []⟩, ⟨s 10, m (t 44), n, []⟩, ⟨s 11, m (t 45), n, []⟩]) (q (q (o [⟨s 46, m (t 9), n, []⟩, ⟨s 47, m (t 11), n, []⟩, ⟨s 48, .append 1 8 (t 46) (t 47), n, []⟩, ⟨s 49, .lenSl (t 48), n, []⟩, ⟨s 50, m (c (i .i64 0)), n, []⟩]) (.block 3 (.loop (q (o [⟨s 51, .bin .lss (t 50) (t 49), n, []⟩]) (q (w (t 51) .skip (.exit 3)) (q (.block 4 (q (o [⟨s 52, a 1 (t 48) (t 50), n, []⟩, ⟨s 53, l (t 52), n, []⟩, ⟨s 13, m (t 53), n, []⟩]) (o [⟨s 54, m (t 5), n, []⟩, ⟨s 55, m (t 4), n, []⟩, ⟨s 56, m (t 13), n, []⟩, ⟨s 57, .bin .add (t 55) (t 56), n, []⟩, ⟨s 58, .buildSlice 1 1 [(i .i64 0)] [(0, (1, (t 57)))], n, []⟩, ⟨s 59, .append 1 8 (t 54) (t 58), n, []⟩, ⟨s 5, m (t 59), n, []⟩]))) (o [⟨s 60, .bin .add (t 50) (c (i .i64 1)), n, []⟩, ⟨s 50, m (t 60), n, []⟩]))))))) (q (q (o [⟨s 61, m (t 8), n, []⟩, ⟨s 62, m (t 10), n, []⟩, ⟨s 63, .mm true [(t 61), (t 62)], n, []⟩, ⟨s 64, .bin .lss (t 63) (c (i .i64 0)), n, []⟩]) (w (t 64) (q (o [⟨s 65, m (t 5), n, []⟩, ⟨s 2, m (c (i .i64 (-1))), n, []⟩, ⟨s 3, m (t 65), n, []⟩]) .ret) .skip)) (o [⟨s 66, m (t 4), n, []⟩, ⟨s 67, m (t 8), n, []⟩, ⟨s 68, m (t 10), n, []⟩, ⟨s 69, .mm true [(t 67), (t 68)], n, []⟩, ⟨s 70, .bin .add (t 66) (t 69), n, []⟩, ⟨s 4, m (t 70), n, []⟩])))))))) (o [⟨s 71, .bin .add (t 16) (c (i .i64 1)), n, []⟩, ⟨s 16, m (t 71), n, []⟩]))))))) (q (o [⟨s 72, m (t 4), n, []⟩, ⟨s 73, m (t 5), n, []⟩, ⟨s 2, m (t 72), n, []⟩, ⟨s 3, m (t 73), n, []⟩]) .ret))))) [(.tmp 2), (.tmp 3)])
def g40 : AFunc := (.code 9 (q (o [⟨s 2, .box (t 0), n, []⟩, ⟨s 3, .box (t 1), n, []⟩, ⟨s 4, m (c (i .i64 0)), n, []⟩]) (q (o [⟨s 5, f 4 (t 2), n, []⟩, ⟨s 6, l (t 5), n, []⟩, ⟨s 7, .mkFunc 80 [] [(t 3)], n, []⟩, ⟨s 8, k (.func 79) [(t 6), (t 7)], n, []⟩, ⟨s 4, m (t 8), n, []⟩]) .ret)) [(.tmp 4)])
def g41 : AFunc := (.code 18 (q (o [⟨s 1, .box (t 0), n, []⟩, ⟨s 2, .alloc [(g (bs [])), (.slice n 0 0), (.slice n 0 0), (i .i64 0), (g (bs [])), (.slice n 0 0), (.bool false)], n, []⟩]) (q (o [⟨s 3, f 1 (t 1), n, []⟩, ⟨s 4, l (t 3), n, []⟩, ⟨s 5, k (.func 81) [(t 4)], n, []⟩, ⟨s 6, f 1 (t 1), n, []⟩, ⟨n, .store 1 (t 6) (t 5), n, []⟩]) (q (o [⟨s 7, f 2 (t 1), n, []⟩, ⟨s 8, l (t 7), n, []⟩, ⟨s 9, k (.func 82) [(t 8)], n, []⟩, ⟨s 10, f 2 (t 1), n, []⟩, ⟨n, .store 1 (t 10) (t 9), n, []⟩]) (q (o [⟨s 11, f 4 (t 1), n, []⟩, ⟨s 12, f 1 (t 11), n, []⟩, ⟨s 13, l (t 12), n, []⟩, ⟨s 14, k (.func 83) [(t 13)], n, []⟩, ⟨s 15, f 4 (t 1), n, []⟩, ⟨s 16, f 1 (t 15), n, []⟩, ⟨n, .store 1 (t 16) (t 14), n, []⟩]) (q (o [⟨s 17, d 7 (t 1), n, []⟩, ⟨n, .store 7 (t 2) (t 17), n, []⟩]) .ret))))) [(.cellN 2 7)])
def g42 : AFunc := (.code 9 (q (o [⟨s 2, .box (t 0), n, []⟩, ⟨s 3, .box (t 1), n, []⟩, ⟨s 4, m (c (i .i64 0)), n, []⟩]) (q (o [⟨s 5, f 0 (t 2), n, []⟩, ⟨s 6, l (t 5), n, []⟩, ⟨s 7, .mkFunc 85 [] [(t 3)], n, []⟩, ⟨s 8, k (.func 84) [(t 6), (t 7)], n, []⟩, ⟨s 4, m (t 8), n, []⟩]) .ret)) [(.tmp 4)])
def g43 : AFunc := (.code 8 (q (o [⟨s 2, m (c (.slice n 0 0)), n, []⟩]) (q (q (o [⟨s 3, m (t 0), n, []⟩, ⟨s 4, .eqp 1 false (t 3) (c (.slice n 0 0)), n, []⟩]) (w (t 4) (q (o [⟨s 2, m (c (.slice n 0 0)), n, []⟩]) .ret) .skip)) (q (o [⟨s 5, .buildSlice 2 0 [] [], n, []⟩, ⟨s 6, m (t 0), n, []⟩, ⟨s 7, .append 2 24 (t 5) (t 6), n, []⟩, ⟨s 2, m (t 7), n, []⟩]) .ret))) [(.tmp 2)])
def g44 : AFunc := (.rcv 14 5 [⟨s 6, .tAssert2 113 (.agg #[(i .i64 0), (g (bs []))]) (t 5), n, []⟩, ⟨s 4, m (t 6), n, []⟩, ⟨s 7, .extract (t 4) 0, n, []⟩, ⟨s 8, .extract (t 4) 1, n, []⟩, ⟨s 2, .alloc [(i .i64 0), (g (bs []))], n, []⟩, ⟨n, .store 2 (t 2) (t 7), n, []⟩, ⟨s 3, m (t 8), n, []⟩] (q (o [⟨s 9, m (t 3), n, []⟩]) (w (t 9) (o [⟨s 10, f 0 (t 2), n, []⟩, ⟨s 12, f 1 (t 2), n, []⟩, ⟨s 11, l (t 10), n, []⟩, ⟨s 13, l (t 12), n, [(0, 1)]⟩, ⟨n, .store 1 (t 0) (t 11), n, []⟩, ⟨n, .store 1 (t 1) (t 13), n, []⟩]) .skip)))
def g45 : AFunc := (.code 76 (q (o [⟨s 8, m (t 0), n, []⟩, ⟨s 9, .nilChk (t 8), n, []⟩, ⟨s 10, f 6 (t 9), n, []⟩, ⟨n, .store 1 (t 10) (c (g (bs [104, 101, 97, 100, 101, 114]))), n, []⟩]) (q (o [⟨s 11, m (t 0), n, []⟩, ⟨s 12, m (t 0), n, []⟩, ⟨s 13, .nilChk (t 12), n, []⟩, ⟨s 14, f 0 (t 13), n, []⟩, ⟨s 15, f 0 (t 14), n, []⟩, ⟨s 16, l (t 15), n, []⟩, ⟨s 17, .lenSl (t 16), n, []⟩, ⟨s 18, .bin .leq (t 17) (c (i .i64 32)), n, []⟩, ⟨s 19, k (.func 46) [(t 11), (t 18), (c (i .i64 74))], n, []⟩]) (q (o [⟨s 20, .mkMap, n, []⟩, ⟨s 2, m (t 20), n, []⟩]) (q (o [⟨s 21, m (t 0), n, []⟩, ⟨s 22, .nilChk (t 21), n, []⟩, ⟨s 23, f 0 (t 22), n, []⟩, ⟨s 24, f 0 (t 23), n, []⟩, ⟨s 25, l (t 24), n, []⟩, ⟨s 26, .lenSl (t 25), n, []⟩, ⟨s 27, m (c (i .i64 0)), n, []⟩]) (.block 0 (.loop (q (o [⟨s 28, .bin .lss (t 27) (t 26), n, []⟩]) (q (w (t 28) .skip (.exit 0)) (q (.block 1 (q (o [⟨s 29, a 2 (t 25) (t 27), n, []⟩, ⟨s 30, d 2 (t 29), n, []⟩, ⟨s 4, .alloc [(g (bs [])), (.slice n 0 0)], n, []⟩, ⟨n, .store 2 (t 4) (t 30), n, []⟩]) (q (o [⟨s 31, m (t 0), n, []⟩, ⟨s 32, f 0 (t 4), n, []⟩, ⟨s 33, l (t 32), n, []⟩, ⟨s 34, .bin .add (c (g (bs [104, 101, 97, 100, 101, 114, 32]))) (t 33), n, []⟩, ⟨s 35, .nilChk (t 31), n, []⟩, ⟨s 36, f 6 (t 35), n, []⟩, ⟨n, .store 1 (t 36) (t 34), n, []⟩]) (q (o [⟨s 37, m (t 0), n, []⟩, ⟨s 38, f 0 (t 4), n, []⟩, ⟨s 39, l (t 38), n, []⟩, ⟨s 40, m (t 2), n, []⟩, ⟨s 41, k (.func 86) [(t 37), (t 39), (t 40)], n, []⟩]) (q (o [⟨s 42, m (t 0), n, []⟩, ⟨s 43, f 1 (t 4), n, []⟩, ⟨s 44, l (t 43), n, []⟩, ⟨s 45, .lenSl (t 44), n, []⟩, ⟨s 46, .bin .gtr (t 45) (c (i .i64 0)), n, []⟩, ⟨s 47, m (t 46), n, []⟩, ⟨s 48, f 1 (t 4), s (47, true), []⟩, ⟨s 49, l (t 48), s (47, true), []⟩, ⟨s 50, .lenSl (t 49), s (47, true), []⟩, ⟨s 51, .bin .leq (t 50) (c (i .i64 32)), s (47, true), []⟩, ⟨s 52, .pick (t 47) (t 51) (c (.bool false)), n, []⟩, ⟨s 53, k (.func 46) [(t 42), (t 52), (c (i .i64 74))], n, []⟩]) (q (o [⟨s 54, m (t 0), n, []⟩, ⟨s 55, f 1 (t 4), n, []⟩, ⟨s 56, l (t 55), n, []⟩, ⟨s 57, k (.func 47) [(t 54), (t 56)], n, []⟩]) (q (o [⟨s 5, m (c (i .i64 0)), n, []⟩]) (q (q (o [⟨s 58, f 1 (t 4), n, []⟩, ⟨s 59, l (t 58), n, []⟩, ⟨s 60, .lenSl (t 59), n, []⟩, ⟨s 61, m (c (i .i64 0)), n, []⟩]) (.block 2 (.loop (q (o [⟨s 62, .bin .lss (t 61) (t 60), n, []⟩]) (q (w (t 62) .skip (.exit 2)) (q (.block 3 (q (o [⟨s 63, a 2 (t 59) (t 61), n, []⟩, ⟨s 64, d 2 (t 63), n, []⟩, ⟨s 7, .alloc [(g (bs [])), (i .i64 0)], n, []⟩, ⟨n, .store 2 (t 7) (t 64), n, []⟩]) (o [⟨s 65, m (t 5), n, []⟩, ⟨s 66, f 1 (t 7), n, []⟩, ⟨s 67, l (t 66), n, []⟩, ⟨s 68, .bin .add (t 65) (t 67), n, []⟩, ⟨s 5, m (t 68), n, []⟩]))) (o [⟨s 69, .bin .add (t 61) (c (i .i64 1)), n, []⟩, ⟨s 61, m (t 69), n, []⟩]))))))) (o [⟨s 70, m (t 0), n, []⟩, ⟨s 71, m (t 5), n, []⟩, ⟨s 72, .bin .rem (t 71) (c (i .i64 8)), n, []⟩, ⟨s 73, .bin .eql (t 72) (c (i .i64 0)), n, []⟩, ⟨s 74, k (.func 46) [(t 70), (t 73), (c (i .i64 73))], n, []⟩]))))))))) (o [⟨s 75, .bin .add (t 27) (c (i .i64 1)), n, []⟩, ⟨s 27, m (t 75), n, []⟩])))))))))) [])
def g46 : AFunc := (.code 15 (q (o [⟨s 6, m (t 1), n, []⟩, ⟨s 7, .un .not (t 6), n, []⟩]) (w (t 7) (o [⟨s 8, m (t 2), n, []⟩, ⟨s 9, m (t 0), n, []⟩, ⟨s 10, .nilChk (t 9), n, []⟩, ⟨s 11, f 6 (t 10), n, []⟩, ⟨s 12, l (t 11), n, []⟩, ⟨s 13, .build [(i .i64 0), (g (bs []))] [(0, (1, (t 8))), (1, (1, (t 12)))], n, []⟩, ⟨s 14, .mkIface 113 (t 13), n, []⟩, ⟨n, .panic (t 14), n, []⟩]) .skip)) [])
def g47 : AFunc := (.code 30 (q (o [⟨s 7, .mkMap, n, []⟩, ⟨s 4, m (t 7), n, []⟩]) (q (o [⟨s 8, m (t 1), n, []⟩, ⟨s 9, .lenSl (t 8), n, []⟩, ⟨s 10, m (c (i .i64 0)), n, []⟩]) (.block 0 (.loop (q (o [⟨s 11, .bin .lss (t 10) (t 9), n, []⟩]) (q (w (t 11) .skip (.exit 0)) (q (.block 1 (q (o [⟨s 12, a 2 (t 8) (t 10), n, []⟩, ⟨s 13, d 2 (t 12), n, []⟩, ⟨s 6, .alloc [(g (bs [])), (i .i64 0)], n, []⟩, ⟨n, .store 2 (t 6) (t 13), n, []⟩]) (q (o [⟨s 14, m (t 0), n, []⟩, ⟨s 15, f 0 (t 6), n, []⟩, ⟨s 16, l (t 15), n, []⟩, ⟨s 17, m (t 4), n, []⟩, ⟨s 18, k (.func 86) [(t 14), (t 16), (t 17)], n, []⟩]) (o [⟨s 19, m (t 0), n, []⟩, ⟨s 20, f 1 (t 6), n, []⟩, ⟨s 21, l (t 20), n, []⟩, ⟨s 22, .bin .geq (t 21) (c (i .i64 1)), n, []⟩, ⟨s 23, m (t 22), n, []⟩, ⟨s 24, f 1 (t 6), s (23, true), []⟩, ⟨s 25, l (t 24), s (23, true), []⟩, ⟨s 26, .bin .leq (t 25) (c (i .i64 128)), s (23, true), []⟩, ⟨s 27, .pick (t 23) (t 26) (c (.bool false)), n, []⟩, ⟨s 28, k (.func 46) [(t 19), (t 27), (c (i .i64 73))], n, []⟩])))) (o [⟨s 29, .bin .add (t 10) (c (i .i64 1)), n, []⟩, ⟨s 10, m (t 29), n, []⟩])))))))) [])
def g48 : AFunc := (.code 191 (q (o [⟨s 15, m (t 0), n, []⟩, ⟨s 16, .nilChk (t 15), n, []⟩, ⟨s 17, f 6 (t 16), n, []⟩, ⟨n, .store 1 (t 17) (c (g (bs [115, 116, 97, 116, 101]))), n, []⟩]) (q (o [⟨s 18, m (t 0), n, []⟩, ⟨s 19, m (t 0), n, []⟩, ⟨s 20, .nilChk (t 19), n, []⟩, ⟨s 21, f 0 (t 20), n, []⟩, ⟨s 22, f 2 (t 21), n, []⟩, ⟨s 23, l (t 22), n, []⟩, ⟨s 24, .lenSl (t 23), n, []⟩, ⟨s 25, .bin .leq (t 24) (c (i .i64 32)), n, []⟩, ⟨s 26, k (.func 46) [(t 18), (t 25), (c (i .i64 74))], n, []⟩]) (q (o [⟨s 27, .mkMap, n, []⟩, ⟨n, .mapUpd (.prim 2) (t 27) (c (g (bs [97, 99, 99, 101, 112, 116]))) (c (i .i64 1)), n, []⟩, ⟨n, .mapUpd (.prim 2) (t 27) (c (g (bs [114, 101, 106, 101, 99, 116]))) (c (i .i64 1)), n, []⟩, ⟨s 28, m (t 27), n, []⟩, ⟨s 2, m (t 28), n, []⟩]) (q (q (o [⟨s 29, m (t 0), n, []⟩, ⟨s 30, .nilChk (t 29), n, []⟩, ⟨s 31, f 0 (t 30), n, []⟩, ⟨s 32, f 2 (t 31), n, []⟩, ⟨s 33, l (t 32), n, []⟩, ⟨s 34, .lenSl (t 33), n, []⟩, ⟨s 35, m (c (i .i64 0)), n, []⟩]) (.block 0 (.loop (q (o [⟨s 36, .bin .lss (t 35) (t 34), n, []⟩]) (q (w (t 36) .skip (.exit 0)) (q (.block 1 (q (o [⟨s 37, a 6 (t 33) (t 35), n, []⟩, ⟨s 38, d 6 (t 37), n, []⟩, ⟨s 4, .alloc [(g (bs [])), (g (bs [])), (g (bs [])), (g (bs [])), (.slice n 0 0), (g (bs []))], n, []⟩, ⟨n, .store 6 (t 4) (t 38), n, []⟩]) (o [⟨s 39, m (t 2), n, []⟩, ⟨s 40, f 0 (t 4), n, []⟩, ⟨s 41, l (t 40), n, []⟩, ⟨n, .mapUpd (.prim 2) (t 39) (t 41) (c (i .i64 1)), n, []⟩]))) (o [⟨s 42, .bin .add (t 35) (c (i .i64 1)), n, []⟩, ⟨s 35, m (t 42), n, []⟩]))))))) (q (o [⟨s 43, .mkMap, n, []⟩, ⟨s 5, m (t 43), n, []⟩]) (q (q (o [⟨s 44, m (t 0), n, []⟩, ⟨s 45, .nilChk (t 44), n, []⟩, ⟨s 46, f 0 (t 45), n, []⟩, ⟨s 47, f 2 (t 46), n, []⟩, ⟨s 48, l (t 47), n, []⟩, ⟨s 49, .lenSl (t 48), n, []⟩, ⟨s 50, m (c (i .i64 0)), n, []⟩]) (.block 2 (.loop (q (o [⟨s 51, .bin .lss (t 50) (t 49), n, []⟩]) (q (w (t 51) .skip (.exit 2)) (q (.block 3 (q (o [⟨s 52, a 6 (t 48) (t 50), n, []⟩, ⟨s 53, d 6 (t 52), n, []⟩, ⟨s 7, .alloc [(g (bs [])), (g (bs [])), (g (bs [])), (g (bs [])), (.slice n 0 0), (g (bs []))], n, []⟩, ⟨n, .store 6 (t 7) (t 53), n, []⟩]) (q (o [⟨s 54, m (t 0), n, []⟩, ⟨s 55, f 0 (t 7), n, []⟩, ⟨s 56, l (t 55), n, []⟩, ⟨s 57, .bin .add (c (g (bs [115, 116, 97, 116, 101, 32]))) (t 56), n, []⟩, ⟨s 58, .nilChk (t 54), n, []⟩, ⟨s 59, f 6 (t 58), n, []⟩, ⟨n, .store 1 (t 59) (t 57), n, []⟩]) (q (o [⟨s 60, m (t 0), n, []⟩, ⟨s 61, f 0 (t 7), n, []⟩, ⟨s 62, l (t 61), n, []⟩, ⟨s 63, m (t 5), n, []⟩, ⟨s 64, k (.func 86) [(t 60), (t 62), (t 63)], n, []⟩]) (q (o [⟨s 65, m (t 0), n, []⟩, ⟨s 66, m (t 0), n, []⟩, ⟨s 67, .nilChk (t 66), n, []⟩, ⟨s 68, f 0 (t 67), n, []⟩, ⟨s 70, f 1 (t 7), n, []⟩, ⟨s 69, d 6 (t 68), n, []⟩, ⟨s 71, l (t 70), n, []⟩, ⟨s 72, k (.func 42) [(t 69), (t 71)], n, []⟩, ⟨s 73, .bin .geq (t 72) (c (i .i64 0)), n, []⟩, ⟨s 74, k (.func 46) [(t 65), (t 73), (c (i .i64 72))], n, []⟩]) (q (o [⟨s 76, m (t 0), n, []⟩, ⟨s 77, .nilChk (t 76), n, []⟩, ⟨s 78, f 0 (t 77), n, []⟩, ⟨s 80, f 2 (t 7), n, []⟩, ⟨s 79, d 6 (t 78), n, []⟩, ⟨s 81, d 2 (t 80), n, []⟩, ⟨s 82, k (.func 56) [(t 79), (t 81)], n, []⟩, ⟨s 75, m (t 82), n, []⟩, ⟨s 83, .extract (t 75) 0, n, []⟩, ⟨s 84, .extract (t 75) 1, n, []⟩, ⟨s 8, .alloc [(g (bs [])), (i .i64 0)], n, []⟩, ⟨n, .store 2 (t 8) (t 83), n, []⟩, ⟨s 9, m (t 84), n, []⟩]) (q (o [⟨s 85, f 2 (t 7), n, []⟩, ⟨s 86, d 2 (t 85), n, []⟩, ⟨s 87, .build [(g (bs [])), (g (bs []))] [], n, []⟩, ⟨s 88, .eqs false 2 [(0, 2), (1, 2)] (t 86) (t 87), n, []⟩, ⟨s 10, m (t 88), n, []⟩]) (q (o [⟨s 89, m (t 0), n, []⟩, ⟨s 90, m (t 10), n, []⟩, ⟨s 91, m (t 90), n, []⟩, ⟨s 92, m (t 9), s (91, false), []⟩, ⟨s 93, .pick (t 91) (c (.bool true)) (t 92), n, []⟩, ⟨s 94, k (.func 46) [(t 89), (t 93), (c (i .i64 72))], n, []⟩]) (q (o [⟨s 95, m (t 0), n, []⟩, ⟨s 96, f 4 (t 7), n, []⟩, ⟨s 97, l (t 96), n, []⟩, ⟨s 98, .lenSl (t 97), n, []⟩, ⟨s 99, .bin .leq (t 98) (c (i .i64 32)), n, []⟩, ⟨s 100, k (.func 46) [(t 95), (t 99), (c (i .i64 74))], n, []⟩]) (q (o [⟨s 101, m (t 0), n, []⟩, ⟨s 102, m (t 10), n, []⟩, ⟨s 103, .un .not (t 102), n, []⟩, ⟨s 104, m (t 103), n, []⟩, ⟨s 105, f 4 (t 7), s (104, false), []⟩, ⟨s 106, l (t 105), s (104, false), []⟩, ⟨s 107, .lenSl (t 106), s (104, false), []⟩, ⟨s 108, .bin .eql (t 107) (c (i .i64 0)), s (104, false), []⟩, ⟨s 109, .pick (t 104) (c (.bool true)) (t 108), n, []⟩, ⟨s 110, k (.func 46) [(t 101), (t 109), (c (i .i64 75))], n, []⟩]) (q (o [⟨s 111, .mkMap, n, []⟩, ⟨s 11, m (t 111), n, []⟩]) (q (q (o [⟨s 112, f 4 (t 7), n, []⟩, ⟨s 113, l (t 112), n, []⟩, ⟨s 114, .lenSl (t 113), n, []⟩, ⟨s 115, m (c (i .i64 0)), n, []⟩]) (.block 4 (.loop (q (o [⟨s 116, .bin .lss (t 115) (t 114), n, []⟩]) (q (w (t 116) .skip (.exit 4)) (q (.block 5 (q (o [⟨s 117, a 5 (t 113) (t 115), n, []⟩, ⟨s 118, d 5 (t 117), n, []⟩, ⟨s 13, .alloc [(i .u64 0), (i .u64 0), (i .u64 0), (i .u64 0), (g (bs []))], n, []⟩, ⟨n, .store 5 (t 13) (t 118), n, []⟩]) (q (o [⟨s 119, m (t 0), n, []⟩, ⟨s 120, f 2 (t 13), n, []⟩, ⟨s 121, d 2 (t 120), n, []⟩, ⟨s 122, f 1 (t 8), n, []⟩, ⟨s 123, l (t 122), n, []⟩, ⟨s 124, k (.func 87) [(t 121), (t 123)], n, []⟩, ⟨s 125, m (t 124), n, []⟩, ⟨s 126, f 0 (t 13), s (125, true), []⟩, ⟨s 127, f 0 (t 126), s (125, true), []⟩, ⟨s 128, l (t 127), s (125, true), []⟩, ⟨s 129, f 2 (t 13), s (125, true), []⟩, ⟨s 130, f 0 (t 129), s (125, true), []⟩, ⟨s 131, l (t 130), s (125, true), []⟩, ⟨s 132, .bin .or (t 128) (t 131), s (125, true), []⟩, ⟨s 133, f 2 (t 13), s (125, true), []⟩, ⟨s 134, f 0 (t 133), s (125, true), []⟩, ⟨s 135, l (t 134), s (125, true), []⟩, ⟨s 136, .bin .eql (t 132) (t 135), s (125, true), []⟩, ⟨s 137, .pick (t 125) (t 136) (c (.bool false)), n, []⟩, ⟨s 138, m (t 137), n, []⟩, ⟨s 139, f 0 (t 13), s (138, true), []⟩, ⟨s 140, f 1 (t 139), s (138, true), []⟩, ⟨s 141, l (t 140), s (138, true), []⟩, ⟨s 142, f 2 (t 13), s (138, true), []⟩, ⟨s 143, f 1 (t 142), s (138, true), []⟩, ⟨s 144, l (t 143), s (138, true), []⟩, ⟨s 145, .bin .or (t 141) (t 144), s (138, true), []⟩, ⟨s 146, f 2 (t 13), s (138, true), []⟩, ⟨s 147, f 1 (t 146), s (138, true), []⟩, ⟨s 148, l (t 147), s (138, true), []⟩, ⟨s 149, .bin .eql (t 145) (t 148), s (138, true), []⟩, ⟨s 150, .pick (t 138) (t 149) (c (.bool false)), n, []⟩, ⟨s 151, k (.func 46) [(t 119), (t 150), (c (i .i64 73))], n, []⟩]) (q (o [⟨s 152, f 0 (t 13), n, []⟩, ⟨s 153, f 0 (t 152), n, []⟩, ⟨s 154, l (t 153), n, []⟩, ⟨s 155, f 0 (t 13), n, []⟩, ⟨s 156, f 1 (t 155), n, []⟩, ⟨s 157, l (t 156), n, []⟩, ⟨s 158, f 2 (t 13), n, []⟩, ⟨s 159, f 0 (t 158), n, []⟩, ⟨s 160, l (t 159), n, []⟩, ⟨s 161, f 2 (t 13), n, []⟩, ⟨s 162, f 1 (t 161), n, []⟩, ⟨s 163, l (t 162), n, []⟩, ⟨s 164, .build [(i .u64 0), (i .u64 0), (i .u64 0), (i .u64 0)] [(0, (1, (t 154))), (1, (1, (t 157))), (2, (1, (t 160))), (3, (1, (t 163)))], n, []⟩, ⟨s 14, .alloc [(i .u64 0), (i .u64 0), (i .u64 0), (i .u64 0)], n, []⟩, ⟨n, .store 4 (t 14) (t 164), n, []⟩]) (q (o [⟨s 165, m (t 0), n, []⟩, ⟨s 166, m (t 11), n, []⟩, ⟨s 167, d 4 (t 14), n, []⟩, ⟨s 168, .lookup (.flat 4 [(0, 1), (1, 1), (2, 1), (3, 1)]) (i .i64 0) false (t 166) (t 167), n, []⟩, ⟨s 169, .bin .eql (t 168) (c (i .i64 0)), n, []⟩, ⟨s 170, k (.func 46) [(t 165), (t 169), (c (i .i64 71))], n, []⟩]) (q (o [⟨s 171, m (t 11), n, []⟩, ⟨s 172, d 4 (t 14), n, []⟩, ⟨n, .mapUpd (.flat 4 [(0, 1), (1, 1), (2, 1), (3, 1)]) (t 171) (t 172) (c (i .i64 1)), n, []⟩]) (o [⟨s 173, m (t 0), n, []⟩, ⟨s 174, m (t 2), n, []⟩, ⟨s 175, f 4 (t 13), n, []⟩, ⟨s 176, l (t 175), n, []⟩, ⟨s 177, .lookup (.prim 2) (i .i64 0) false (t 174) (t 176), n, []⟩, ⟨s 178, .bin .eql (t 177) (c (i .i64 1)), n, []⟩, ⟨s 179, k (.func 46) [(t 173), (t 178), (c (i .i64 72))], n, []⟩]))))))) (o [⟨s 180, .bin .add (t 115) (c (i .i64 1)), n, []⟩, ⟨s 115, m (t 180), n, []⟩]))))))) (o [⟨s 181, m (t 0), n, []⟩, ⟨s 182, m (t 2), n, []⟩, ⟨s 183, f 5 (t 7), n, []⟩, ⟨s 184, l (t 183), n, []⟩, ⟨s 185, .lookup (.prim 2) (i .i64 0) false (t 182) (t 184), n, []⟩, ⟨s 186, .bin .eql (t 185) (c (i .i64 1)), n, []⟩, ⟨s 187, k (.func 46) [(t 181), (t 186), (c (i .i64 72))], n, []⟩]))))))))))))) (o [⟨s 188, .bin .add (t 50) (c (i .i64 1)), n, []⟩, ⟨s 50, m (t 188), n, []⟩]))))))) (o [⟨s 189, m (t 0), n, []⟩, ⟨s 190, k (.func 88) [(t 189)], n, []⟩]))))))) [])
def g49 : AFunc := (.code 71 (q (o [⟨s 7, m (t 0), n, []⟩, ⟨s 8, .nilChk (t 7), n, []⟩, ⟨s 9, f 6 (t 8), n, []⟩, ⟨n, .store 1 (t 9) (c (g (bs [97, 99, 116, 105, 111, 110]))), n, []⟩]) (q (o [⟨s 10, m (t 0), n, []⟩, ⟨s 11, m (t 0), n, []⟩, ⟨s 12, .nilChk (t 11), n, []⟩, ⟨s 13, f 0 (t 12), n, []⟩, ⟨s 14, f 3 (t 13), n, []⟩, ⟨s 15, l (t 14), n, []⟩, ⟨s 16, .lenSl (t 15), n, []⟩, ⟨s 17, .bin .leq (t 16) (c (i .i64 64)), n, []⟩, ⟨s 18, k (.func 46) [(t 10), (t 17), (c (i .i64 74))], n, []⟩]) (q (o [⟨s 19, .mkMap, n, []⟩, ⟨s 2, m (t 19), n, []⟩]) (q (o [⟨s 20, m (t 0), n, []⟩, ⟨s 21, .nilChk (t 20), n, []⟩, ⟨s 22, f 0 (t 21), n, []⟩, ⟨s 23, f 3 (t 22), n, []⟩, ⟨s 24, l (t 23), n, []⟩, ⟨s 25, .lenSl (t 24), n, []⟩, ⟨s 26, m (c (i .i64 0)), n, []⟩]) (.block 0 (.loop (q (o [⟨s 27, .bin .lss (t 26) (t 25), n, []⟩]) (q (w (t 27) .skip (.exit 0)) (q (.block 1 (q (o [⟨s 28, a 3 (t 24) (t 26), n, []⟩, ⟨s 29, d 3 (t 28), n, []⟩, ⟨s 4, .alloc [(g (bs [])), (.slice n 0 0), (.slice n 0 0)], n, []⟩, ⟨n, .store 3 (t 4) (t 29), n, []⟩]) (q (o [⟨s 30, m (t 0), n, []⟩, ⟨s 31, f 0 (t 4), n, []⟩, ⟨s 32, l (t 31), n, []⟩, ⟨s 33, .bin .add (c (g (bs [97, 99, 116, 105, 111, 110, 32]))) (t 32), n, []⟩, ⟨s 34, .nilChk (t 30), n, []⟩, ⟨s 35, f 6 (t 34), n, []⟩, ⟨n, .store 1 (t 35) (t 33), n, []⟩]) (q (o [⟨s 36, m (t 0), n, []⟩, ⟨s 37, f 0 (t 4), n, []⟩, ⟨s 38, l (t 37), n, []⟩, ⟨s 39, m (t 2), n, []⟩, ⟨s 40, k (.func 86) [(t 36), (t 38), (t 39)], n, []⟩]) (q (o [⟨s 41, m (t 0), n, []⟩, ⟨s 42, f 1 (t 4), n, []⟩, ⟨s 43, l (t 42), n, []⟩, ⟨s 44, .lenSl (t 43), n, []⟩, ⟨s 45, .bin .leq (t 44) (c (i .i64 8)), n, []⟩, ⟨s 46, m (t 45), n, []⟩, ⟨s 47, f 2 (t 4), s (46, true), []⟩, ⟨s 48, l (t 47), s (46, true), []⟩, ⟨s 49, .lenSl (t 48), s (46, true), []⟩, ⟨s 50, .bin .leq (t 49) (c (i .i64 32)), s (46, true), []⟩, ⟨s 51, .pick (t 46) (t 50) (c (.bool false)), n, []⟩, ⟨s 52, k (.func 46) [(t 41), (t 51), (c (i .i64 74))], n, []⟩]) (q (o [⟨s 53, m (t 0), n, []⟩, ⟨s 54, f 1 (t 4), n, []⟩, ⟨s 55, l (t 54), n, []⟩, ⟨s 56, k (.func 47) [(t 53), (t 55)], n, []⟩]) (q (o [⟨s 57, f 2 (t 4), n, []⟩, ⟨s 58, l (t 57), n, []⟩, ⟨s 59, .lenSl (t 58), n, []⟩, ⟨s 60, m (c (i .i64 0)), n, []⟩]) (.block 2 (.loop (q (o [⟨s 61, .bin .lss (t 60) (t 59), n, []⟩]) (q (w (t 61) .skip (.exit 2)) (q (.block 3 (q (o [⟨s 62, a 12 (t 58) (t 60), n, []⟩, ⟨s 63, d 12 (t 62), n, []⟩, ⟨s 6, .alloc [(i .i64 0), (g (bs [])), (g (bs [])), (i .i64 0), (g (bs [])), (g (bs [])), (i .u64 0), (i .u64 0), (g (bs [])), (g (bs [])), (i .u64 0), (i .u64 0)], n, []⟩, ⟨n, .store 12 (t 6) (t 63), n, []⟩]) (o [⟨s 64, m (t 0), n, []⟩, ⟨s 65, f 1 (t 4), n, []⟩, ⟨s 66, l (t 65), n, []⟩, ⟨s 67, d 12 (t 6), n, []⟩, ⟨s 68, k (.func 89) [(t 64), (t 66), (t 67)], n, []⟩]))) (o [⟨s 69, .bin .add (t 60) (c (i .i64 1)), n, []⟩, ⟨s 60, m (t 69), n, []⟩]))))))))))))) (o [⟨s 70, .bin .add (t 26) (c (i .i64 1)), n, []⟩, ⟨s 26, m (t 70), n, []⟩])))))))))) [])
def g50 : AFunc := (.code 168 (q (o [⟨s 14, m (t 0), n, []⟩, ⟨s 15, .nilChk (t 14), n, []⟩, ⟨s 16, f 6 (t 15), n, []⟩, ⟨n, .store 1 (t 16) (c (g (bs [116, 97, 98, 108, 101]))), n, []⟩]) (q (o [⟨s 17, m (t 0), n, []⟩, ⟨s 18, m (t 0), n, []⟩, ⟨s 19, .nilChk (t 18), n, []⟩, ⟨s 20, f 0 (t 19), n, []⟩, ⟨s 21, f 4 (t 20), n, []⟩, ⟨s 22, l (t 21), n, []⟩, ⟨s 23, .lenSl (t 22), n, []⟩, ⟨s 24, .bin .leq (t 23) (c (i .i64 32)), n, []⟩, ⟨s 25, k (.func 46) [(t 17), (t 24), (c (i .i64 74))], n, []⟩]) (q (o [⟨s 26, .mkMap, n, []⟩, ⟨s 2, m (t 26), n, []⟩]) (q (o [⟨s 27, m (t 0), n, []⟩, ⟨s 28, .nilChk (t 27), n, []⟩, ⟨s 29, f 0 (t 28), n, []⟩, ⟨s 30, f 4 (t 29), n, []⟩, ⟨s 31, l (t 30), n, []⟩, ⟨s 32, .lenSl (t 31), n, []⟩, ⟨s 33, m (c (i .i64 0)), n, []⟩]) (.block 0 (.loop (q (o [⟨s 34, .bin .lss (t 33) (t 32), n, []⟩]) (q (w (t 34) .skip (.exit 0)) (q (.block 1 (q (o [⟨s 35, a 7 (t 31) (t 33), n, []⟩, ⟨s 36, d 7 (t 35), n, []⟩, ⟨s 4, .alloc [(g (bs [])), (.slice n 0 0), (.slice n 0 0), (i .i64 0), (g (bs [])), (.slice n 0 0), (.bool false)], n, []⟩, ⟨n, .store 7 (t 4) (t 36), n, []⟩]) (q (o [⟨s 37, m (t 0), n, []⟩, ⟨s 38, f 0 (t 4), n, []⟩, ⟨s 39, l (t 38), n, []⟩, ⟨s 40, .bin .add (c (g (bs [116, 97, 98, 108, 101, 32]))) (t 39), n, []⟩, ⟨s 41, .nilChk (t 37), n, []⟩, ⟨s 42, f 6 (t 41), n, []⟩, ⟨n, .store 1 (t 42) (t 40), n, []⟩]) (q (o [⟨s 43, m (t 0), n, []⟩, ⟨s 44, f 0 (t 4), n, []⟩, ⟨s 45, l (t 44), n, []⟩, ⟨s 46, m (t 2), n, []⟩, ⟨s 47, k (.func 86) [(t 43), (t 45), (t 46)], n, []⟩]) (q (o [⟨s 48, m (t 0), n, []⟩, ⟨s 49, f 1 (t 4), n, []⟩, ⟨s 50, l (t 49), n, []⟩, ⟨s 51, .lenSl (t 50), n, []⟩, ⟨s 52, .bin .gtr (t 51) (c (i .i64 0)), n, []⟩, ⟨s 53, m (t 52), n, []⟩, ⟨s 54, f 1 (t 4), s (53, true), []⟩, ⟨s 55, l (t 54), s (53, true), []⟩, ⟨s 56, .lenSl (t 55), s (53, true), []⟩, ⟨s 57, .bin .leq (t 56) (c (i .i64 8)), s (53, true), []⟩, ⟨s 58, .pick (t 53) (t 57) (c (.bool false)), n, []⟩, ⟨s 59, k (.func 46) [(t 48), (t 58), (c (i .i64 74))], n, []⟩]) (q (o [⟨s 5, m (c (i .i64 0)), n, []⟩]) (q (q (o [⟨s 60, f 1 (t 4), n, []⟩, ⟨s 61, l (t 60), n, []⟩, ⟨s 62, .lenSl (t 61), n, []⟩, ⟨s 63, m (c (i .i64 0)), n, []⟩]) (.block 2 (.loop (q (o [⟨s 64, .bin .lss (t 63) (t 62), n, []⟩]) (q (w (t 64) .skip (.exit 2)) (q (.block 3 (q (o [⟨s 65, a 3 (t 61) (t 63), n, []⟩, ⟨s 66, d 3 (t 65), n, []⟩, ⟨s 7, .alloc [(g (bs [])), (g (bs [])), (i .i64 0)], n, []⟩, ⟨n, .store 3 (t 7) (t 66), n, []⟩]) (q (o [⟨s 68, m (t 0), n, []⟩, ⟨s 69, .nilChk (t 68), n, []⟩, ⟨s 70, f 0 (t 69), n, []⟩, ⟨s 72, f 0 (t 7), n, []⟩, ⟨s 71, d 6 (t 70), n, []⟩, ⟨s 73, d 2 (t 72), n, []⟩, ⟨s 74, k (.func 56) [(t 71), (t 73)], n, []⟩, ⟨s 67, m (t 74), n, []⟩, ⟨s 75, .extract (t 67) 0, n, []⟩, ⟨s 76, .extract (t 67) 1, n, []⟩, ⟨s 8, .alloc [(g (bs [])), (i .i64 0)], n, []⟩, ⟨n, .store 2 (t 8) (t 75), n, []⟩, ⟨s 9, m (t 76), n, []⟩]) (q (o [⟨s 77, m (t 0), n, []⟩, ⟨s 78, m (t 9), n, []⟩, ⟨s 79, k (.func 46) [(t 77), (t 78), (c (i .i64 72))], n, []⟩]) (q (o [⟨s 80, m (t 0), n, []⟩, ⟨s 81, f 2 (t 7), n, []⟩, ⟨s 82, l (t 81), n, []⟩, ⟨s 83, .bin .geq (t 82) (c (i .i64 1)), n, []⟩, ⟨s 84, m (t 83), n, []⟩, ⟨s 85, f 2 (t 7), s (84, true), []⟩, ⟨s 86, l (t 85), s (84, true), []⟩, ⟨s 87, .bin .leq (t 86) (c (i .i64 4)), s (84, true), []⟩, ⟨s 88, .pick (t 84) (t 87) (c (.bool false)), n, []⟩, ⟨s 89, k (.func 46) [(t 80), (t 88), (c (i .i64 75))], n, []⟩]) (q (o [⟨s 90, f 2 (t 7), n, []⟩, ⟨s 91, l (t 90), n, []⟩, ⟨s 92, .bin .eql (t 91) (c (i .i64 2)), n, []⟩]) (w (t 92) (q (o [⟨s 93, m (t 5), n, []⟩, ⟨s 94, .bin .add (t 93) (c (i .i64 1)), n, []⟩, ⟨s 5, m (t 94), n, []⟩]) (o [⟨s 95, m (t 0), n, []⟩, ⟨s 96, m (t 5), n, []⟩, ⟨s 97, .bin .eql (t 96) (c (i .i64 1)), n, []⟩, ⟨s 98, m (t 97), n, []⟩, ⟨s 99, d 7 (t 4), s (98, true), []⟩, ⟨s 100, k (.func 26) [(t 99)], s (98, true), []⟩, ⟨s 101, .bin .eql (t 100) (c (i .i64 2)), s (98, true), []⟩, ⟨s 102, .pick (t 98) (t 101) (c (.bool false)), n, []⟩, ⟨s 103, k (.func 46) [(t 95), (t 102), (c (i .i64 75))], n, []⟩])) .skip))))))) (o [⟨s 104, .bin .add (t 63) (c (i .i64 1)), n, []⟩, ⟨s 63, m (t 104), n, []⟩]))))))) (q (o [⟨s 105, m (t 0), n, []⟩, ⟨s 106, f 2 (t 4), n, []⟩, ⟨s 107, l (t 106), n, []⟩, ⟨s 108, .lenSl (t 107), n, []⟩, ⟨s 109, .bin .gtr (t 108) (c (i .i64 0)), n, []⟩, ⟨s 110, m (t 109), n, []⟩, ⟨s 111, f 2 (t 4), s (110, true), []⟩, ⟨s 112, l (t 111), s (110, true), []⟩, ⟨s 113, .lenSl (t 112), s (110, true), []⟩, ⟨s 114, .bin .leq (t 113) (c (i .i64 64)), s (110, true), []⟩, ⟨s 115, .pick (t 110) (t 114) (c (.bool false)), n, []⟩, ⟨s 116, k (.func 46) [(t 105), (t 115), (c (i .i64 74))], n, []⟩]) (q (o [⟨s 117, .mkMap, n, []⟩, ⟨s 10, m (t 117), n, []⟩]) (q (q (o [⟨s 118, f 2 (t 4), n, []⟩, ⟨s 119, l (t 118), n, []⟩, ⟨s 120, .lenSl (t 119), n, []⟩, ⟨s 121, m (c (i .i64 0)), n, []⟩]) (.block 4 (.loop (q (o [⟨s 122, .bin .lss (t 121) (t 120), n, []⟩]) (q (w (t 122) .skip (.exit 4)) (q (.block 5 (q (o [⟨s 123, a 1 (t 119) (t 121), n, []⟩, ⟨s 124, l (t 123), n, []⟩, ⟨s 12, m (t 124), n, []⟩]) (q (o [⟨s 125, m (t 0), n, []⟩, ⟨s 126, m (t 0), n, []⟩, ⟨s 127, .nilChk (t 126), n, []⟩, ⟨s 128, f 0 (t 127), n, []⟩, ⟨s 129, d 6 (t 128), n, []⟩, ⟨s 130, m (t 12), n, []⟩, ⟨s 131, k (.func 90) [(t 129), (t 130)], n, []⟩, ⟨s 132, .bin .geq (t 131) (c (i .i64 0)), n, []⟩, ⟨s 133, k (.func 46) [(t 125), (t 132), (c (i .i64 72))], n, []⟩]) (q (o [⟨s 134, m (t 0), n, []⟩, ⟨s 135, m (t 10), n, []⟩, ⟨s 136, m (t 12), n, []⟩, ⟨s 137, .lookup (.prim 2) (i .i64 0) false (t 135) (t 136), n, []⟩, ⟨s 138, .bin .eql (t 137) (c (i .i64 0)), n, []⟩, ⟨s 139, k (.func 46) [(t 134), (t 138), (c (i .i64 71))], n, []⟩]) (o [⟨s 140, m (t 10), n, []⟩, ⟨s 141, m (t 12), n, []⟩, ⟨n, .mapUpd (.prim 2) (t 140) (t 141) (c (i .i64 1)), n, []⟩]))))) (o [⟨s 142, .bin .add (t 121) (c (i .i64 1)), n, []⟩, ⟨s 121, m (t 142), n, []⟩]))))))) (q (o [⟨s 143, m (t 0), n, []⟩, ⟨s 144, f 3 (t 4), n, []⟩, ⟨s 145, l (t 144), n, []⟩, ⟨s 146, .bin .geq (t 145) (c (i .i64 1)), n, []⟩, ⟨s 147, m (t 146), n, []⟩, ⟨s 148, f 3 (t 4), s (147, true), []⟩, ⟨s 149, l (t 148), s (147, true), []⟩, ⟨s 150, .bin .leq (t 149) (c (i .i64 4096)), s (147, true), []⟩, ⟨s 151, .pick (t 147) (t 150) (c (.bool false)), n, []⟩, ⟨s 152, k (.func 46) [(t 143), (t 151), (c (i .i64 74))], n, []⟩]) (q (o [⟨s 153, m (t 0), n, []⟩, ⟨s 154, .nilChk (t 153), n, []⟩, ⟨s 155, f 0 (t 154), n, []⟩, ⟨s 157, f 0 (t 4), n, []⟩, ⟨s 159, f 4 (t 4), n, []⟩, ⟨s 156, d 6 (t 155), n, []⟩, ⟨s 158, l (t 157), n, []⟩, ⟨s 160, d 2 (t 159), n, []⟩, ⟨s 161, k (.func 91) [(t 156), (t 158), (t 160)], n, []⟩, ⟨s 13, m (t 161), n, []⟩]) (q (o [⟨s 162, m (t 13), n, []⟩, ⟨s 163, .bin .neq (t 162) (c (i .i64 0)), n, []⟩]) (w (t 163) (o [⟨s 164, m (t 0), n, []⟩, ⟨s 165, m (t 13), n, []⟩, ⟨s 166, k (.func 46) [(t 164), (c (.bool false)), (t 165)], n, []⟩]) .skip)))))))))))))) (o [⟨s 167, .bin .add (t 33) (c (i .i64 1)), n, []⟩, ⟨s 33, m (t 167), n, []⟩])))))))))) [])
def g51 : AFunc := (.code 10 (q (o [⟨s 4, .box (t 0), n, []⟩, ⟨s 6, m (c (.bool false)), n, []⟩]) (q (o [⟨s 7, d 13 (t 4), n, []⟩, ⟨s 8, l (t 3), n, []⟩, ⟨s 9, k (.func 52) [(t 2), (t 7), (t 8)], n, []⟩]) (q (o [⟨s 6, m (c (.bool true)), n, []⟩]) .ret))) [(.tmp 6)])
end
section
open Option renaming some → s, none → n
open Go.Operand renaming tmp → t, const → c
open AOp renaming mov → m, fAddr → f, load1 → l, loadN → d, callv → k, iAddrSl → a
open ACode renaming seq → q, ops → o, cond → w
open Go.Value renaming int → i, string → g
set_option maxRecDepth 100000
def g52 : AFunc := (.code 73 (q (o [⟨s 4, .box (t 1), n, []⟩]) (q (o [⟨s 8, f 2 (t 4), n, []⟩, ⟨s 9, d 9 (t 8), n, []⟩, ⟨s 6, .alloc [(i .i64 0), (g (bs [])), (g (bs [])), (i .u64 0), (i .u64 0), (g (bs [])), (g (bs [])), (i .u64 0), (i .u64 0)], n, []⟩, ⟨n, .store 9 (t 6) (t 9), n, []⟩]) (q (o [⟨s 7, .alloc [(i .i64 0), (g (bs [])), (g (bs [])), (i .u64 0), (i .u64 0), (g (bs [])), (g (bs [])), (i .u64 0), (i .u64 0)], n, []⟩]) (q (o [⟨s 10, f 0 (t 4), n, []⟩, ⟨s 11, l (t 10), n, []⟩]) (.block 0 (q (o [⟨s 15, .bin .eql (t 11) (c (i .i64 1)), n, []⟩, ⟨s 14, m (t 15), n, []⟩]) (w (t 14) (q (o [⟨s 16, m (t 0), n, []⟩, ⟨s 17, d 9 (t 6), n, []⟩, ⟨s 18, d 9 (t 7), n, []⟩, ⟨s 19, .eqs false 9 [(0, 1), (1, 2), (2, 2), (3, 1), (4, 1), (5, 2), (6, 2), (7, 1), (8, 1)] (t 17) (t 18), n, []⟩, ⟨s 20, k (.func 46) [(t 16), (t 19), (c (i .i64 75))], n, []⟩]) (q (o [⟨s 21, m (t 0), n, []⟩, ⟨s 22, m (t 0), n, []⟩, ⟨s 23, .nilChk (t 22), n, []⟩, ⟨s 24, f 0 (t 23), n, []⟩, ⟨s 26, f 1 (t 4), n, []⟩, ⟨s 25, d 6 (t 24), n, []⟩, ⟨s 27, l (t 26), n, []⟩, ⟨s 28, k (.func 40) [(t 25), (t 27)], n, []⟩, ⟨s 29, .bin .geq (t 28) (c (i .i64 0)), n, []⟩, ⟨s 30, k (.func 46) [(t 21), (t 29), (c (i .i64 72))], n, []⟩]) (q (o [⟨s 31, m (t 0), n, []⟩, ⟨s 32, m (t 2), n, []⟩, ⟨s 33, f 1 (t 4), n, []⟩, ⟨s 34, l (t 33), n, []⟩, ⟨s 35, .lookup (.prim 2) (i .i64 0) false (t 32) (t 34), n, []⟩, ⟨s 36, .bin .eql (t 35) (c (i .i64 0)), n, []⟩, ⟨s 37, k (.func 46) [(t 31), (t 36), (c (i .i64 71))], n, []⟩]) (o [⟨s 38, m (t 2), n, []⟩, ⟨s 39, f 1 (t 4), n, []⟩, ⟨s 40, l (t 39), n, []⟩, ⟨n, .mapUpd (.prim 2) (t 38) (t 40) (c (i .i64 1)), n, []⟩])))) (q (o [⟨s 42, .bin .eql (t 11) (c (i .i64 3)), n, []⟩, ⟨s 41, m (t 42), n, []⟩]) (w (t 41) (o [⟨s 43, m (t 0), n, []⟩, ⟨s 44, d 9 (t 6), n, []⟩, ⟨s 45, d 9 (t 7), n, []⟩, ⟨s 46, .eqs false 9 [(0, 1), (1, 2), (2, 2), (3, 1), (4, 1), (5, 2), (6, 2), (7, 1), (8, 1)] (t 44) (t 45), n, []⟩, ⟨s 47, m (t 46), n, []⟩, ⟨s 48, f 1 (t 4), s (47, true), []⟩, ⟨s 49, l (t 48), s (47, true), []⟩, ⟨s 50, .bin .eql (t 49) (c (g (bs []))), s (47, true), []⟩, ⟨s 51, .pick (t 47) (t 50) (c (.bool false)), n, []⟩, ⟨s 52, m (t 51), n, []⟩, ⟨s 53, f 11 (t 4), s (52, true), []⟩, ⟨s 54, l (t 53), s (52, true), []⟩, ⟨s 55, .lenSl (t 54), s (52, true), []⟩, ⟨s 56, f 12 (t 4), s (52, true), []⟩, ⟨s 57, l (t 56), s (52, true), []⟩, ⟨s 58, .lenSl (t 57), s (52, true), []⟩, ⟨s 59, .bin .add (t 55) (t 58), s (52, true), []⟩, ⟨s 60, .bin .eql (t 59) (c (i .i64 0)), s (52, true), []⟩, ⟨s 61, .pick (t 52) (t 60) (c (.bool false)), n, []⟩, ⟨s 62, k (.func 46) [(t 43), (t 61), (c (i .i64 75))], n, []⟩]) (q (o [⟨s 64, .bin .eql (t 11) (c (i .i64 2)), n, []⟩, ⟨s 63, m (t 64), n, []⟩]) (w (t 63) (q (o [⟨s 65, m (t 0), n, []⟩, ⟨s 66, f 1 (t 4), n, []⟩, ⟨s 67, l (t 66), n, []⟩, ⟨s 68, .bin .eql (t 67) (c (g (bs []))), n, []⟩, ⟨s 69, k (.func 46) [(t 65), (t 68), (c (i .i64 75))], n, []⟩]) (o [⟨s 70, m (t 0), n, []⟩, ⟨s 71, d 9 (t 6), n, []⟩, ⟨s 72, k (.func 92) [(t 70), (t 71)], n, []⟩])) (o [⟨s 12, m (t 0), n, []⟩, ⟨s 13, k (.func 46) [(t 12), (c (.bool false)), (c (i .i64 75))], n, []⟩])))))))))))) [])
def g53 : AFunc := (.code 8 (q (o [⟨s 2, .box (t 0), n, []⟩, ⟨s 3, m (c (.bool false)), n, []⟩]) (q (o [⟨s 4, f 1 (t 1), n, []⟩, ⟨s 5, l (t 4), n, []⟩, ⟨s 6, .mkFunc 55 [] [(t 2)], n, []⟩, ⟨s 7, k (.func 54) [(t 5), (t 6)], n, []⟩, ⟨s 3, m (t 7), n, []⟩]) .ret)) [(.tmp 3)])
def g54 : AFunc := (.code 9 (q (o [⟨s 4, m (c (.bool false)), n, []⟩]) (q (o [⟨s 5, m (t 0), n, []⟩, ⟨s 6, m (t 1), n, []⟩, ⟨s 7, k (.func 93) [(t 5), (t 6)], n, []⟩, ⟨s 8, .bin .geq (t 7) (c (i .i64 0)), n, []⟩, ⟨s 4, m (t 8), n, []⟩]) .ret)) [(.tmp 4)])
def g55 : AFunc := (.code 8 (q (o [⟨s 2, .box (t 0), n, []⟩, ⟨s 3, m (c (.bool false)), n, []⟩]) (q (o [⟨s 4, f 2 (t 2), n, []⟩, ⟨s 5, l (t 4), n, []⟩, ⟨s 6, l (t 1), n, []⟩, ⟨s 7, .bin .eql (t 5) (t 6), n, []⟩, ⟨s 3, m (t 7), n, []⟩]) .ret)) [(.tmp 3)])
def g56 : AFunc := (.code 42 (q (o [⟨s 2, .box (t 0), n, []⟩, ⟨s 3, .box (t 1), n, []⟩, ⟨s 4, .alloc [(g (bs [])), (i .i64 0)], n, []⟩, ⟨s 5, m (c (.bool false)), n, []⟩]) (q (o [⟨s 9, f 1 (t 2), n, []⟩, ⟨s 10, l (t 9), n, []⟩, ⟨s 6, m (t 10), n, []⟩]) (q (q (o [⟨s 11, f 0 (t 3), n, []⟩, ⟨s 12, l (t 11), n, []⟩]) (.block 0 (q (o [⟨s 27, .bin .eql (t 12) (c (g (bs []))), n, []⟩, ⟨s 26, m (t 27), n, []⟩]) (w (t 26) (q (o [⟨s 28, .build [(g (bs [])), (i .i64 0)] [], n, []⟩, ⟨n, .store 2 (t 4) (t 28), n, []⟩, ⟨s 5, m (c (.bool false)), n, []⟩]) .ret) (q (o [⟨s 30, .bin .eql (t 12) (c (g (bs [109, 101, 116, 97]))), n, []⟩, ⟨s 29, m (t 30), n, []⟩]) (w (t 29) .skip (q (o [⟨s 13, d 6 (t 2), n, []⟩, ⟨s 14, f 0 (t 3), n, []⟩, ⟨s 15, l (t 14), n, []⟩, ⟨s 16, k (.func 42) [(t 13), (t 15)], n, []⟩, ⟨s 7, m (t 16), n, []⟩]) (q (q (o [⟨s 17, m (t 7), n, []⟩, ⟨s 18, .bin .lss (t 17) (c (i .i64 0)), n, []⟩]) (w (t 18) (q (o [⟨s 19, .build [(g (bs [])), (i .i64 0)] [], n, []⟩, ⟨n, .store 2 (t 4) (t 19), n, []⟩, ⟨s 5, m (c (.bool false)), n, []⟩]) .ret) .skip)) (o [⟨s 20, f 0 (t 2), n, []⟩, ⟨s 21, l (t 20), n, []⟩, ⟨s 22, m (t 7), n, []⟩, ⟨s 23, a 2 (t 21) (t 22), n, []⟩, ⟨s 24, f 1 (t 23), n, []⟩, ⟨s 25, l (t 24), n, []⟩, ⟨s 6, m (t 25), n, []⟩]))))))))) (q (q (o [⟨s 31, m (t 6), n, []⟩, ⟨s 32, f 1 (t 3), n, []⟩, ⟨s 33, l (t 32), n, []⟩, ⟨s 34, k (.func 94) [(t 31), (t 33)], n, []⟩, ⟨s 8, m (t 34), n, []⟩]) (q (o [⟨s 35, m (t 8), n, []⟩, ⟨s 36, .bin .geq (t 35) (c (i .i64 0)), n, []⟩]) (w (t 36) (q (o [⟨s 37, m (t 6), n, []⟩, ⟨s 38, m (t 8), n, []⟩, ⟨s 39, a 2 (t 37) (t 38), n, []⟩, ⟨s 40, d 2 (t 39), n, []⟩, ⟨n, .store 2 (t 4) (t 40), n, []⟩, ⟨s 5, m (c (.bool true)), n, []⟩]) .ret) .skip))) (q (o [⟨s 41, .build [(g (bs [])), (i .i64 0)] [], n, []⟩, ⟨n, .store 2 (t 4) (t 41), n, []⟩, ⟨s 5, m (c (.bool false)), n, []⟩]) .ret))))) [(.cellN 4 2), (.tmp 5)])
def g57 : AFunc := (.code 26 (q (o [⟨s 4, m (c (.bool false)), n, []⟩]) (q (q (o [⟨s 6, m (t 0), n, []⟩, ⟨s 7, .lenSl (t 6), n, []⟩, ⟨s 8, m (t 1), n, []⟩, ⟨s 9, .lenSl (t 8), n, []⟩, ⟨s 10, .bin .neq (t 7) (t 9), n, []⟩]) (w (t 10) (q (o [⟨s 4, m (c (.bool false)), n, []⟩]) .ret) .skip)) (q (q (o [⟨s 11, m (t 0), n, []⟩, ⟨s 12, .lenSl (t 11), n, []⟩, ⟨s 13, m (c (i .i64 0)), n, []⟩]) (.block 0 (.loop (q (o [⟨s 14, .bin .lss (t 13) (t 12), n, []⟩]) (q (w (t 14) .skip (.exit 0)) (q (.block 1 (q (o [⟨s 15, m (t 13), n, []⟩, ⟨s 5, m (t 15), n, []⟩]) (q (o [⟨s 16, m (t 0), n, []⟩, ⟨s 17, m (t 5), n, []⟩, ⟨s 18, a 2 (t 16) (t 17), n, []⟩, ⟨s 20, m (t 1), n, []⟩, ⟨s 21, m (t 5), n, []⟩, ⟨s 22, a 2 (t 20) (t 21), n, []⟩, ⟨s 19, d 2 (t 18), n, []⟩, ⟨s 23, d 2 (t 22), n, []⟩, ⟨s 24, .eqs true 2 [(0, 2), (1, 1)] (t 19) (t 23), n, []⟩]) (w (t 24) (q (o [⟨s 4, m (c (.bool false)), n, []⟩]) .ret) .skip)))) (o [⟨s 25, .bin .add (t 13) (c (i .i64 1)), n, []⟩, ⟨s 13, m (t 25), n, []⟩]))))))) (q (o [⟨s 4, m (c (.bool true)), n, []⟩]) .ret)))) [(.tmp 4)])
def g58 : AFunc := (.code 32 (q (o [⟨s 6, m (c (.bool false)), n, []⟩]) (q (q (o [⟨s 10, m (t 0), n, []⟩, ⟨s 11, .lenSl (t 10), n, []⟩, ⟨s 12, m (t 1), n, []⟩, ⟨s 13, .lenSl (t 12), n, []⟩, ⟨s 14, .bin .neq (t 11) (t 13), n, []⟩]) (w (t 14) (q (o [⟨s 6, m (c (.bool false)), n, []⟩]) .ret) .skip)) (q (q (o [⟨s 15, m (t 0), n, []⟩, ⟨s 16, .lenSl (t 15), n, []⟩, ⟨s 17, m (c (i .i64 0)), n, []⟩]) (.block 0 (.loop (q (o [⟨s 18, .bin .lss (t 17) (t 16), n, []⟩]) (q (w (t 18) .skip (.exit 0)) (q (.block 1 (q (o [⟨s 19, m (t 17), n, []⟩, ⟨s 20, a 2 (t 15) (t 17), n, []⟩, ⟨s 21, d 2 (t 20), n, []⟩, ⟨s 8, .alloc [(g (bs [])), (.slice n 0 0)], n, []⟩, ⟨s 7, m (t 19), n, []⟩, ⟨n, .store 2 (t 8) (t 21), n, []⟩]) (q (o [⟨s 22, m (t 1), n, []⟩, ⟨s 23, m (t 7), n, []⟩, ⟨s 24, a 2 (t 22) (t 23), n, []⟩, ⟨s 25, d 2 (t 24), n, []⟩, ⟨s 9, .alloc [(g (bs [])), (.slice n 0 0)], n, []⟩, ⟨n, .store 2 (t 9) (t 25), n, []⟩]) (q (o [⟨s 26, m (t 2), n, []⟩, ⟨s 27, d 2 (t 8), n, []⟩, ⟨s 28, d 2 (t 9), n, []⟩, ⟨s 29, k (t 26) [(t 27), (t 28)], n, []⟩, ⟨s 30, .un .not (t 29), n, []⟩]) (w (t 30) (q (o [⟨s 6, m (c (.bool false)), n, []⟩]) .ret) .skip))))) (o [⟨s 31, .bin .add (t 17) (c (i .i64 1)), n, []⟩, ⟨s 17, m (t 31), n, []⟩]))))))) (q (o [⟨s 6, m (c (.bool true)), n, []⟩]) .ret)))) [(.tmp 6)])
def g59 : AFunc := (.code 17 (q (o [⟨s 2, .box (t 0), n, []⟩, ⟨s 3, .box (t 1), n, []⟩, ⟨s 4, m (c (.bool false)), n, []⟩]) (q (o [⟨s 5, f 0 (t 2), n, []⟩, ⟨s 6, l (t 5), n, []⟩, ⟨s 7, f 0 (t 3), n, []⟩, ⟨s 8, l (t 7), n, []⟩, ⟨s 9, .bin .eql (t 6) (t 8), n, []⟩, ⟨s 10, m (t 9), n, []⟩, ⟨s 11, f 1 (t 2), s (10, true), []⟩, ⟨s 12, l (t 11), s (10, true), []⟩, ⟨s 13, f 1 (t 3), s (10, true), []⟩, ⟨s 14, l (t 13), s (10, true), []⟩, ⟨s 15, k (.func 57) [(t 12), (t 14)], s (10, true), []⟩, ⟨s 16, .pick (t 10) (t 15) (c (.bool false)), n, []⟩, ⟨s 4, m (t 16), n, []⟩]) .ret)) [(.tmp 4)])
def g60 : AFunc := (.code 32 (q (o [⟨s 6, m (c (.bool false)), n, []⟩]) (q (q (o [⟨s 10, m (t 0), n, []⟩, ⟨s 11, .lenSl (t 10), n, []⟩, ⟨s 12, m (t 1), n, []⟩, ⟨s 13, .lenSl (t 12), n, []⟩, ⟨s 14, .bin .neq (t 11) (t 13), n, []⟩]) (w (t 14) (q (o [⟨s 6, m (c (.bool false)), n, []⟩]) .ret) .skip)) (q (q (o [⟨s 15, m (t 0), n, []⟩, ⟨s 16, .lenSl (t 15), n, []⟩, ⟨s 17, m (c (i .i64 0)), n, []⟩]) (.block 0 (.loop (q (o [⟨s 18, .bin .lss (t 17) (t 16), n, []⟩]) (q (w (t 18) .skip (.exit 0)) (q (.block 1 (q (o [⟨s 19, m (t 17), n, []⟩, ⟨s 20, a 6 (t 15) (t 17), n, []⟩, ⟨s 21, d 6 (t 20), n, []⟩, ⟨s 8, .alloc [(g (bs [])), (g (bs [])), (g (bs [])), (g (bs [])), (.slice n 0 0), (g (bs []))], n, []⟩, ⟨s 7, m (t 19), n, []⟩, ⟨n, .store 6 (t 8) (t 21), n, []⟩]) (q (o [⟨s 22, m (t 1), n, []⟩, ⟨s 23, m (t 7), n, []⟩, ⟨s 24, a 6 (t 22) (t 23), n, []⟩, ⟨s 25, d 6 (t 24), n, []⟩, ⟨s 9, .alloc [(g (bs [])), (g (bs [])), (g (bs [])), (g (bs [])), (.slice n 0 0), (g (bs []))], n, []⟩, ⟨n, .store 6 (t 9) (t 25), n, []⟩]) (q (o [⟨s 26, m (t 2), n, []⟩, ⟨s 27, d 6 (t 8), n, []⟩, ⟨s 28, d 6 (t 9), n, []⟩, ⟨s 29, k (t 26) [(t 27), (t 28)], n, []⟩, ⟨s 30, .un .not (t 29), n, []⟩]) (w (t 30) (q (o [⟨s 6, m (c (.bool false)), n, []⟩]) .ret) .skip))))) (o [⟨s 31, .bin .add (t 17) (c (i .i64 1)), n, []⟩, ⟨s 17, m (t 31), n, []⟩]))))))) (q (o [⟨s 6, m (c (.bool true)), n, []⟩]) .ret)))) [(.tmp 6)])
def g61 : AFunc := (.code 38 (q (o [⟨s 2, .box (t 0), n, []⟩, ⟨s 3, .box (t 1), n, []⟩, ⟨s 4, m (c (.bool false)), n, []⟩]) (q (o [⟨s 5, f 0 (t 2), n, []⟩, ⟨s 6, l (t 5), n, []⟩, ⟨s 7, f 0 (t 3), n, []⟩, ⟨s 8, l (t 7), n, []⟩, ⟨s 9, .bin .eql (t 6) (t 8), n, []⟩, ⟨s 10, m (t 9), n, []⟩, ⟨s 11, f 1 (t 2), s (10, true), []⟩, ⟨s 12, l (t 11), s (10, true), []⟩, ⟨s 13, f 1 (t 3), s (10, true), []⟩, ⟨s 14, l (t 13), s (10, true), []⟩, ⟨s 15, .bin .eql (t 12) (t 14), s (10, true), []⟩, ⟨s 16, .pick (t 10) (t 15) (c (.bool false)), n, []⟩, ⟨s 17, m (t 16), n, []⟩, ⟨s 18, f 2 (t 2), s (17, true), []⟩, ⟨s 19, d 2 (t 18), s (17, true), []⟩, ⟨s 20, f 2 (t 3), s (17, true), []⟩, ⟨s 21, d 2 (t 20), s (17, true), []⟩, ⟨s 22, .eqs false 2 [(0, 2), (1, 2)] (t 19) (t 21), s (17, true), []⟩, ⟨s 23, .pick (t 17) (t 22) (c (.bool false)), n, []⟩, ⟨s 24, m (t 23), n, []⟩, ⟨s 25, f 5 (t 2), s (24, true), []⟩, ⟨s 26, l (t 25), s (24, true), []⟩, ⟨s 27, f 5 (t 3), s (24, true), []⟩, ⟨s 28, l (t 27), s (24, true), []⟩, ⟨s 29, .bin .eql (t 26) (t 28), s (24, true), []⟩, ⟨s 30, .pick (t 24) (t 29) (c (.bool false)), n, []⟩, ⟨s 31, m (t 30), n, []⟩, ⟨s 32, f 4 (t 2), s (31, true), []⟩, ⟨s 33, l (t 32), s (31, true), []⟩, ⟨s 34, f 4 (t 3), s (31, true), []⟩, ⟨s 35, l (t 34), s (31, true), []⟩, ⟨s 36, k (.func 62) [(t 33), (t 35)], s (31, true), []⟩, ⟨s 37, .pick (t 31) (t 36) (c (.bool false)), n, []⟩, ⟨s 4, m (t 37), n, []⟩]) .ret)) [(.tmp 4)])
def g62 : AFunc := (.code 26 (q (o [⟨s 4, m (c (.bool false)), n, []⟩]) (q (q (o [⟨s 6, m (t 0), n, []⟩, ⟨s 7, .lenSl (t 6), n, []⟩, ⟨s 8, m (t 1), n, []⟩, ⟨s 9, .lenSl (t 8), n, []⟩, ⟨s 10, .bin .neq (t 7) (t 9), n, []⟩]) (w (t 10) (q (o [⟨s 4, m (c (.bool false)), n, []⟩]) .ret) .skip)) (q (q (o [⟨s 11, m (t 0), n, []⟩, ⟨s 12, .lenSl (t 11), n, []⟩, ⟨s 13, m (c (i .i64 0)), n, []⟩]) (.block 0 (.loop (q (o [⟨s 14, .bin .lss (t 13) (t 12), n, []⟩]) (q (w (t 14) .skip (.exit 0)) (q (.block 1 (q (o [⟨s 15, m (t 13), n, []⟩, ⟨s 5, m (t 15), n, []⟩]) (q (o [⟨s 16, m (t 0), n, []⟩, ⟨s 17, m (t 5), n, []⟩, ⟨s 18, a 5 (t 16) (t 17), n, []⟩, ⟨s 20, m (t 1), n, []⟩, ⟨s 21, m (t 5), n, []⟩, ⟨s 22, a 5 (t 20) (t 21), n, []⟩, ⟨s 19, d 5 (t 18), n, []⟩, ⟨s 23, d 5 (t 22), n, []⟩, ⟨s 24, .eqs true 5 [(0, 1), (1, 1), (2, 1), (3, 1), (4, 2)] (t 19) (t 23), n, []⟩]) (w (t 24) (q (o [⟨s 4, m (c (.bool false)), n, []⟩]) .ret) .skip)))) (o [⟨s 25, .bin .add (t 13) (c (i .i64 1)), n, []⟩, ⟨s 13, m (t 25), n, []⟩]))))))) (q (o [⟨s 4, m (c (.bool true)), n, []⟩]) .ret)))) [(.tmp 4)])
def g63 : AFunc := (.code 32 (q (o [⟨s 6, m (c (.bool false)), n, []⟩]) (q (q (o [⟨s 10, m (t 0), n, []⟩, ⟨s 11, .lenSl (t 10), n, []⟩, ⟨s 12, m (t 1), n, []⟩, ⟨s 13, .lenSl (t 12), n, []⟩, ⟨s 14, .bin .neq (t 11) (t 13), n, []⟩]) (w (t 14) (q (o [⟨s 6, m (c (.bool false)), n, []⟩]) .ret) .skip)) (q (q (o [⟨s 15, m (t 0), n, []⟩, ⟨s 16, .lenSl (t 15), n, []⟩, ⟨s 17, m (c (i .i64 0)), n, []⟩]) (.block 0 (.loop (q (o [⟨s 18, .bin .lss (t 17) (t 16), n, []⟩]) (q (w (t 18) .skip (.exit 0)) (q (.block 1 (q (o [⟨s 19, m (t 17), n, []⟩, ⟨s 20, a 3 (t 15) (t 17), n, []⟩, ⟨s 21, d 3 (t 20), n, []⟩, ⟨s 8, .alloc [(g (bs [])), (.slice n 0 0), (.slice n 0 0)], n, []⟩, ⟨s 7, m (t 19), n, []⟩, ⟨n, .store 3 (t 8) (t 21), n, []⟩]) (q (o [⟨s 22, m (t 1), n, []⟩, ⟨s 23, m (t 7), n, []⟩, ⟨s 24, a 3 (t 22) (t 23), n, []⟩, ⟨s 25, d 3 (t 24), n, []⟩, ⟨s 9, .alloc [(g (bs [])), (.slice n 0 0), (.slice n 0 0)], n, []⟩, ⟨n, .store 3 (t 9) (t 25), n, []⟩]) (q (o [⟨s 26, m (t 2), n, []⟩, ⟨s 27, d 3 (t 8), n, []⟩, ⟨s 28, d 3 (t 9), n, []⟩, ⟨s 29, k (t 26) [(t 27), (t 28)], n, []⟩, ⟨s 30, .un .not (t 29), n, []⟩]) (w (t 30) (q (o [⟨s 6, m (c (.bool false)), n, []⟩]) .ret) .skip))))) (o [⟨s 31, .bin .add (t 17) (c (i .i64 1)), n, []⟩, ⟨s 17, m (t 31), n, []⟩]))))))) (q (o [⟨s 6, m (c (.bool true)), n, []⟩]) .ret)))) [(.tmp 6)])
def g64 : AFunc := (.code 24 (q (o [⟨s 2, .box (t 0), n, []⟩, ⟨s 3, .box (t 1), n, []⟩, ⟨s 4, m (c (.bool false)), n, []⟩]) (q (o [⟨s 5, f 0 (t 2), n, []⟩, ⟨s 6, l (t 5), n, []⟩, ⟨s 7, f 0 (t 3), n, []⟩, ⟨s 8, l (t 7), n, []⟩, ⟨s 9, .bin .eql (t 6) (t 8), n, []⟩, ⟨s 10, m (t 9), n, []⟩, ⟨s 11, f 1 (t 2), s (10, true), []⟩, ⟨s 12, l (t 11), s (10, true), []⟩, ⟨s 13, f 1 (t 3), s (10, true), []⟩, ⟨s 14, l (t 13), s (10, true), []⟩, ⟨s 15, k (.func 57) [(t 12), (t 14)], s (10, true), []⟩, ⟨s 16, .pick (t 10) (t 15) (c (.bool false)), n, []⟩, ⟨s 17, m (t 16), n, []⟩, ⟨s 18, f 2 (t 2), s (17, true), []⟩, ⟨s 19, l (t 18), s (17, true), []⟩, ⟨s 20, f 2 (t 3), s (17, true), []⟩, ⟨s 21, l (t 20), s (17, true), []⟩, ⟨s 22, k (.func 65) [(t 19), (t 21)], s (17, true), []⟩, ⟨s 23, .pick (t 17) (t 22) (c (.bool false)), n, []⟩, ⟨s 4, m (t 23), n, []⟩]) .ret)) [(.tmp 4)])
def g65 : AFunc := (.code 26 (q (o [⟨s 4, m (c (.bool false)), n, []⟩]) (q (q (o [⟨s 6, m (t 0), n, []⟩, ⟨s 7, .lenSl (t 6), n, []⟩, ⟨s 8, m (t 1), n, []⟩, ⟨s 9, .lenSl (t 8), n, []⟩, ⟨s 10, .bin .neq (t 7) (t 9), n, []⟩]) (w (t 10) (q (o [⟨s 4, m (c (.bool false)), n, []⟩]) .ret) .skip)) (q (q (o [⟨s 11, m (t 0), n, []⟩, ⟨s 12, .lenSl (t 11), n, []⟩, ⟨s 13, m (c (i .i64 0)), n, []⟩]) (.block 0 (.loop (q (o [⟨s 14, .bin .lss (t 13) (t 12), n, []⟩]) (q (w (t 14) .skip (.exit 0)) (q (.block 1 (q (o [⟨s 15, m (t 13), n, []⟩, ⟨s 5, m (t 15), n, []⟩]) (q (o [⟨s 16, m (t 0), n, []⟩, ⟨s 17, m (t 5), n, []⟩, ⟨s 18, a 12 (t 16) (t 17), n, []⟩, ⟨s 20, m (t 1), n, []⟩, ⟨s 21, m (t 5), n, []⟩, ⟨s 22, a 12 (t 20) (t 21), n, []⟩, ⟨s 19, d 12 (t 18), n, []⟩, ⟨s 23, d 12 (t 22), n, []⟩, ⟨s 24, .eqs true 12 [(0, 1), (1, 2), (2, 2), (3, 1), (4, 2), (5, 2), (6, 1), (7, 1), (8, 2), (9, 2), (10, 1), (11, 1)] (t 19) (t 23), n, []⟩]) (w (t 24) (q (o [⟨s 4, m (c (.bool false)), n, []⟩]) .ret) .skip)))) (o [⟨s 25, .bin .add (t 13) (c (i .i64 1)), n, []⟩, ⟨s 13, m (t 25), n, []⟩]))))))) (q (o [⟨s 4, m (c (.bool true)), n, []⟩]) .ret)))) [(.tmp 4)])
def g66 : AFunc := (.code 32 (q (o [⟨s 6, m (c (.bool false)), n, []⟩]) (q (q (o [⟨s 10, m (t 0), n, []⟩, ⟨s 11, .lenSl (t 10), n, []⟩, ⟨s 12, m (t 1), n, []⟩, ⟨s 13, .lenSl (t 12), n, []⟩, ⟨s 14, .bin .neq (t 11) (t 13), n, []⟩]) (w (t 14) (q (o [⟨s 6, m (c (.bool false)), n, []⟩]) .ret) .skip)) (q (q (o [⟨s 15, m (t 0), n, []⟩, ⟨s 16, .lenSl (t 15), n, []⟩, ⟨s 17, m (c (i .i64 0)), n, []⟩]) (.block 0 (.loop (q (o [⟨s 18, .bin .lss (t 17) (t 16), n, []⟩]) (q (w (t 18) .skip (.exit 0)) (q (.block 1 (q (o [⟨s 19, m (t 17), n, []⟩, ⟨s 20, a 7 (t 15) (t 17), n, []⟩, ⟨s 21, d 7 (t 20), n, []⟩, ⟨s 8, .alloc [(g (bs [])), (.slice n 0 0), (.slice n 0 0), (i .i64 0), (g (bs [])), (.slice n 0 0), (.bool false)], n, []⟩, ⟨s 7, m (t 19), n, []⟩, ⟨n, .store 7 (t 8) (t 21), n, []⟩]) (q (o [⟨s 22, m (t 1), n, []⟩, ⟨s 23, m (t 7), n, []⟩, ⟨s 24, a 7 (t 22) (t 23), n, []⟩, ⟨s 25, d 7 (t 24), n, []⟩, ⟨s 9, .alloc [(g (bs [])), (.slice n 0 0), (.slice n 0 0), (i .i64 0), (g (bs [])), (.slice n 0 0), (.bool false)], n, []⟩, ⟨n, .store 7 (t 9) (t 25), n, []⟩]) (q (o [⟨s 26, m (t 2), n, []⟩, ⟨s 27, d 7 (t 8), n, []⟩, ⟨s 28, d 7 (t 9), n, []⟩, ⟨s 29, k (t 26) [(t 27), (t 28)], n, []⟩, ⟨s 30, .un .not (t 29), n, []⟩]) (w (t 30) (q (o [⟨s 6, m (c (.bool false)), n, []⟩]) .ret) .skip))))) (o [⟨s 31, .bin .add (t 17) (c (i .i64 1)), n, []⟩, ⟨s 17, m (t 31), n, []⟩]))))))) (q (o [⟨s 6, m (c (.bool true)), n, []⟩]) .ret)))) [(.tmp 6)])
def g67 : AFunc := (.code 56 (q (o [⟨s 2, .box (t 0), n, []⟩, ⟨s 3, .box (t 1), n, []⟩, ⟨s 4, m (c (.bool false)), n, []⟩]) (q (o [⟨s 5, f 0 (t 2), n, []⟩, ⟨s 6, l (t 5), n, []⟩, ⟨s 7, f 0 (t 3), n, []⟩, ⟨s 8, l (t 7), n, []⟩, ⟨s 9, .bin .eql (t 6) (t 8), n, []⟩, ⟨s 10, m (t 9), n, []⟩, ⟨s 11, f 3 (t 2), s (10, true), []⟩, ⟨s 12, l (t 11), s (10, true), []⟩, ⟨s 13, f 3 (t 3), s (10, true), []⟩, ⟨s 14, l (t 13), s (10, true), []⟩, ⟨s 15, .bin .eql (t 12) (t 14), s (10, true), []⟩, ⟨s 16, .pick (t 10) (t 15) (c (.bool false)), n, []⟩, ⟨s 17, m (t 16), n, []⟩, ⟨s 18, f 6 (t 2), s (17, true), []⟩, ⟨s 19, l (t 18), s (17, true), []⟩, ⟨s 20, f 6 (t 3), s (17, true), []⟩, ⟨s 21, l (t 20), s (17, true), []⟩, ⟨s 22, .eqb false (t 19) (t 21), s (17, true), []⟩, ⟨s 23, .pick (t 17) (t 22) (c (.bool false)), n, []⟩, ⟨s 24, m (t 23), n, []⟩, ⟨s 25, f 4 (t 2), s (24, true), []⟩, ⟨s 26, f 0 (t 25), s (24, true), []⟩, ⟨s 27, l (t 26), s (24, true), []⟩, ⟨s 28, f 4 (t 3), s (24, true), []⟩, ⟨s 29, f 0 (t 28), s (24, true), []⟩, ⟨s 30, l (t 29), s (24, true), []⟩, ⟨s 31, .bin .eql (t 27) (t 30), s (24, true), []⟩, ⟨s 32, .pick (t 24) (t 31) (c (.bool false)), n, []⟩, ⟨s 33, m (t 32), n, []⟩, ⟨s 34, f 1 (t 2), s (33, true), []⟩, ⟨s 35, l (t 34), s (33, true), []⟩, ⟨s 36, f 1 (t 3), s (33, true), []⟩, ⟨s 37, l (t 36), s (33, true), []⟩, ⟨s 38, k (.func 95) [(t 35), (t 37)], s (33, true), []⟩, ⟨s 39, .pick (t 33) (t 38) (c (.bool false)), n, []⟩, ⟨s 40, m (t 39), n, []⟩, ⟨s 41, f 2 (t 2), s (40, true), []⟩, ⟨s 42, l (t 41), s (40, true), []⟩, ⟨s 43, f 2 (t 3), s (40, true), []⟩, ⟨s 44, l (t 43), s (40, true), []⟩, ⟨s 45, k (.func 96) [(t 42), (t 44)], s (40, true), []⟩, ⟨s 46, .pick (t 40) (t 45) (c (.bool false)), n, []⟩, ⟨s 47, m (t 46), n, []⟩, ⟨s 48, f 4 (t 2), s (47, true), []⟩, ⟨s 49, f 1 (t 48), s (47, true), []⟩, ⟨s 50, l (t 49), s (47, true), []⟩, ⟨s 51, f 4 (t 3), s (47, true), []⟩, ⟨s 52, f 1 (t 51), s (47, true), []⟩, ⟨s 53, l (t 52), s (47, true), []⟩, ⟨s 54, k (.func 97) [(t 50), (t 53)], s (47, true), []⟩, ⟨s 55, .pick (t 47) (t 54) (c (.bool false)), n, []⟩, ⟨s 4, m (t 55), n, []⟩]) .ret)) [(.tmp 4)])
def g68 : AFunc := (.code 8 (q (o [⟨s 4, m (c (.bool false)), n, []⟩]) (q (o [⟨s 5, m (t 0), n, []⟩, ⟨s 6, m (t 1), n, []⟩, ⟨s 7, k (.func 98) [(t 5), (t 6), (.func 99)], n, []⟩, ⟨s 4, m (t 7), n, []⟩]) .ret)) [(.tmp 4)])
def g69 : AFunc := (.code 8 (q (o [⟨s 2, m (c (.slice n 0 0)), n, []⟩]) (q (q (o [⟨s 3, m (t 0), n, []⟩, ⟨s 4, .eqp 1 false (t 3) (c (.slice n 0 0)), n, []⟩]) (w (t 4) (q (o [⟨s 2, m (c (.slice n 0 0)), n, []⟩]) .ret) .skip)) (q (o [⟨s 5, .buildSlice 2 0 [] [], n, []⟩, ⟨s 6, m (t 0), n, []⟩, ⟨s 7, .append 2 40 (t 5) (t 6), n, []⟩, ⟨s 2, m (t 7), n, []⟩]) .ret))) [(.tmp 2)])
def g70 : AFunc := (.code 8 (q (o [⟨s 2, m (c (.slice n 0 0)), n, []⟩]) (q (q (o [⟨s 3, m (t 0), n, []⟩, ⟨s 4, .eqp 1 false (t 3) (c (.slice n 0 0)), n, []⟩]) (w (t 4) (q (o [⟨s 2, m (c (.slice n 0 0)), n, []⟩]) .ret) .skip)) (q (o [⟨s 5, .buildSlice 6 0 [] [], n, []⟩, ⟨s 6, m (t 0), n, []⟩, ⟨s 7, .append 6 104 (t 5) (t 6), n, []⟩, ⟨s 2, m (t 7), n, []⟩]) .ret))) [(.tmp 2)])
def g71 : AFunc := (.code 8 (q (o [⟨s 2, m (c (.slice n 0 0)), n, []⟩]) (q (q (o [⟨s 3, m (t 0), n, []⟩, ⟨s 4, .eqp 1 false (t 3) (c (.slice n 0 0)), n, []⟩]) (w (t 4) (q (o [⟨s 2, m (c (.slice n 0 0)), n, []⟩]) .ret) .skip)) (q (o [⟨s 5, .buildSlice 5 0 [] [], n, []⟩, ⟨s 6, m (t 0), n, []⟩, ⟨s 7, .append 5 48 (t 5) (t 6), n, []⟩, ⟨s 2, m (t 7), n, []⟩]) .ret))) [(.tmp 2)])
def g72 : AFunc := (.code 8 (q (o [⟨s 2, m (c (.slice n 0 0)), n, []⟩]) (q (q (o [⟨s 3, m (t 0), n, []⟩, ⟨s 4, .eqp 1 false (t 3) (c (.slice n 0 0)), n, []⟩]) (w (t 4) (q (o [⟨s 2, m (c (.slice n 0 0)), n, []⟩]) .ret) .skip)) (q (o [⟨s 5, .buildSlice 3 0 [] [], n, []⟩, ⟨s 6, m (t 0), n, []⟩, ⟨s 7, .append 3 64 (t 5) (t 6), n, []⟩, ⟨s 2, m (t 7), n, []⟩]) .ret))) [(.tmp 2)])
def g73 : AFunc := (.code 12 (q (o [⟨s 1, .box (t 0), n, []⟩, ⟨s 2, .alloc [(g (bs [])), (.slice n 0 0), (.slice n 0 0)], n, []⟩]) (q (o [⟨s 3, f 1 (t 1), n, []⟩, ⟨s 4, l (t 3), n, []⟩, ⟨s 5, k (.func 43) [(t 4)], n, []⟩, ⟨s 6, f 1 (t 1), n, []⟩, ⟨n, .store 1 (t 6) (t 5), n, []⟩]) (q (o [⟨s 7, f 2 (t 1), n, []⟩, ⟨s 8, l (t 7), n, []⟩, ⟨s 9, k (.func 100) [(t 8)], n, []⟩, ⟨s 10, f 2 (t 1), n, []⟩, ⟨n, .store 1 (t 10) (t 9), n, []⟩]) (q (o [⟨s 11, d 3 (t 1), n, []⟩, ⟨n, .store 3 (t 2) (t 11), n, []⟩]) .ret)))) [(.cellN 2 3)])
def g74 : AFunc := (.code 8 (q (o [⟨s 2, m (c (.slice n 0 0)), n, []⟩]) (q (q (o [⟨s 3, m (t 0), n, []⟩, ⟨s 4, .eqp 1 false (t 3) (c (.slice n 0 0)), n, []⟩]) (w (t 4) (q (o [⟨s 2, m (c (.slice n 0 0)), n, []⟩]) .ret) .skip)) (q (o [⟨s 5, .buildSlice 7 0 [] [], n, []⟩, ⟨s 6, m (t 0), n, []⟩, ⟨s 7, .append 7 120 (t 5) (t 6), n, []⟩, ⟨s 2, m (t 7), n, []⟩]) .ret))) [(.tmp 2)])
def g75 : AFunc := (.code 33 (q (o [⟨s 2, m (c (.slice n 0 0)), n, []⟩]) (q (o [⟨s 4, m (t 0), n, []⟩, ⟨s 5, k (.func 101) [(t 4)], n, []⟩, ⟨s 0, m (t 5), n, []⟩]) (q (q (o [⟨s 6, m (t 0), n, []⟩, ⟨s 7, .lenSl (t 6), n, []⟩, ⟨s 8, m (c (i .i64 0)), n, []⟩]) (.block 0 (.loop (q (o [⟨s 9, .bin .lss (t 8) (t 7), n, []⟩]) (q (w (t 9) .skip (.exit 0)) (q (.block 1 (q (o [⟨s 10, m (t 8), n, []⟩, ⟨s 3, m (t 10), n, []⟩]) (q (o [⟨s 11, m (t 0), n, []⟩, ⟨s 12, m (t 3), n, []⟩, ⟨s 13, m (t 0), n, []⟩, ⟨s 14, m (t 3), n, []⟩, ⟨s 15, a 13 (t 13) (t 14), n, []⟩, ⟨s 16, f 11 (t 15), n, []⟩, ⟨s 17, l (t 16), n, []⟩, ⟨s 18, k (.func 75) [(t 17)], n, []⟩, ⟨s 19, a 13 (t 11) (t 12), n, []⟩, ⟨s 20, f 11 (t 19), n, []⟩, ⟨n, .store 1 (t 20) (t 18), n, []⟩]) (o [⟨s 21, m (t 0), n, []⟩, ⟨s 22, m (t 3), n, []⟩, ⟨s 23, m (t 0), n, []⟩, ⟨s 24, m (t 3), n, []⟩, ⟨s 25, a 13 (t 23) (t 24), n, []⟩, ⟨s 26, f 12 (t 25), n, []⟩, ⟨s 27, l (t 26), n, []⟩, ⟨s 28, k (.func 75) [(t 27)], n, []⟩, ⟨s 29, a 13 (t 21) (t 22), n, []⟩, ⟨s 30, f 12 (t 29), n, []⟩, ⟨n, .store 1 (t 30) (t 28), n, []⟩])))) (o [⟨s 31, .bin .add (t 8) (c (i .i64 1)), n, []⟩, ⟨s 8, m (t 31), n, []⟩]))))))) (q (o [⟨s 32, m (t 0), n, []⟩, ⟨s 2, m (t 32), n, []⟩]) .ret)))) [(.tmp 2)])
def g76 : AFunc := (.code 16 (q (o [⟨s 4, .box (t 0), n, []⟩, ⟨s 6, m (c (.bool false)), n, []⟩]) (q (o [⟨s 7, l (t 2), n, []⟩, ⟨s 8, .bin .add (t 7) (c (i .i64 1)), n, []⟩, ⟨n, .store 1 (t 2) (t 8), n, []⟩]) (q (o [⟨s 9, l (t 3), n, []⟩, ⟨s 10, m (t 9), n, []⟩, ⟨s 11, m (t 1), s (10, false), []⟩, ⟨s 12, .bin .gtr (t 11) (c (i .i64 8)), s (10, false), []⟩, ⟨s 13, .pick (t 10) (c (.bool true)) (t 12), n, []⟩, ⟨n, .store 1 (t 3) (t 13), n, []⟩]) (q (o [⟨s 14, l (t 2), n, []⟩, ⟨s 15, .bin .leq (t 14) (c (i .i64 128)), n, []⟩, ⟨s 6, m (t 15), n, []⟩]) .ret)))) [(.tmp 6)])
def g77 : AFunc := (.code 19 (q (o [⟨s 4, m (c (i .i64 0)), n, []⟩]) (q (q (o [⟨s 6, m (t 0), n, []⟩, ⟨s 7, .lenSl (t 6), n, []⟩, ⟨s 8, m (c (i .i64 0)), n, []⟩]) (.block 0 (.loop (q (o [⟨s 9, .bin .lss (t 8) (t 7), n, []⟩]) (q (w (t 9) .skip (.exit 0)) (q (.block 1 (q (o [⟨s 10, m (t 8), n, []⟩, ⟨s 5, m (t 10), n, []⟩]) (q (o [⟨s 11, m (t 1), n, []⟩, ⟨s 12, m (t 0), n, []⟩, ⟨s 13, m (t 5), n, []⟩, ⟨s 14, a 1 (t 12) (t 13), n, []⟩, ⟨s 15, l (t 14), n, []⟩, ⟨s 16, .bin .eql (t 11) (t 15), n, []⟩]) (w (t 16) (q (o [⟨s 17, m (t 5), n, []⟩, ⟨s 4, m (t 17), n, []⟩]) .ret) .skip)))) (o [⟨s 18, .bin .add (t 8) (c (i .i64 1)), n, []⟩, ⟨s 8, m (t 18), n, []⟩]))))))) (q (o [⟨s 4, m (c (i .i64 (-1))), n, []⟩]) .ret))) [(.tmp 4)])
def g78 : AFunc := (.code 47 (q (o [⟨s 6, m (c (.slice n 0 0)), n, []⟩]) (q (q (o [⟨s 7, m (c (i .i64 0)), n, []⟩]) (.block 0 (.loop (q (q (o [⟨s 8, m (t 7), n, []⟩, ⟨s 9, m (t 1), n, []⟩, ⟨s 10, .lenSl (t 9), n, []⟩, ⟨s 11, .bin .lss (t 8) (t 10), n, []⟩, ⟨s 12, m (t 11), n, []⟩, ⟨s 13, m (t 0), s (12, true), []⟩, ⟨s 14, .lenSl (t 13), s (12, true), []⟩, ⟨s 15, .bin .leq (t 14) (c (i .i64 128)), s (12, true), []⟩, ⟨s 16, .pick (t 12) (t 15) (c (.bool false)), n, []⟩]) (w (t 16) .skip (.exit 0))) (q (.block 1 (q (o [⟨s 19, m (t 0), n, []⟩, ⟨s 20, m (t 1), n, []⟩, ⟨s 21, m (t 7), n, []⟩, ⟨s 22, a 13 (t 20) (t 21), n, []⟩, ⟨s 23, d 13 (t 22), n, []⟩, ⟨s 24, m (t 2), n, []⟩, ⟨s 25, .build [(i .i64 0), (g (bs [])), (i .i64 0), (g (bs [])), (g (bs [])), (i .u64 0), (i .u64 0), (g (bs [])), (g (bs [])), (i .u64 0), (i .u64 0), (.slice n 0 0), (.slice n 0 0), (i .i64 0)] [(0, (13, (t 23))), (13, (1, (t 24)))], n, []⟩, ⟨s 26, .buildSlice 14 1 [(i .i64 0), (g (bs [])), (i .i64 0), (g (bs [])), (g (bs [])), (i .u64 0), (i .u64 0), (g (bs [])), (g (bs [])), (i .u64 0), (i .u64 0), (.slice n 0 0), (.slice n 0 0), (i .i64 0)] [(0, (14, (t 25)))], n, []⟩, ⟨s 27, .append 14 184 (t 19) (t 26), n, []⟩, ⟨s 0, m (t 27), n, []⟩]) (q (o [⟨s 28, m (t 0), n, []⟩, ⟨s 29, m (t 1), n, []⟩, ⟨s 30, m (t 7), n, []⟩, ⟨s 31, a 13 (t 29) (t 30), n, []⟩, ⟨s 32, f 11 (t 31), n, []⟩, ⟨s 33, l (t 32), n, []⟩, ⟨s 34, m (t 2), n, []⟩, ⟨s 35, .bin .add (t 34) (c (i .i64 1)), n, []⟩, ⟨s 36, k (.func 78) [(t 28), (t 33), (t 35)], n, []⟩, ⟨s 0, m (t 36), n, []⟩]) (o [⟨s 37, m (t 0), n, []⟩, ⟨s 38, m (t 1), n, []⟩, ⟨s 39, m (t 7), n, []⟩, ⟨s 40, a 13 (t 38) (t 39), n, []⟩, ⟨s 41, f 12 (t 40), n, []⟩, ⟨s 42, l (t 41), n, []⟩, ⟨s 43, m (t 2), n, []⟩, ⟨s 44, .bin .add (t 43) (c (i .i64 1)), n, []⟩, ⟨s 45, k (.func 78) [(t 37), (t 42), (t 44)], n, []⟩, ⟨s 0, m (t 45), n, []⟩])))) (o [⟨s 17, m (t 7), n, []⟩, ⟨s 18, .bin .add (t 17) (c (i .i64 1)), n, []⟩, ⟨s 7, m (t 18), n, []⟩])))))) (q (o [⟨s 46, m (t 0), n, []⟩, ⟨s 6, m (t 46), n, []⟩]) .ret))) [(.tmp 6)])
def g79 : AFunc := (.code 8 (q (o [⟨s 4, m (c (i .i64 0)), n, []⟩]) (q (o [⟨s 5, m (t 0), n, []⟩, ⟨s 6, m (t 1), n, []⟩, ⟨s 7, k (.func 102) [(t 5), (t 6)], n, []⟩, ⟨s 4, m (t 7), n, []⟩]) .ret)) [(.tmp 4)])
def g80 : AFunc := (.code 8 (q (o [⟨s 2, .box (t 0), n, []⟩, ⟨s 3, m (c (.bool false)), n, []⟩]) (q (o [⟨s 4, f 0 (t 2), n, []⟩, ⟨s 5, l (t 4), n, []⟩, ⟨s 6, l (t 1), n, []⟩, ⟨s 7, .bin .eql (t 5) (t 6), n, []⟩, ⟨s 3, m (t 7), n, []⟩]) .ret)) [(.tmp 3)])
def g81 : AFunc := (.code 8 (q (o [⟨s 2, m (c (.slice n 0 0)), n, []⟩]) (q (q (o [⟨s 3, m (t 0), n, []⟩, ⟨s 4, .eqp 1 false (t 3) (c (.slice n 0 0)), n, []⟩]) (w (t 4) (q (o [⟨s 2, m (c (.slice n 0 0)), n, []⟩]) .ret) .skip)) (q (o [⟨s 5, .buildSlice 3 0 [] [], n, []⟩, ⟨s 6, m (t 0), n, []⟩, ⟨s 7, .append 3 40 (t 5) (t 6), n, []⟩, ⟨s 2, m (t 7), n, []⟩]) .ret))) [(.tmp 2)])
def g82 : AFunc := (.code 8 (q (o [⟨s 2, m (c (.slice n 0 0)), n, []⟩]) (q (q (o [⟨s 3, m (t 0), n, []⟩, ⟨s 4, .eqp 1 false (t 3) (c (.slice n 0 0)), n, []⟩]) (w (t 4) (q (o [⟨s 2, m (c (.slice n 0 0)), n, []⟩]) .ret) .skip)) (q (o [⟨s 5, .buildSlice 1 0 [] [], n, []⟩, ⟨s 6, m (t 0), n, []⟩, ⟨s 7, .append 1 16 (t 5) (t 6), n, []⟩, ⟨s 2, m (t 7), n, []⟩]) .ret))) [(.tmp 2)])
def g83 : AFunc := (.code 8 (q (o [⟨s 2, m (c (.slice n 0 0)), n, []⟩]) (q (q (o [⟨s 3, m (t 0), n, []⟩, ⟨s 4, .eqp 1 false (t 3) (c (.slice n 0 0)), n, []⟩]) (w (t 4) (q (o [⟨s 2, m (c (.slice n 0 0)), n, []⟩]) .ret) .skip)) (q (o [⟨s 5, .buildSlice 2 0 [] [], n, []⟩, ⟨s 6, m (t 0), n, []⟩, ⟨s 7, .append 2 16 (t 5) (t 6), n, []⟩, ⟨s 2, m (t 7), n, []⟩]) .ret))) [(.tmp 2)])
def g84 : AFunc := (.code 8 (q (o [⟨s 4, m (c (i .i64 0)), n, []⟩]) (q (o [⟨s 5, m (t 0), n, []⟩, ⟨s 6, m (t 1), n, []⟩, ⟨s 7, k (.func 103) [(t 5), (t 6)], n, []⟩, ⟨s 4, m (t 7), n, []⟩]) .ret)) [(.tmp 4)])
def g85 : AFunc := (.code 8 (q (o [⟨s 2, .box (t 0), n, []⟩, ⟨s 3, m (c (.bool false)), n, []⟩]) (q (o [⟨s 4, f 0 (t 2), n, []⟩, ⟨s 5, l (t 4), n, []⟩, ⟨s 6, l (t 1), n, []⟩, ⟨s 7, .bin .eql (t 5) (t 6), n, []⟩, ⟨s 3, m (t 7), n, []⟩]) .ret)) [(.tmp 3)])
def g86 : AFunc := (.code 18 (q (o [⟨s 6, m (t 0), n, []⟩, ⟨s 7, m (t 1), n, []⟩, ⟨s 8, k (.func 9) [(t 7)], n, []⟩, ⟨s 9, k (.func 46) [(t 6), (t 8), (c (i .i64 70))], n, []⟩]) (q (o [⟨s 10, m (t 0), n, []⟩, ⟨s 11, m (t 2), n, []⟩, ⟨s 12, m (t 1), n, []⟩, ⟨s 13, .lookup (.prim 2) (i .i64 0) false (t 11) (t 12), n, []⟩, ⟨s 14, .bin .eql (t 13) (c (i .i64 0)), n, []⟩, ⟨s 15, k (.func 46) [(t 10), (t 14), (c (i .i64 71))], n, []⟩]) (o [⟨s 16, m (t 2), n, []⟩, ⟨s 17, m (t 1), n, []⟩, ⟨n, .mapUpd (.prim 2) (t 16) (t 17) (c (i .i64 1)), n, []⟩]))) [])
def g87 : AFunc := (.code 37 (q (o [⟨s 2, .box (t 0), n, []⟩, ⟨s 4, m (c (.bool false)), n, []⟩]) (q (q (o [⟨s 5, m (t 1), n, []⟩, ⟨s 6, .bin .lss (t 5) (c (i .i64 1)), n, []⟩, ⟨s 7, m (t 6), n, []⟩, ⟨s 8, m (t 1), s (7, false), []⟩, ⟨s 9, .bin .gtr (t 8) (c (i .i64 128)), s (7, false), []⟩, ⟨s 10, .pick (t 7) (c (.bool true)) (t 9), n, []⟩]) (w (t 10) (q (o [⟨s 4, m (c (.bool false)), n, []⟩]) .ret) .skip)) (q (q (o [⟨s 11, m (t 1), n, []⟩, ⟨s 12, .bin .gtr (t 11) (c (i .i64 64)), n, []⟩]) (w (t 12) (q (o [⟨s 13, m (t 1), n, []⟩, ⟨s 14, .bin .eql (t 13) (c (i .i64 128)), n, []⟩, ⟨s 15, m (t 14), n, []⟩, ⟨s 16, f 0 (t 2), s (15, false), []⟩, ⟨s 18, m (t 1), s (15, false), []⟩, ⟨s 19, .bin .sub (t 18) (c (i .i64 64)), s (15, false), []⟩, ⟨s 20, .bin .shl (c (i .u64 1)) (t 19), s (15, false), []⟩, ⟨s 17, l (t 16), s (15, false), []⟩, ⟨s 21, .bin .lss (t 17) (t 20), s (15, false), []⟩, ⟨s 22, .pick (t 15) (c (.bool true)) (t 21), n, []⟩, ⟨s 4, m (t 22), n, []⟩]) .ret) .skip)) (q (o [⟨s 23, f 0 (t 2), n, []⟩, ⟨s 24, l (t 23), n, []⟩, ⟨s 25, .bin .eql (t 24) (c (i .u64 0)), n, []⟩, ⟨s 26, m (t 25), n, []⟩, ⟨s 27, m (t 1), s (26, true), []⟩, ⟨s 28, .bin .eql (t 27) (c (i .i64 64)), s (26, true), []⟩, ⟨s 29, m (t 28), s (26, true), []⟩, ⟨s 30, f 1 (t 2), s (29, false), []⟩, ⟨s 32, m (t 1), s (29, false), []⟩, ⟨s 33, .bin .shl (c (i .u64 1)) (t 32), s (29, false), []⟩, ⟨s 31, l (t 30), s (29, false), []⟩, ⟨s 34, .bin .lss (t 31) (t 33), s (29, false), []⟩, ⟨s 35, .pick (t 29) (c (.bool true)) (t 34), s (26, true), []⟩, ⟨s 36, .pick (t 26) (t 35) (c (.bool false)), n, []⟩, ⟨s 4, m (t 36), n, []⟩]) .ret)))) [(.tmp 4)])
def g88 : AFunc := (.code 130 (q (o [⟨s 16, .mkMap, n, []⟩, ⟨s 2, m (t 16), n, []⟩]) (q (q (o [⟨s 17, m (t 0), n, []⟩, ⟨s 18, .nilChk (t 17), n, []⟩, ⟨s 19, f 0 (t 18), n, []⟩, ⟨s 20, f 2 (t 19), n, []⟩, ⟨s 21, l (t 20), n, []⟩, ⟨s 22, .lenSl (t 21), n, []⟩, ⟨s 23, m (c (i .i64 0)), n, []⟩]) (.block 0 (.loop (q (o [⟨s 24, .bin .lss (t 23) (t 22), n, []⟩]) (q (w (t 24) .skip (.exit 0)) (q (.block 1 (q (o [⟨s 25, m (t 23), n, []⟩, ⟨s 26, a 6 (t 21) (t 23), n, []⟩, ⟨s 27, d 6 (t 26), n, []⟩, ⟨s 4, .alloc [(g (bs [])), (g (bs [])), (g (bs [])), (g (bs [])), (.slice n 0 0), (g (bs []))], n, []⟩, ⟨s 3, m (t 25), n, []⟩, ⟨n, .store 6 (t 4) (t 27), n, []⟩]) (o [⟨s 28, m (t 2), n, []⟩, ⟨s 29, f 0 (t 4), n, []⟩, ⟨s 30, l (t 29), n, []⟩, ⟨s 31, m (t 3), n, []⟩, ⟨s 32, .bin .add (t 31) (c (i .i64 1)), n, []⟩, ⟨n, .mapUpd (.prim 2) (t 28) (t 30) (t 32), n, []⟩]))) (o [⟨s 33, .bin .add (t 23) (c (i .i64 1)), n, []⟩, ⟨s 23, m (t 33), n, []⟩]))))))) (q (o [⟨s 34, m (t 0), n, []⟩, ⟨s 35, .nilChk (t 34), n, []⟩, ⟨s 36, f 0 (t 35), n, []⟩, ⟨s 37, f 2 (t 36), n, []⟩, ⟨s 38, l (t 37), n, []⟩, ⟨s 39, .lenSl (t 38), n, []⟩, ⟨s 40, m (c (i .i64 0)), n, []⟩]) (.block 2 (.loop (q (o [⟨s 41, .bin .lss (t 40) (t 39), n, []⟩]) (q (w (t 41) .skip (.exit 2)) (q (.block 3 (q (o [⟨s 42, m (t 40), n, []⟩, ⟨s 43, a 6 (t 38) (t 40), n, []⟩, ⟨s 44, d 6 (t 43), n, []⟩, ⟨s 6, .alloc [(g (bs [])), (g (bs [])), (g (bs [])), (g (bs [])), (.slice n 0 0), (g (bs []))], n, []⟩, ⟨s 5, m (t 42), n, []⟩, ⟨n, .store 6 (t 6) (t 44), n, []⟩]) (q (o [⟨s 45, m (t 0), n, []⟩, ⟨s 46, f 0 (t 6), n, []⟩, ⟨s 47, l (t 46), n, []⟩, ⟨s 48, .bin .add (c (g (bs [115, 116, 97, 116, 101, 32]))) (t 47), n, []⟩, ⟨s 49, .nilChk (t 45), n, []⟩, ⟨s 50, f 6 (t 49), n, []⟩, ⟨n, .store 1 (t 50) (t 48), n, []⟩]) (q (o [⟨s 51, m (t 0), n, []⟩, ⟨s 52, .nilChk (t 51), n, []⟩, ⟨s 53, f 0 (t 52), n, []⟩, ⟨s 54, f 2 (t 53), n, []⟩, ⟨s 55, l (t 54), n, []⟩, ⟨s 56, .lenSl (t 55), n, []⟩, ⟨s 57, .mkSlice 1 1 [(.bool false)] (t 56) (t 56), n, []⟩, ⟨s 7, m (t 57), n, []⟩]) (q (o [⟨s 58, m (t 5), n, []⟩, ⟨s 59, .buildSlice 1 1 [(i .i64 0)] [(0, (1, (t 58)))], n, []⟩, ⟨s 8, m (t 59), n, []⟩]) (.block 4 (.loop (q (q (o [⟨s 60, m (t 8), n, []⟩, ⟨s 61, .lenSl (t 60), n, []⟩, ⟨s 62, .bin .gtr (t 61) (c (i .i64 0)), n, []⟩]) (w (t 62) .skip (.exit 4))) (.block 5 (q (o [⟨s 63, m (t 0), n, []⟩, ⟨s 64, .nilChk (t 63), n, []⟩, ⟨s 65, f 0 (t 64), n, []⟩, ⟨s 66, f 2 (t 65), n, []⟩, ⟨s 68, m (t 8), n, []⟩, ⟨s 69, m (t 8), n, []⟩, ⟨s 70, .lenSl (t 69), n, []⟩, ⟨s 71, .bin .sub (t 70) (c (i .i64 1)), n, []⟩, ⟨s 72, a 1 (t 68) (t 71), n, []⟩, ⟨s 67, l (t 66), n, []⟩, ⟨s 73, l (t 72), n, []⟩, ⟨s 74, a 6 (t 67) (t 73), n, []⟩, ⟨s 75, d 6 (t 74), n, []⟩, ⟨s 9, .alloc [(g (bs [])), (g (bs [])), (g (bs [])), (g (bs [])), (.slice n 0 0), (g (bs []))], n, []⟩, ⟨n, .store 6 (t 9) (t 75), n, []⟩]) (q (o [⟨s 76, m (t 8), n, []⟩, ⟨s 77, m (t 8), n, []⟩, ⟨s 78, .lenSl (t 77), n, []⟩, ⟨s 79, .bin .sub (t 78) (c (i .i64 1)), n, []⟩, ⟨s 80, .slSl 1 (t 76) n (s (t 79)), n, []⟩, ⟨s 8, m (t 80), n, []⟩]) (q (o [⟨s 81, f 5 (t 9), n, []⟩, ⟨s 82, l (t 81), n, []⟩, ⟨s 83, .buildSlice 1 1 [(g (bs []))] [(0, (1, (t 82)))], n, []⟩, ⟨s 10, m (t 83), n, []⟩]) (q (q (o [⟨s 84, f 4 (t 9), n, []⟩, ⟨s 85, l (t 84), n, []⟩, ⟨s 86, .lenSl (t 85), n, []⟩, ⟨s 87, m (c (i .i64 0)), n, []⟩]) (.block 6 (.loop (q (o [⟨s 88, .bin .lss (t 87) (t 86), n, []⟩]) (q (w (t 88) .skip (.exit 6)) (q (.block 7 (q (o [⟨s 89, a 5 (t 85) (t 87), n, []⟩, ⟨s 90, d 5 (t 89), n, []⟩, ⟨s 12, .alloc [(i .u64 0), (i .u64 0), (i .u64 0), (i .u64 0), (g (bs []))], n, []⟩, ⟨n, .store 5 (t 12) (t 90), n, []⟩]) (o [⟨s 91, m (t 10), n, []⟩, ⟨s 92, f 4 (t 12), n, []⟩, ⟨s 93, l (t 92), n, []⟩, ⟨s 94, .buildSlice 1 1 [(g (bs []))] [(0, (1, (t 93)))], n, []⟩, ⟨s 95, .append 1 16 (t 91) (t 94), n, []⟩, ⟨s 10, m (t 95), n, []⟩]))) (o [⟨s 96, .bin .add (t 87) (c (i .i64 1)), n, []⟩, ⟨s 87, m (t 96), n, []⟩]))))))) (q (o [⟨s 97, m (t 10), n, []⟩, ⟨s 98, .lenSl (t 97), n, []⟩, ⟨s 99, m (c (i .i64 0)), n, []⟩]) (.block 8 (.loop (q (o [⟨s 100, .bin .lss (t 99) (t 98), n, []⟩]) (q (w (t 100) .skip (.exit 8)) (q (.block 9 (q (o [⟨s 101, a 1 (t 97) (t 99), n, []⟩, ⟨s 102, l (t 101), n, []⟩, ⟨s 14, m (t 102), n, []⟩]) (q (o [⟨s 103, m (t 2), n, []⟩, ⟨s 104, m (t 14), n, []⟩, ⟨s 105, .lookup (.prim 2) (i .i64 0) false (t 103) (t 104), n, []⟩, ⟨s 106, .bin .sub (t 105) (c (i .i64 1)), n, []⟩, ⟨s 15, m (t 106), n, []⟩]) (q (o [⟨s 107, m (t 0), n, []⟩, ⟨s 108, m (t 15), n, []⟩, ⟨s 109, m (t 5), n, []⟩, ⟨s 110, .bin .neq (t 108) (t 109), n, []⟩, ⟨s 111, k (.func 46) [(t 107), (t 110), (c (i .i64 78))], n, []⟩]) (q (o [⟨s 112, m (t 15), n, []⟩, ⟨s 113, .bin .geq (t 112) (c (i .i64 0)), n, []⟩, ⟨s 114, m (t 113), n, []⟩, ⟨s 115, m (t 7), s (114, true), []⟩, ⟨s 116, m (t 15), s (114, true), []⟩, ⟨s 117, a 1 (t 115) (t 116), s (114, true), []⟩, ⟨s 118, l (t 117), s (114, true), []⟩, ⟨s 119, .un .not (t 118), s (114, true), []⟩, ⟨s 120, .pick (t 114) (t 119) (c (.bool false)), n, []⟩]) (w (t 120) (q (o [⟨s 121, m (t 7), n, []⟩, ⟨s 122, m (t 15), n, []⟩, ⟨s 123, a 1 (t 121) (t 122), n, []⟩, ⟨n, .store 1 (t 123) (c (.bool true)), n, []⟩]) (o [⟨s 124, m (t 8), n, []⟩, ⟨s 125, m (t 15), n, []⟩, ⟨s 126, .buildSlice 1 1 [(i .i64 0)] [(0, (1, (t 125)))], n, []⟩, ⟨s 127, .append 1 8 (t 124) (t 126), n, []⟩, ⟨s 8, m (t 127), n, []⟩])) .skip)))))) (o [⟨s 128, .bin .add (t 99) (c (i .i64 1)), n, []⟩, ⟨s 99, m (t 128), n, []⟩])))))))))))))))))))) (o [⟨s 129, .bin .add (t 40) (c (i .i64 1)), n, []⟩, ⟨s 40, m (t 129), n, []⟩]))))))))) [])
def g89 : AFunc := (.code 158 (q (o [⟨s 5, .box (t 2), n, []⟩]) (q (o [⟨s 6, m (c (.bool false)), n, []⟩]) (q (o [⟨s 7, .alloc [(g (bs [])), (g (bs [])), (i .u64 0), (i .u64 0)], n, []⟩]) (q (q (o [⟨s 14, f 0 (t 5), n, []⟩, ⟨s 15, l (t 14), n, []⟩]) (.block 0 (q (o [⟨s 17, .bin .eql (t 15) (c (i .i64 1)), n, []⟩, ⟨s 16, m (t 17), n, []⟩]) (w (t 16) (o [⟨s 18, f 3 (t 5), n, []⟩, ⟨s 19, l (t 18), n, []⟩, ⟨s 20, .bin .geq (t 19) (c (i .i64 0)), n, []⟩, ⟨s 21, m (t 20), n, []⟩, ⟨s 22, f 3 (t 5), s (21, true), []⟩, ⟨s 23, l (t 22), s (21, true), []⟩, ⟨s 24, .bin .leq (t 23) (c (i .i64 5)), s (21, true), []⟩, ⟨s 25, .pick (t 21) (t 24) (c (.bool false)), n, []⟩, ⟨s 26, m (t 25), n, []⟩, ⟨s 27, f 4 (t 5), s (26, true), []⟩, ⟨s 28, d 4 (t 27), s (26, true), []⟩, ⟨s 29, k (.func 104) [(t 28)], s (26, true), []⟩, ⟨s 30, .pick (t 26) (t 29) (c (.bool false)), n, []⟩, ⟨s 31, m (t 30), n, []⟩, ⟨s 32, f 8 (t 5), s (31, true), []⟩, ⟨s 33, d 4 (t 32), s (31, true), []⟩, ⟨s 34, k (.func 104) [(t 33)], s (31, true), []⟩, ⟨s 35, .pick (t 31) (t 34) (c (.bool false)), n, []⟩, ⟨s 36, m (t 35), n, []⟩, ⟨s 37, f 3 (t 5), s (36, true), []⟩, ⟨s 38, l (t 37), s (36, true), []⟩, ⟨s 39, .bin .neq (t 38) (c (i .i64 0)), s (36, true), []⟩, ⟨s 40, m (t 39), s (36, true), []⟩, ⟨s 41, f 8 (t 5), s (40, false), []⟩, ⟨s 42, d 4 (t 41), s (40, false), []⟩, ⟨s 43, d 4 (t 7), s (40, false), []⟩, ⟨s 44, .eqs false 4 [(0, 2), (1, 2), (2, 1), (3, 1)] (t 42) (t 43), s (40, false), []⟩, ⟨s 45, .pick (t 40) (c (.bool true)) (t 44), s (36, true), []⟩, ⟨s 46, .pick (t 36) (t 45) (c (.bool false)), n, []⟩, ⟨s 6, m (t 46), n, []⟩]) (q (q (o [⟨s 48, .bin .eql (t 15) (c (i .i64 2)), n, []⟩, ⟨s 47, m (t 48), n, []⟩]) (w (t 47) .skip (o [⟨s 49, .bin .eql (t 15) (c (i .i64 6)), n, []⟩, ⟨s 47, m (t 49), n, []⟩]))) (w (t 47) (o [⟨s 50, d 12 (t 5), n, []⟩, ⟨s 51, f 0 (t 5), n, []⟩, ⟨s 52, l (t 51), n, []⟩, ⟨s 53, .build [(i .i64 0), (g (bs [])), (g (bs [])), (i .i64 0), (g (bs [])), (g (bs [])), (i .u64 0), (i .u64 0), (g (bs [])), (g (bs [])), (i .u64 0), (i .u64 0)] [(0, (1, (t 52)))], n, []⟩, ⟨s 54, .eqs false 12 [(0, 1), (1, 2), (2, 2), (3, 1), (4, 2), (5, 2), (6, 1), (7, 1), (8, 2), (9, 2), (10, 1), (11, 1)] (t 50) (t 53), n, []⟩, ⟨s 6, m (t 54), n, []⟩]) (q (q (o [⟨s 56, .bin .eql (t 15) (c (i .i64 3)), n, []⟩, ⟨s 55, m (t 56), n, []⟩]) (w (t 55) .skip (o [⟨s 57, .bin .eql (t 15) (c (i .i64 4)), n, []⟩, ⟨s 55, m (t 57), n, []⟩]))) (w (t 55) (o [⟨s 58, d 12 (t 5), n, []⟩, ⟨s 59, f 0 (t 5), n, []⟩, ⟨s 60, l (t 59), n, []⟩, ⟨s 61, f 1 (t 5), n, []⟩, ⟨s 62, f 0 (t 61), n, []⟩, ⟨s 63, l (t 62), n, []⟩, ⟨s 64, .build [(g (bs [])), (g (bs []))] [(0, (1, (t 63)))], n, []⟩, ⟨s 65, .build [(i .i64 0), (g (bs [])), (g (bs [])), (i .i64 0), (g (bs [])), (g (bs [])), (i .u64 0), (i .u64 0), (g (bs [])), (g (bs [])), (i .u64 0), (i .u64 0)] [(0, (1, (t 60))), (1, (2, (t 64)))], n, []⟩, ⟨s 66, .eqs false 12 [(0, 1), (1, 2), (2, 2), (3, 1), (4, 2), (5, 2), (6, 1), (7, 1), (8, 2), (9, 2), (10, 1), (11, 1)] (t 58) (t 65), n, []⟩, ⟨s 6, m (t 66), n, []⟩]) (q (o [⟨s 68, .bin .eql (t 15) (c (i .i64 5)), n, []⟩, ⟨s 67, m (t 68), n, []⟩]) (w (t 67) (o [⟨s 69, d 12 (t 5), n, []⟩, ⟨s 70, f 0 (t 5), n, []⟩, ⟨s 71, l (t 70), n, []⟩, ⟨s 72, f 1 (t 5), n, []⟩, ⟨s 73, d 2 (t 72), n, []⟩, ⟨s 74, .build [(i .i64 0), (g (bs [])), (g (bs [])), (i .i64 0), (g (bs [])), (g (bs [])), (i .u64 0), (i .u64 0), (g (bs [])), (g (bs [])), (i .u64 0), (i .u64 0)] [(0, (1, (t 71))), (1, (2, (t 73)))], n, []⟩, ⟨s 75, .eqs false 12 [(0, 1), (1, 2), (2, 2), (3, 1), (4, 2), (5, 2), (6, 1), (7, 1), (8, 2), (9, 2), (10, 1), (11, 1)] (t 69) (t 74), n, []⟩, ⟨s 6, m (t 75), n, []⟩]) .skip)))))))))) (q (o [⟨s 76, m (t 0), n, []⟩, ⟨s 77, m (t 6), n, []⟩, ⟨s 78, k (.func 46) [(t 76), (t 77), (c (i .i64 75))], n, []⟩]) (q (o [⟨s 79, f 0 (t 5), n, []⟩, ⟨s 80, l (t 79), n, []⟩]) (.block 1 (q (o [⟨s 82, .bin .eql (t 80) (c (i .i64 1)), n, []⟩, ⟨s 81, m (t 82), n, []⟩]) (w (t 81) (q (o [⟨s 84, m (t 0), n, []⟩, ⟨s 85, .nilChk (t 84), n, []⟩, ⟨s 86, f 0 (t 85), n, []⟩, ⟨s 88, f 1 (t 5), n, []⟩, ⟨s 87, d 6 (t 86), n, []⟩, ⟨s 89, d 2 (t 88), n, []⟩, ⟨s 90, k (.func 56) [(t 87), (t 89)], n, []⟩, ⟨s 83, m (t 90), n, []⟩, ⟨s 91, .extract (t 83) 0, n, []⟩, ⟨s 92, .extract (t 83) 1, n, []⟩, ⟨s 8, .alloc [(g (bs [])), (i .i64 0)], n, []⟩, ⟨n, .store 2 (t 8) (t 91), n, []⟩, ⟨s 9, m (t 92), n, []⟩]) (q (o [⟨s 93, m (t 0), n, []⟩, ⟨s 94, m (t 9), n, []⟩, ⟨s 95, k (.func 46) [(t 93), (t 94), (c (i .i64 72))], n, []⟩]) (q (o [⟨s 96, m (t 0), n, []⟩, ⟨s 97, m (t 1), n, []⟩, ⟨s 98, f 4 (t 5), n, []⟩, ⟨s 99, d 4 (t 98), n, []⟩, ⟨s 100, k (.func 105) [(t 96), (t 97), (t 99)], n, []⟩, ⟨s 10, m (t 100), n, []⟩]) (q (o [⟨s 101, m (t 0), n, []⟩, ⟨s 102, m (t 1), n, []⟩, ⟨s 103, f 8 (t 5), n, []⟩, ⟨s 104, d 4 (t 103), n, []⟩, ⟨s 105, k (.func 105) [(t 101), (t 102), (t 104)], n, []⟩, ⟨s 11, m (t 105), n, []⟩]) (q (o [⟨s 106, m (t 0), n, []⟩, ⟨s 107, m (t 10), n, []⟩, ⟨s 108, f 1 (t 8), n, []⟩, ⟨s 109, l (t 108), n, []⟩, ⟨s 110, k (t 107) [(t 109)], n, []⟩, ⟨s 111, k (.func 46) [(t 106), (t 110), (c (i .i64 73))], n, []⟩]) (o [⟨s 112, m (t 0), n, []⟩, ⟨s 113, m (t 11), n, []⟩, ⟨s 114, f 1 (t 8), n, []⟩, ⟨s 115, l (t 114), n, []⟩, ⟨s 116, k (t 113) [(t 115)], n, []⟩, ⟨s 117, k (.func 46) [(t 112), (t 116), (c (i .i64 73))], n, []⟩])))))) (q (q (o [⟨s 119, .bin .eql (t 80) (c (i .i64 3)), n, []⟩, ⟨s 118, m (t 119), n, []⟩]) (w (t 118) .skip (o [⟨s 120, .bin .eql (t 80) (c (i .i64 4)), n, []⟩, ⟨s 118, m (t 120), n, []⟩]))) (w (t 118) (o [⟨s 121, m (t 0), n, []⟩, ⟨s 122, m (t 0), n, []⟩, ⟨s 123, .nilChk (t 122), n, []⟩, ⟨s 124, f 0 (t 123), n, []⟩, ⟨s 126, f 1 (t 5), n, []⟩, ⟨s 127, f 0 (t 126), n, []⟩, ⟨s 125, d 6 (t 124), n, []⟩, ⟨s 128, l (t 127), n, []⟩, ⟨s 129, k (.func 42) [(t 125), (t 128)], n, []⟩, ⟨s 130, .bin .geq (t 129) (c (i .i64 0)), n, []⟩, ⟨s 131, k (.func 46) [(t 121), (t 130), (c (i .i64 72))], n, []⟩]) (q (o [⟨s 133, .bin .eql (t 80) (c (i .i64 5)), n, []⟩, ⟨s 132, m (t 133), n, []⟩]) (w (t 132) (q (o [⟨s 135, m (t 0), n, []⟩, ⟨s 136, .nilChk (t 135), n, []⟩, ⟨s 137, f 0 (t 136), n, []⟩, ⟨s 139, f 1 (t 5), n, []⟩, ⟨s 138, d 6 (t 137), n, []⟩, ⟨s 140, d 2 (t 139), n, []⟩, ⟨s 141, k (.func 56) [(t 138), (t 140)], n, []⟩, ⟨s 134, m (t 141), n, []⟩, ⟨s 142, .extract (t 134) 0, n, []⟩, ⟨s 143, .extract (t 134) 1, n, []⟩, ⟨s 12, .alloc [(g (bs [])), (i .i64 0)], n, []⟩, ⟨n, .store 2 (t 12) (t 142), n, []⟩, ⟨s 13, m (t 143), n, []⟩]) (q (o [⟨s 144, m (t 0), n, []⟩, ⟨s 145, m (t 13), n, []⟩, ⟨s 146, m (t 145), n, []⟩, ⟨s 147, f 1 (t 5), s (146, true), []⟩, ⟨s 148, f 0 (t 147), s (146, true), []⟩, ⟨s 149, l (t 148), s (146, true), []⟩, ⟨s 150, .bin .neq (t 149) (c (g (bs [109, 101, 116, 97]))), s (146, true), []⟩, ⟨s 151, .pick (t 146) (t 150) (c (.bool false)), n, []⟩, ⟨s 152, k (.func 46) [(t 144), (t 151), (c (i .i64 72))], n, []⟩]) (o [⟨s 153, m (t 0), n, []⟩, ⟨s 154, f 1 (t 12), n, []⟩, ⟨s 155, l (t 154), n, []⟩, ⟨s 156, .bin .eql (t 155) (c (i .i64 16)), n, []⟩, ⟨s 157, k (.func 46) [(t 153), (t 156), (c (i .i64 73))], n, []⟩]))) .skip))))))))))))) [])
def g90 : AFunc := (.code 9 (q (o [⟨s 2, .box (t 0), n, []⟩, ⟨s 3, .box (t 1), n, []⟩, ⟨s 4, m (c (i .i64 0)), n, []⟩]) (q (o [⟨s 5, f 3 (t 2), n, []⟩, ⟨s 6, l (t 5), n, []⟩, ⟨s 7, .mkFunc 107 [] [(t 3)], n, []⟩, ⟨s 8, k (.func 106) [(t 6), (t 7)], n, []⟩, ⟨s 4, m (t 8), n, []⟩]) .ret)) [(.tmp 4)])
def g91 : AFunc := (.code 70 (q (o [⟨s 3, .box (t 0), n, []⟩, ⟨s 5, .box (t 2), n, []⟩, ⟨s 6, m (c (i .i64 0)), n, []⟩]) (q (o [⟨s 12, m (t 1), n, []⟩, ⟨s 15, f 0 (t 5), n, []⟩, ⟨s 11, d 6 (t 3), n, []⟩, ⟨s 14, d 6 (t 3), n, []⟩, ⟨s 16, l (t 15), n, []⟩, ⟨s 13, k (.func 40) [(t 11), (t 12)], n, [(3, 1), (15, 1)]⟩, ⟨s 17, k (.func 90) [(t 14), (t 16)], n, []⟩, ⟨s 7, m (t 13), n, []⟩, ⟨s 8, m (t 17), n, []⟩]) (q (.block 0 (q (o [⟨s 19, m (t 7), n, []⟩, ⟨s 20, .bin .lss (t 19) (c (i .i64 0)), n, []⟩, ⟨s 18, m (t 20), n, []⟩]) (w (t 18) (q (o [⟨s 6, m (c (i .i64 110)), n, []⟩]) .ret) (q (o [⟨s 22, m (t 8), n, []⟩, ⟨s 23, .bin .lss (t 22) (c (i .i64 0)), n, []⟩, ⟨s 24, m (t 23), n, []⟩, ⟨s 25, f 4 (t 3), s (24, false), []⟩, ⟨s 27, m (t 7), s (24, false), []⟩, ⟨s 31, f 0 (t 5), s (24, false), []⟩, ⟨s 26, l (t 25), s (24, false), []⟩, ⟨s 28, a 7 (t 26) (t 27), s (24, false), []⟩, ⟨s 29, f 2 (t 28), s (24, false), []⟩, ⟨s 30, l (t 29), s (24, false), []⟩, ⟨s 32, l (t 31), s (24, false), []⟩, ⟨s 33, k (.func 35) [(t 30), (t 32)], s (24, false), []⟩, ⟨s 34, .un .not (t 33), s (24, false), []⟩, ⟨s 35, .pick (t 24) (c (.bool true)) (t 34), n, []⟩, ⟨s 21, m (t 35), n, []⟩]) (w (t 21) (q (o [⟨s 6, m (c (i .i64 113)), n, []⟩]) .ret) (q (o [⟨s 37, f 3 (t 3), n, []⟩, ⟨s 39, m (t 8), n, []⟩, ⟨s 44, f 1 (t 5), n, []⟩, ⟨s 38, l (t 37), n, []⟩, ⟨s 40, a 3 (t 38) (t 39), n, []⟩, ⟨s 41, f 1 (t 40), n, []⟩, ⟨s 42, l (t 41), n, []⟩, ⟨s 43, .lenSl (t 42), n, []⟩, ⟨s 45, l (t 44), n, []⟩, ⟨s 46, .lenSl (t 45), n, []⟩, ⟨s 47, .bin .neq (t 43) (t 46), n, []⟩, ⟨s 36, m (t 47), n, []⟩]) (w (t 36) (q (o [⟨s 6, m (c (i .i64 76)), n, []⟩]) .ret) .skip))))))) (q (q (o [⟨s 48, f 3 (t 3), n, []⟩, ⟨s 49, l (t 48), n, []⟩, ⟨s 50, m (t 8), n, []⟩, ⟨s 51, a 3 (t 49) (t 50), n, []⟩, ⟨s 52, f 1 (t 51), n, []⟩, ⟨s 53, l (t 52), n, []⟩, ⟨s 54, .lenSl (t 53), n, []⟩, ⟨s 55, m (c (i .i64 0)), n, []⟩]) (.block 1 (.loop (q (o [⟨s 56, .bin .lss (t 55) (t 54), n, []⟩]) (q (w (t 56) .skip (.exit 1)) (q (.block 2 (q (o [⟨s 57, m (t 55), n, []⟩, ⟨s 58, a 2 (t 53) (t 55), n, []⟩, ⟨s 59, d 2 (t 58), n, []⟩, ⟨s 10, .alloc [(g (bs [])), (i .i64 0)], n, []⟩, ⟨s 9, m (t 57), n, []⟩, ⟨n, .store 2 (t 10) (t 59), n, []⟩]) (q (o [⟨s 60, f 1 (t 5), n, []⟩, ⟨s 62, m (t 9), n, []⟩, ⟨s 65, f 1 (t 10), n, []⟩, ⟨s 61, l (t 60), n, []⟩, ⟨s 63, a 2 (t 61) (t 62), n, []⟩, ⟨s 64, d 2 (t 63), n, []⟩, ⟨s 66, l (t 65), n, []⟩, ⟨s 67, k (.func 87) [(t 64), (t 66)], n, []⟩, ⟨s 68, .un .not (t 67), n, []⟩]) (w (t 68) (q (o [⟨s 6, m (c (i .i64 76)), n, []⟩]) .ret) .skip)))) (o [⟨s 69, .bin .add (t 55) (c (i .i64 1)), n, []⟩, ⟨s 55, m (t 69), n, []⟩]))))))) (q (o [⟨s 6, m (c (i .i64 0)), n, []⟩]) .ret))))) [(.tmp 6)])
def g92 : AFunc := (.code 106 (q (o [⟨s 3, .box (t 1), n, []⟩]) (q (q (o [⟨s 10, f 0 (t 3), n, []⟩, ⟨s 11, l (t 10), n, []⟩, ⟨s 12, .bin .eql (t 11) (c (i .i64 1)), n, []⟩]) (w (t 12) (q (o [⟨s 13, m (t 0), n, []⟩, ⟨s 14, d 9 (t 3), n, []⟩, ⟨s 15, f 0 (t 3), n, []⟩, ⟨s 16, l (t 15), n, []⟩, ⟨s 17, f 1 (t 3), n, []⟩, ⟨s 18, f 0 (t 17), n, []⟩, ⟨s 19, f 0 (t 18), n, []⟩, ⟨s 20, l (t 19), n, []⟩, ⟨s 21, .build [(g (bs [])), (g (bs []))] [(0, (1, (t 20)))], n, []⟩, ⟨s 22, .build [(g (bs [])), (g (bs [])), (i .u64 0), (i .u64 0)] [(0, (2, (t 21)))], n, []⟩, ⟨s 23, .build [(i .i64 0), (g (bs [])), (g (bs [])), (i .u64 0), (i .u64 0), (g (bs [])), (g (bs [])), (i .u64 0), (i .u64 0)] [(0, (1, (t 16))), (1, (4, (t 22)))], n, []⟩, ⟨s 24, .eqs false 9 [(0, 1), (1, 2), (2, 2), (3, 1), (4, 1), (5, 2), (6, 2), (7, 1), (8, 1)] (t 14) (t 23), n, []⟩, ⟨s 25, k (.func 46) [(t 13), (t 24), (c (i .i64 75))], n, []⟩]) (q (o [⟨s 26, m (t 0), n, []⟩, ⟨s 27, m (t 0), n, []⟩, ⟨s 28, .nilChk (t 27), n, []⟩, ⟨s 29, f 0 (t 28), n, []⟩, ⟨s 31, f 1 (t 3), n, []⟩, ⟨s 32, f 0 (t 31), n, []⟩, ⟨s 33, f 0 (t 32), n, []⟩, ⟨s 30, d 6 (t 29), n, []⟩, ⟨s 34, l (t 33), n, []⟩, ⟨s 35, k (.func 42) [(t 30), (t 34)], n, []⟩, ⟨s 36, .bin .geq (t 35) (c (i .i64 0)), n, []⟩, ⟨s 37, k (.func 46) [(t 26), (t 36), (c (i .i64 72))], n, []⟩]) .ret)) .skip)) (q (o [⟨s 38, m (t 0), n, []⟩, ⟨s 39, f 0 (t 3), n, []⟩, ⟨s 40, l (t 39), n, []⟩, ⟨s 41, .bin .geq (t 40) (c (i .i64 2)), n, []⟩, ⟨s 42, m (t 41), n, []⟩, ⟨s 43, f 0 (t 3), s (42, true), []⟩, ⟨s 44, l (t 43), s (42, true), []⟩, ⟨s 45, .bin .leq (t 44) (c (i .i64 5)), s (42, true), []⟩, ⟨s 46, .pick (t 42) (t 45) (c (.bool false)), n, []⟩, ⟨s 47, m (t 46), n, []⟩, ⟨s 48, f 1 (t 3), s (47, true), []⟩, ⟨s 49, d 4 (t 48), s (47, true), []⟩, ⟨s 50, k (.func 104) [(t 49)], s (47, true), []⟩, ⟨s 51, .pick (t 47) (t 50) (c (.bool false)), n, []⟩, ⟨s 52, m (t 51), n, []⟩, ⟨s 53, f 5 (t 3), s (52, true), []⟩, ⟨s 54, d 4 (t 53), s (52, true), []⟩, ⟨s 55, k (.func 104) [(t 54)], s (52, true), []⟩, ⟨s 56, .pick (t 52) (t 55) (c (.bool false)), n, []⟩, ⟨s 57, k (.func 46) [(t 38), (t 56), (c (i .i64 75))], n, []⟩]) (q (o [⟨s 58, m (t 0), n, []⟩, ⟨s 59, f 1 (t 3), n, []⟩, ⟨s 60, d 4 (t 59), n, []⟩, ⟨s 61, k (.func 105) [(t 58), (c (.slice n 0 0)), (t 60)], n, []⟩, ⟨s 4, m (t 61), n, []⟩]) (q (o [⟨s 62, m (t 0), n, []⟩, ⟨s 63, f 5 (t 3), n, []⟩, ⟨s 64, d 4 (t 63), n, []⟩, ⟨s 65, k (.func 105) [(t 62), (c (.slice n 0 0)), (t 64)], n, []⟩, ⟨s 5, m (t 65), n, []⟩]) (q (o [⟨s 67, m (t 0), n, []⟩, ⟨s 68, .nilChk (t 67), n, []⟩, ⟨s 69, f 0 (t 68), n, []⟩, ⟨s 71, f 1 (t 3), n, []⟩, ⟨s 72, f 0 (t 71), n, []⟩, ⟨s 70, d 6 (t 69), n, []⟩, ⟨s 73, d 2 (t 72), n, []⟩, ⟨s 74, k (.func 56) [(t 70), (t 73)], n, []⟩, ⟨s 66, m (t 74), n, []⟩, ⟨s 75, .extract (t 66) 0, n, []⟩, ⟨s 76, .extract (t 66) 1, n, []⟩, ⟨s 6, .alloc [(g (bs [])), (i .i64 0)], n, []⟩, ⟨n, .store 2 (t 6) (t 75), n, []⟩, ⟨s 7, m (t 76), n, []⟩]) (q (o [⟨s 78, m (t 0), n, []⟩, ⟨s 79, .nilChk (t 78), n, []⟩, ⟨s 80, f 0 (t 79), n, []⟩, ⟨s 82, f 5 (t 3), n, []⟩, ⟨s 83, f 0 (t 82), n, []⟩, ⟨s 81, d 6 (t 80), n, []⟩, ⟨s 84, d 2 (t 83), n, []⟩, ⟨s 85, k (.func 56) [(t 81), (t 84)], n, []⟩, ⟨s 77, m (t 85), n, []⟩, ⟨s 86, .extract (t 77) 0, n, []⟩, ⟨s 87, .extract (t 77) 1, n, []⟩, ⟨s 8, .alloc [(g (bs [])), (i .i64 0)], n, []⟩, ⟨n, .store 2 (t 8) (t 86), n, []⟩, ⟨s 9, m (t 87), n, []⟩]) (.block 0 (q (o [⟨s 91, m (t 7), n, []⟩, ⟨s 90, m (t 91), n, []⟩]) (w (t 90) (o [⟨s 92, m (t 0), n, []⟩, ⟨s 93, m (t 5), n, []⟩, ⟨s 94, f 1 (t 6), n, []⟩, ⟨s 95, l (t 94), n, []⟩, ⟨s 96, k (t 93) [(t 95)], n, []⟩, ⟨s 97, k (.func 46) [(t 92), (t 96), (c (i .i64 73))], n, []⟩]) (q (o [⟨s 99, m (t 9), n, []⟩, ⟨s 98, m (t 99), n, []⟩]) (w (t 98) (o [⟨s 100, m (t 0), n, []⟩, ⟨s 101, m (t 4), n, []⟩, ⟨s 102, f 1 (t 8), n, []⟩, ⟨s 103, l (t 102), n, []⟩, ⟨s 104, k (t 101) [(t 103)], n, []⟩, ⟨s 105, k (.func 46) [(t 100), (t 104), (c (i .i64 73))], n, []⟩]) (o [⟨s 88, m (t 0), n, []⟩, ⟨s 89, k (.func 46) [(t 88), (c (.bool false)), (c (i .i64 73))], n, []⟩]))))))))))))) [])
def g93 : AFunc := (.code 19 (q (o [⟨s 4, m (c (i .i64 0)), n, []⟩]) (q (q (o [⟨s 6, m (t 0), n, []⟩, ⟨s 7, .lenSl (t 6), n, []⟩, ⟨s 8, m (c (i .i64 0)), n, []⟩]) (.block 0 (.loop (q (o [⟨s 9, .bin .lss (t 8) (t 7), n, []⟩]) (q (w (t 9) .skip (.exit 0)) (q (.block 1 (q (o [⟨s 10, m (t 8), n, []⟩, ⟨s 5, m (t 10), n, []⟩]) (q (o [⟨s 11, m (t 1), n, []⟩, ⟨s 12, m (t 0), n, []⟩, ⟨s 13, m (t 5), n, []⟩, ⟨s 14, a 3 (t 12) (t 13), n, []⟩, ⟨s 15, d 3 (t 14), n, []⟩, ⟨s 16, k (t 11) [(t 15)], n, []⟩]) (w (t 16) (q (o [⟨s 17, m (t 5), n, []⟩, ⟨s 4, m (t 17), n, []⟩]) .ret) .skip)))) (o [⟨s 18, .bin .add (t 8) (c (i .i64 1)), n, []⟩, ⟨s 8, m (t 18), n, []⟩]))))))) (q (o [⟨s 4, m (c (i .i64 (-1))), n, []⟩]) .ret))) [(.tmp 4)])
def g94 : AFunc := (.code 8 (q (o [⟨s 3, .box (t 1), n, []⟩, ⟨s 4, m (c (i .i64 0)), n, []⟩]) (q (o [⟨s 5, m (t 0), n, []⟩, ⟨s 6, .mkFunc 109 [] [(t 3)], n, []⟩, ⟨s 7, k (.func 108) [(t 5), (t 6)], n, []⟩, ⟨s 4, m (t 7), n, []⟩]) .ret)) [(.tmp 4)])
def g95 : AFunc := (.code 26 (q (o [⟨s 4, m (c (.bool false)), n, []⟩]) (q (q (o [⟨s 6, m (t 0), n, []⟩, ⟨s 7, .lenSl (t 6), n, []⟩, ⟨s 8, m (t 1), n, []⟩, ⟨s 9, .lenSl (t 8), n, []⟩, ⟨s 10, .bin .neq (t 7) (t 9), n, []⟩]) (w (t 10) (q (o [⟨s 4, m (c (.bool false)), n, []⟩]) .ret) .skip)) (q (q (o [⟨s 11, m (t 0), n, []⟩, ⟨s 12, .lenSl (t 11), n, []⟩, ⟨s 13, m (c (i .i64 0)), n, []⟩]) (.block 0 (.loop (q (o [⟨s 14, .bin .lss (t 13) (t 12), n, []⟩]) (q (w (t 14) .skip (.exit 0)) (q (.block 1 (q (o [⟨s 15, m (t 13), n, []⟩, ⟨s 5, m (t 15), n, []⟩]) (q (o [⟨s 16, m (t 0), n, []⟩, ⟨s 17, m (t 5), n, []⟩, ⟨s 18, a 3 (t 16) (t 17), n, []⟩, ⟨s 20, m (t 1), n, []⟩, ⟨s 21, m (t 5), n, []⟩, ⟨s 22, a 3 (t 20) (t 21), n, []⟩, ⟨s 19, d 3 (t 18), n, []⟩, ⟨s 23, d 3 (t 22), n, []⟩, ⟨s 24, .eqs true 3 [(0, 2), (1, 2), (2, 1)] (t 19) (t 23), n, []⟩]) (w (t 24) (q (o [⟨s 4, m (c (.bool false)), n, []⟩]) .ret) .skip)))) (o [⟨s 25, .bin .add (t 13) (c (i .i64 1)), n, []⟩, ⟨s 13, m (t 25), n, []⟩]))))))) (q (o [⟨s 4, m (c (.bool true)), n, []⟩]) .ret)))) [(.tmp 4)])
def g96 : AFunc := (.code 26 (q (o [⟨s 4, m (c (.bool false)), n, []⟩]) (q (q (o [⟨s 6, m (t 0), n, []⟩, ⟨s 7, .lenSl (t 6), n, []⟩, ⟨s 8, m (t 1), n, []⟩, ⟨s 9, .lenSl (t 8), n, []⟩, ⟨s 10, .bin .neq (t 7) (t 9), n, []⟩]) (w (t 10) (q (o [⟨s 4, m (c (.bool false)), n, []⟩]) .ret) .skip)) (q (q (o [⟨s 11, m (t 0), n, []⟩, ⟨s 12, .lenSl (t 11), n, []⟩, ⟨s 13, m (c (i .i64 0)), n, []⟩]) (.block 0 (.loop (q (o [⟨s 14, .bin .lss (t 13) (t 12), n, []⟩]) (q (w (t 14) .skip (.exit 0)) (q (.block 1 (q (o [⟨s 15, m (t 13), n, []⟩, ⟨s 5, m (t 15), n, []⟩]) (q (o [⟨s 16, m (t 0), n, []⟩, ⟨s 17, m (t 5), n, []⟩, ⟨s 18, a 1 (t 16) (t 17), n, []⟩, ⟨s 20, m (t 1), n, []⟩, ⟨s 21, m (t 5), n, []⟩, ⟨s 22, a 1 (t 20) (t 21), n, []⟩, ⟨s 19, l (t 18), n, []⟩, ⟨s 23, l (t 22), n, []⟩, ⟨s 24, .bin .neq (t 19) (t 23), n, []⟩]) (w (t 24) (q (o [⟨s 4, m (c (.bool false)), n, []⟩]) .ret) .skip)))) (o [⟨s 25, .bin .add (t 13) (c (i .i64 1)), n, []⟩, ⟨s 13, m (t 25), n, []⟩]))))))) (q (o [⟨s 4, m (c (.bool true)), n, []⟩]) .ret)))) [(.tmp 4)])
def g97 : AFunc := (.code 26 (q (o [⟨s 4, m (c (.bool false)), n, []⟩]) (q (q (o [⟨s 6, m (t 0), n, []⟩, ⟨s 7, .lenSl (t 6), n, []⟩, ⟨s 8, m (t 1), n, []⟩, ⟨s 9, .lenSl (t 8), n, []⟩, ⟨s 10, .bin .neq (t 7) (t 9), n, []⟩]) (w (t 10) (q (o [⟨s 4, m (c (.bool false)), n, []⟩]) .ret) .skip)) (q (q (o [⟨s 11, m (t 0), n, []⟩, ⟨s 12, .lenSl (t 11), n, []⟩, ⟨s 13, m (c (i .i64 0)), n, []⟩]) (.block 0 (.loop (q (o [⟨s 14, .bin .lss (t 13) (t 12), n, []⟩]) (q (w (t 14) .skip (.exit 0)) (q (.block 1 (q (o [⟨s 15, m (t 13), n, []⟩, ⟨s 5, m (t 15), n, []⟩]) (q (o [⟨s 16, m (t 0), n, []⟩, ⟨s 17, m (t 5), n, []⟩, ⟨s 18, a 2 (t 16) (t 17), n, []⟩, ⟨s 20, m (t 1), n, []⟩, ⟨s 21, m (t 5), n, []⟩, ⟨s 22, a 2 (t 20) (t 21), n, []⟩, ⟨s 19, d 2 (t 18), n, []⟩, ⟨s 23, d 2 (t 22), n, []⟩, ⟨s 24, .eqs true 2 [(0, 1), (1, 1)] (t 19) (t 23), n, []⟩]) (w (t 24) (q (o [⟨s 4, m (c (.bool false)), n, []⟩]) .ret) .skip)))) (o [⟨s 25, .bin .add (t 13) (c (i .i64 1)), n, []⟩, ⟨s 13, m (t 25), n, []⟩]))))))) (q (o [⟨s 4, m (c (.bool true)), n, []⟩]) .ret)))) [(.tmp 4)])
def g98 : AFunc := (.code 32 (q (o [⟨s 6, m (c (.bool false)), n, []⟩]) (q (q (o [⟨s 10, m (t 0), n, []⟩, ⟨s 11, .lenSl (t 10), n, []⟩, ⟨s 12, m (t 1), n, []⟩, ⟨s 13, .lenSl (t 12), n, []⟩, ⟨s 14, .bin .neq (t 11) (t 13), n, []⟩]) (w (t 14) (q (o [⟨s 6, m (c (.bool false)), n, []⟩]) .ret) .skip)) (q (q (o [⟨s 15, m (t 0), n, []⟩, ⟨s 16, .lenSl (t 15), n, []⟩, ⟨s 17, m (c (i .i64 0)), n, []⟩]) (.block 0 (.loop (q (o [⟨s 18, .bin .lss (t 17) (t 16), n, []⟩]) (q (w (t 18) .skip (.exit 0)) (q (.block 1 (q (o [⟨s 19, m (t 17), n, []⟩, ⟨s 20, a 13 (t 15) (t 17), n, []⟩, ⟨s 21, d 13 (t 20), n, []⟩, ⟨s 8, .alloc [(i .i64 0), (g (bs [])), (i .i64 0), (g (bs [])), (g (bs [])), (i .u64 0), (i .u64 0), (g (bs [])), (g (bs [])), (i .u64 0), (i .u64 0), (.slice n 0 0), (.slice n 0 0)], n, []⟩, ⟨s 7, m (t 19), n, []⟩, ⟨n, .store 13 (t 8) (t 21), n, []⟩]) (q (o [⟨s 22, m (t 1), n, []⟩, ⟨s 23, m (t 7), n, []⟩, ⟨s 24, a 13 (t 22) (t 23), n, []⟩, ⟨s 25, d 13 (t 24), n, []⟩, ⟨s 9, .alloc [(i .i64 0), (g (bs [])), (i .i64 0), (g (bs [])), (g (bs [])), (i .u64 0), (i .u64 0), (g (bs [])), (g (bs [])), (i .u64 0), (i .u64 0), (.slice n 0 0), (.slice n 0 0)], n, []⟩, ⟨n, .store 13 (t 9) (t 25), n, []⟩]) (q (o [⟨s 26, m (t 2), n, []⟩, ⟨s 27, d 13 (t 8), n, []⟩, ⟨s 28, d 13 (t 9), n, []⟩, ⟨s 29, k (t 26) [(t 27), (t 28)], n, []⟩, ⟨s 30, .un .not (t 29), n, []⟩]) (w (t 30) (q (o [⟨s 6, m (c (.bool false)), n, []⟩]) .ret) .skip))))) (o [⟨s 31, .bin .add (t 17) (c (i .i64 1)), n, []⟩, ⟨s 17, m (t 31), n, []⟩]))))))) (q (o [⟨s 6, m (c (.bool true)), n, []⟩]) .ret)))) [(.tmp 6)])
def g99 : AFunc := (.code 38 (q (o [⟨s 2, .box (t 0), n, []⟩, ⟨s 3, .box (t 1), n, []⟩, ⟨s 4, m (c (.bool false)), n, []⟩]) (q (o [⟨s 5, f 0 (t 2), n, []⟩, ⟨s 6, l (t 5), n, []⟩, ⟨s 7, f 0 (t 3), n, []⟩, ⟨s 8, l (t 7), n, []⟩, ⟨s 9, .bin .eql (t 6) (t 8), n, []⟩, ⟨s 10, m (t 9), n, []⟩, ⟨s 11, f 1 (t 2), s (10, true), []⟩, ⟨s 12, l (t 11), s (10, true), []⟩, ⟨s 13, f 1 (t 3), s (10, true), []⟩, ⟨s 14, l (t 13), s (10, true), []⟩, ⟨s 15, .bin .eql (t 12) (t 14), s (10, true), []⟩, ⟨s 16, .pick (t 10) (t 15) (c (.bool false)), n, []⟩, ⟨s 17, m (t 16), n, []⟩, ⟨s 18, f 2 (t 2), s (17, true), []⟩, ⟨s 19, d 9 (t 18), s (17, true), []⟩, ⟨s 20, f 2 (t 3), s (17, true), []⟩, ⟨s 21, d 9 (t 20), s (17, true), []⟩, ⟨s 22, .eqs false 9 [(0, 1), (1, 2), (2, 2), (3, 1), (4, 1), (5, 2), (6, 2), (7, 1), (8, 1)] (t 19) (t 21), s (17, true), []⟩, ⟨s 23, .pick (t 17) (t 22) (c (.bool false)), n, []⟩, ⟨s 24, m (t 23), n, []⟩, ⟨s 25, f 11 (t 2), s (24, true), []⟩, ⟨s 26, l (t 25), s (24, true), []⟩, ⟨s 27, f 11 (t 3), s (24, true), []⟩, ⟨s 28, l (t 27), s (24, true), []⟩, ⟨s 29, k (.func 68) [(t 26), (t 28)], s (24, true), []⟩, ⟨s 30, .pick (t 24) (t 29) (c (.bool false)), n, []⟩, ⟨s 31, m (t 30), n, []⟩, ⟨s 32, f 12 (t 2), s (31, true), []⟩, ⟨s 33, l (t 32), s (31, true), []⟩, ⟨s 34, f 12 (t 3), s (31, true), []⟩, ⟨s 35, l (t 34), s (31, true), []⟩, ⟨s 36, k (.func 68) [(t 33), (t 35)], s (31, true), []⟩, ⟨s 37, .pick (t 31) (t 36) (c (.bool false)), n, []⟩, ⟨s 4, m (t 37), n, []⟩]) .ret)) [(.tmp 4)])
def g100 : AFunc := (.code 8 (q (o [⟨s 2, m (c (.slice n 0 0)), n, []⟩]) (q (q (o [⟨s 3, m (t 0), n, []⟩, ⟨s 4, .eqp 1 false (t 3) (c (.slice n 0 0)), n, []⟩]) (w (t 4) (q (o [⟨s 2, m (c (.slice n 0 0)), n, []⟩]) .ret) .skip)) (q (o [⟨s 5, .buildSlice 12 0 [] [], n, []⟩, ⟨s 6, m (t 0), n, []⟩, ⟨s 7, .append 12 144 (t 5) (t 6), n, []⟩, ⟨s 2, m (t 7), n, []⟩]) .ret))) [(.tmp 2)])
def g101 : AFunc := (.code 8 (q (o [⟨s 2, m (c (.slice n 0 0)), n, []⟩]) (q (q (o [⟨s 3, m (t 0), n, []⟩, ⟨s 4, .eqp 1 false (t 3) (c (.slice n 0 0)), n, []⟩]) (w (t 4) (q (o [⟨s 2, m (c (.slice n 0 0)), n, []⟩]) .ret) .skip)) (q (o [⟨s 5, .buildSlice 13 0 [] [], n, []⟩, ⟨s 6, m (t 0), n, []⟩, ⟨s 7, .append 13 176 (t 5) (t 6), n, []⟩, ⟨s 2, m (t 7), n, []⟩]) .ret))) [(.tmp 2)])
def g102 : AFunc := (.code 19 (q (o [⟨s 4, m (c (i .i64 0)), n, []⟩]) (q (q (o [⟨s 6, m (t 0), n, []⟩, ⟨s 7, .lenSl (t 6), n, []⟩, ⟨s 8, m (c (i .i64 0)), n, []⟩]) (.block 0 (.loop (q (o [⟨s 9, .bin .lss (t 8) (t 7), n, []⟩]) (q (w (t 9) .skip (.exit 0)) (q (.block 1 (q (o [⟨s 10, m (t 8), n, []⟩, ⟨s 5, m (t 10), n, []⟩]) (q (o [⟨s 11, m (t 1), n, []⟩, ⟨s 12, m (t 0), n, []⟩, ⟨s 13, m (t 5), n, []⟩, ⟨s 14, a 7 (t 12) (t 13), n, []⟩, ⟨s 15, d 7 (t 14), n, []⟩, ⟨s 16, k (t 11) [(t 15)], n, []⟩]) (w (t 16) (q (o [⟨s 17, m (t 5), n, []⟩, ⟨s 4, m (t 17), n, []⟩]) .ret) .skip)))) (o [⟨s 18, .bin .add (t 8) (c (i .i64 1)), n, []⟩, ⟨s 8, m (t 18), n, []⟩]))))))) (q (o [⟨s 4, m (c (i .i64 (-1))), n, []⟩]) .ret))) [(.tmp 4)])
def g103 : AFunc := (.code 19 (q (o [⟨s 4, m (c (i .i64 0)), n, []⟩]) (q (q (o [⟨s 6, m (t 0), n, []⟩, ⟨s 7, .lenSl (t 6), n, []⟩, ⟨s 8, m (c (i .i64 0)), n, []⟩]) (.block 0 (.loop (q (o [⟨s 9, .bin .lss (t 8) (t 7), n, []⟩]) (q (w (t 9) .skip (.exit 0)) (q (.block 1 (q (o [⟨s 10, m (t 8), n, []⟩, ⟨s 5, m (t 10), n, []⟩]) (q (o [⟨s 11, m (t 1), n, []⟩, ⟨s 12, m (t 0), n, []⟩, ⟨s 13, m (t 5), n, []⟩, ⟨s 14, a 2 (t 12) (t 13), n, []⟩, ⟨s 15, d 2 (t 14), n, []⟩, ⟨s 16, k (t 11) [(t 15)], n, []⟩]) (w (t 16) (q (o [⟨s 17, m (t 5), n, []⟩, ⟨s 4, m (t 17), n, []⟩]) .ret) .skip)))) (o [⟨s 18, .bin .add (t 8) (c (i .i64 1)), n, []⟩, ⟨s 8, m (t 18), n, []⟩]))))))) (q (o [⟨s 4, m (c (i .i64 (-1))), n, []⟩]) .ret))) [(.tmp 4)])
def g104 : AFunc := (.code 13 (q (o [⟨s 1, .box (t 0), n, []⟩, ⟨s 2, m (c (.bool false)), n, []⟩]) (q (o [⟨s 3, f 0 (t 1), n, []⟩, ⟨s 4, d 2 (t 3), n, []⟩, ⟨s 5, .build [(g (bs [])), (g (bs []))] [], n, []⟩, ⟨s 6, .eqs false 2 [(0, 2), (1, 2)] (t 4) (t 5), n, []⟩, ⟨s 7, m (t 6), n, []⟩, ⟨s 8, f 2 (t 1), s (7, false), []⟩, ⟨s 9, d 2 (t 8), s (7, false), []⟩, ⟨s 10, .build [(i .u64 0), (i .u64 0)] [], s (7, false), []⟩, ⟨s 11, .eqs false 2 [(0, 1), (1, 1)] (t 9) (t 10), s (7, false), []⟩, ⟨s 12, .pick (t 7) (c (.bool true)) (t 11), n, []⟩, ⟨s 2, m (t 12), n, []⟩]) .ret)) [(.tmp 2)])
def g105 : AFunc := (.code 44 (q (o [⟨s 5, .box (t 2), n, []⟩, ⟨s 6, m (c .nilFunc), n, []⟩]) (q (q (o [⟨s 10, f 0 (t 5), n, []⟩, ⟨s 11, d 2 (t 10), n, []⟩, ⟨s 12, .build [(g (bs [])), (g (bs []))] [], n, []⟩, ⟨s 13, .eqs false 2 [(0, 2), (1, 2)] (t 11) (t 12), n, []⟩]) (w (t 13) (q (o [⟨s 14, .mkFunc 110 [] [(t 5)], n, []⟩, ⟨s 6, m (t 14), n, []⟩]) .ret) .skip)) (q (o [⟨s 16, m (t 0), n, []⟩, ⟨s 17, .nilChk (t 16), n, []⟩, ⟨s 18, f 0 (t 17), n, []⟩, ⟨s 20, f 0 (t 5), n, []⟩, ⟨s 19, d 6 (t 18), n, []⟩, ⟨s 21, d 2 (t 20), n, []⟩, ⟨s 22, k (.func 56) [(t 19), (t 21)], n, []⟩, ⟨s 15, m (t 22), n, []⟩, ⟨s 23, .extract (t 15) 0, n, []⟩, ⟨s 24, .extract (t 15) 1, n, []⟩, ⟨s 7, .alloc [(g (bs [])), (i .i64 0)], n, []⟩, ⟨n, .store 2 (t 7) (t 23), n, []⟩, ⟨s 8, m (t 24), n, []⟩]) (q (q (o [⟨s 25, f 0 (t 5), n, []⟩, ⟨s 26, f 0 (t 25), n, []⟩, ⟨s 27, l (t 26), n, []⟩, ⟨s 28, .bin .eql (t 27) (c (g (bs []))), n, []⟩]) (w (t 28) (q (o [⟨s 29, m (t 1), n, []⟩, ⟨s 30, f 0 (t 5), n, []⟩, ⟨s 31, f 1 (t 30), n, []⟩, ⟨s 32, l (t 31), n, []⟩, ⟨s 33, k (.func 94) [(t 29), (t 32)], n, []⟩, ⟨s 9, m (t 33), n, []⟩]) (q (o [⟨s 34, m (t 9), n, []⟩, ⟨s 35, .bin .geq (t 34) (c (i .i64 0)), n, []⟩]) (w (t 35) (o [⟨s 36, m (t 1), n, []⟩, ⟨s 37, m (t 9), n, []⟩, ⟨s 38, a 2 (t 36) (t 37), n, []⟩, ⟨s 39, d 2 (t 38), n, []⟩, ⟨n, .store 2 (t 7) (t 39), n, []⟩, ⟨s 8, m (c (.bool true)), n, []⟩]) .skip))) .skip)) (q (o [⟨s 40, m (t 0), n, []⟩, ⟨s 41, m (t 8), n, []⟩, ⟨s 42, k (.func 46) [(t 40), (t 41), (c (i .i64 72))], n, []⟩]) (q (o [⟨s 43, .mkFunc 111 [] [(t 7)], n, []⟩, ⟨s 6, m (t 43), n, []⟩]) .ret)))))) [(.tmp 6)])
def g106 : AFunc := (.code 8 (q (o [⟨s 4, m (c (i .i64 0)), n, []⟩]) (q (o [⟨s 5, m (t 0), n, []⟩, ⟨s 6, m (t 1), n, []⟩, ⟨s 7, k (.func 112) [(t 5), (t 6)], n, []⟩, ⟨s 4, m (t 7), n, []⟩]) .ret)) [(.tmp 4)])
def g107 : AFunc := (.code 8 (q (o [⟨s 2, .box (t 0), n, []⟩, ⟨s 3, m (c (.bool false)), n, []⟩]) (q (o [⟨s 4, f 0 (t 2), n, []⟩, ⟨s 5, l (t 4), n, []⟩, ⟨s 6, l (t 1), n, []⟩, ⟨s 7, .bin .eql (t 5) (t 6), n, []⟩, ⟨s 3, m (t 7), n, []⟩]) .ret)) [(.tmp 3)])
def g108 : AFunc := (.code 8 (q (o [⟨s 4, m (c (i .i64 0)), n, []⟩]) (q (o [⟨s 5, m (t 0), n, []⟩, ⟨s 6, m (t 1), n, []⟩, ⟨s 7, k (.func 113) [(t 5), (t 6)], n, []⟩, ⟨s 4, m (t 7), n, []⟩]) .ret)) [(.tmp 4)])
def g109 : AFunc := (.code 8 (q (o [⟨s 2, .box (t 0), n, []⟩, ⟨s 3, m (c (.bool false)), n, []⟩]) (q (o [⟨s 4, f 0 (t 2), n, []⟩, ⟨s 5, l (t 4), n, []⟩, ⟨s 6, l (t 1), n, []⟩, ⟨s 7, .bin .eql (t 5) (t 6), n, []⟩, ⟨s 3, m (t 7), n, []⟩]) .ret)) [(.tmp 3)])
def g110 : AFunc := (.code 8 (q (o [⟨s 3, m (c (.bool false)), n, []⟩]) (q (o [⟨s 4, f 2 (t 1), n, []⟩, ⟨s 5, d 2 (t 4), n, []⟩, ⟨s 6, m (t 0), n, []⟩, ⟨s 7, k (.func 87) [(t 5), (t 6)], n, []⟩, ⟨s 3, m (t 7), n, []⟩]) .ret)) [(.tmp 3)])
def g111 : AFunc := (.code 8 (q (o [⟨s 3, m (c (.bool false)), n, []⟩]) (q (o [⟨s 4, f 1 (t 1), n, []⟩, ⟨s 5, l (t 4), n, []⟩, ⟨s 6, m (t 0), n, []⟩, ⟨s 7, .bin .eql (t 5) (t 6), n, []⟩, ⟨s 3, m (t 7), n, []⟩]) .ret)) [(.tmp 3)])
def g112 : AFunc := (.code 19 (q (o [⟨s 4, m (c (i .i64 0)), n, []⟩]) (q (q (o [⟨s 6, m (t 0), n, []⟩, ⟨s 7, .lenSl (t 6), n, []⟩, ⟨s 8, m (c (i .i64 0)), n, []⟩]) (.block 0 (.loop (q (o [⟨s 9, .bin .lss (t 8) (t 7), n, []⟩]) (q (w (t 9) .skip (.exit 0)) (q (.block 1 (q (o [⟨s 10, m (t 8), n, []⟩, ⟨s 5, m (t 10), n, []⟩]) (q (o [⟨s 11, m (t 1), n, []⟩, ⟨s 12, m (t 0), n, []⟩, ⟨s 13, m (t 5), n, []⟩, ⟨s 14, a 3 (t 12) (t 13), n, []⟩, ⟨s 15, d 3 (t 14), n, []⟩, ⟨s 16, k (t 11) [(t 15)], n, []⟩]) (w (t 16) (q (o [⟨s 17, m (t 5), n, []⟩, ⟨s 4, m (t 17), n, []⟩]) .ret) .skip)))) (o [⟨s 18, .bin .add (t 8) (c (i .i64 1)), n, []⟩, ⟨s 8, m (t 18), n, []⟩]))))))) (q (o [⟨s 4, m (c (i .i64 (-1))), n, []⟩]) .ret))) [(.tmp 4)])
def g113 : AFunc := (.code 19 (q (o [⟨s 4, m (c (i .i64 0)), n, []⟩]) (q (q (o [⟨s 6, m (t 0), n, []⟩, ⟨s 7, .lenSl (t 6), n, []⟩, ⟨s 8, m (c (i .i64 0)), n, []⟩]) (.block 0 (.loop (q (o [⟨s 9, .bin .lss (t 8) (t 7), n, []⟩]) (q (w (t 9) .skip (.exit 0)) (q (.block 1 (q (o [⟨s 10, m (t 8), n, []⟩, ⟨s 5, m (t 10), n, []⟩]) (q (o [⟨s 11, m (t 1), n, []⟩, ⟨s 12, m (t 0), n, []⟩, ⟨s 13, m (t 5), n, []⟩, ⟨s 14, a 2 (t 12) (t 13), n, []⟩, ⟨s 15, d 2 (t 14), n, []⟩, ⟨s 16, k (t 11) [(t 15)], n, []⟩]) (w (t 16) (q (o [⟨s 17, m (t 5), n, []⟩, ⟨s 4, m (t 17), n, []⟩]) .ret) .skip)))) (o [⟨s 18, .bin .add (t 8) (c (i .i64 1)), n, []⟩, ⟨s 8, m (t 18), n, []⟩]))))))) (q (o [⟨s 4, m (c (i .i64 (-1))), n, []⟩]) .ret))) [(.tmp 4)])
end
section
noncomputable def T : Pg := ⟨Try.prog, Try.prog.globals.size⟩
theorem follows : T.P.follows .mixedOrders = true := by kernel_rfl
theorem t3 : Laid T 3 g3 := ⟨Try.f3, Try.func3, by kernel_rfl⟩
theorem t7 : Laid T 7 g7 := ⟨Try.f7, Try.func7, by kernel_rfl⟩
theorem t8 : Laid T 8 g8 := ⟨Try.f8, Try.func8, by kernel_rfl⟩
theorem t9 : Laid T 9 g9 := ⟨Try.f9, Try.func9, by kernel_rfl⟩
theorem t10 : Laid T 10 g10 := ⟨Try.f10, Try.func10, by kernel_rfl⟩
theorem t11 : Laid T 11 g11 := ⟨Try.f11, Try.func11, by kernel_rfl⟩
theorem t12 : Laid T 12 g12 := ⟨Try.f12, Try.func12, by kernel_rfl⟩
theorem t14 : Laid T 14 g14 := ⟨Try.f14, Try.func14, by kernel_rfl⟩
theorem t16 : Laid T 16 g16 := ⟨Try.f16, Try.func16, by kernel_rfl⟩
theorem t18 : Laid T 18 g18 := ⟨Try.f18, Try.func18, by kernel_rfl⟩
theorem t21 : Laid T 21 g21 := ⟨Try.f21, Try.func21, by kernel_rfl⟩
theorem t22 : Laid T 22 g22 := ⟨Try.f22, Try.func22, by kernel_rfl⟩
theorem t23 : Laid T 23 g23 := ⟨Try.f23, Try.func23, by kernel_rfl⟩
theorem t24 : Laid T 24 g24 := ⟨Try.f24, Try.func24, by kernel_rfl⟩
theorem t25 : Laid T 25 g25 := ⟨Try.f25, Try.func25, by kernel_rfl⟩
theorem t26 : Laid T 26 g26 := ⟨Try.f26, Try.func26, by kernel_rfl⟩
theorem t27 : Laid T 27 g27 := ⟨Try.f27, Try.func27, by kernel_rfl⟩
theorem t28 : Laid T 28 g28 := ⟨Try.f28, Try.func28, by kernel_rfl⟩
theorem t29 : Laid T 29 g29 := ⟨Try.f29, Try.func29, by kernel_rfl⟩
theorem t30 : Laid T 30 g30 := ⟨Try.f30, Try.func30, by kernel_rfl⟩
theorem t31 : Laid T 31 g31 := ⟨Try.f31, Try.func31, by kernel_rfl⟩
theorem t32 : Laid T 32 g32 := ⟨Try.f32, Try.func32, by kernel_rfl⟩
theorem t33 : Laid T 33 g33 := ⟨Try.f33, Try.func33, by kernel_rfl⟩
theorem t34 : Laid T 34 g34 := ⟨Try.f34, Try.func34, by kernel_rfl⟩
theorem t35 : Laid T 35 g35 := ⟨Try.f35, Try.func35, by kernel_rfl⟩
theorem t36 : Laid T 36 g36 := ⟨Try.f36, Try.func36, by kernel_rfl⟩
theorem t37 : Laid T 37 g37 := ⟨Try.f37, Try.func37, by kernel_rfl⟩
theorem t38 : Laid T 38 g38 := ⟨Try.f38, Try.func38, by kernel_rfl⟩
theorem t40 : Laid T 40 g40 := ⟨Try.f40, Try.func40, by kernel_rfl⟩
theorem t41 : Laid T 41 g41 := ⟨Try.f41, Try.func41, by kernel_rfl⟩
theorem t42 : Laid T 42 g42 := ⟨Try.f42, Try.func42, by kernel_rfl⟩
theorem t43 : Laid T 43 g43 := ⟨Try.f43, Try.func43, by kernel_rfl⟩
theorem t44 : Laid T 44 g44 := ⟨Try.f44, Try.func44, by kernel_rfl⟩
theorem t45 : Laid T 45 g45 := ⟨Try.f45, Try.func45, by kernel_rfl⟩
theorem t46 : Laid T 46 g46 := ⟨Try.f46, Try.func46, by kernel_rfl⟩
theorem t47 : Laid T 47 g47 := ⟨Try.f47, Try.func47, by kernel_rfl⟩
theorem t48 : Laid T 48 g48 := ⟨Try.f48, Try.func48, by kernel_rfl⟩
theorem t49 : Laid T 49 g49 := ⟨Try.f49, Try.func49, by kernel_rfl⟩
theorem t50 : Laid T 50 g50 := ⟨Try.f50, Try.func50, by kernel_rfl⟩
theorem t51 : Laid T 51 g51 := ⟨Try.f51, Try.func51, by kernel_rfl⟩
theorem t52 : Laid T 52 g52 := ⟨Try.f52, Try.func52, by kernel_rfl⟩
theorem t53 : Laid T 53 g53 := ⟨Try.f53, Try.func53, by kernel_rfl⟩
theorem t54 : Laid T 54 g54 := ⟨Try.f54, Try.func54, by kernel_rfl⟩
theorem t55 : Laid T 55 g55 := ⟨Try.f55, Try.func55, by kernel_rfl⟩
theorem t56 : Laid T 56 g56 := ⟨Try.f56, Try.func56, by kernel_rfl⟩
theorem t57 : Laid T 57 g57 := ⟨Try.f57, Try.func57, by kernel_rfl⟩
theorem t58 : Laid T 58 g58 := ⟨Try.f58, Try.func58, by kernel_rfl⟩
theorem t59 : Laid T 59 g59 := ⟨Try.f59, Try.func59, by kernel_rfl⟩
theorem t60 : Laid T 60 g60 := ⟨Try.f60, Try.func60, by kernel_rfl⟩
theorem t61 : Laid T 61 g61 := ⟨Try.f61, Try.func61, by kernel_rfl⟩
theorem t62 : Laid T 62 g62 := ⟨Try.f62, Try.func62, by kernel_rfl⟩
theorem t63 : Laid T 63 g63 := ⟨Try.f63, Try.func63, by kernel_rfl⟩
theorem t64 : Laid T 64 g64 := ⟨Try.f64, Try.func64, by kernel_rfl⟩
theorem t65 : Laid T 65 g65 := ⟨Try.f65, Try.func65, by kernel_rfl⟩
theorem t66 : Laid T 66 g66 := ⟨Try.f66, Try.func66, by kernel_rfl⟩
theorem t67 : Laid T 67 g67 := ⟨Try.f67, Try.func67, by kernel_rfl⟩
theorem t68 : Laid T 68 g68 := ⟨Try.f68, Try.func68, by kernel_rfl⟩
theorem t69 : Laid T 69 g69 := ⟨Try.f69, Try.func69, by kernel_rfl⟩
theorem t70 : Laid T 70 g70 := ⟨Try.f70, Try.func70, by kernel_rfl⟩
theorem t71 : Laid T 71 g71 := ⟨Try.f71, Try.func71, by kernel_rfl⟩
theorem t72 : Laid T 72 g72 := ⟨Try.f72, Try.func72, by kernel_rfl⟩
theorem t73 : Laid T 73 g73 := ⟨Try.f73, Try.func73, by kernel_rfl⟩
theorem t74 : Laid T 74 g74 := ⟨Try.f74, Try.func74, by kernel_rfl⟩
theorem t75 : Laid T 75 g75 := ⟨Try.f75, Try.func75, by kernel_rfl⟩
theorem t76 : Laid T 76 g76 := ⟨Try.f76, Try.func76, by kernel_rfl⟩
theorem t77 : Laid T 77 g77 := ⟨Try.f77, Try.func77, by kernel_rfl⟩
theorem t78 : Laid T 78 g78 := ⟨Try.f78, Try.func78, by kernel_rfl⟩
theorem t79 : Laid T 79 g79 := ⟨Try.f79, Try.func79, by kernel_rfl⟩
theorem t80 : Laid T 80 g80 := ⟨Try.f80, Try.func80, by kernel_rfl⟩
theorem t81 : Laid T 81 g81 := ⟨Try.f81, Try.func81, by kernel_rfl⟩
theorem t82 : Laid T 82 g82 := ⟨Try.f82, Try.func82, by kernel_rfl⟩
theorem t83 : Laid T 83 g83 := ⟨Try.f83, Try.func83, by kernel_rfl⟩
theorem t84 : Laid T 84 g84 := ⟨Try.f84, Try.func84, by kernel_rfl⟩
theorem t85 : Laid T 85 g85 := ⟨Try.f85, Try.func85, by kernel_rfl⟩
theorem t86 : Laid T 86 g86 := ⟨Try.f86, Try.func86, by kernel_rfl⟩
theorem t87 : Laid T 87 g87 := ⟨Try.f87, Try.func87, by kernel_rfl⟩
theorem t88 : Laid T 88 g88 := ⟨Try.f88, Try.func88, by kernel_rfl⟩
theorem t89 : Laid T 89 g89 := ⟨Try.f89, Try.func89, by kernel_rfl⟩
theorem t90 : Laid T 90 g90 := ⟨Try.f90, Try.func90, by kernel_rfl⟩
theorem t91 : Laid T 91 g91 := ⟨Try.f91, Try.func91, by kernel_rfl⟩
theorem t92 : Laid T 92 g92 := ⟨Try.f92, Try.func92, by kernel_rfl⟩
theorem t93 : Laid T 93 g93 := ⟨Try.f93, Try.func93, by kernel_rfl⟩
theorem t94 : Laid T 94 g94 := ⟨Try.f94, Try.func94, by kernel_rfl⟩
theorem t95 : Laid T 95 g95 := ⟨Try.f95, Try.func95, by kernel_rfl⟩
theorem t96 : Laid T 96 g96 := ⟨Try.f96, Try.func96, by kernel_rfl⟩
theorem t97 : Laid T 97 g97 := ⟨Try.f97, Try.func97, by kernel_rfl⟩
theorem t98 : Laid T 98 g98 := ⟨Try.f98, Try.func98, by kernel_rfl⟩
theorem t99 : Laid T 99 g99 := ⟨Try.f99, Try.func99, by kernel_rfl⟩
theorem t100 : Laid T 100 g100 := ⟨Try.f100, Try.func100, by kernel_rfl⟩
theorem t101 : Laid T 101 g101 := ⟨Try.f101, Try.func101, by kernel_rfl⟩
theorem t102 : Laid T 102 g102 := ⟨Try.f102, Try.func102, by kernel_rfl⟩
theorem t103 : Laid T 103 g103 := ⟨Try.f103, Try.func103, by kernel_rfl⟩
theorem t104 : Laid T 104 g104 := ⟨Try.f104, Try.func104, by kernel_rfl⟩
theorem t105 : Laid T 105 g105 := ⟨Try.f105, Try.func105, by kernel_rfl⟩
theorem t106 : Laid T 106 g106 := ⟨Try.f106, Try.func106, by kernel_rfl⟩
theorem t107 : Laid T 107 g107 := ⟨Try.f107, Try.func107, by kernel_rfl⟩
theorem t108 : Laid T 108 g108 := ⟨Try.f108, Try.func108, by kernel_rfl⟩
theorem t109 : Laid T 109 g109 := ⟨Try.f109, Try.func109, by kernel_rfl⟩
theorem t110 : Laid T 110 g110 := ⟨Try.f110, Try.func110, by kernel_rfl⟩
theorem t111 : Laid T 111 g111 := ⟨Try.f111, Try.func111, by kernel_rfl⟩
theorem t112 : Laid T 112 g112 := ⟨Try.f112, Try.func112, by kernel_rfl⟩
theorem t113 : Laid T 113 g113 := ⟨Try.f113, Try.func113, by kernel_rfl⟩
def Tab : Table := fun f =>
 match f with
 | 3 => some g3
 | 7 => some g7
 | 8 => some g8
 | 9 => some g9
 | 10 => some g10
 | 11 => some g11
 | 12 => some g12
 | 14 => some g14
 | 16 => some g16
 | 18 => some g18
 | 21 => some g21
 | 22 => some g22
 | 23 => some g23
 | 24 => some g24
 | 25 => some g25
 | 26 => some g26
 | 27 => some g27
 | 28 => some g28
 | 29 => some g29
 | 30 => some g30
 | 31 => some g31
 | 32 => some g32
 | 33 => some g33
 | 34 => some g34
 | 35 => some g35
 | 36 => some g36
 | 37 => some g37
 | 38 => some g38
 | 40 => some g40
 | 41 => some g41
 | 42 => some g42
 | 43 => some g43
 | 44 => some g44
 | 45 => some g45
 | 46 => some g46
 | 47 => some g47
 | 48 => some g48
 | 49 => some g49
 | 50 => some g50
 | 51 => some g51
 | 52 => some g52
 | 53 => some g53
 | 54 => some g54
 | 55 => some g55
 | 56 => some g56
 | 57 => some g57
 | 58 => some g58
 | 59 => some g59
 | 60 => some g60
 | 61 => some g61
 | 62 => some g62
 | 63 => some g63
 | 64 => some g64
 | 65 => some g65
 | 66 => some g66
 | 67 => some g67
 | 68 => some g68
 | 69 => some g69
 | 70 => some g70
 | 71 => some g71
 | 72 => some g72
 | 73 => some g73
 | 74 => some g74
 | 75 => some g75
 | 76 => some g76
 | 77 => some g77
 | 78 => some g78
 | 79 => some g79
 | 80 => some g80
 | 81 => some g81
 | 82 => some g82
 | 83 => some g83
 | 84 => some g84
 | 85 => some g85
 | 86 => some g86
 | 87 => some g87
 | 88 => some g88
 | 89 => some g89
 | 90 => some g90
 | 91 => some g91
 | 92 => some g92
 | 93 => some g93
 | 94 => some g94
 | 95 => some g95
 | 96 => some g96
 | 97 => some g97
 | 98 => some g98
 | 99 => some g99
 | 100 => some g100
 | 101 => some g101
 | 102 => some g102
 | 103 => some g103
 | 104 => some g104
 | 105 => some g105
 | 106 => some g106
 | 107 => some g107
 | 108 => some g108
 | 109 => some g109
 | 110 => some g110
 | 111 => some g111
 | 112 => some g112
 | 113 => some g113
 | _ => none
theorem table_ok : TableOK T.P T.G Tab := by
 intro f af h
 unfold Tab at h
 split at h
 ·cases h; exact t3
 ·cases h; exact t7
 ·cases h; exact t8
 ·cases h; exact t9
 ·cases h; exact t10
 ·cases h; exact t11
 ·cases h; exact t12
 ·cases h; exact t14
 ·cases h; exact t16
 ·cases h; exact t18
 ·cases h; exact t21
 ·cases h; exact t22
 ·cases h; exact t23
 ·cases h; exact t24
 ·cases h; exact t25
 ·cases h; exact t26
 ·cases h; exact t27
 ·cases h; exact t28
 ·cases h; exact t29
 ·cases h; exact t30
 ·cases h; exact t31
 ·cases h; exact t32
 ·cases h; exact t33
 ·cases h; exact t34
 ·cases h; exact t35
 ·cases h; exact t36
 ·cases h; exact t37
 ·cases h; exact t38
 ·cases h; exact t40
 ·cases h; exact t41
 ·cases h; exact t42
 ·cases h; exact t43
 ·cases h; exact t44
 ·cases h; exact t45
 ·cases h; exact t46
 ·cases h; exact t47
 ·cases h; exact t48
 ·cases h; exact t49
 ·cases h; exact t50
 ·cases h; exact t51
 ·cases h; exact t52
 ·cases h; exact t53
 ·cases h; exact t54
 ·cases h; exact t55
 ·cases h; exact t56
 ·cases h; exact t57
 ·cases h; exact t58
 ·cases h; exact t59
 ·cases h; exact t60
 ·cases h; exact t61
 ·cases h; exact t62
 ·cases h; exact t63
 ·cases h; exact t64
 ·cases h; exact t65
 ·cases h; exact t66
 ·cases h; exact t67
 ·cases h; exact t68
 ·cases h; exact t69
 ·cases h; exact t70
 ·cases h; exact t71
 ·cases h; exact t72
 ·cases h; exact t73
 ·cases h; exact t74
 ·cases h; exact t75
 ·cases h; exact t76
 ·cases h; exact t77
 ·cases h; exact t78
 ·cases h; exact t79
 ·cases h; exact t80
 ·cases h; exact t81
 ·cases h; exact t82
 ·cases h; exact t83
 ·cases h; exact t84
 ·cases h; exact t85
 ·cases h; exact t86
 ·cases h; exact t87
 ·cases h; exact t88
 ·cases h; exact t89
 ·cases h; exact t90
 ·cases h; exact t91
 ·cases h; exact t92
 ·cases h; exact t93
 ·cases h; exact t94
 ·cases h; exact t95
 ·cases h; exact t96
 ·cases h; exact t97
 ·cases h; exact t98
 ·cases h; exact t99
 ·cases h; exact t100
 ·cases h; exact t101
 ·cases h; exact t102
 ·cases h; exact t103
 ·cases h; exact t104
 ·cases h; exact t105
 ·cases h; exact t106
 ·cases h; exact t107
 ·cases h; exact t108
 ·cases h; exact t109
 ·cases h; exact t110
 ·cases h; exact t111
 ·cases h; exact t112
 ·cases h; exact t113
 ·cases h
end
section
variable {R : FRes → Heap → Prop} {H : Heap}
def isTrue : Option (FRes × Heap) → Bool
 | some (.ret (.bool true), _) => true
 | _ => false
theorem of_isTrue {x : Option (FRes × Heap)} (h : isTrue x = true) : ∃ H1, x = some (.ret (.bool true), H1) := by
 unfold isTrue at h
 split at h
 ·exact ⟨_, rfl⟩
 ·cases h
def H0 : Heap := []
theorem globs : T.G ≤ H0.length := by
 have : T.G = 0 := by unfold T; kernel_rfl
 rw [this]
 exact Nat.le_refl _
/-- A call that is evaluated over nothing. -/
theorem WD.frameD {f : FuncId} {args : List Value} {H0 H : Heap} {v : Value} (hp : ∃ g, H = H0 ++ g) (hG : T.G ≤ H0.length) (hro : ∀ o ∈ H0, o = .dead)
  (hargs : ∀ a ∈ args, closedV a = true) (hv : Scoped T.G v) (h : WD T f args H0 (fun r _ => r = .ret v)) {R : FRes → Heap → Prop} (hR : R (.ret v) H) : WD T f args H R := by
 obtain ⟨g, rfl⟩ := hp
 intro ρ w args' hr ha
 have hr0 : Rel T.G ρ H0 w := by
  refine ⟨fun b o ho => ?_, fun b c o u hb hc hne hw hl => ?_, hr.glob, hG⟩
  ·obtain rfl := hro o (List.mem_of_getElem? ho)
   exact trivial
  ·obtain rfl := hro o (List.mem_of_getElem? hb)
   cases hw
 have ha0 : VL H0.length ρ args args'.toList := ⟨ha.1, fun i x y hx hy => (ha.2 i x y hx hy).narrow (.closed (hargs x (List.mem_of_getElem? hx)))⟩
 have nofoot : ∀ c, ¬ Foot ρ H0 c := by
  rintro c ⟨b, o, hb, hw, _⟩
  obtain rfl := hro o (List.mem_of_getElem? hb)
  cases hw
 have hkk : ∀ en w1, (∃ r H1, r = .ret v ∧ RetOK T.G ρ H0 w r H1 en w1) → ∃ r H1, R r H1 ∧ RetOK T.G ρ (H0 ++ g) w r H1 en w1 := by
  rintro en w1 ⟨r, H1, rfl, ρ1, hs, v', rfl, hvr⟩
  have hold : ∀ c, c < w.heap.size → w1.heap[c]? = w.heap[c]? := fun c hc => hs.frame c hc (nofoot c)
  refine ⟨_, _, hR, ρ, ⟨⟨fun b o ho => ?_, hr.inj, hr.glob, hr.many⟩, Nat.le_refl _, fun _ _ => rfl, hs.os, hs.tape, hs.output, hs.size, fun c hc _ => hold c hc, fun c hc => .inl hc, hs.loops, fun c u hu hl => .inl ⟨u, hu, hl⟩⟩, v', rfl, ?_⟩
  ·exact (hr.obj b o ho).mono (Nat.le_refl _) rfl (fun _ _ => rfl) (fun hl => hold _ (lt_of_live (hr.obj b o ho) hl))
  ·have h1 : VR T.G ρ1 v v' := hvr.narrow hv
   refine (h1.mono (Nat.le_refl _) fun b hb => ?_).mono (by have := hr.many; omega) fun _ _ => rfl
   exact (hr.glob b hb).trans (hs.rel.glob b hb).symm
 rcases h ρ w args' hr0 ha0 with ⟨v', h1, h2⟩ | ⟨h1, h2⟩
 ·exact .inl ⟨v', h1, hkk _ _ h2⟩
 ·exact .inr ⟨h1, h2.mono hkk⟩
end
section
variable {R : FRes → Heap → Prop} {H : Heap}
/-! ### Lists that nobody writes -/
def RoSl (H : Heap) (v : Value) (css : List (List Value)) : Prop :=
 (css = [] ∧ (v = .slice none 0 0 ∨ ∃ b o k, v = .slice (some ⟨b, o, some k⟩) 0 0)) ∨ (∃ b, v = .slice (some ⟨b, 0, none⟩) css.length css.length ∧ b < H.length ∧ ∃ (u : Nat) (wr : Bool), hget H b = .row css.flatten u wr)
/-- What stood stays. -/
def Base (H K : Heap) : Prop := H.length ≤ K.length ∧ ∀ c, c < H.length → hget K c = hget H c
theorem Base.refl : Base H H := ⟨Nat.le_refl _, fun _ _ => rfl⟩
theorem Base.trans {K L : Heap} (h : Base H K) (g : Base K L) : Base H L := ⟨Nat.le_trans h.1 g.1, fun c hc => (g.2 c (Nat.lt_of_lt_of_le hc h.1)).trans (h.2 c hc)⟩
theorem Base.app {K : Heap} (h : Base H K) (g : Heap) : Base H (K ++ g) := ⟨by have := h.1; simp; omega, fun c hc => (hget_old (Nat.lt_of_lt_of_le hc h.1)).trans (h.2 c hc)⟩
theorem Base.app0 (g : Heap) : Base H (H ++ g) := Base.refl.app g
theorem Base.set {K : Heap} (h : Base H K) {b : Nat} {o : AObj} (hb : H.length ≤ b) : Base H (K.set b o) := ⟨by have := h.1; simp; omega, fun c hc => by rw [hget_ne (by omega)]; exact h.2 c hc⟩
theorem Base.ext {K : Heap} (h : Base H K) : ∃ g, K = H ++ g := by
 obtain ⟨h1, h2⟩ := h
 refine ⟨K.drop H.length, List.ext_getElem? fun j => ?_⟩
 by_cases hj : j < H.length
 ·rw [List.getElem?_append_left hj]
  have := h2 j hj
  simp only [hget, List.getElem?_eq_getElem hj, List.getElem?_eq_getElem (Nat.lt_of_lt_of_le hj h1)] at this ⊢
  simpa using this
 ·rw [List.getElem?_append_right (by omega), List.getElem?_drop, Nat.add_sub_cancel' (by omega)]
theorem RoSl.base {K : Heap} {v : Value} {css : List (List Value)} (h : RoSl H v css) (hb : Base H K) : RoSl K v css := by
 rcases h with h | ⟨b, h2, h3, u, wr, h4⟩
 ·exact .inl h
 ·exact .inr ⟨b, h2, Nat.lt_of_lt_of_le h3 hb.1, u, wr, by rw [hb.2 b h3]; exact h4⟩
theorem RoSl.sl {v : Value} {css : List (List Value)} (h : RoSl H v css) : ∃ ad, v = .slice ad css.length css.length := by
 rcases h with ⟨rfl, rfl | ⟨b, o, k, rfl⟩⟩ | ⟨b, rfl, _⟩
 ·exact ⟨_, rfl⟩
 ·exact ⟨_, rfl⟩
 ·exact ⟨_, rfl⟩
theorem RoSl.one {v : Value} {css : List (List Value)} (h : RoSl H v css) : oneCell v = true := by
 obtain ⟨ad, rfl⟩ := h.sl
 rfl
theorem flat_len_u {u : Nat} : ∀ {css : List (List Value)}, (∀ cs ∈ css, cs.length = u) → css.flatten.length = css.length * u
 | [], _ => by simp
 | cs :: css, h => by
  rw [List.flatten_cons, List.length_append, h cs (by simp), flat_len_u fun q hq => h q (by simp [hq]), List.length_cons, Nat.succ_mul, Nat.add_comm]
theorem flat_cut {u : Nat} : ∀ {css : List (List Value)} (i : Nat), (∀ cs ∈ css, cs.length = u) → (hi : i < css.length) → ((css.flatten).drop (i * u)).take u = css[i]
 | [], i, _, hi => by simp at hi
 | cs :: css, 0, h, _ => by
  have := h cs (by simp)
  simp [List.take_append, this]
  try rw [← this, List.take_length]
 | cs :: css, i + 1, h, hi => by
  have h1 := h cs (by simp)
  rw [List.flatten_cons, List.drop_append, List.drop_eq_nil_of_le (by rw [h1, Nat.succ_mul]; omega), h1, Nat.succ_mul, Nat.add_sub_cancel, List.nil_append]
  simpa using flat_cut i (fun q hq => h q (by simp [hq])) (by simpa using hi)
/-- One element of such a list. -/
theorem RoSl.at {α : Type} {u : Nat} {n m : Nat} {ad : Option Addr} {f : α → List Value} {l : List α} (h : RoSl H (.slice ad n m) (l.map f)) (hu : ∀ x, (f x).length = u) {i : Nat} (hi : i < l.length) :
  ∃ (b u0 : Nat) (w0 : Bool), ad = some ⟨b, 0, none⟩ ∧ b < H.length ∧ hget H b = .row (l.map f).flatten u0 w0 ∧ (((l.map f).flatten).drop (i * u)).take u = f l[i] ∧ i * u + u ≤ ((l.map f).flatten).length ∧ ∀ j, j < u → ((l.map f).flatten)[i * u + j]? = (f l[i])[j]? := by
 have hu2 : ∀ cs ∈ l.map f, cs.length = u := fun cs hc => by obtain ⟨x, _, rfl⟩ := List.mem_map.1 hc; exact hu x
 rcases h with ⟨h1, _⟩ | ⟨b, h2, h3, u0, w0, h4⟩
 ·rw [List.map_eq_nil_iff] at h1; subst h1; simp at hi
 ·injection h2 with e
  have hc := flat_cut (u := u) i hu2 (by simpa using hi)
  rw [List.getElem_map] at hc
  refine ⟨b, u0, w0, e, h3, h4, hc, ?_, fun j hj => ?_⟩
  ·rw [flat_len_u hu2, List.length_map]
   have : (i + 1) * u ≤ l.length * u := Nat.mul_le_mul_right _ hi
   rw [Nat.succ_mul] at this
   exact this
  ·have := congrArg (fun q : List Value => q[j]?) hc
   simp only [List.getElem?_take_of_lt hj, List.getElem?_drop] at this
   exact this
/-! ### The things of a schema, and their cells -/
structure Fld where (name : List UInt8) (width : Int)
structure Hdr where (name : List UInt8) (fv : Value) (fields : List Fld)
structure Rf where (head name : List UInt8)
structure Bt where (hi lo : Nat)
structure Cas where (value mask : Bt) (next : List UInt8)
structure Sta where (name header : List UInt8) (on : Rf) (cv : Value) (cases : List Cas) (next : List UInt8)
structure Opd where (ref : Rf) (const : Bt)
structure Stp where (kind : Int) (to : Rf) (op : Int) (a b : Opd)
structure Act where (name : List UInt8) (pv : Value) (params : List Fld) (sv : Value) (steps : List Stp)
structure Ky where (ref : Rf) (kind : Int)
structure Tbl where (name : List UInt8) (kv : Value) (keys : List Ky) (av : Value) (actions : List (List UInt8)) (size : Int) (dact : List UInt8) (dv : Value) (dargs : List Bt) (fixed : Bool)
structure Tst where (kind : Int) (a b : Opd)
inductive St where
 | mk (kind : Int) (table : List UInt8) (test : Tst) (va vb : Value) (thn els : List St)
structure Sch where (hv mv sv av tv cv : Value) (headers : List Hdr) (mets : List Fld) (states : List Sta) (actions : List Act) (tables : List Tbl) (control : List St)
instance : DecidableEq Fld := fun ⟨a0, a1⟩ ⟨b0, b1⟩ => if h : a0 = b0 ∧ a1 = b1 then Decidable.isTrue (by obtain ⟨rfl, rfl⟩ := h; rfl) else Decidable.isFalse fun e => h (by cases e; exact ⟨rfl, rfl⟩)
instance : DecidableEq Rf := fun ⟨a0, a1⟩ ⟨b0, b1⟩ => if h : a0 = b0 ∧ a1 = b1 then Decidable.isTrue (by obtain ⟨rfl, rfl⟩ := h; rfl) else Decidable.isFalse fun e => h (by cases e; exact ⟨rfl, rfl⟩)
instance : DecidableEq Bt := fun ⟨a0, a1⟩ ⟨b0, b1⟩ => if h : a0 = b0 ∧ a1 = b1 then Decidable.isTrue (by obtain ⟨rfl, rfl⟩ := h; rfl) else Decidable.isFalse fun e => h (by cases e; exact ⟨rfl, rfl⟩)
instance : DecidableEq Cas := fun ⟨a0, a1, a2⟩ ⟨b0, b1, b2⟩ => if h : a0 = b0 ∧ a1 = b1 ∧ a2 = b2 then Decidable.isTrue (by obtain ⟨rfl, rfl, rfl⟩ := h; rfl) else Decidable.isFalse fun e => h (by cases e; exact ⟨rfl, rfl, rfl⟩)
instance : DecidableEq Opd := fun ⟨a0, a1⟩ ⟨b0, b1⟩ => if h : a0 = b0 ∧ a1 = b1 then Decidable.isTrue (by obtain ⟨rfl, rfl⟩ := h; rfl) else Decidable.isFalse fun e => h (by cases e; exact ⟨rfl, rfl⟩)
instance : DecidableEq Stp := fun ⟨a0, a1, a2, a3, a4⟩ ⟨b0, b1, b2, b3, b4⟩ => if h : a0 = b0 ∧ a1 = b1 ∧ a2 = b2 ∧ a3 = b3 ∧ a4 = b4 then Decidable.isTrue (by obtain ⟨rfl, rfl, rfl, rfl, rfl⟩ := h; rfl) else Decidable.isFalse fun e => h (by cases e; exact ⟨rfl, rfl, rfl, rfl, rfl⟩)
instance : DecidableEq Ky := fun ⟨a0, a1⟩ ⟨b0, b1⟩ => if h : a0 = b0 ∧ a1 = b1 then Decidable.isTrue (by obtain ⟨rfl, rfl⟩ := h; rfl) else Decidable.isFalse fun e => h (by cases e; exact ⟨rfl, rfl⟩)
instance : DecidableEq Tst := fun ⟨a0, a1, a2⟩ ⟨b0, b1, b2⟩ => if h : a0 = b0 ∧ a1 = b1 ∧ a2 = b2 then Decidable.isTrue (by obtain ⟨rfl, rfl, rfl⟩ := h; rfl) else Decidable.isFalse fun e => h (by cases e; exact ⟨rfl, rfl, rfl⟩)
def txC (t : List UInt8) : List Value := [.string (bs t)]
def Fld.cells (x : Fld) : List Value := [.string (bs x.name), .int .i64 x.width]
def Hdr.cells (x : Hdr) : List Value := [.string (bs x.name), x.fv]
def Rf.cells (x : Rf) : List Value := [.string (bs x.head), .string (bs x.name)]
def Bt.cells (x : Bt) : List Value := [.int .u64 (x.hi : Int), .int .u64 (x.lo : Int)]
def Cas.cells (x : Cas) : List Value := [.int .u64 (x.value.hi : Int), .int .u64 (x.value.lo : Int), .int .u64 (x.mask.hi : Int), .int .u64 (x.mask.lo : Int), .string (bs x.next)]
def Sta.cells (x : Sta) : List Value := [.string (bs x.name), .string (bs x.header), .string (bs x.on.head), .string (bs x.on.name), x.cv, .string (bs x.next)]
def Opd.cells (x : Opd) : List Value := [.string (bs x.ref.head), .string (bs x.ref.name), .int .u64 (x.const.hi : Int), .int .u64 (x.const.lo : Int)]
def Stp.cells (x : Stp) : List Value := [.int .i64 x.kind, .string (bs x.to.head), .string (bs x.to.name), .int .i64 x.op, .string (bs x.a.ref.head), .string (bs x.a.ref.name), .int .u64 (x.a.const.hi : Int), .int .u64 (x.a.const.lo : Int), .string (bs x.b.ref.head), .string (bs x.b.ref.name), .int .u64 (x.b.const.hi : Int), .int .u64 (x.b.const.lo : Int)]
def Act.cells (x : Act) : List Value := [.string (bs x.name), x.pv, x.sv]
def Ky.cells (x : Ky) : List Value := [.string (bs x.ref.head), .string (bs x.ref.name), .int .i64 x.kind]
def Tbl.cells (x : Tbl) : List Value := [.string (bs x.name), x.kv, x.av, .int .i64 x.size, .string (bs x.dact), x.dv, .bool x.fixed]
def Tst.cells (x : Tst) : List Value := [.int .i64 x.kind, .string (bs x.a.ref.head), .string (bs x.a.ref.name), .int .u64 (x.a.const.hi : Int), .int .u64 (x.a.const.lo : Int), .string (bs x.b.ref.head), .string (bs x.b.ref.name), .int .u64 (x.b.const.hi : Int), .int .u64 (x.b.const.lo : Int)]
def St.cells : St → List Value | .mk k t c va vb _ _ => [.int .i64 k, .string (bs t)] ++ c.cells ++ [va, vb]
def Sch.cells (x : Sch) : List Value := [x.hv, x.mv, x.sv, x.av, x.tv, x.cv]
/-! ### In memory, and of the size that numbers have -/
def I64 (n : Int) : Prop := -9223372036854775808 ≤ n ∧ n < 9223372036854775808
def U64 (n : Nat) : Prop := n < 18446744073709551616
/-- So many of so many bytes have room. -/
def few (b n : Nat) : Prop := n * b ≤ 140737488355328
def Fld.OK (x : Fld) : Prop := I64 x.width
def Bt.OK (x : Bt) : Prop := U64 x.hi ∧ U64 x.lo
def Opd.OK (x : Opd) : Prop := x.const.OK
def FldL (H : Heap) (v : Value) (l : List Fld) : Prop := RoSl H v (l.map Fld.cells) ∧ few 24 l.length ∧ ∀ x ∈ l, x.OK
def BtL (H : Heap) (v : Value) (l : List Bt) : Prop := RoSl H v (l.map Bt.cells) ∧ few 16 l.length ∧ ∀ x ∈ l, x.OK
def TxL (H : Heap) (v : Value) (l : List (List UInt8)) : Prop := RoSl H v (l.map txC) ∧ few 16 l.length
def Hdr.OK (H : Heap) (x : Hdr) : Prop := FldL H x.fv x.fields
def Cas.OK (x : Cas) : Prop := x.value.OK ∧ x.mask.OK
def Sta.OK (H : Heap) (x : Sta) : Prop := RoSl H x.cv (x.cases.map Cas.cells) ∧ few 48 x.cases.length ∧ ∀ y ∈ x.cases, y.OK
def Stp.OK (x : Stp) : Prop := I64 x.kind ∧ I64 x.op ∧ x.a.OK ∧ x.b.OK
def Act.OK (H : Heap) (x : Act) : Prop := FldL H x.pv x.params ∧ RoSl H x.sv (x.steps.map Stp.cells) ∧ few 144 x.steps.length ∧ ∀ y ∈ x.steps, y.OK
def Ky.OK (x : Ky) : Prop := I64 x.kind
def Tbl.OK (H : Heap) (x : Tbl) : Prop := (RoSl H x.kv (x.keys.map Ky.cells) ∧ few 40 x.keys.length ∧ ∀ y ∈ x.keys, y.OK) ∧ TxL H x.av x.actions ∧ I64 x.size ∧ BtL H x.dv x.dargs
mutual
def StOK (H : Heap) : St → Prop
 | .mk k t c va vb a b => (I64 k ∧ I64 c.kind ∧ c.a.OK ∧ c.b.OK) ∧ StSl H a va ∧ StSl H b vb
def StSl (H : Heap) : List St → Value → Prop
 | [], v => RoSl H v []
 | s :: l, v => (∃ (b : Nat), v = .slice (some ⟨b, 0, none⟩) (l.length + 1) (l.length + 1) ∧ b < H.length ∧ ∃ (u : Nat) (wr : Bool), hget H b = .row ((s :: l).map St.cells).flatten u wr) ∧ few 176 (l.length + 1) ∧ StOK H s ∧ StOKs H l
def StOKs (H : Heap) : List St → Prop
 | [] => True
 | s :: l => StOK H s ∧ StOKs H l
end
structure Sch.OK (H : Heap) (x : Sch) : Prop where
 hs : RoSl H x.hv (x.headers.map Hdr.cells) ∧ few 40 x.headers.length ∧ ∀ y ∈ x.headers, y.OK H
 ms : FldL H x.mv x.mets
 ss : RoSl H x.sv (x.states.map Sta.cells) ∧ few 104 x.states.length ∧ ∀ y ∈ x.states, y.OK H
 acs : RoSl H x.av (x.actions.map Act.cells) ∧ few 64 x.actions.length ∧ ∀ y ∈ x.actions, y.OK H
 ts : RoSl H x.tv (x.tables.map Tbl.cells) ∧ few 120 x.tables.length ∧ ∀ y ∈ x.tables, y.OK H
 cs : StSl H x.control x.cv
theorem Fld.len (x : Fld) : x.cells.length = 2 := rfl
theorem Hdr.len (x : Hdr) : x.cells.length = 2 := rfl
theorem Act.len (x : Act) : x.cells.length = 3 := rfl
theorem Tbl.len (x : Tbl) : x.cells.length = 7 := rfl
theorem Sta.len (x : Sta) : x.cells.length = 6 := rfl
theorem Cas.len (x : Cas) : x.cells.length = 5 := rfl
theorem Stp.len (x : Stp) : x.cells.length = 12 := rfl
theorem Ky.len (x : Ky) : x.cells.length = 3 := rfl
theorem Bt.len (x : Bt) : x.cells.length = 2 := rfl
theorem txC_len (t : List UInt8) : (txC t).length = 1 := rfl
theorem St.len (x : St) : x.cells.length = 13 := by cases x; rfl
theorem StSl.one {l : List St} {v : Value} (h : StSl H l v) : oneCell v = true := by
 cases l with
 | nil => simp only [StSl] at h; exact h.one
 | cons x l => simp only [StSl] at h; obtain ⟨⟨b, rfl, _⟩, _⟩ := h; rfl
theorem Sch.OK.one {s : Sch} (h : s.OK H) : oneCell s.hv = true ∧ oneCell s.mv = true ∧ oneCell s.sv = true ∧ oneCell s.av = true ∧ oneCell s.tv = true ∧ oneCell s.cv = true :=
 ⟨h.hs.1.one, h.ms.1.one, h.ss.1.one, h.acs.1.one, h.ts.1.one, h.cs.one⟩
theorem Hdr.OK.one {x : Hdr} (h : x.OK H) : oneCell x.fv = true := h.1.one
theorem Act.OK.one {x : Act} (h : x.OK H) : oneCell x.pv = true ∧ oneCell x.sv = true := ⟨h.1.1.one, h.2.1.one⟩
theorem Tbl.OK.one {x : Tbl} (h : x.OK H) : oneCell x.kv = true ∧ oneCell x.av = true ∧ oneCell x.dv = true := ⟨h.1.1.one, h.2.1.1.one, h.2.2.2.1.one⟩
theorem Sta.OK.one {x : Sta} (h : x.OK H) : oneCell x.cv = true := h.1.one
/-- At which place a text stands first; -1: it does not. -/
def ixT (t : List UInt8) : List (List UInt8) → Nat → Int
 | [], _ => -1
 | x :: l, i => if x = t then (i : Int) else ixT t l (i + 1)
theorem ixT_drop {t : List UInt8} {l : List (List UInt8)} {i : Nat} (hi : i < l.length) : ixT t (l.drop i) i = if l[i] = t then (i : Int) else ixT t (l.drop (i + 1)) (i + 1) := by
 rw [List.drop_eq_getElem_cons hi, ixT]
theorem ixT_end {t : List UInt8} {l : List (List UInt8)} {i : Nat} (hi : l.length ≤ i) : ixT t (l.drop i) i = -1 := by
 rw [List.drop_eq_nil_of_le hi, ixT]
theorem ixT_get : ∀ (t : List UInt8) (l : List (List UInt8)) (i : Nat), (ixT t l i = -1 ∧ ¬ t ∈ l) ∨ ∃ j, ∃ h : j < l.length, ixT t l i = ((i + j : Nat) : Int) ∧ l[j] = t
 | t, [], i => .inl ⟨rfl, by simp⟩
 | t, x :: l, i => by
  by_cases h : x = t
  ·exact .inr ⟨0, by simp, by rw [ixT, if_pos h]; rfl, h⟩
  ·rcases ixT_get t l (i + 1) with ⟨e, hn⟩ | ⟨j, hj, e, hg⟩
   ·exact .inl ⟨by rw [ixT, if_neg h]; exact e, by simp [hn]; exact fun q => h q.symm⟩
   ·exact .inr ⟨j + 1, by simpa using hj, by rw [ixT, if_neg h, e]; congr 1; omega, by simpa using hg⟩
end
section
variable {R : FRes → Heap → Prop} {H K : Heap}
theorem Base.rowc {K K' : Heap} {b u : Nat} {cs : List Value} {w : Bool} (hb : Base K K') (h : hget K b = .row cs u w) : hget K' b = .row cs u w := by rw [hb.2 b (hget_lt h rfl)]; exact h
theorem Base.obj {K K' : Heap} {b : Nat} {o : AObj} (hb : Base K K') (h : hget K b = o) (ho : o.live = true) : hget K' b = o := by rw [hb.2 b (hget_lt h ho)]; exact h
/-- From one heap to another, but for one block. -/
def But (sb : Nat) (K K' : Heap) : Prop := K.length ≤ K'.length ∧ ∀ c, c < K.length → c ≠ sb → hget K' c = hget K c
theorem But.refl {sb : Nat} : But sb K K := ⟨Nat.le_refl _, fun _ _ _ => rfl⟩
theorem But.trans {sb : Nat} {K' K2 : Heap} (h : But sb K K') (g : But sb K' K2) : But sb K K2 := ⟨Nat.le_trans h.1 g.1, fun c h1 h2 => (g.2 c (Nat.lt_of_lt_of_le h1 h.1) h2).trans (h.2 c h1 h2)⟩
theorem But.set {sb : Nat} {K' : Heap} {o : AObj} (h : But sb K K') : But sb K (K'.set sb o) := ⟨by simpa using h.1, fun c h1 h2 => (hget_ne (Ne.symm h2)).trans (h.2 c h1 h2)⟩
theorem But.base {sb : Nat} {K' : Heap} (h : But sb K K') (hb : Base H K) (hs : H.length ≤ sb) : Base H K' := ⟨Nat.le_trans hb.1 h.1, fun c hc => by have := hb.1; rw [h.2 c (by omega) (by omega)]; exact hb.2 c hc⟩
theorem But.row {sb : Nat} {K' : Heap} {b u : Nat} {cs : List Value} {w : Bool} (h : But sb K K') (hr : hget K b = .row cs u w) (hb : b ≠ sb) : hget K' b = .row cs u w := (h.2 b (hget_lt hr rfl) hb).trans hr
theorem But.obj {sb : Nat} {K' : Heap} {b : Nat} {o : AObj} (h : But sb K K') (hr : hget K b = o) (ho : o.live = true) (hb : b ≠ sb) : hget K' b = o := (h.2 b (hget_lt hr ho) hb).trans hr
theorem But.app {sb : Nat} {K' : Heap} (h : But sb K K') (g : Heap) : But sb K (K' ++ g) := ⟨by have := h.1; simp; omega, fun c h1 h2 => (hget_old (Nat.lt_of_lt_of_le h1 h.1)).trans (h.2 c h1 h2)⟩
theorem But.add {sb : Nat} {K' K2 : Heap} (h : But sb K K') (g : Base K' K2) : But sb K K2 := ⟨Nat.le_trans h.1 g.1, fun c h1 h2 => (g.2 c (Nat.lt_of_lt_of_le h1 h.1)).trans (h.2 c h1 h2)⟩
/-- A change of a block that is new. -/
theorem But.new {sb mb : Nat} {K' K2 : Heap} (h : But sb K K') (g : But mb K' K2) (hm : K.length ≤ mb) : But sb K K2 := ⟨Nat.le_trans h.1 g.1, fun c h1 h2 => (g.2 c (Nat.lt_of_lt_of_le h1 h.1) (by omega)).trans (h.2 c h1 h2)⟩
theorem Base.new {mb : Nat} {K' K2 : Heap} (h : Base K K') (g : But mb K' K2) (hm : K.length ≤ mb) : Base K K2 := ⟨Nat.le_trans h.1 g.1, fun c h1 => (g.2 c (Nat.lt_of_lt_of_le h1 h.1) (by omega)).trans (h.2 c h1)⟩
theorem StSl.base {K : Heap} (hb : Base H K) : ∀ {l : List St} {v : Value}, StSl H l v → StSl K l v := by
 have key : ∀ (N : Nat) (l : List St) (v : Value), SizeOf.sizeOf l ≤ N → (StSl H l v → StSl K l v) ∧ (StOKs H l → StOKs K l) := by
  intro N
  induction N with
  | zero => intro l v h; cases l <;> simp at h
  | succ N ih =>
   intro l v h
   cases l with
   | nil => exact ⟨fun q => by simp only [StSl] at q ⊢; exact q.base hb, fun _ => trivial⟩
   | cons s l =>
    have hl : SizeOf.sizeOf l ≤ N := by simp at h; omega
    have hs : StOK H s → StOK K s := by
     cases s with
     | mk k t c va vb a b =>
      intro q
      simp only [StOK] at q ⊢
      simp at h
      exact ⟨q.1, (ih a va (by omega)).1 q.2.1, (ih b vb (by omega)).1 q.2.2⟩
    refine ⟨fun q => ?_, fun q => ?_⟩
    ·simp only [StSl] at q ⊢
     obtain ⟨⟨b, e1, e2, u, wr, e3⟩, e4, e5, e6⟩ := q
     exact ⟨⟨b, e1, Nat.lt_of_lt_of_le e2 hb.1, u, wr, by rw [hb.2 b e2]; exact e3⟩, e4, hs e5, (ih l v hl).2 e6⟩
    ·simp only [StOKs] at q ⊢
     exact ⟨hs q.1, (ih l v hl).2 q.2⟩
 intro l v h
 exact (key _ l v (Nat.le_refl _)).1 h
theorem StSl.sl {l : List St} {v : Value} (h : StSl H l v) : ∃ ad, v = .slice ad l.length l.length := by
 cases l with
 | nil => simp only [StSl] at h; exact h.sl
 | cons x l => simp only [StSl] at h; obtain ⟨⟨b, rfl, _⟩, _⟩ := h; exact ⟨_, rfl⟩
theorem StOKs.get : ∀ {l : List St} {s : St}, StOKs H l → s ∈ l → StOK H s
 | [], s, _, hs => by cases hs
 | x :: l, s, h, hs => by
  simp only [StOKs] at h
  rcases List.mem_cons.1 hs with rfl | hs
  ·exact h.1
  ·exact h.2.get hs
def St.kind : St → Int | .mk k _ _ _ _ _ _ => k
def St.table : St → List UInt8 | .mk _ t _ _ _ _ _ => t
def St.test : St → Tst | .mk _ _ c _ _ _ _ => c
def St.va : St → Value | .mk _ _ _ va _ _ _ => va
def St.vb : St → Value | .mk _ _ _ _ vb _ _ => vb
def St.thn : St → List St | .mk _ _ _ _ _ a _ => a
def St.els : St → List St | .mk _ _ _ _ _ _ b => b
theorem St.cells_eq (s : St) : s.cells = [.int .i64 s.kind, .string (bs s.table)] ++ s.test.cells ++ [s.va, s.vb] := by cases s; rfl
theorem StOK.sa {s : St} (h : StOK H s) : StSl H s.thn s.va := by cases s; simp only [StOK] at h; exact h.2.1
theorem StOK.sb {s : St} (h : StOK H s) : StSl H s.els s.vb := by cases s; simp only [StOK] at h; exact h.2.2
theorem St.size {l : List St} {s : St} (h : s ∈ l) : SizeOf.sizeOf s.thn < SizeOf.sizeOf l ∧ SizeOf.sizeOf s.els < SizeOf.sizeOf l := by
 have := List.sizeOf_lt_of_mem h
 cases s
 simp [St.thn, St.els] at this ⊢
 omega
/-- One stage of a list. -/
theorem StSl.at {l : List St} {ad : Option Addr} {n m : Nat} (h : StSl H l (.slice ad n m)) {i : Nat} (hi : i < l.length) :
  few 176 l.length ∧ StOK H l[i] ∧ ∃ (b u0 : Nat) (w0 : Bool), ad = some ⟨b, 0, none⟩ ∧ b < H.length ∧ hget H b = .row (l.map St.cells).flatten u0 w0 ∧ (((l.map St.cells).flatten).drop (i * 13)).take 13 = l[i].cells ∧ i * 13 + 13 ≤ ((l.map St.cells).flatten).length ∧ ∀ j, j < 13 → ((l.map St.cells).flatten)[i * 13 + j]? = l[i].cells[j]? := by
 cases l with
 | nil => simp at hi
 | cons x l =>
  have hall : StOKs H (x :: l) := by simp only [StSl] at h; simp only [StOKs]; exact h.2.2
  simp only [StSl] at h
  obtain ⟨⟨b, e, h1, u, w, h2⟩, h3, _⟩ := h
  injection e with e1
  have hr : RoSl H (.slice ad (l.length + 1) (l.length + 1)) ((x :: l).map St.cells) := .inr ⟨b, by rw [e1]; simp, h1, u, w, h2⟩
  obtain ⟨b', u', w', q1, q2, q3, q4, q5, q6⟩ := hr.at St.len hi
  exact ⟨h3, hall.get (List.getElem_mem hi), b', u', w', q1, q2, q3, q4, q5, q6⟩
theorem StSl.few {l : List St} {v : Value} (h : StSl H l v) : few 176 l.length := by
 cases l with
 | nil => simp [Ev.few]
 | cons x l => simp only [StSl] at h; exact h.2.1
end
section
variable {R : FRes → Heap → Prop} {H : Heap}
/-- Does a text stand in another one? -/
def hasSub (p s : List UInt8) : Bool := (List.range (s.length + 1 - p.length)).any fun i => decide ((s.drop i).take p.length = p)
theorem hasSub_true {p s : List UInt8} : hasSub p s = true ↔ ∃ i, i + p.length ≤ s.length ∧ (s.drop i).take p.length = p := by
 unfold hasSub
 rw [List.any_eq_true]
 constructor
 ·rintro ⟨i, hi, h⟩
  rw [List.mem_range] at hi
  exact ⟨i, by omega, of_decide_eq_true h⟩
 ·rintro ⟨i, hi, h⟩
  exact ⟨i, by rw [List.mem_range]; omega, decide_eq_true h⟩
def ctI (s p : List UInt8) (H : Heap) : Nat → Env → Heap → Prop := fun z e K =>
 ∃ i : Nat, i ≤ s.length + 1 ∧ z = s.length + 1 - i ∧ K = H ∧ (∀ j, j < i → (s.drop j).take p.length ≠ p) ∧ (∃ x : Nat → Value, e = [.string (bs s), .string (bs p), x 2, x 3, x 4, .int .i64 (i : Int), x 6, x 7, x 8, x 9, x 10, x 11, x 12, x 13, x 14, x 15, x 16, x 17, x 18, x 19, x 20, x 21, x 22, x 23])
theorem contains_s {s p : List UInt8} (hs : s.length ≤ 1000000) (hp : p.length ≤ 1000000) (h : R (.ret (.bool (hasSub p s))) H) : WD T 30 [.string (bs s), .string (bs p)] H R := by
 refine WD.of follows t30 (by simp) ?_
 simp (disch := omega) only [kB, kcx, kdm, kdn, kel, aop, Za, Zb, Zc, reduceCtorEq, Zd, Ze, Zf, Zg, Zh, Zi, Zj, Zk, Zl, Zm, Zn, Zo, Zp, Zq, Zr, Zs, Zt]
 refine WLoop.inv (ctI s p H) ?_ (s.length + 1) _ _ ⟨0, by omega, by omega, rfl, fun j hj => by omega, by exact ex_env rfl⟩
 rintro z e K ⟨i, hi, rfl, rfl, hno, ⟨x, rfl⟩⟩
 have w1 : IntKind.i64.wrap ((i : Int) + (p.length : Int)) = ((i + p.length : Nat) : Int) := by rw [← Int.natCast_add]; exact wr_i64 (by omega) (by omega)
 have w2 : IntKind.i64.wrap ((i : Int) + 1) = ((i + 1 : Nat) : Int) := wI (by omega)
 by_cases hle : i + p.length ≤ s.length
 ·have c0 : ((i + p.length : Nat) : Int) ≤ (s.length : Int) := by omega
  have c1 : (i : Int) ≤ ((i + p.length : Nat) : Int) := by omega
  have hcut : (s.take (i + p.length)).drop i = (s.drop i).take p.length := by rw [List.drop_take]; congr 1; omega
  by_cases hq : (s.drop i).take p.length = p
  ·rw [hasSub_true.2 ⟨i, hle, hq⟩] at h
   simp (disch := omega) only [kB, kcx, kdm, kdn, kel, aop, Za, Zb, Zc, reduceCtorEq, Zd, Ze, Zf, Zg, Zh, Zi, Zj, Zk, Zl, Zm, Zn, Zo, Zp, Zq, Zr, Zs, Zt, w1, c0, c1, hcut, hq]
   exact h
  ·simp (disch := omega) only [kB, kcx, kdm, kdn, kel, aop, Za, Zb, Zc, reduceCtorEq, Zd, Ze, Zf, Zg, Zh, Zi, Zj, Zk, Zl, Zm, Zn, Zo, Zp, Zq, Zr, Zs, Zt, w1, c0, c1, hcut, hq, w2]
   refine ⟨s.length + 1 - (i + 1), by omega, i + 1, by omega, rfl, rfl, fun j hj => ?_, by exact ex_env rfl⟩
   by_cases hji : j = i
   ·rw [hji]; exact hq
   ·exact hno j (by omega)
 ·have c0 : ¬ ((i + p.length : Nat) : Int) ≤ (s.length : Int) := by omega
  have : hasSub p s = false := by
   cases hb : hasSub p s with
   | false => rfl
   | true =>
    obtain ⟨j, hj1, hj2⟩ := hasSub_true.1 hb
    exact absurd hj2 (hno j (by omega))
  rw [this] at h
  simp (disch := omega) only [kB, kcx, kdm, kdn, kel, aop, Za, Zb, Zc, reduceCtorEq, Zd, Ze, Zf, Zg, Zh, Zi, Zj, Zk, Zl, Zm, Zn, Zo, Zp, Zq, Zr, Zs, Zt, w1, c0]
  exact h
/-- The words that are no names. -/
def wordsL : List (List UInt8) := [[97, 99, 99, 101, 112, 116], [97, 99, 116, 105, 111, 110], [97, 100, 100], [97, 103, 97, 105, 110], [97, 112, 112, 108, 121], [99, 97, 110], [99, 111, 110, 116, 114, 111, 108], [100, 101, 102, 97, 117, 108, 116], [100, 114, 111, 112], [101, 108, 115, 101], [101, 120, 97, 99, 116], [101, 120, 105, 116], [102, 105, 120, 101, 100], [104, 101, 97, 100, 101, 114], [105, 102], [107, 101, 121], [109, 101, 116, 97], [111, 110], [112, 114, 101, 102, 105, 120], [114, 97, 110, 103, 101], [114, 101, 106, 101, 99, 116], [114, 101, 109, 111, 118, 101], [115, 105, 122, 101], [115, 116, 97, 116, 101], [115, 117, 109], [116, 97, 98, 108, 101], [116, 97, 107, 101], [116, 101, 114, 110, 97, 114, 121], [118, 97, 108, 105, 100]]
def resT : List UInt8 := 32 :: wordsL.flatMap (fun w => w ++ [32])
theorem sub_word {t : List UInt8} (h0 : t ≠ []) (h : ∀ c ∈ t, c ≠ 32) : hasSub (32 :: (t ++ [32])) resT = wordsL.contains t := by
 have key : ∀ i ∈ List.range resT.length, resT[i]? = some 32 → ((resT.drop (i + 1)).takeWhile fun c => decide (c ≠ 32)) = [] ∨ ((resT.drop (i + 1)).takeWhile fun c => decide (c ≠ 32)) ∈ wordsL := by decide +kernel
 have key2 : ∀ w ∈ wordsL, hasSub (32 :: (w ++ [32])) resT = true := by decide +kernel
 rw [Bool.eq_iff_iff, List.contains_iff_mem]
 constructor
 ·intro hs
  obtain ⟨i, h1, h2⟩ := hasSub_true.1 hs
  have hlt : i < resT.length := by simp at h1; omega
  have hd : resT.drop i = 32 :: (t ++ [32]) ++ (resT.drop i).drop (32 :: (t ++ [32])).length := by
   have := List.take_append_drop (32 :: (t ++ [32])).length (resT.drop i)
   rw [h2] at this
   exact this.symm
  have h3 : resT[i]? = some 32 := by
   have := congrArg (·[0]?) hd
   simpa using this
  have h4 : resT.drop (i + 1) = t ++ 32 :: (resT.drop i).drop (32 :: (t ++ [32])).length := by
   rw [← List.drop_drop, hd]
   simp
  have h5 : (resT.drop (i + 1)).takeWhile (fun c => decide (c ≠ 32)) = t := by
   rw [h4, List.takeWhile_append_of_pos (fun c hc => decide_eq_true (h c hc))]
   simp
  rcases key i (List.mem_range.2 hlt) h3 with q | q
  ·rw [h5] at q; exact absurd q h0
  ·rwa [h5] at q
 ·exact key2 t
end
section
variable {R : FRes → Heap → Prop} {H : Heap}
def smallC (b : Nat) : Bool := decide (97 ≤ b ∧ b ≤ 122)
/-- May such a letter stand there in a name? -/
def okC (i b : Nat) : Bool := smallC b || (decide (i ≠ 0) && (decide (b = 95) || decide (48 ≤ b ∧ b ≤ 57)))
def okFrom : Nat → List UInt8 → Bool
 | _, [] => true
 | i, c :: l => okC i c.toNat && okFrom (i + 1) l
theorem okFrom_iff : ∀ (l : List UInt8) (k : Nat), okFrom k l = true ↔ ∀ (j : Nat) (c : UInt8), l[j]? = some c → okC (k + j) c.toNat = true
 | [], k => by simp [okFrom]
 | c :: l, k => by
  rw [okFrom, Bool.and_eq_true, okFrom_iff l (k + 1)]
  constructor
  ·rintro ⟨h1, h2⟩ j d hj
   cases j with
   | zero => simp at hj; rw [← hj]; exact h1
   | succ j => simp at hj; rw [show k + (j + 1) = k + 1 + j by omega]; exact h2 j d hj
  ·intro h
   exact ⟨h 0 c rfl, fun j d hj => by rw [show k + 1 + j = k + (j + 1) by omega]; exact h (j + 1) d (by simpa using hj)⟩
/-- Is it a name? -/
def isNm (l : List UInt8) : Bool := decide (l ≠ [] ∧ l.length ≤ 32) && okFrom 0 l && !wordsL.contains l
theorem ok_no32 {l : List UInt8} (h : okFrom 0 l = true) : ∀ c ∈ l, c ≠ 32 := by
 rintro c hc rfl
 obtain ⟨j, hj, he⟩ := List.getElem_of_mem hc
 have := (okFrom_iff l 0).1 h j 32 (by simp [← he])
 simp [okC, smallC] at this
theorem res_eq : ([32, 97, 99, 99, 101, 112, 116, 32, 97, 99, 116, 105, 111, 110, 32, 97, 100, 100, 32, 97, 103, 97, 105, 110, 32, 97, 112, 112, 108, 121, 32, 99, 97, 110, 32, 99, 111, 110, 116, 114, 111, 108, 32, 100, 101, 102, 97, 117, 108, 116, 32, 100, 114, 111, 112, 32, 101, 108, 115, 101, 32, 101, 120, 97, 99, 116, 32, 101, 120, 105, 116, 32, 102, 105, 120, 101, 100, 32, 104, 101, 97, 100, 101, 114, 32, 105, 102, 32, 107, 101, 121, 32, 109, 101, 116, 97, 32, 111, 110, 32, 112, 114, 101, 102, 105, 120, 32, 114, 97, 110, 103, 101, 32, 114, 101, 106, 101, 99, 116, 32, 114, 101, 109, 111, 118, 101, 32, 115, 105, 122, 101, 32, 115, 116, 97, 116, 101, 32, 115, 117, 109, 32, 116, 97, 98, 108, 101, 32, 116, 97, 107, 101, 32, 116, 101, 114, 110, 97, 114, 121, 32, 118, 97, 108, 105, 100, 32] : List UInt8) = resT := by decide +kernel
def nmI (l : List UInt8) (H : Heap) : Nat → Env → Heap → Prop := fun z e K =>
 ∃ i : Nat, i ≤ l.length ∧ z = l.length - i ∧ K = H ++ [.row (l.map fun c => .int .u8 (c.toNat : Int)) 1 true] ∧ (∀ (j : Nat) (c : UInt8), j < i → l[j]? = some c → okC j c.toNat = true) ∧
  (∃ x : Nat → Value, e = [.string (bs l), x 1, x 2, x 3, x 4, x 5, x 6, x 7, x 8, x 9, x 10, x 11, x 12, x 13, .slice (some ⟨H.length, 0, none⟩) l.length l.length, .int .i64 (l.length : Int), .int .i64 (i : Int), x 17, x 18, x 19, x 20, x 21, x 22, x 23, x 24, x 25, x 26, x 27, x 28, x 29, x 30, x 31, x 32, x 33, x 34, x 35, x 36, x 37, x 38, x 39, x 40, x 41, x 42, x 43, x 44, x 45, x 46, x 47, x 48, x 49, x 50])
set_option maxHeartbeats 4000000 in
theorem isName_s {l : List UInt8} (h : R (.ret (.bool (isNm l))) H) : WD T 9 [.string (bs l)] H R := by
 refine WD.gc0 (WD.of follows t9 (by simp) ?_)
 have fin : ∀ b : Bool, isNm l = b → ∃ v, FRes.ret (.bool b) = .ret v ∧ (∃ g, H = H ++ g) ∧ Scoped H.length v ∧ R (.ret v) H := fun b hb => by
  rw [hb] at h
  exact ⟨_, rfl, ⟨[], by simp⟩, .closed rfl, h⟩
 by_cases h0 : l = []
 ·have hf : isNm l = false := by subst h0; rfl
  rw [hf] at h
  subst h0
  simp (disch := omega) only [kB, kcx, kdm, kdn, kel, aop, Za, Zb, Zc, reduceCtorEq, Zd, Ze, Zf, Zg, Zh, Zi, Zj, Zk, Zl, Zm, Zn, Zo, Zp, Zq, Zr, Zs, Zt]
  exact ⟨_, rfl, ⟨[], by simp⟩, .closed rfl, h⟩
 by_cases h32 : 32 < l.length
 ·have hf : isNm l = false := by unfold isNm; rw [decide_eq_false (fun q => by omega)]; rfl
  rw [hf] at h
  have c1 : (32 : Int) < (l.length : Int) := by omega
  simp (disch := omega) only [kB, kcx, kdm, kdn, kel, aop, Za, Zb, Zc, reduceCtorEq, Zd, Ze, Zf, Zg, Zh, Zi, Zj, Zk, Zl, Zm, Zn, Zo, Zp, Zq, Zr, Zs, Zt, h0, c1]
  exact ⟨_, rfl, ⟨[], by simp⟩, .closed rfl, h⟩
 have c1 : ¬ (32 : Int) < (l.length : Int) := by omega
 have hlen : decide (l ≠ [] ∧ l.length ≤ 32) = true := decide_eq_true ⟨h0, by omega⟩
 simp (disch := omega) only [kB, kcx, kdm, kdn, kel, aop, Za, Zb, Zc, reduceCtorEq, Zd, Ze, Zf, Zg, Zh, Zi, Zj, Zk, Zl, Zm, Zn, Zo, Zp, Zq, Zr, Zs, Zt, h0, c1]
 refine WLoop.inv (nmI l H) ?_ l.length _ _ ⟨0, Nat.zero_le _, by omega, rfl, fun j c hj => by omega, by exact ex_env rfl⟩
 rintro z e K ⟨i, hi, rfl, rfl, hok, ⟨x, rfl⟩⟩
 by_cases hlt : i < l.length
 ·have c0 : (i : Int) < (l.length : Int) := by omega
  have hg : l[i]? = some l[i] := List.getElem?_eq_getElem hlt
  have hgm : (l.map fun c => Value.int .u8 (c.toNat : Int))[i]? = some (.int .u8 ((l[i].toNat : Nat) : Int)) := by rw [List.getElem?_map, hg]; rfl
  have w2 : IntKind.i64.wrap ((i : Int) + 1) = ((i + 1 : Nat) : Int) := wI (by omega)
  have next : okC i (l[i]).toNat = true → ∀ e : Env, (∃ x : Nat → Value, e = [.string (bs l), x 1, x 2, x 3, x 4, x 5, x 6, x 7, x 8, x 9, x 10, x 11, x 12, x 13, .slice (some ⟨H.length, 0, none⟩) l.length l.length, .int .i64 (l.length : Int), .int .i64 ((i + 1 : Nat) : Int), x 17, x 18, x 19, x 20, x 21, x 22, x 23, x 24, x 25, x 26, x 27, x 28, x 29, x 30, x 31, x 32, x 33, x 34, x 35, x 36, x 37, x 38, x 39, x 40, x 41, x 42, x 43, x 44, x 45, x 46, x 47, x 48, x 49, x 50]) → ∃ m, m < l.length - i ∧ nmI l H m e (H ++ [.row (l.map fun c => .int .u8 (c.toNat : Int)) 1 true]) := fun ho e he => by
   refine ⟨l.length - (i + 1), by omega, i + 1, by omega, rfl, rfl, fun j c hj hc => ?_, he⟩
   by_cases hji : j = i
   ·subst hji; rw [hg] at hc; cases hc; exact ho
   ·exact hok j c (by omega) hc
  have bad : okC i (l[i]).toNat = false → ∃ v, FRes.ret (.bool false) = .ret v ∧ (∃ g, H ++ [.row (l.map fun c => .int .u8 (c.toNat : Int)) 1 true] = H ++ g) ∧ Scoped H.length v ∧ R (.ret v) H := fun ho => by
   have hf : isNm l = false := by
    have : okFrom 0 l = false := by
     cases hq : okFrom 0 l with
     | false => rfl
     | true =>
      have := (okFrom_iff l 0).1 hq i l[i] hg
      rw [Nat.zero_add, ho] at this
      cases this
    unfold isNm
    rw [this, Bool.and_false, Bool.false_and]
   rw [hf] at h
   exact ⟨_, rfl, ⟨_, rfl⟩, .closed rfl, h⟩
  by_cases a1 : 97 ≤ l[i].toNat
  ·have x1 : (97 : Int) ≤ ((l[i].toNat : Nat) : Int) := by omega
   by_cases a2 : l[i].toNat ≤ 122
   ·have x2 : ((l[i].toNat : Nat) : Int) ≤ 122 := by omega
    simp (disch := omega) only [kB, kcx, kdm, kdn, kel, aop, Za, Zb, Zc, reduceCtorEq, Zd, Ze, Zf, Zg, Zh, Zi, Zj, Zk, Zl, Zm, Zn, Zo, Zp, Zq, Zr, Zs, Zt, c0, hgm, x1, x2, w2]
    exact next (by unfold okC smallC; simp [a1, a2]) _ (by exact ex_env rfl)
   ·have x2 : ¬ ((l[i].toNat : Nat) : Int) ≤ 122 := by omega
    by_cases i0 : i = 0
    ·have z0 : ((i : Int) = 0) = True := eq_true (by omega)
     simp (disch := omega) only [kB, kcx, kdm, kdn, kel, aop, Za, Zb, Zc, reduceCtorEq, Zd, Ze, Zf, Zg, Zh, Zi, Zj, Zk, Zl, Zm, Zn, Zo, Zp, Zq, Zr, Zs, Zt, c0, hgm, x1, x2, z0]
     exact bad (by unfold okC; rw [show smallC l[i].toNat = false from decide_eq_false (by omega), decide_eq_false (show ¬ i ≠ 0 from fun q => q i0)]; rfl)
    have z0 : ((i : Int) = 0) = False := eq_false (by omega)
    have d1 : ¬ l[i].toNat = 95 := by omega
    have y1 : (((l[i].toNat : Nat) : Int) = 95) = False := eq_false (by omega)
    have y2 : ¬ ((l[i].toNat : Nat) : Int) < 48 := by omega
    have y3 : (57 : Int) < ((l[i].toNat : Nat) : Int) := by omega
    simp (disch := omega) only [kB, kcx, kdm, kdn, kel, aop, Za, Zb, Zc, reduceCtorEq, Zd, Ze, Zf, Zg, Zh, Zi, Zj, Zk, Zl, Zm, Zn, Zo, Zp, Zq, Zr, Zs, Zt, c0, hgm, x1, x2, z0, y1, y2, y3]
    exact bad (by unfold okC; rw [show smallC l[i].toNat = false from decide_eq_false (by omega), decide_eq_false d1, decide_eq_false (show ¬ (48 ≤ l[i].toNat ∧ l[i].toNat ≤ 57) by omega)]; simp)
  ·have x1 : ¬ (97 : Int) ≤ ((l[i].toNat : Nat) : Int) := by omega
   by_cases i0 : i = 0
   ·have z0 : ((i : Int) = 0) = True := eq_true (by omega)
    simp (disch := omega) only [kB, kcx, kdm, kdn, kel, aop, Za, Zb, Zc, reduceCtorEq, Zd, Ze, Zf, Zg, Zh, Zi, Zj, Zk, Zl, Zm, Zn, Zo, Zp, Zq, Zr, Zs, Zt, c0, hgm, x1, z0]
    exact bad (by unfold okC; rw [show smallC l[i].toNat = false from decide_eq_false (by omega), decide_eq_false (show ¬ i ≠ 0 from fun q => q i0)]; rfl)
   have z0 : ((i : Int) = 0) = False := eq_false (by omega)
   by_cases d1 : l[i].toNat = 95
   ·have y1 : (((l[i].toNat : Nat) : Int) = 95) = True := eq_true (by omega)
    simp (disch := omega) only [kB, kcx, kdm, kdn, kel, aop, Za, Zb, Zc, reduceCtorEq, Zd, Ze, Zf, Zg, Zh, Zi, Zj, Zk, Zl, Zm, Zn, Zo, Zp, Zq, Zr, Zs, Zt, c0, hgm, x1, z0, y1, w2]
    exact next (by unfold okC; rw [decide_eq_true (show i ≠ 0 from i0), decide_eq_true d1]; simp) _ (by exact ex_env rfl)
   have y1 : (((l[i].toNat : Nat) : Int) = 95) = False := eq_false (by omega)
   by_cases d2 : l[i].toNat < 48
   ·have y2 : ((l[i].toNat : Nat) : Int) < 48 := by omega
    simp (disch := omega) only [kB, kcx, kdm, kdn, kel, aop, Za, Zb, Zc, reduceCtorEq, Zd, Ze, Zf, Zg, Zh, Zi, Zj, Zk, Zl, Zm, Zn, Zo, Zp, Zq, Zr, Zs, Zt, c0, hgm, x1, z0, y1, y2]
    exact bad (by unfold okC; rw [show smallC l[i].toNat = false from decide_eq_false (by omega), decide_eq_false d1, decide_eq_false (show ¬ (48 ≤ l[i].toNat ∧ l[i].toNat ≤ 57) by omega)]; simp)
   have y2 : ¬ ((l[i].toNat : Nat) : Int) < 48 := by omega
   by_cases d3 : 57 < l[i].toNat
   ·have y3 : (57 : Int) < ((l[i].toNat : Nat) : Int) := by omega
    simp (disch := omega) only [kB, kcx, kdm, kdn, kel, aop, Za, Zb, Zc, reduceCtorEq, Zd, Ze, Zf, Zg, Zh, Zi, Zj, Zk, Zl, Zm, Zn, Zo, Zp, Zq, Zr, Zs, Zt, c0, hgm, x1, z0, y1, y2, y3]
    exact bad (by unfold okC; rw [show smallC l[i].toNat = false from decide_eq_false (by omega), decide_eq_false d1, decide_eq_false (show ¬ (48 ≤ l[i].toNat ∧ l[i].toNat ≤ 57) by omega)]; simp)
   have y3 : ¬ (57 : Int) < ((l[i].toNat : Nat) : Int) := by omega
   simp (disch := omega) only [kB, kcx, kdm, kdn, kel, aop, Za, Zb, Zc, reduceCtorEq, Zd, Ze, Zf, Zg, Zh, Zi, Zj, Zk, Zl, Zm, Zn, Zo, Zp, Zq, Zr, Zs, Zt, c0, hgm, x1, z0, y1, y2, y3, w2]
   exact next (by unfold okC; rw [decide_eq_true (show i ≠ 0 from i0), decide_eq_true (show 48 ≤ l[i].toNat ∧ l[i].toNat ≤ 57 by omega)]; simp) _ (by exact ex_env rfl)
 ·have c0 : ¬ (i : Int) < (l.length : Int) := by omega
  have hall : okFrom 0 l = true := (okFrom_iff l 0).2 fun j c hc => by
   rw [Nat.zero_add]
   have := (List.getElem?_eq_some_iff.1 hc).1
   exact hok j c (by omega) hc
  have hc : isNm l = !hasSub (32 :: (l ++ [32])) resT := by
   unfold isNm
   rw [hlen, hall, sub_word h0 (ok_no32 hall)]
   rfl
  have hadd1 : binV .add (.string (bs [32])) (.string (bs l)) = some (.string (bs ([32] ++ l))) := bin_str_add (by simp; omega)
  have hadd2 : binV .add (.string (bs (32 :: l))) (.string (bs [32])) = some (.string (bs (32 :: (l ++ [32])))) := bin_str_add (by simp; omega)
  simp (disch := omega) only [kB, kcx, kdm, kdn, kel, aop, Za, Zb, Zc, reduceCtorEq, Zd, Ze, Zf, Zg, Zh, Zi, Zj, Zk, Zl, Zm, Zn, Zo, Zp, Zq, Zr, Zs, Zt, c0, hadd1, hadd2]
  refine contains_s (by decide) (by simp; omega) ?_
  rw [res_eq]
  simp (disch := omega) only [kB, kcx, kdm, kdn, kel, aop, Za, Zb, Zc, reduceCtorEq, Zd, Ze, Zf, Zg, Zh, Zi, Zj, Zk, Zl, Zm, Zn, Zo, Zp, Zq, Zr, Zs, Zt]
  obtain ⟨v, h1, h2, h3, h4⟩ := fin (!hasSub (32 :: (l ++ [32])) resT) hc
  exact ⟨_, rfl, ⟨_, rfl⟩, .closed rfl, by cases h1; exact h4⟩
end
section
variable {R : FRes → Heap → Prop} {H K : Heap}
/-- The checker in memory: the schema, and the thing at which it is. -/
def Chk (K : Heap) (cb : Nat) (s : Sch) (th : List UInt8) : Prop := hget K cb = .row [s.hv, s.mv, s.sv, s.av, s.tv, s.cv, .string (bs th)] 0 true
theorem Chk.lt {cb : Nat} {s : Sch} {th : List UInt8} (h : Chk K cb s th) : cb < K.length := hget_lt h rfl
theorem Chk.base {K' : Heap} {cb : Nat} {s : Sch} {th : List UInt8} (h : Chk K cb s th) (hb : Base K K') : Chk K' cb s th := hb.obj h rfl
theorem Chk.but {K' : Heap} {cb mb : Nat} {s : Sch} {th : List UInt8} (h : Chk K cb s th) (hb : But mb K K') (hn : cb ≠ mb) : Chk K' cb s th := hb.obj h rfl hn
theorem Chk.app {cb : Nat} {s : Sch} {th : List UInt8} (h : Chk K cb s th) (g : Heap) : Chk (K ++ g) cb s th := h.base (Base.app0 g)
/-- What it gives up with. -/
def wrongV (e : Int) (th : List UInt8) : Value := .iface 113 (.agg #[.int .i64 e, .string (bs th)])
theorem need_s {cb : Nat} {s : Sch} {th : List UInt8} {b : Bool} {e : Int} (hc : Chk K cb s th) (h : b = true → R (.ret (.tuple #[])) K) (hp : b = false → R (.pan (wrongV e th)) K) : WD T 46 [.pointer (some ⟨cb, 0, none⟩), .bool b, .int .i64 e] K R := by
 unfold Chk at hc
 refine WD.of follows t46 (by simp) ?_
 cases b with
 | true =>
  simp (disch := omega) only [kB, kcx, kdm, kdn, kel, aop, Za, Zb, Zc, reduceCtorEq, Zd, Ze, Zf, Zg, Zh, Zi, Zj, Zk, Zl, Zm, Zn, Zo, Zp, Zq, Zr, Zs, Zt]
  exact h rfl
 | false =>
  simp (disch := omega) only [kB, kcx, kdm, kdn, kel, aop, Za, Zb, Zc, reduceCtorEq, Zd, Ze, Zf, Zg, Zh, Zi, Zj, Zk, Zl, Zm, Zn, Zo, Zp, Zq, Zr, Zs, Zt, hc]
  exact hp rfl
/-- A set of names, as a map in memory. -/
def nmE (n : List UInt8) : Value × Value := (.string (bs n), .int .i64 1)
def Names (K : Heap) (mb : Nat) (l : List (List UInt8)) : Prop := hget K mb = .map (l.map nmE)
theorem Names.lt {mb : Nat} {l : List (List UInt8)} (h : Names K mb l) : mb < K.length := hget_lt h rfl
theorem Names.base {K' : Heap} {mb : Nat} {l : List (List UInt8)} (h : Names K mb l) (hb : Base K K') : Names K' mb l := hb.obj h rfl
theorem Names.but {K' : Heap} {cb mb : Nat} {l : List (List UInt8)} (h : Names K mb l) (hb : But cb K K') (hn : mb ≠ cb) : Names K' mb l := hb.obj h rfl hn
theorem Names.app {mb : Nat} {l : List (List UInt8)} (h : Names K mb l) (g : Heap) : Names (K ++ g) mb l := h.base (Base.app0 g)
theorem find_names (n : List UInt8) : ∀ (l : List (List UInt8)) (i : Nat), (n ∈ l ∧ ∃ j, findK (.prim 2) (.string (bs n)) (l.map nmE) i = some (some (i + j, .int .i64 1)) ∧ (l.map nmE).set j (nmE n) = l.map nmE) ∨ (¬ n ∈ l ∧ findK (.prim 2) (.string (bs n)) (l.map nmE) i = some none)
 | [], i => .inr ⟨by simp, rfl⟩
 | x :: l, i => by
  have e : keyEq (.prim 2) (.string (bs n)) (nmE x).1 = some (decide (n = x)) := by
   simp only [keyEq, nmE, eqT1, bs]
   congr 1
   rw [Bool.eq_iff_iff]
   simp
  simp only [List.map_cons, findK, e]
  by_cases h : n = x
  ·rw [decide_eq_true h]
   subst h
   exact .inl ⟨by simp, 0, rfl, rfl⟩
  ·rw [decide_eq_false h]
   rcases find_names n l (i + 1) with ⟨h1, j, h2, h3⟩ | ⟨h1, h2⟩
   ·exact .inl ⟨by simp [h1], j + 1, by simp only [h2]; rw [show i + 1 + j = i + (j + 1) by omega], by rw [List.set_cons_succ, h3]⟩
   ·exact .inr ⟨by simp [h1]; exact h, h2⟩
/-- Names that are met, in any order. -/
def NameSet (K : Heap) (mb : Nat) (P : List UInt8 → Prop) : Prop := ∃ l, Names K mb l ∧ ∀ t, t ∈ l ↔ P t
theorem NameSet.base {K' : Heap} {mb : Nat} {P : List UInt8 → Prop} (h : NameSet K mb P) (hb : Base K K') : NameSet K' mb P := let ⟨l, a, b⟩ := h; ⟨l, a.base hb, b⟩
theorem NameSet.but {K' : Heap} {cb mb : Nat} {P : List UInt8 → Prop} (h : NameSet K mb P) (hb : But cb K K') (hn : mb ≠ cb) : NameSet K' mb P := let ⟨l, a, b⟩ := h; ⟨l, a.but hb hn, b⟩
theorem NameSet.lt {mb : Nat} {P : List UInt8 → Prop} (h : NameSet K mb P) : mb < K.length := let ⟨_, a, _⟩ := h; a.lt
/-- Why a name may not be here. -/
def nameE (met : List (List UInt8)) (n : List UInt8) : Option Int := if isNm n = false then some 70 else if n ∈ met then some 71 else none
theorem name_s {cb mb : Nat} {s : Sch} {th n : List UInt8} {met : List (List UInt8)} (hc : Chk K cb s th) (hm : Names K mb met) (h : nameE met n = none → ∀ K', But mb K K' → Names K' mb (met ++ [n]) → R (.ret (.tuple #[])) K')
  (hp : ∀ e, nameE met n = some e → R (.pan (wrongV e th)) K) : WD T 86 [.pointer (some ⟨cb, 0, none⟩), .string (bs n), .map (some mb)] K R := by
 refine WD.of follows t86 (by simp) ?_
 simp (disch := omega) only [kB, kcx, kdm, kdn, kel, aop, Za, Zb, Zc, reduceCtorEq, Zd, Ze, Zf, Zg, Zh, Zi, Zj, Zk, Zl, Zm, Zn, Zo, Zp, Zq, Zr, Zs, Zt]
 refine isName_s ?_
 simp (disch := omega) only [kB, kcx, kdm, kdn, kel, aop, Za, Zb, Zc, reduceCtorEq, Zd, Ze, Zf, Zg, Zh, Zi, Zj, Zk, Zl, Zm, Zn, Zo, Zp, Zq, Zr, Zs, Zt]
 refine need_s hc (fun g => ?_) (fun g => ?_)
 ·have hm' := hm
  unfold Names at hm'
  rcases find_names n met 0 with ⟨h1, j, h2, _⟩ | ⟨h1, h2⟩
  ·have hh := hp 71 (by rw [nameE, if_neg (by simp [g]), if_pos h1])
   simp (disch := omega) only [kB, kcx, kdm, kdn, kel, aop, Za, Zb, Zc, reduceCtorEq, Zd, Ze, Zf, Zg, Zh, Zi, Zj, Zk, Zl, Zm, Zn, Zo, Zp, Zq, Zr, Zs, Zt, hm', keyOk, h2]
   refine need_s hc (fun g => by cases g) (fun _ => ?_)
   exact hh
  ·have hh := h (by rw [nameE, if_neg (by simp [g]), if_neg h1]) (K.set mb (.map ((met ++ [n]).map nmE))) But.refl.set (hget_set' hm.lt)
   rw [List.map_append] at hh
   simp (disch := omega) only [kB, kcx, kdm, kdn, kel, aop, Za, Zb, Zc, reduceCtorEq, Zd, Ze, Zf, Zg, Zh, Zi, Zj, Zk, Zl, Zm, Zn, Zo, Zp, Zq, Zr, Zs, Zt, hm', keyOk, h2]
   refine need_s hc (fun _ => ?_) (fun g => by cases g)
   simp (disch := omega) only [kB, kcx, kdm, kdn, kel, aop, Za, Zb, Zc, reduceCtorEq, Zd, Ze, Zf, Zg, Zh, Zi, Zj, Zk, Zl, Zm, Zn, Zo, Zp, Zq, Zr, Zs, Zt, hm', keyOk, h2]
   exact hh
 ·have hh := hp 70 (by rw [nameE, if_pos g])
  exact hh
/-- What is wrong with fields. -/
def fieldsE : List (List UInt8) → List Fld → Option Int
 | _, [] => none
 | met, f :: l => match nameE met f.name with
  | some e => some e
  | none => if 1 ≤ f.width ∧ f.width ≤ 128 then fieldsE (met ++ [f.name]) l else some 73
def flI (K : Heap) (cb : Nat) (s : Sch) (th : List UInt8) (v : Value) (l : List Fld) : Nat → Env → Heap → Prop := fun z e K' =>
 ∃ i : Nat, i ≤ l.length ∧ z = l.length - i ∧ Base K K' ∧ Names K' K.length ((l.take i).map Fld.name) ∧ fieldsE [] l = fieldsE ((l.take i).map Fld.name) (l.drop i) ∧
  (∃ x : Nat → Value, e = [.pointer (some ⟨cb, 0, none⟩), x 1, x 2, x 3, .map (some K.length), x 5, x 6, x 7, v, .int .i64 (l.length : Int), .int .i64 (i : Int), x 11, x 12, x 13, x 14, x 15, x 16, x 17, x 18, x 19, x 20, x 21, x 22, x 23, x 24, x 25, x 26, x 27, x 28, x 29])
theorem take_map {α β : Type} (f : α → β) {l : List α} {i : Nat} (h : i < l.length) : (l.take (i + 1)).map f = (l.take i).map f ++ [f l[i]] := by rw [List.take_add_one, List.getElem?_eq_getElem h, List.map_append]; rfl
set_option maxHeartbeats 1000000 in
theorem fields_s {cb : Nat} {s : Sch} {th : List UInt8} {v : Value} {l : List Fld} (hc : Chk K cb s th) (hl : FldL H v l) (hb : Base H K) (h : fieldsE [] l = none → ∀ K', Base K K' → R (.ret (.tuple #[])) K')
  (hp : ∀ e, fieldsE [] l = some e → ∀ K', Base K K' → R (.pan (wrongV e th)) K') : WD T 47 [.pointer (some ⟨cb, 0, none⟩), v] K R := by
 obtain ⟨hr, hn, _⟩ := hl
 unfold few at hn
 obtain ⟨ad, rfl⟩ := hr.sl
 rw [List.length_map] at hr ⊢
 refine WD.of follows t47 (by simp) ?_
 simp (disch := omega) only [kB, kcx, kdm, kdn, kel, aop, Za, Zb, Zc, reduceCtorEq, Zd, Ze, Zf, Zg, Zh, Zi, Zj, Zk, Zl, Zm, Zn, Zo, Zp, Zq, Zr, Zs, Zt]
 refine WLoop.inv (flI K cb s th (.slice ad l.length l.length) l) ?_ l.length _ _ ⟨0, Nat.zero_le _, by omega, Base.app0 _, by rw [Names, hget_last]; rfl, rfl, by exact ex_env rfl⟩
 rintro z e K' ⟨i, hi, rfl, bK, hm, hx, ⟨x, rfl⟩⟩
 have hc' := hc.base bK
 have lb := bK.1
 by_cases hlt : i < l.length
 ·have c1 : (i : Int) < (l.length : Int) := by omega
  obtain ⟨b, u0, w0, rfl, p1, p2, p3, p4, p5⟩ := hr.at Fld.len hlt
  have prow := bK.rowc (hb.rowc p2)
  have w2 : IntKind.i64.wrap ((i : Int) + 1) = ((i + 1 : Nat) : Int) := wI (by omega)
  have htk := take_map Fld.name hlt
  rw [List.drop_eq_getElem_cons hlt, fieldsE] at hx
  generalize l[i] = x at *
  simp only [Fld.cells] at p3
  simp (disch := omega) only [kB, kcx, kdm, kdn, kel, aop, Za, Zb, Zc, reduceCtorEq, Zd, Ze, Zf, Zg, Zh, Zi, Zj, Zk, Zl, Zm, Zn, Zo, Zp, Zq, Zr, Zs, Zt, c1, prow, p3, p4]
  obtain ⟨K2, hK2⟩ : ∃ K2, K2 = K' ++ [AObj.row [.string (bs x.name), .int .i64 x.width] 0 true] := ⟨_, rfl⟩
  rw [← hK2]
  have b2 : Base K' K2 := by rw [hK2]; exact Base.app0 _
  have hbx : hget K2 K'.length = .row [.string (bs x.name), .int .i64 x.width] 0 true := by rw [hK2, hget_last]
  clear hK2
  have lm := hm.lt
  have lc := hc'.lt
  refine name_s (hc'.base b2) (hm.base b2) (fun g K3 b3 hm3 => ?_) (fun e g => ?_)
  ·rw [g] at hx
   simp only at hx
   have hc3 := (hc'.base b2).but b3 (by have := hc.lt; omega)
   have hb3 := b3.row hbx (by omega)
   have bK3 := (bK.trans b2).new b3 (Nat.le_refl _)
   by_cases g1 : 1 ≤ x.width
   ·by_cases g2 : x.width ≤ 128
    ·rw [if_pos ⟨g1, g2⟩] at hx
     simp (disch := omega) only [kB, kcx, kdm, kdn, kel, aop, Za, Zb, Zc, reduceCtorEq, Zd, Ze, Zf, Zg, Zh, Zi, Zj, Zk, Zl, Zm, Zn, Zo, Zp, Zq, Zr, Zs, Zt, hb3, g1, g2]
     refine need_s hc3 (fun _ => ?_) (fun q => by cases q)
     simp (disch := omega) only [kB, kcx, kdm, kdn, kel, aop, Za, Zb, Zc, reduceCtorEq, Zd, Ze, Zf, Zg, Zh, Zi, Zj, Zk, Zl, Zm, Zn, Zo, Zp, Zq, Zr, Zs, Zt, w2]
     exact ⟨l.length - (i + 1), by omega, i + 1, by omega, rfl, bK3, by rw [htk]; exact hm3, by rw [htk]; exact hx, by exact ex_env rfl⟩
    ·rw [if_neg (fun q => g2 q.2)] at hx
     have hh := hp 73 hx K3 bK3
     simp (disch := omega) only [kB, kcx, kdm, kdn, kel, aop, Za, Zb, Zc, reduceCtorEq, Zd, Ze, Zf, Zg, Zh, Zi, Zj, Zk, Zl, Zm, Zn, Zo, Zp, Zq, Zr, Zs, Zt, hb3, g1, g2]
     refine need_s hc3 (fun q => by cases q) (fun _ => ?_)
     exact hh
   ·rw [if_neg (fun q => g1 q.1)] at hx
    have hh := hp 73 hx K3 bK3
    simp (disch := omega) only [kB, kcx, kdm, kdn, kel, aop, Za, Zb, Zc, reduceCtorEq, Zd, Ze, Zf, Zg, Zh, Zi, Zj, Zk, Zl, Zm, Zn, Zo, Zp, Zq, Zr, Zs, Zt, hb3, g1]
    refine need_s hc3 (fun q => by cases q) (fun _ => ?_)
    exact hh
  ·rw [g] at hx
   have hh := hp e hx K2 (bK.trans b2)
   exact hh
 ·have c1 : ¬ (i : Int) < (l.length : Int) := by omega
  rw [List.drop_eq_nil_of_le (by omega)] at hx
  have hh := h hx K' bK
  simp (disch := omega) only [kB, kcx, kdm, kdn, kel, aop, Za, Zb, Zc, reduceCtorEq, Zd, Ze, Zf, Zg, Zh, Zi, Zj, Zk, Zl, Zm, Zn, Zo, Zp, Zq, Zr, Zs, Zt, c1]
  exact hh
theorem fieldsE_ok : ∀ {l : List Fld} {met : List (List UInt8)}, fieldsE met l = none → ∀ f ∈ l, 1 ≤ f.width ∧ f.width ≤ 128
 | [], _, _, f, hf => by cases hf
 | x :: l, met, h, f, hf => by
  rw [fieldsE] at h
  split at h
  ·cases h
  ·split at h
   ·rcases List.mem_cons.1 hf with rfl | hf
    ·assumption
    ·exact fieldsE_ok h f hf
   ·cases h
end
section
variable {R : FRes → Heap → Prop} {H K : Heap}
theorem bin_rem {k : IntKind} {a b : Nat} (hb : 0 < b) : binV .rem (.int k (a : Int)) (.int k (b : Int)) = some (.int k ((a % b : Nat) : Int)) := by
 have h0 : ¬ (b : Int) = 0 := by omega
 have : pr (Op.intDiv .rem k (a : Int) (b : Int)) = some (.int k ((a : Int).tmod (b : Int))) := by unfold Op.intDiv; rw [if_neg h0]; rfl
 simp only [binV, intBin, if_true, if_neg h0, this]
 rfl
theorem bin_rem8 {n : Int} (h : 0 ≤ n) : binV .rem (.int .i64 n) (.int .i64 8) = some (.int .i64 (n % 8)) := by
 obtain ⟨m, rfl⟩ := Int.eq_ofNat_of_zero_le h
 exact bin_rem (by decide)
/-- The width of all of them. -/
def sumW : List Fld → Int
 | [] => 0
 | f :: l => f.width + sumW l
theorem sumW_append : ∀ (l m : List Fld), sumW (l ++ m) = sumW l + sumW m
 | [], m => by simp [sumW]
 | f :: l, m => by simp only [List.cons_append, sumW, sumW_append l m]; omega
theorem sumW_take {l : List Fld} {i : Nat} (h : i < l.length) : sumW (l.take (i + 1)) = sumW (l.take i) + l[i].width := by
 rw [List.take_add_one, List.getElem?_eq_getElem h, sumW_append]
 simp [sumW]
theorem sumW_le : ∀ {l : List Fld}, (∀ f ∈ l, 1 ≤ f.width ∧ f.width ≤ 128) → 0 ≤ sumW l ∧ sumW l ≤ 128 * (l.length : Int)
 | [], _ => by simp [sumW]
 | f :: l, h => by
  have h1 := h f (by simp)
  have h2 := sumW_le fun x hx => h x (List.mem_cons_of_mem _ hx)
  simp only [sumW, List.length_cons]
  omega
/-- What is wrong with one header; with headers. -/
def hdrE (met : List (List UInt8)) (h : Hdr) : Option Int :=
 match nameE met h.name with
 | some e => some e
 | none => if 1 ≤ h.fields.length ∧ h.fields.length ≤ 32 then (match fieldsE [] h.fields with
  | some e => some e
  | none => if sumW h.fields % 8 = 0 then none else some 73) else some 74
def hdrsE : List (List UInt8) → List Hdr → Option (Int × List UInt8)
 | _, [] => none
 | met, h :: l => match hdrE met h with
  | some e => some (e, [104, 101, 97, 100, 101, 114, 32] ++ h.name)
  | none => hdrsE (met ++ [h.name]) l
def headersE (s : Sch) : Option (Int × List UInt8) := if s.headers.length ≤ 32 then hdrsE [] s.headers else some (74, [104, 101, 97, 100, 101, 114])
/-- A text that may be put behind another one. -/
def short (t : List UInt8) : Prop := t.length ≤ 140737488355328
def hdI (K : Heap) (cb mb : Nat) (s : Sch) (v : Value) : Nat → Env → Heap → Prop := fun z e K' =>
 ∃ (i : Nat) (th : List UInt8), i ≤ s.headers.length ∧ z = s.headers.length - i ∧ But cb K K' ∧ Chk K' cb s th ∧ Names K' mb ((s.headers.take i).map Hdr.name) ∧
  hdrsE [] s.headers = hdrsE ((s.headers.take i).map Hdr.name) (s.headers.drop i) ∧
  (∃ x : Nat → Value, e = [.pointer (some ⟨cb, 0, none⟩), x 1, .map (some mb), x 3, x 4, x 5, x 6, x 7, x 8, x 9, x 10, x 11, x 12, x 13, x 14, x 15, x 16, x 17, x 18, x 19, x 20, x 21, x 22, x 23, x 24, v, .int .i64 (s.headers.length : Int), .int .i64 (i : Int), x 28, x 29, x 30, x 31, x 32, x 33, x 34, x 35, x 36, x 37, x 38, x 39, x 40, x 41, x 42, x 43, x 44, x 45, x 46, x 47, x 48, x 49, x 50, x 51, x 52, x 53, x 54, x 55, x 56, x 57, x 58, x 59, x 60, x 61, x 62, x 63, x 64, x 65, x 66, x 67, x 68, x 69, x 70, x 71, x 72, x 73, x 74, x 75])
def hdJ (K : Heap) (cb mb : Nat) (s : Sch) (v : Value) (i : Nat) (w : Value) (l : List Fld) : Nat → Env → Heap → Prop := fun z e K' =>
 ∃ (k : Nat), k ≤ l.length ∧ z = l.length - k ∧ Base K K' ∧
  (∃ x : Nat → Value, e = [.pointer (some ⟨cb, 0, none⟩), x 1, .map (some mb), x 3, x 4, .int .i64 (sumW (l.take k)), x 6, x 7, x 8, x 9, x 10, x 11, x 12, x 13, x 14, x 15, x 16, x 17, x 18, x 19, x 20, x 21, x 22, x 23, x 24, v, .int .i64 (s.headers.length : Int), .int .i64 (i : Int), x 28, x 29, x 30, x 31, x 32, x 33, x 34, x 35, x 36, x 37, x 38, x 39, x 40, x 41, x 42, x 43, x 44, x 45, x 46, x 47, x 48, x 49, x 50, x 51, x 52, x 53, x 54, x 55, x 56, x 57, x 58, w, .int .i64 (l.length : Int), .int .i64 (k : Int), x 62, x 63, x 64, x 65, x 66, x 67, x 68, x 69, x 70, x 71, x 72, x 73, x 74, x 75])
set_option maxHeartbeats 2000000 in
theorem headers_s {cb : Nat} {s : Sch} {th : List UInt8} (hs : s.OK H) (hn0 : ∀ x ∈ s.headers, short x.name) (hb : Base H K) (hcb : H.length ≤ cb) (hc : Chk K cb s th)
  (h : headersE s = none → ∀ K' th', But cb K K' → Chk K' cb s th' → R (.ret (.tuple #[])) K')
  (hp : ∀ e t, headersE s = some (e, t) → ∀ K', But cb K K' → R (.pan (wrongV e t)) K') : WD T 45 [.pointer (some ⟨cb, 0, none⟩)] K R := by
 obtain ⟨hr, hn, hok⟩ := hs.hs
 unfold few at hn
 obtain ⟨ad, hv⟩ := hr.sl
 rw [List.length_map] at hv
 have lc := hc.lt
 have hc0 := hc
 unfold Chk at hc0
 refine WD.of follows t45 (by simp) ?_
 simp (disch := omega) only [kB, kcx, kdm, kdn, kel, aop, Za, Zb, Zc, reduceCtorEq, Zd, Ze, Zf, Zg, Zh, Zi, Zj, Zk, Zl, Zm, Zn, Zo, Zp, Zq, Zr, Zs, Zt, hc0, hv]
 obtain ⟨K1, hK1⟩ : ∃ K1, K1 = K.set cb (AObj.row [.slice ad s.headers.length s.headers.length, s.mv, s.sv, s.av, s.tv, s.cv, .string (bs [104, 101, 97, 100, 101, 114])] 0 true) := ⟨_, rfl⟩
 rw [← hK1]
 have hc1 : Chk K1 cb s [104, 101, 97, 100, 101, 114] := by rw [hK1]; unfold Chk; rw [hget_set' hc.lt, hv]
 have b1 : But cb K K1 := by rw [hK1]; exact But.refl.set
 clear hK1
 refine need_s hc1 (fun g => ?_) (fun g => ?_)
 ·have g' : s.headers.length ≤ 32 := by have := of_decide_eq_true g; omega
  have hE : headersE s = hdrsE [] s.headers := by rw [headersE, if_pos g']
  have hc1' := hc1
  unfold Chk at hc1'
  simp (disch := omega) only [kB, kcx, kdm, kdn, kel, aop, Za, Zb, Zc, reduceCtorEq, Zd, Ze, Zf, Zg, Zh, Zi, Zj, Zk, Zl, Zm, Zn, Zo, Zp, Zq, Zr, Zs, Zt, hc1', hv]
  obtain ⟨K2, hK2⟩ : ∃ K2, K2 = K1 ++ [AObj.map []] := ⟨_, rfl⟩
  rw [← hK2]
  have b2 : Base K1 K2 := by rw [hK2]; exact Base.app0 _
  have hm2 : Names K2 K1.length [] := by rw [hK2, Names, hget_last]; rfl
  clear hK2
  have hc2 := hc1.base b2
  have l1 := b1.1
  have hcm : cb ≠ K1.length := by have := hc1.lt; omega
  have hc2' := hc2
  unfold Chk at hc2'
  simp (disch := omega) only [kB, kcx, kdm, kdn, kel, aop, Za, Zb, Zc, reduceCtorEq, Zd, Ze, Zf, Zg, Zh, Zi, Zj, Zk, Zl, Zm, Zn, Zo, Zp, Zq, Zr, Zs, Zt, hc2', hv]
  refine WLoop.inv (hdI K cb K1.length s (.slice ad s.headers.length s.headers.length)) ?_ s.headers.length _ _ ⟨0, _, Nat.zero_le _, by omega, b1.add b2, hc2, hm2, rfl, by exact ex_env rfl⟩
  rintro z e K' ⟨i, th', hi, rfl, bK, hcK, hm, hx, ⟨x, rfl⟩⟩
  by_cases hlt : i < s.headers.length
  ·have c1 : (i : Int) < (s.headers.length : Int) := by omega
   obtain ⟨b, u0, w0, rfl, p1, p2, p3, p4, p5⟩ := (hv ▸ hr).at Hdr.len hlt
   have prow := (bK.base hb hcb).rowc p2
   have w2 : IntKind.i64.wrap ((i : Int) + 1) = ((i + 1 : Nat) : Int) := wI (by omega)
   have htk := take_map Hdr.name hlt
   have hxo := hok _ (List.getElem_mem hlt)
   have hxs := hn0 _ (List.getElem_mem hlt)
   rw [List.drop_eq_getElem_cons hlt, hdrsE, hdrE] at hx
   generalize s.headers[i] = hd at *
   simp only [Hdr.cells] at p3
   have o := hxo.one
   have hxo' := hxo
   obtain ⟨fr, fn, fk⟩ := hxo'
   obtain ⟨fa, fv⟩ := fr.sl
   rw [List.length_map] at fv
   unfold few at fn
   have lm := hm.lt
   have lcK := hcK.lt
   have lK := bK.1
   have hcK' := hcK
   unfold Chk at hcK'
   unfold short at hxs
   have hadd : binV .add (.string (bs [104, 101, 97, 100, 101, 114, 32])) (.string (bs hd.name)) = some (.string (bs ([104, 101, 97, 100, 101, 114, 32] ++ hd.name))) := bin_str_add (by simp; omega)
   simp (disch := omega) only [kB, kcx, kdm, kdn, kel, aop, Za, Zb, Zc, reduceCtorEq, Zd, Ze, Zf, Zg, Zh, Zi, Zj, Zk, Zl, Zm, Zn, Zo, Zp, Zq, Zr, Zs, Zt, c1, prow, p3, p4, o, hadd, hcK']
   obtain ⟨K4, hK4⟩ : ∃ K4, K4 = K'.set cb (AObj.row [s.hv, s.mv, s.sv, s.av, s.tv, s.cv, .string (bs (104 :: 101 :: 97 :: 100 :: 101 :: 114 :: 32 :: hd.name))] 0 true) ++ [AObj.row [.string (bs hd.name), hd.fv] 0 true] := ⟨_, rfl⟩
   rw [← hK4]
   have b4 : But cb K' K4 := by rw [hK4]; exact But.refl.set.app _
   have hc4 : Chk K4 cb s ([104, 101, 97, 100, 101, 114, 32] ++ hd.name) := by rw [hK4]; unfold Chk; rw [hget_old (by simpa using lcK)]; exact hget_set' lcK
   have hbx4 : hget K4 K'.length = .row [.string (bs hd.name), hd.fv] 0 true := by
    have := hget_last (K'.set cb (AObj.row [s.hv, s.mv, s.sv, s.av, s.tv, s.cv, .string (bs (104 :: 101 :: 97 :: 100 :: 101 :: 114 :: 32 :: hd.name))] 0 true)) (AObj.row [.string (bs hd.name), hd.fv] 0 true)
    rw [List.length_set] at this
    rw [hK4]
    exact this
   clear hK4
   have hm4 := hm.but b4 (Ne.symm hcm)
   have bK4 := bK.trans b4
   refine name_s hc4 hm4 (fun g K5 b5 hm5 => ?_) (fun e g => ?_)
   ·rw [g] at hx
    simp only at hx
    have hc5 := hc4.but b5 hcm
    have hbx5 := b5.row hbx4 (by omega)
    have bK5 := bK4.new b5 l1
    have bad : ¬ (1 ≤ hd.fields.length ∧ hd.fields.length ≤ 32) → R (.pan (wrongV 74 ([104, 101, 97, 100, 101, 114, 32] ++ hd.name))) K5 := fun q => by
     rw [if_neg q] at hx
     exact hp _ _ (hE.trans hx) _ bK5
    by_cases g1 : (0 : Int) < (hd.fields.length : Int)
    ·by_cases g2 : (hd.fields.length : Int) ≤ 32
     ·rw [if_pos ⟨by omega, by omega⟩] at hx
      simp (disch := omega) only [kB, kcx, kdm, kdn, kel, aop, Za, Zb, Zc, reduceCtorEq, Zd, Ze, Zf, Zg, Zh, Zi, Zj, Zk, Zl, Zm, Zn, Zo, Zp, Zq, Zr, Zs, Zt, hbx5, g1, g2, fv]
      refine need_s hc5 (fun _ => ?_) (fun q => by cases q)
      simp (disch := omega) only [kB, kcx, kdm, kdn, kel, aop, Za, Zb, Zc, reduceCtorEq, Zd, Ze, Zf, Zg, Zh, Zi, Zj, Zk, Zl, Zm, Zn, Zo, Zp, Zq, Zr, Zs, Zt, hbx5]
      refine fields_s hc5 hxo (bK5.base hb hcb) (fun q K6 b6 => ?_) (fun e q K6 b6 => ?_)
      ·rw [q] at hx
       simp only at hx
       have wd := fieldsE_ok q
       have hbx6 := b6.rowc hbx5
       have hc6 := hc5.base b6
       simp (disch := omega) only [kB, kcx, kdm, kdn, kel, aop, Za, Zb, Zc, reduceCtorEq, Zd, Ze, Zf, Zg, Zh, Zi, Zj, Zk, Zl, Zm, Zn, Zo, Zp, Zq, Zr, Zs, Zt, hbx6, fv]
       refine WLoop.inv (hdJ K6 cb K1.length s (.slice (some ⟨b, 0, none⟩) s.headers.length s.headers.length) i (.slice fa hd.fields.length hd.fields.length) hd.fields) ?_ hd.fields.length _ _ ⟨0, Nat.zero_le _, by omega, Base.refl, by exact ex_env rfl⟩
       rintro z e K7 ⟨k, hk, rfl, b7, ⟨x, rfl⟩⟩
       by_cases hkl : k < hd.fields.length
       ·have c3 : (k : Int) < (hd.fields.length : Int) := by omega
        obtain ⟨b', u1, w1, rfl, q1, q2, q3, q4, q5⟩ := (fv ▸ fr).at Fld.len hkl
        have qrow := (((bK5.base hb hcb).trans b6).trans b7).rowc q2
        have w3 : IntKind.i64.wrap ((k : Int) + 1) = ((k + 1 : Nat) : Int) := wI (by omega)
        have hst := sumW_take hkl
        have hw := wd _ (List.getElem_mem hkl)
        have h7 := sumW_le (l := hd.fields.take k) (fun f hf => wd f (List.mem_of_mem_take hf))
        rw [List.length_take, Nat.min_eq_left hk] at h7
        have w4 : IntKind.i64.wrap (sumW (hd.fields.take k) + hd.fields[k].width) = sumW (hd.fields.take (k + 1)) := by rw [hst]; exact wr_i64 (by omega) (by omega)
        generalize hd.fields[k] = f at *
        simp only [Fld.cells] at q3
        simp (disch := omega) only [kB, kcx, kdm, kdn, kel, aop, Za, Zb, Zc, reduceCtorEq, Zd, Ze, Zf, Zg, Zh, Zi, Zj, Zk, Zl, Zm, Zn, Zo, Zp, Zq, Zr, Zs, Zt, c3, qrow, q3, q4, w4, w3]
        exact ⟨hd.fields.length - (k + 1), by omega, k + 1, by omega, rfl, b7.app _, by exact ex_env rfl⟩
       ·have c3 : ¬ (k : Int) < (hd.fields.length : Int) := by omega
        have hk2 : hd.fields.take k = hd.fields := List.take_of_length_le (by omega)
        rw [hk2]
        have h7 := sumW_le wd
        have hrem := bin_rem8 h7.1
        have hc7 := hc6.base b7
        have bK7 := (bK5.add b6).add b7
        simp (disch := omega) only [kB, kcx, kdm, kdn, kel, aop, Za, Zb, Zc, reduceCtorEq, Zd, Ze, Zf, Zg, Zh, Zi, Zj, Zk, Zl, Zm, Zn, Zo, Zp, Zq, Zr, Zs, Zt, c3, hrem]
        refine need_s hc7 (fun q => ?_) (fun q => ?_)
        ·rw [if_pos (of_decide_eq_true q)] at hx
         simp (disch := omega) only [kB, kcx, kdm, kdn, kel, aop, Za, Zb, Zc, reduceCtorEq, Zd, Ze, Zf, Zg, Zh, Zi, Zj, Zk, Zl, Zm, Zn, Zo, Zp, Zq, Zr, Zs, Zt, w2]
         exact ⟨s.headers.length - (i + 1), by omega, i + 1, _, by omega, rfl, bK7, hc7, by rw [htk]; exact (hm5.base b6).base b7, by rw [htk]; exact hx, by exact ex_env rfl⟩
        ·rw [if_neg (of_decide_eq_false q)] at hx
         have hh := hp _ _ (hE.trans hx) _ bK7
         exact hh
      ·rw [q] at hx
       have hh := hp _ _ (hE.trans hx) _ (bK5.add b6)
       exact hh
     ·have hh := bad (fun q => g2 (by omega))
      simp (disch := omega) only [kB, kcx, kdm, kdn, kel, aop, Za, Zb, Zc, reduceCtorEq, Zd, Ze, Zf, Zg, Zh, Zi, Zj, Zk, Zl, Zm, Zn, Zo, Zp, Zq, Zr, Zs, Zt, hbx5, g1, g2, fv]
      refine need_s hc5 (fun q => by cases q) (fun _ => ?_)
      exact hh
    ·have hh := bad (fun q => g1 (by omega))
     simp (disch := omega) only [kB, kcx, kdm, kdn, kel, aop, Za, Zb, Zc, reduceCtorEq, Zd, Ze, Zf, Zg, Zh, Zi, Zj, Zk, Zl, Zm, Zn, Zo, Zp, Zq, Zr, Zs, Zt, hbx5, g1, fv]
     refine need_s hc5 (fun q => by cases q) (fun _ => ?_)
     exact hh
   ·rw [g] at hx
    have hh := hp _ _ (hE.trans hx) _ bK4
    exact hh
  ·have c1 : ¬ (i : Int) < (s.headers.length : Int) := by omega
   rw [List.drop_eq_nil_of_le (by omega), hdrsE] at hx
   have hh := h (hE.trans hx) _ _ bK hcK
   simp (disch := omega) only [kB, kcx, kdm, kdn, kel, aop, Za, Zb, Zc, reduceCtorEq, Zd, Ze, Zf, Zg, Zh, Zi, Zj, Zk, Zl, Zm, Zn, Zo, Zp, Zq, Zr, Zs, Zt, c1]
   exact hh
 ·have g' : ¬ s.headers.length ≤ 32 := by have := of_decide_eq_false g; omega
  have hh := hp 74 [104, 101, 97, 100, 101, 114] (by rw [headersE, if_neg g']) _ b1
  exact hh
end
section
variable {R : FRes → Heap → Prop} {H K : Heap}
theorem eqT_s (a b : List UInt8) : eqT1 2 (.string (bs a)) (.string (bs b)) = some (decide (a = b)) := by
 simp only [eqT1, bs]
 congr 1
 rw [Bool.eq_iff_iff]
 simp
theorem eqT_i (k : IntKind) (a b : Int) : eqT1 1 (.int k a) (.int k b) = some (decide (a = b)) := by
 simp only [eqT1, if_true]
 congr 1
theorem eqL_c (t : Nat) (x y : Value) (l : List (Nat × Value × Value)) (b : Bool) (h : eqT1 t x y = some b) (c : Bool) (hl : eqL l = some c) : eqL ((t, x, y) :: l) = some (b && c) := by
 rw [eqL, h]
 cases b
 ·rfl
 ·exact hl
theorem eqL_n : eqL [] = some true := rfl
theorem nat_dec (a b : Nat) : decide ((a : Int) = (b : Int)) = decide (a = b) := by
 congr 1
 exact propext (by omega)
theorem Fld.eqs (x y : Fld) : eqL [(2, .string (bs x.name), .string (bs y.name)), (1, .int .i64 x.width, .int .i64 y.width)] = some (decide (x = y)) := by
 rw [eqL_c _ _ _ _ _ (eqT_s _ _) _ (eqL_c _ _ _ _ _ (eqT_i _ _ _) _ eqL_n), Bool.and_true]
 congr 1
 cases x; cases y
 rw [Bool.eq_iff_iff]
 simp
theorem Bt.eqs (x y : Bt) : eqL [(1, .int .u64 (x.hi : Int), .int .u64 (y.hi : Int)), (1, .int .u64 (x.lo : Int), .int .u64 (y.lo : Int))] = some (decide (x = y)) := by
 rw [eqL_c _ _ _ _ _ (eqT_i _ _ _) _ (eqL_c _ _ _ _ _ (eqT_i _ _ _) _ eqL_n), Bool.and_true, nat_dec, nat_dec]
 congr 1
 cases x; cases y
 rw [Bool.eq_iff_iff]
 simp
theorem Ky.eqs (x y : Ky) : eqL [(2, .string (bs x.ref.head), .string (bs y.ref.head)), (2, .string (bs x.ref.name), .string (bs y.ref.name)), (1, .int .i64 x.kind, .int .i64 y.kind)] = some (decide (x = y)) := by
 rw [eqL_c _ _ _ _ _ (eqT_s _ _) _ (eqL_c _ _ _ _ _ (eqT_s _ _) _ (eqL_c _ _ _ _ _ (eqT_i _ _ _) _ eqL_n)), Bool.and_true]
 congr 1
 obtain ⟨⟨a, b⟩, c⟩ := x
 obtain ⟨⟨a2, b2⟩, c2⟩ := y
 rw [Bool.eq_iff_iff]
 simp [and_assoc]
theorem Stp.eqs (x y : Stp) : eqL [(1, .int .i64 x.kind, .int .i64 y.kind), (2, .string (bs x.to.head), .string (bs y.to.head)), (2, .string (bs x.to.name), .string (bs y.to.name)), (1, .int .i64 x.op, .int .i64 y.op),
  (2, .string (bs x.a.ref.head), .string (bs y.a.ref.head)), (2, .string (bs x.a.ref.name), .string (bs y.a.ref.name)), (1, .int .u64 (x.a.const.hi : Int), .int .u64 (y.a.const.hi : Int)), (1, .int .u64 (x.a.const.lo : Int), .int .u64 (y.a.const.lo : Int)),
  (2, .string (bs x.b.ref.head), .string (bs y.b.ref.head)), (2, .string (bs x.b.ref.name), .string (bs y.b.ref.name)), (1, .int .u64 (x.b.const.hi : Int), .int .u64 (y.b.const.hi : Int)), (1, .int .u64 (x.b.const.lo : Int), .int .u64 (y.b.const.lo : Int))] = some (decide (x = y)) := by
 rw [eqL_c _ _ _ _ _ (eqT_i _ _ _) _ (eqL_c _ _ _ _ _ (eqT_s _ _) _ (eqL_c _ _ _ _ _ (eqT_s _ _) _ (eqL_c _ _ _ _ _ (eqT_i _ _ _) _ (eqL_c _ _ _ _ _ (eqT_s _ _) _ (eqL_c _ _ _ _ _ (eqT_s _ _) _ (eqL_c _ _ _ _ _ (eqT_i _ _ _) _ (eqL_c _ _ _ _ _ (eqT_i _ _ _) _
  (eqL_c _ _ _ _ _ (eqT_s _ _) _ (eqL_c _ _ _ _ _ (eqT_s _ _) _ (eqL_c _ _ _ _ _ (eqT_i _ _ _) _ (eqL_c _ _ _ _ _ (eqT_i _ _ _) _ eqL_n)))))))))))]
 simp only [nat_dec, Bool.and_true]
 congr 1
 obtain ⟨k, ⟨a, b⟩, o, ⟨⟨c, d⟩, ⟨e, f⟩⟩, ⟨⟨g, h⟩, ⟨i, j⟩⟩⟩ := x
 obtain ⟨k2, ⟨a2, b2⟩, o2, ⟨⟨c2, d2⟩, ⟨e2, f2⟩⟩, ⟨⟨g2, h2⟩, ⟨i2, j2⟩⟩⟩ := y
 rw [Bool.eq_iff_iff]
 simp [and_assoc]
theorem Cas.eqs (x y : Cas) : eqL [(1, .int .u64 (x.value.hi : Int), .int .u64 (y.value.hi : Int)), (1, .int .u64 (x.value.lo : Int), .int .u64 (y.value.lo : Int)), (1, .int .u64 (x.mask.hi : Int), .int .u64 (y.mask.hi : Int)), (1, .int .u64 (x.mask.lo : Int), .int .u64 (y.mask.lo : Int)), (2, .string (bs x.next), .string (bs y.next))] = some (decide (x = y)) := by
 rw [eqL_c _ _ _ _ _ (eqT_i _ _ _) _ (eqL_c _ _ _ _ _ (eqT_i _ _ _) _ (eqL_c _ _ _ _ _ (eqT_i _ _ _) _ (eqL_c _ _ _ _ _ (eqT_i _ _ _) _ (eqL_c _ _ _ _ _ (eqT_s _ _) _ eqL_n))))]
 simp only [nat_dec, Bool.and_true]
 congr 1
 obtain ⟨⟨a, b⟩, ⟨c, d⟩, e⟩ := x
 obtain ⟨⟨a2, b2⟩, ⟨c2, d2⟩, e2⟩ := y
 rw [Bool.eq_iff_iff]
 simp [and_assoc]
theorem Tst.eqs (x y : Tst) : eqL [(1, .int .i64 x.kind, .int .i64 y.kind),
  (2, .string (bs x.a.ref.head), .string (bs y.a.ref.head)), (2, .string (bs x.a.ref.name), .string (bs y.a.ref.name)), (1, .int .u64 (x.a.const.hi : Int), .int .u64 (y.a.const.hi : Int)), (1, .int .u64 (x.a.const.lo : Int), .int .u64 (y.a.const.lo : Int)),
  (2, .string (bs x.b.ref.head), .string (bs y.b.ref.head)), (2, .string (bs x.b.ref.name), .string (bs y.b.ref.name)), (1, .int .u64 (x.b.const.hi : Int), .int .u64 (y.b.const.hi : Int)), (1, .int .u64 (x.b.const.lo : Int), .int .u64 (y.b.const.lo : Int))] = some (decide (x = y)) := by
 rw [eqL_c _ _ _ _ _ (eqT_i _ _ _) _ (eqL_c _ _ _ _ _ (eqT_s _ _) _ (eqL_c _ _ _ _ _ (eqT_s _ _) _ (eqL_c _ _ _ _ _ (eqT_i _ _ _) _ (eqL_c _ _ _ _ _ (eqT_i _ _ _) _
  (eqL_c _ _ _ _ _ (eqT_s _ _) _ (eqL_c _ _ _ _ _ (eqT_s _ _) _ (eqL_c _ _ _ _ _ (eqT_i _ _ _) _ (eqL_c _ _ _ _ _ (eqT_i _ _ _) _ eqL_n))))))))]
 simp only [nat_dec, Bool.and_true]
 congr 1
 obtain ⟨k, ⟨⟨c, d⟩, ⟨e, f⟩⟩, ⟨⟨g, h⟩, ⟨i, j⟩⟩⟩ := x
 obtain ⟨k2, ⟨⟨c2, d2⟩, ⟨e2, f2⟩⟩, ⟨⟨g2, h2⟩, ⟨i2, j2⟩⟩⟩ := y
 rw [Bool.eq_iff_iff]
 simp [and_assoc]
/-- The same against nothing. -/
def Rf.zero : Rf := ⟨[], []⟩
def Bt.zero : Bt := ⟨0, 0⟩
def Opd.zero : Opd := ⟨⟨[], []⟩, ⟨0, 0⟩⟩
def Tst.zero : Tst := ⟨0, Opd.zero, Opd.zero⟩
theorem Rf.eqz (x : Rf) : eqL [(2, .string (bs x.head), .string (bs [])), (2, .string (bs x.name), .string (bs []))] = some (decide (x = Rf.zero)) := by
 rw [eqL_c _ _ _ _ _ (eqT_s _ _) _ (eqL_c _ _ _ _ _ (eqT_s _ _) _ eqL_n), Bool.and_true]
 congr 1
 cases x
 rw [Bool.eq_iff_iff]
 simp [Rf.zero]
theorem Bt.eqz (x : Bt) : eqL [(1, .int .u64 (x.hi : Int), .int .u64 0), (1, .int .u64 (x.lo : Int), .int .u64 0)] = some (decide (x = Bt.zero)) := by
 rw [eqL_c _ _ _ _ _ (eqT_i _ _ _) _ (eqL_c _ _ _ _ _ (eqT_i _ _ _) _ eqL_n), Bool.and_true]
 congr 1
 cases x
 rw [Bool.eq_iff_iff]
 simp [Bt.zero]
theorem Opd.eqz (x : Opd) : eqL [(2, .string (bs x.ref.head), .string (bs [])), (2, .string (bs x.ref.name), .string (bs [])), (1, .int .u64 (x.const.hi : Int), .int .u64 0), (1, .int .u64 (x.const.lo : Int), .int .u64 0)] = some (decide (x = Opd.zero)) := by
 rw [eqL_c _ _ _ _ _ (eqT_s _ _) _ (eqL_c _ _ _ _ _ (eqT_s _ _) _ (eqL_c _ _ _ _ _ (eqT_i _ _ _) _ (eqL_c _ _ _ _ _ (eqT_i _ _ _) _ eqL_n))), Bool.and_true]
 congr 1
 obtain ⟨⟨a, b⟩, ⟨c, d⟩⟩ := x
 rw [Bool.eq_iff_iff]
 simp [Opd.zero, and_assoc]
end
section
variable {R : FRes → Heap → Prop} {H K : Heap}
def headerAtI (K : Heap) (bx : Nat) (t : List UInt8) (ad : Option Addr) (l : List Hdr) (g : FuncId) : Nat → Env → Heap → Prop := fun z e K' =>
 ∃ i : Nat, i ≤ l.length ∧ z = l.length - i ∧ Base K K' ∧ hget K' bx = .row [.string (bs t)] 0 true ∧ ixT t (l.map Hdr.name) 0 = ixT t ((l.map Hdr.name).drop i) i ∧
  (∃ x : Nat → Value, e = [.slice ad l.length l.length, .func (.func g) #[] #[.pointer (some ⟨bx, 0, none⟩)], x 2, x 3, x 4, x 5, x 6, .int .i64 (l.length : Int), .int .i64 (i : Int), x 9, x 10, x 11, x 12, x 13, x 14, x 15, x 16, x 17, x 18])
theorem headerAt_l {t : List UInt8} {l : List Hdr} {ad : Option Addr} (hr : RoSl H (.slice ad l.length l.length) (l.map Hdr.cells)) (hn : few 40 l.length) (hok : ∀ x ∈ l, x.OK H) {K0 : Heap} {bx : Nat} (hb : Base H K0) (hbx : bx < K0.length) (hg : hget K0 bx = .row [.string (bs t)] 0 true)
  (h : ∀ K', Base K0 K' → R (.ret (.int .i64 (ixT t (l.map Hdr.name) 0))) K') : WD T 84 [.slice ad l.length l.length, .func (.func 85) #[] #[.pointer (some ⟨bx, 0, none⟩)]] K0 R := by
 unfold few at hn
 refine WD.of follows t84 (by simp) ?_
 simp (disch := omega) only [kB, kcx, kdm, kdn, kel, aop, Za, Zb, Zc, reduceCtorEq, Zd, Ze, Zf, Zg, Zh, Zi, Zj, Zk, Zl, Zm, Zn, Zo, Zp, Zq, Zr, Zs, Zt]
 refine WD.of follows t103 (by simp) ?_
 simp (disch := omega) only [kB, kcx, kdm, kdn, kel, aop, Za, Zb, Zc, reduceCtorEq, Zd, Ze, Zf, Zg, Zh, Zi, Zj, Zk, Zl, Zm, Zn, Zo, Zp, Zq, Zr, Zs, Zt]
 refine WLoop.inv (headerAtI K0 bx t ad l 85) ?_ l.length _ _ ⟨0, Nat.zero_le _, by omega, Base.refl, hg, by simp, by exact ex_env rfl⟩
 rintro z e K' ⟨i, hi, rfl, hb2, hg2, hx, ⟨x, rfl⟩⟩
 by_cases hlt : i < l.length
 ·have c0 : (i : Int) < (l.length : Int) := by omega
  obtain ⟨b, u0, w0, rfl, hbl, hrow0, hcut, hle, _⟩ := hr.at Hdr.len hlt
  have hrow : hget K' b = .row (l.map Hdr.cells).flatten u0 w0 := by rw [(hb.trans hb2).2 b hbl]; exact hrow0
  have w2 : IntKind.i64.wrap ((i : Int) + 1) = ((i + 1 : Nat) : Int) := wI (by omega)
  have c3 : bx < K'.length := by have := hb2.1; omega
  rw [ixT_drop (by simpa using hlt), List.getElem_map] at hx
  have ho := hok _ (List.getElem_mem hlt)
  generalize l[i] = x at *
  simp (disch := omega) only [kB, kcx, kdm, kdn, kel, aop, Za, Zb, Zc, reduceCtorEq, Zd, Ze, Zf, Zg, Zh, Zi, Zj, Zk, Zl, Zm, Zn, Zo, Zp, Zq, Zr, Zs, Zt, c0, hrow, hcut, hle]
  refine WD.of follows t85 (by simp) ?_
  simp only [Hdr.cells]
  have o := ho.one
  by_cases he : x.name = t
  ·rw [if_pos he] at hx
   have hh := h (K' ++ [.row x.cells 0 true]) (hb2.app _)
   rw [hx] at hh
   simp only [Hdr.cells] at hh
   simp (disch := omega) only [kB, kcx, kdm, kdn, kel, aop, Za, Zb, Zc, reduceCtorEq, Zd, Ze, Zf, Zg, Zh, Zi, Zj, Zk, Zl, Zm, Zn, Zo, Zp, Zq, Zr, Zs, Zt, hg2, decide_eq_true he, o]
   exact hh
  ·rw [if_neg he] at hx
   simp (disch := omega) only [kB, kcx, kdm, kdn, kel, aop, Za, Zb, Zc, reduceCtorEq, Zd, Ze, Zf, Zg, Zh, Zi, Zj, Zk, Zl, Zm, Zn, Zo, Zp, Zq, Zr, Zs, Zt, hg2, decide_eq_false he, w2, o]
   exact ⟨l.length - (i + 1), by omega, i + 1, by omega, rfl, hb2.app _, by rw [hget_old c3]; exact hg2, hx, by exact ex_env rfl⟩
 ·have c0 : ¬ (i : Int) < (l.length : Int) := by omega
  rw [ixT_end (by simp; omega)] at hx
  have hh := h _ hb2
  rw [hx] at hh
  simp (disch := omega) only [kB, kcx, kdm, kdn, kel, aop, Za, Zb, Zc, reduceCtorEq, Zd, Ze, Zf, Zg, Zh, Zi, Zj, Zk, Zl, Zm, Zn, Zo, Zp, Zq, Zr, Zs, Zt, c0]
  exact hh
theorem headerAt_s {s : Sch} (hs : s.OK H) (hb : Base H K) {t : List UInt8} (h : R (.ret (.int .i64 (ixT t (s.headers.map Hdr.name) 0))) K) : WD T 42 [.agg s.cells.toArray, .string (bs t)] K R := by
 refine WD.gc0 (WD.of follows t42 (by simp) ?_)
 obtain ⟨o0, o1, o2, o3, o4, o5⟩ := hs.one
 obtain ⟨hr, hn, hok⟩ := hs.hs
 obtain ⟨ad, hv⟩ := hr.sl
 rw [List.length_map] at hv
 simp only [Sch.cells]
 simp only [hv] at hr o0 ⊢
 simp (disch := omega) only [kB, kcx, kdm, kdn, kel, aop, Za, Zb, Zc, reduceCtorEq, Zd, Ze, Zf, Zg, Zh, Zi, Zj, Zk, Zl, Zm, Zn, Zo, Zp, Zq, Zr, Zs, Zt, o0, o1, o2, o3, o4, o5]
 refine headerAt_l hr hn hok (hb.app _) (by simp) (by rw [hget_base]; rfl) ?_
 intro K' hb2
 have hb3 : Base K K' := (Base.app0 _).trans hb2
 simp (disch := omega) only [kB, kcx, kdm, kdn, kel, aop, Za, Zb, Zc, reduceCtorEq, Zd, Ze, Zf, Zg, Zh, Zi, Zj, Zk, Zl, Zm, Zn, Zo, Zp, Zq, Zr, Zs, Zt]
 exact ⟨_, rfl, hb3.ext, .int, h⟩
def actionAtI (K : Heap) (bx : Nat) (t : List UInt8) (ad : Option Addr) (l : List Act) (g : FuncId) : Nat → Env → Heap → Prop := fun z e K' =>
 ∃ i : Nat, i ≤ l.length ∧ z = l.length - i ∧ Base K K' ∧ hget K' bx = .row [.string (bs t)] 0 true ∧ ixT t (l.map Act.name) 0 = ixT t ((l.map Act.name).drop i) i ∧
  (∃ x : Nat → Value, e = [.slice ad l.length l.length, .func (.func g) #[] #[.pointer (some ⟨bx, 0, none⟩)], x 2, x 3, x 4, x 5, x 6, .int .i64 (l.length : Int), .int .i64 (i : Int), x 9, x 10, x 11, x 12, x 13, x 14, x 15, x 16, x 17, x 18])
theorem actionAt_l {t : List UInt8} {l : List Act} {ad : Option Addr} (hr : RoSl H (.slice ad l.length l.length) (l.map Act.cells)) (hn : few 64 l.length) (hok : ∀ x ∈ l, x.OK H) {K0 : Heap} {bx : Nat} (hb : Base H K0) (hbx : bx < K0.length) (hg : hget K0 bx = .row [.string (bs t)] 0 true)
  (h : ∀ K', Base K0 K' → R (.ret (.int .i64 (ixT t (l.map Act.name) 0))) K') : WD T 106 [.slice ad l.length l.length, .func (.func 107) #[] #[.pointer (some ⟨bx, 0, none⟩)]] K0 R := by
 unfold few at hn
 refine WD.of follows t106 (by simp) ?_
 simp (disch := omega) only [kB, kcx, kdm, kdn, kel, aop, Za, Zb, Zc, reduceCtorEq, Zd, Ze, Zf, Zg, Zh, Zi, Zj, Zk, Zl, Zm, Zn, Zo, Zp, Zq, Zr, Zs, Zt]
 refine WD.of follows t112 (by simp) ?_
 simp (disch := omega) only [kB, kcx, kdm, kdn, kel, aop, Za, Zb, Zc, reduceCtorEq, Zd, Ze, Zf, Zg, Zh, Zi, Zj, Zk, Zl, Zm, Zn, Zo, Zp, Zq, Zr, Zs, Zt]
 refine WLoop.inv (actionAtI K0 bx t ad l 107) ?_ l.length _ _ ⟨0, Nat.zero_le _, by omega, Base.refl, hg, by simp, by exact ex_env rfl⟩
 rintro z e K' ⟨i, hi, rfl, hb2, hg2, hx, ⟨x, rfl⟩⟩
 by_cases hlt : i < l.length
 ·have c0 : (i : Int) < (l.length : Int) := by omega
  obtain ⟨b, u0, w0, rfl, hbl, hrow0, hcut, hle, _⟩ := hr.at Act.len hlt
  have hrow : hget K' b = .row (l.map Act.cells).flatten u0 w0 := by rw [(hb.trans hb2).2 b hbl]; exact hrow0
  have w2 : IntKind.i64.wrap ((i : Int) + 1) = ((i + 1 : Nat) : Int) := wI (by omega)
  have c3 : bx < K'.length := by have := hb2.1; omega
  rw [ixT_drop (by simpa using hlt), List.getElem_map] at hx
  have ho := hok _ (List.getElem_mem hlt)
  generalize l[i] = x at *
  simp (disch := omega) only [kB, kcx, kdm, kdn, kel, aop, Za, Zb, Zc, reduceCtorEq, Zd, Ze, Zf, Zg, Zh, Zi, Zj, Zk, Zl, Zm, Zn, Zo, Zp, Zq, Zr, Zs, Zt, c0, hrow, hcut, hle]
  refine WD.of follows t107 (by simp) ?_
  simp only [Act.cells]
  obtain ⟨o, o'⟩ := ho.one
  by_cases he : x.name = t
  ·rw [if_pos he] at hx
   have hh := h (K' ++ [.row x.cells 0 true]) (hb2.app _)
   rw [hx] at hh
   simp only [Act.cells] at hh
   simp (disch := omega) only [kB, kcx, kdm, kdn, kel, aop, Za, Zb, Zc, reduceCtorEq, Zd, Ze, Zf, Zg, Zh, Zi, Zj, Zk, Zl, Zm, Zn, Zo, Zp, Zq, Zr, Zs, Zt, hg2, decide_eq_true he, o, o']
   exact hh
  ·rw [if_neg he] at hx
   simp (disch := omega) only [kB, kcx, kdm, kdn, kel, aop, Za, Zb, Zc, reduceCtorEq, Zd, Ze, Zf, Zg, Zh, Zi, Zj, Zk, Zl, Zm, Zn, Zo, Zp, Zq, Zr, Zs, Zt, hg2, decide_eq_false he, w2, o, o']
   exact ⟨l.length - (i + 1), by omega, i + 1, by omega, rfl, hb2.app _, by rw [hget_old c3]; exact hg2, hx, by exact ex_env rfl⟩
 ·have c0 : ¬ (i : Int) < (l.length : Int) := by omega
  rw [ixT_end (by simp; omega)] at hx
  have hh := h _ hb2
  rw [hx] at hh
  simp (disch := omega) only [kB, kcx, kdm, kdn, kel, aop, Za, Zb, Zc, reduceCtorEq, Zd, Ze, Zf, Zg, Zh, Zi, Zj, Zk, Zl, Zm, Zn, Zo, Zp, Zq, Zr, Zs, Zt, c0]
  exact hh
theorem actionAt_s {s : Sch} (hs : s.OK H) (hb : Base H K) {t : List UInt8} (h : R (.ret (.int .i64 (ixT t (s.actions.map Act.name) 0))) K) : WD T 90 [.agg s.cells.toArray, .string (bs t)] K R := by
 refine WD.gc0 (WD.of follows t90 (by simp) ?_)
 obtain ⟨o0, o1, o2, o3, o4, o5⟩ := hs.one
 obtain ⟨hr, hn, hok⟩ := hs.acs
 obtain ⟨ad, hv⟩ := hr.sl
 rw [List.length_map] at hv
 simp only [Sch.cells]
 simp only [hv] at hr o3 ⊢
 simp (disch := omega) only [kB, kcx, kdm, kdn, kel, aop, Za, Zb, Zc, reduceCtorEq, Zd, Ze, Zf, Zg, Zh, Zi, Zj, Zk, Zl, Zm, Zn, Zo, Zp, Zq, Zr, Zs, Zt, o0, o1, o2, o3, o4, o5]
 refine actionAt_l hr hn hok (hb.app _) (by simp) (by rw [hget_base]; rfl) ?_
 intro K' hb2
 have hb3 : Base K K' := (Base.app0 _).trans hb2
 simp (disch := omega) only [kB, kcx, kdm, kdn, kel, aop, Za, Zb, Zc, reduceCtorEq, Zd, Ze, Zf, Zg, Zh, Zi, Zj, Zk, Zl, Zm, Zn, Zo, Zp, Zq, Zr, Zs, Zt]
 exact ⟨_, rfl, hb3.ext, .int, h⟩
def tableAtI (K : Heap) (bx : Nat) (t : List UInt8) (ad : Option Addr) (l : List Tbl) (g : FuncId) : Nat → Env → Heap → Prop := fun z e K' =>
 ∃ i : Nat, i ≤ l.length ∧ z = l.length - i ∧ Base K K' ∧ hget K' bx = .row [.string (bs t)] 0 true ∧ ixT t (l.map Tbl.name) 0 = ixT t ((l.map Tbl.name).drop i) i ∧
  (∃ x : Nat → Value, e = [.slice ad l.length l.length, .func (.func g) #[] #[.pointer (some ⟨bx, 0, none⟩)], x 2, x 3, x 4, x 5, x 6, .int .i64 (l.length : Int), .int .i64 (i : Int), x 9, x 10, x 11, x 12, x 13, x 14, x 15, x 16, x 17, x 18])
theorem tableAt_l {t : List UInt8} {l : List Tbl} {ad : Option Addr} (hr : RoSl H (.slice ad l.length l.length) (l.map Tbl.cells)) (hn : few 120 l.length) (hok : ∀ x ∈ l, x.OK H) {K0 : Heap} {bx : Nat} (hb : Base H K0) (hbx : bx < K0.length) (hg : hget K0 bx = .row [.string (bs t)] 0 true)
  (h : ∀ K', Base K0 K' → R (.ret (.int .i64 (ixT t (l.map Tbl.name) 0))) K') : WD T 79 [.slice ad l.length l.length, .func (.func 80) #[] #[.pointer (some ⟨bx, 0, none⟩)]] K0 R := by
 unfold few at hn
 refine WD.of follows t79 (by simp) ?_
 simp (disch := omega) only [kB, kcx, kdm, kdn, kel, aop, Za, Zb, Zc, reduceCtorEq, Zd, Ze, Zf, Zg, Zh, Zi, Zj, Zk, Zl, Zm, Zn, Zo, Zp, Zq, Zr, Zs, Zt]
 refine WD.of follows t102 (by simp) ?_
 simp (disch := omega) only [kB, kcx, kdm, kdn, kel, aop, Za, Zb, Zc, reduceCtorEq, Zd, Ze, Zf, Zg, Zh, Zi, Zj, Zk, Zl, Zm, Zn, Zo, Zp, Zq, Zr, Zs, Zt]
 refine WLoop.inv (tableAtI K0 bx t ad l 80) ?_ l.length _ _ ⟨0, Nat.zero_le _, by omega, Base.refl, hg, by simp, by exact ex_env rfl⟩
 rintro z e K' ⟨i, hi, rfl, hb2, hg2, hx, ⟨x, rfl⟩⟩
 by_cases hlt : i < l.length
 ·have c0 : (i : Int) < (l.length : Int) := by omega
  obtain ⟨b, u0, w0, rfl, hbl, hrow0, hcut, hle, _⟩ := hr.at Tbl.len hlt
  have hrow : hget K' b = .row (l.map Tbl.cells).flatten u0 w0 := by rw [(hb.trans hb2).2 b hbl]; exact hrow0
  have w2 : IntKind.i64.wrap ((i : Int) + 1) = ((i + 1 : Nat) : Int) := wI (by omega)
  have c3 : bx < K'.length := by have := hb2.1; omega
  rw [ixT_drop (by simpa using hlt), List.getElem_map] at hx
  have ho := hok _ (List.getElem_mem hlt)
  generalize l[i] = x at *
  simp (disch := omega) only [kB, kcx, kdm, kdn, kel, aop, Za, Zb, Zc, reduceCtorEq, Zd, Ze, Zf, Zg, Zh, Zi, Zj, Zk, Zl, Zm, Zn, Zo, Zp, Zq, Zr, Zs, Zt, c0, hrow, hcut, hle]
  refine WD.of follows t80 (by simp) ?_
  simp only [Tbl.cells]
  obtain ⟨o, o', o2⟩ := ho.one
  by_cases he : x.name = t
  ·rw [if_pos he] at hx
   have hh := h (K' ++ [.row x.cells 0 true]) (hb2.app _)
   rw [hx] at hh
   simp only [Tbl.cells] at hh
   simp (disch := omega) only [kB, kcx, kdm, kdn, kel, aop, Za, Zb, Zc, reduceCtorEq, Zd, Ze, Zf, Zg, Zh, Zi, Zj, Zk, Zl, Zm, Zn, Zo, Zp, Zq, Zr, Zs, Zt, hg2, decide_eq_true he, o, o', o2]
   exact hh
  ·rw [if_neg he] at hx
   simp (disch := omega) only [kB, kcx, kdm, kdn, kel, aop, Za, Zb, Zc, reduceCtorEq, Zd, Ze, Zf, Zg, Zh, Zi, Zj, Zk, Zl, Zm, Zn, Zo, Zp, Zq, Zr, Zs, Zt, hg2, decide_eq_false he, w2, o, o', o2]
   exact ⟨l.length - (i + 1), by omega, i + 1, by omega, rfl, hb2.app _, by rw [hget_old c3]; exact hg2, hx, by exact ex_env rfl⟩
 ·have c0 : ¬ (i : Int) < (l.length : Int) := by omega
  rw [ixT_end (by simp; omega)] at hx
  have hh := h _ hb2
  rw [hx] at hh
  simp (disch := omega) only [kB, kcx, kdm, kdn, kel, aop, Za, Zb, Zc, reduceCtorEq, Zd, Ze, Zf, Zg, Zh, Zi, Zj, Zk, Zl, Zm, Zn, Zo, Zp, Zq, Zr, Zs, Zt, c0]
  exact hh
theorem tableAt_s {s : Sch} (hs : s.OK H) (hb : Base H K) {t : List UInt8} (h : R (.ret (.int .i64 (ixT t (s.tables.map Tbl.name) 0))) K) : WD T 40 [.agg s.cells.toArray, .string (bs t)] K R := by
 refine WD.gc0 (WD.of follows t40 (by simp) ?_)
 obtain ⟨o0, o1, o2, o3, o4, o5⟩ := hs.one
 obtain ⟨hr, hn, hok⟩ := hs.ts
 obtain ⟨ad, hv⟩ := hr.sl
 rw [List.length_map] at hv
 simp only [Sch.cells]
 simp only [hv] at hr o4 ⊢
 simp (disch := omega) only [kB, kcx, kdm, kdn, kel, aop, Za, Zb, Zc, reduceCtorEq, Zd, Ze, Zf, Zg, Zh, Zi, Zj, Zk, Zl, Zm, Zn, Zo, Zp, Zq, Zr, Zs, Zt, o0, o1, o2, o3, o4, o5]
 refine tableAt_l hr hn hok (hb.app _) (by simp) (by rw [hget_base]; rfl) ?_
 intro K' hb2
 have hb3 : Base K K' := (Base.app0 _).trans hb2
 simp (disch := omega) only [kB, kcx, kdm, kdn, kel, aop, Za, Zb, Zc, reduceCtorEq, Zd, Ze, Zf, Zg, Zh, Zi, Zj, Zk, Zl, Zm, Zn, Zo, Zp, Zq, Zr, Zs, Zt]
 exact ⟨_, rfl, hb3.ext, .int, h⟩
def fieldAtI (K : Heap) (bx : Nat) (t : List UInt8) (ad : Option Addr) (l : List Fld) (g : FuncId) : Nat → Env → Heap → Prop := fun z e K' =>
 ∃ i : Nat, i ≤ l.length ∧ z = l.length - i ∧ Base K K' ∧ hget K' bx = .row [.string (bs t)] 0 true ∧ ixT t (l.map Fld.name) 0 = ixT t ((l.map Fld.name).drop i) i ∧
  (∃ x : Nat → Value, e = [.slice ad l.length l.length, .func (.func g) #[] #[.pointer (some ⟨bx, 0, none⟩)], x 2, x 3, x 4, x 5, x 6, .int .i64 (l.length : Int), .int .i64 (i : Int), x 9, x 10, x 11, x 12, x 13, x 14, x 15, x 16, x 17, x 18])
theorem fieldAt_l {t : List UInt8} {l : List Fld} {ad : Option Addr} (hr : RoSl H (.slice ad l.length l.length) (l.map Fld.cells)) (hn : few 24 l.length) (hok : True) {K0 : Heap} {bx : Nat} (hb : Base H K0) (hbx : bx < K0.length) (hg : hget K0 bx = .row [.string (bs t)] 0 true)
  (h : ∀ K', Base K0 K' → R (.ret (.int .i64 (ixT t (l.map Fld.name) 0))) K') : WD T 108 [.slice ad l.length l.length, .func (.func 109) #[] #[.pointer (some ⟨bx, 0, none⟩)]] K0 R := by
 unfold few at hn
 refine WD.of follows t108 (by simp) ?_
 simp (disch := omega) only [kB, kcx, kdm, kdn, kel, aop, Za, Zb, Zc, reduceCtorEq, Zd, Ze, Zf, Zg, Zh, Zi, Zj, Zk, Zl, Zm, Zn, Zo, Zp, Zq, Zr, Zs, Zt]
 refine WD.of follows t113 (by simp) ?_
 simp (disch := omega) only [kB, kcx, kdm, kdn, kel, aop, Za, Zb, Zc, reduceCtorEq, Zd, Ze, Zf, Zg, Zh, Zi, Zj, Zk, Zl, Zm, Zn, Zo, Zp, Zq, Zr, Zs, Zt]
 refine WLoop.inv (fieldAtI K0 bx t ad l 109) ?_ l.length _ _ ⟨0, Nat.zero_le _, by omega, Base.refl, hg, by simp, by exact ex_env rfl⟩
 rintro z e K' ⟨i, hi, rfl, hb2, hg2, hx, ⟨x, rfl⟩⟩
 by_cases hlt : i < l.length
 ·have c0 : (i : Int) < (l.length : Int) := by omega
  obtain ⟨b, u0, w0, rfl, hbl, hrow0, hcut, hle, _⟩ := hr.at Fld.len hlt
  have hrow : hget K' b = .row (l.map Fld.cells).flatten u0 w0 := by rw [(hb.trans hb2).2 b hbl]; exact hrow0
  have w2 : IntKind.i64.wrap ((i : Int) + 1) = ((i + 1 : Nat) : Int) := wI (by omega)
  have c3 : bx < K'.length := by have := hb2.1; omega
  rw [ixT_drop (by simpa using hlt), List.getElem_map] at hx
  skip
  generalize l[i] = x at *
  simp (disch := omega) only [kB, kcx, kdm, kdn, kel, aop, Za, Zb, Zc, reduceCtorEq, Zd, Ze, Zf, Zg, Zh, Zi, Zj, Zk, Zl, Zm, Zn, Zo, Zp, Zq, Zr, Zs, Zt, c0, hrow, hcut, hle]
  refine WD.of follows t109 (by simp) ?_
  simp only [Fld.cells]
  skip
  by_cases he : x.name = t
  ·rw [if_pos he] at hx
   have hh := h (K' ++ [.row x.cells 0 true]) (hb2.app _)
   rw [hx] at hh
   simp only [Fld.cells] at hh
   simp (disch := omega) only [kB, kcx, kdm, kdn, kel, aop, Za, Zb, Zc, reduceCtorEq, Zd, Ze, Zf, Zg, Zh, Zi, Zj, Zk, Zl, Zm, Zn, Zo, Zp, Zq, Zr, Zs, Zt, hg2, decide_eq_true he]
   exact hh
  ·rw [if_neg he] at hx
   simp (disch := omega) only [kB, kcx, kdm, kdn, kel, aop, Za, Zb, Zc, reduceCtorEq, Zd, Ze, Zf, Zg, Zh, Zi, Zj, Zk, Zl, Zm, Zn, Zo, Zp, Zq, Zr, Zs, Zt, hg2, decide_eq_false he, w2]
   exact ⟨l.length - (i + 1), by omega, i + 1, by omega, rfl, hb2.app _, by rw [hget_old c3]; exact hg2, hx, by exact ex_env rfl⟩
 ·have c0 : ¬ (i : Int) < (l.length : Int) := by omega
  rw [ixT_end (by simp; omega)] at hx
  have hh := h _ hb2
  rw [hx] at hh
  simp (disch := omega) only [kB, kcx, kdm, kdn, kel, aop, Za, Zb, Zc, reduceCtorEq, Zd, Ze, Zf, Zg, Zh, Zi, Zj, Zk, Zl, Zm, Zn, Zo, Zp, Zq, Zr, Zs, Zt, c0]
  exact hh
theorem fieldAt_s {v : Value} {l : List Fld} (hv0 : FldL H v l) (hb : Base H K) {t : List UInt8} (h : R (.ret (.int .i64 (ixT t (l.map Fld.name) 0))) K) : WD T 94 [v, .string (bs t)] K R := by
 refine WD.gc0 (WD.of follows t94 (by simp) ?_)
 obtain ⟨hr, hn, _⟩ := hv0
 obtain ⟨ad, rfl⟩ := hr.sl
 rw [List.length_map] at hr ⊢
 simp (disch := omega) only [kB, kcx, kdm, kdn, kel, aop, Za, Zb, Zc, reduceCtorEq, Zd, Ze, Zf, Zg, Zh, Zi, Zj, Zk, Zl, Zm, Zn, Zo, Zp, Zq, Zr, Zs, Zt]
 refine fieldAt_l hr hn trivial (hb.app _) (by simp) (by rw [hget_base0]; rfl) ?_
 intro K' hb2
 have hb3 : Base K K' := (Base.app0 _).trans hb2
 simp (disch := omega) only [kB, kcx, kdm, kdn, kel, aop, Za, Zb, Zc, reduceCtorEq, Zd, Ze, Zf, Zg, Zh, Zi, Zj, Zk, Zl, Zm, Zn, Zo, Zp, Zq, Zr, Zs, Zt]
 exact ⟨_, rfl, hb3.ext, .int, h⟩
end
section
variable {R : FRes → Heap → Prop} {H K : Heap}
def ctnI (K : Heap) (ad : Option Addr) (t : List UInt8) (L : List (List UInt8)) : Nat → Env → Heap → Prop := fun z e K' =>
 ∃ i : Nat, i ≤ L.length ∧ z = L.length - i ∧ K' = K ∧ (∀ j (hj : j < L.length), j < i → L[j] ≠ t) ∧ (∃ x : Nat → Value, e = [.slice ad L.length L.length, .string (bs t), x 2, x 3, x 4, x 5, x 6, .int .i64 (L.length : Int), .int .i64 (i : Int), x 9, x 10, x 11, x 12, x 13, x 14, x 15, x 16, x 17, x 18])
theorem ctn_s {v : Value} {L : List (List UInt8)} (hv0 : TxL H v L) (hb : Base H K) {t : List UInt8} (h : R (.ret (.bool (decide (t ∈ L)))) K) : WD T 35 [v, .string (bs t)] K R := by
 refine WD.of follows t35 (by simp) ?_
 obtain ⟨hr, hn⟩ := hv0
 unfold few at hn
 obtain ⟨ad, rfl⟩ := hr.sl
 rw [List.length_map] at hr ⊢
 simp (disch := omega) only [kB, kcx, kdm, kdn, kel, aop, Za, Zb, Zc, reduceCtorEq, Zd, Ze, Zf, Zg, Zh, Zi, Zj, Zk, Zl, Zm, Zn, Zo, Zp, Zq, Zr, Zs, Zt]
 refine WD.of follows t77 (by simp) ?_
 simp (disch := omega) only [kB, kcx, kdm, kdn, kel, aop, Za, Zb, Zc, reduceCtorEq, Zd, Ze, Zf, Zg, Zh, Zi, Zj, Zk, Zl, Zm, Zn, Zo, Zp, Zq, Zr, Zs, Zt]
 refine WLoop.inv (ctnI K ad t L) ?_ L.length _ _ ⟨0, Nat.zero_le _, by omega, rfl, fun j hj h0 => by omega, by exact ex_env rfl⟩
 rintro z e K' ⟨i, hi, rfl, rfl, hno, ⟨x, rfl⟩⟩
 by_cases hlt : i < L.length
 ·have c0 : (i : Int) < (L.length : Int) := by omega
  obtain ⟨b, u0, w0, rfl, hbl, hrow0, _, _, hat⟩ := hr.at (u := 1) txC_len hlt
  have hrow : hget K' b = .row (L.map txC).flatten u0 w0 := by rw [hb.2 b hbl]; exact hrow0
  have h0 := hat 0 (by decide)
  simp only [txC, Nat.mul_one, Nat.add_zero, List.getElem?_cons_zero] at h0
  have w2 : IntKind.i64.wrap ((i : Int) + 1) = ((i + 1 : Nat) : Int) := wI (by omega)
  by_cases he : L[i] = t
  ·have hin : t ∈ L := by rw [← he]; exact List.getElem_mem hlt
   have c3 : (0 : Int) ≤ (i : Int) := by omega
   simp (disch := omega) only [kB, kcx, kdm, kdn, kel, aop, Za, Zb, Zc, reduceCtorEq, Zd, Ze, Zf, Zg, Zh, Zi, Zj, Zk, Zl, Zm, Zn, Zo, Zp, Zq, Zr, Zs, Zt, c0, hrow, h0, decide_eq_true he.symm, c3]
   simpa [hin] using h
  ·simp (disch := omega) only [kB, kcx, kdm, kdn, kel, aop, Za, Zb, Zc, reduceCtorEq, Zd, Ze, Zf, Zg, Zh, Zi, Zj, Zk, Zl, Zm, Zn, Zo, Zp, Zq, Zr, Zs, Zt, c0, hrow, h0, decide_eq_false (fun q => he (Eq.symm q)), w2]
   exact ⟨L.length - (i + 1), by omega, i + 1, by omega, rfl, rfl, fun j hj h1 => by
    by_cases q : j = i
    ·subst q; exact he
    ·exact hno j hj (by omega), by exact ex_env rfl⟩
 ·have c0 : ¬ (i : Int) < (L.length : Int) := by omega
  have hin : ¬ t ∈ L := fun h => by
   obtain ⟨j, hj, rfl⟩ := List.getElem_of_mem h
   exact hno j hj (by omega) rfl
  simp (disch := omega) only [kB, kcx, kdm, kdn, kel, aop, Za, Zb, Zc, reduceCtorEq, Zd, Ze, Zf, Zg, Zh, Zi, Zj, Zk, Zl, Zm, Zn, Zo, Zp, Zq, Zr, Zs, Zt, c0]
  simpa [hin] using h
end
section
variable {R : FRes → Heap → Prop} {H K : Heap}
def metaT : List UInt8 := [109, 101, 116, 97]
/-- The thing of that name, the first one. -/
def named {α : Type} (f : α → List UInt8) (l : List α) (t : List UInt8) : Option α := if ixT t (l.map f) 0 < 0 then none else l[(ixT t (l.map f) 0).toNat]?
theorem named_cases {α : Type} (f : α → List UInt8) (l : List α) (t : List UInt8) : (ixT t (l.map f) 0 = -1 ∧ named f l t = none) ∨ ∃ j, ∃ h : j < l.length, ixT t (l.map f) 0 = (j : Int) ∧ named f l t = some l[j] ∧ f l[j] = t := by
 unfold named
 rcases ixT_get t (l.map f) 0 with ⟨e, _⟩ | ⟨j, hj, e, hg⟩
 ·exact .inl ⟨e, by rw [e]; rfl⟩
 ·rw [List.length_map] at hj
  rw [Nat.zero_add] at e
  refine .inr ⟨j, hj, e, ?_, by simpa using hg⟩
  rw [e, if_neg (by omega), Int.toNat_natCast, List.getElem?_eq_getElem hj]
def fldOf (s : Sch) (r : Rf) : Option Fld :=
 if r.head = [] then none else if r.head = metaT then named Fld.name s.mets r.name else (named Hdr.name s.headers r.head).bind fun h => named Fld.name h.fields r.name
def fldV : Option Fld → Value
 | some f => .agg f.cells.toArray
 | none => .agg #[.string (bs []), .int .i64 0]
theorem fldV_scoped {n : Nat} {o : Option Fld} {b : Bool} : Scoped n (.tuple #[fldV o, .bool b]) := by
 refine .tup2 ?_ .bool
 cases o with
 | none => exact .agg (l := [.string (bs []), .int .i64 0]) (by intro v hv; simp at hv; rcases hv with rfl | rfl; exact .string; exact .int)
 | some f => exact .agg (l := f.cells) (by intro v hv; simp [Fld.cells] at hv; rcases hv with rfl | rfl; exact .string; exact .int)
theorem fld_mem {s : Sch} (hs : s.OK H) {r : Rf} {f : Fld} (h : fldOf s r = some f) : I64 f.width := by
 unfold fldOf at h
 split at h
 ·cases h
 ·split at h
  ·rcases named_cases Fld.name s.mets r.name with ⟨_, e⟩ | ⟨j, hj, _, e, _⟩
   ·rw [e] at h; cases h
   ·rw [e] at h; cases h; exact hs.ms.2.2 _ (List.getElem_mem hj)
  ·rcases named_cases Hdr.name s.headers r.head with ⟨_, e⟩ | ⟨j, hj, _, e, _⟩
   ·rw [e] at h; cases h
   ·rw [e] at h
    simp only [Option.bind_some] at h
    have ho := hs.hs.2.2 _ (List.getElem_mem hj)
    rcases named_cases Fld.name s.headers[j].fields r.name with ⟨_, e⟩ | ⟨k, hk, _, e, _⟩
    ·rw [e] at h; cases h
    ·rw [e] at h; cases h; exact ho.2.2 _ (List.getElem_mem hk)
set_option maxHeartbeats 1000000 in
theorem fieldOf_s {s : Sch} (hs : s.OK H) (hb : Base H K) {r : Rf} (h : R (.ret (.tuple #[fldV (fldOf s r), .bool (fldOf s r).isSome])) K) : WD T 56 [.agg s.cells.toArray, .agg r.cells.toArray] K R := by
 refine WD.gc0 (WD.of follows t56 (by simp) ?_)
 obtain ⟨o0, o1, o2, o3, o4, o5⟩ := hs.one
 have hcl := hs
 have key : ∀ o, fldOf s r = o → R (.ret (.tuple #[fldV o, .bool o.isSome])) K := fun o e => by rw [← e]; exact h
 simp only [Sch.cells, Rf.cells]
 by_cases c1 : r.head = []
 ·have hh := key none (by rw [fldOf, if_pos c1])
  simp (disch := omega) only [kB, kcx, kdm, kdn, kel, aop, Za, Zb, Zc, reduceCtorEq, Zd, Ze, Zf, Zg, Zh, Zi, Zj, Zk, Zl, Zm, Zn, Zo, Zp, Zq, Zr, Zs, Zt, o0, o1, o2, o3, o4, o5, decide_eq_true c1]
  exact ⟨_, rfl, ⟨_, rfl⟩, fldV_scoped (o := none), hh⟩
 ·have tail : ∀ (v : Value) (l : List Fld), FldL H v l → fldOf s r = named Fld.name l r.name → ∀ (e : Env) (K' : Heap), Base K K' → K.length + 2 < K'.length → hget K' (K.length + 1) = .row [.string (bs r.head), .string (bs r.name)] 0 true → hget K' (K.length + 2) = .row [.string (bs []), .int .i64 0] 0 true → (∃ x : Nat → Value, e = [x 0, x 1, x 2, .pointer (some ⟨K.length + 1, 0, none⟩), .pointer (some ⟨K.length + 2, 0, none⟩), x 5, v, x 7, x 8, x 9, x 10, x 11, x 12, x 13, x 14, x 15, x 16, x 17, x 18, x 19, x 20, x 21, x 22, x 23, x 24, x 25, x 26, x 27, x 28, x 29, x 30, x 31, x 32, x 33, x 34, x 35, x 36, x 37, x 38, x 39, x 40, x 41]) →
    WC T (g56.body.at [1, 1, 1]) e K' (retK [.cellN 4 2, .tmp 5] (fun r_1 H1 => ∃ v, r_1 = .ret v ∧ (∃ g, H1 = K ++ g) ∧ Scoped K.length v ∧ R (.ret v) K)) := by
   intro v l hl hf e K' hbk hlen hr3 hr4 he
   obtain ⟨x, rfl⟩ := he
   simp only [AFunc.body, g56, ACode.at]
   obtain ⟨ad, rfl⟩ := hl.1.sl
   simp (disch := omega) only [kB, kcx, kdm, kdn, kel, aop, Za, Zb, Zc, reduceCtorEq, Zd, Ze, Zf, Zg, Zh, Zi, Zj, Zk, Zl, Zm, Zn, Zo, Zp, Zq, Zr, Zs, Zt, hr3]
   refine fieldAt_s hl (hb.trans hbk) ?_
   rcases named_cases Fld.name l r.name with ⟨e1, e2⟩ | ⟨j, hj, e1, e2, _⟩
   ·have hh := key none (by rw [hf, e2])
    rw [e1]
    simp (disch := omega) only [kB, kcx, kdm, kdn, kel, aop, Za, Zb, Zc, reduceCtorEq, Zd, Ze, Zf, Zg, Zh, Zi, Zj, Zk, Zl, Zm, Zn, Zo, Zp, Zq, Zr, Zs, Zt, hr4]
    exact ⟨_, rfl, (hbk.set (by omega)).ext, fldV_scoped (o := none), hh⟩
   ·have hh := key (some l[j]) (by rw [hf, e2])
    rw [e1]
    obtain ⟨b, u0, w0, rfl, hbl, hrow0, hcut, hle, hat⟩ := hl.1.at Fld.len hj
    have hrow : hget K' b = .row (l.map Fld.cells).flatten u0 w0 := by rw [(hb.trans hbk).2 b hbl]; exact hrow0
    have c3 : (0 : Int) ≤ (j : Int) := by omega
    have c5 : (j : Int) < (l.length : Int) := by omega
    rw [List.length_map]
    generalize l[j] = y at *
    simp only [Fld.cells] at hcut
    simp (disch := omega) only [kB, kcx, kdm, kdn, kel, aop, Za, Zb, Zc, reduceCtorEq, Zd, Ze, Zf, Zg, Zh, Zi, Zj, Zk, Zl, Zm, Zn, Zo, Zp, Zq, Zr, Zs, Zt, hr4, hrow, hcut, hle, c3, c5]
    exact ⟨_, rfl, (hbk.set (by omega)).ext, fldV_scoped (o := some y), hh⟩
  obtain ⟨Z, hZ⟩ : ∃ Z, Z = WC T (g56.body.at [1, 1, 1]) := ⟨_, rfl⟩
  rw [← hZ] at tail
  have hZ' := hZ.symm
  simp only [AFunc.body, g56, ACode.at] at hZ'
  by_cases c2 : r.head = metaT
  ·have c6 : decide (r.head = [109, 101, 116, 97]) = true := decide_eq_true c2
   simp (disch := omega) only [kB, kcx, kdm, kdn, kel, aop, Za, Zb, Zc, reduceCtorEq, Zd, Ze, Zf, Zg, Zh, Zi, Zj, Zk, Zl, Zm, Zn, Zo, Zp, Zq, Zr, Zs, Zt, o0, o1, o2, o3, o4, o5, decide_eq_false c1, c6, hZ']
   refine tail s.mv s.mets hs.ms (by rw [fldOf, if_neg c1, if_pos c2]) _ _ (Base.app0 _) (by simp) (by rw [hget_base]; rfl) (by rw [hget_base]; rfl) (by exact ex_env rfl)
  ·have c6 : decide (r.head = [109, 101, 116, 97]) = false := decide_eq_false c2
   simp (disch := omega) only [kB, kcx, kdm, kdn, kel, aop, Za, Zb, Zc, reduceCtorEq, Zd, Ze, Zf, Zg, Zh, Zi, Zj, Zk, Zl, Zm, Zn, Zo, Zp, Zq, Zr, Zs, Zt, o0, o1, o2, o3, o4, o5, decide_eq_false c1, c6, hZ']
   refine headerAt_s hs (hb.app _) ?_
   rcases named_cases Hdr.name s.headers r.head with ⟨e1, e2⟩ | ⟨j, hj, e1, e2, _⟩
   ·have hh := key none (by rw [fldOf, if_neg c1, if_neg c2, e2]; rfl)
    rw [e1]
    simp (disch := omega) only [kB, kcx, kdm, kdn, kel, aop, Za, Zb, Zc, reduceCtorEq, Zd, Ze, Zf, Zg, Zh, Zi, Zj, Zk, Zl, Zm, Zn, Zo, Zp, Zq, Zr, Zs, Zt, hZ']
    exact ⟨_, rfl, ⟨_, rfl⟩, fldV_scoped (o := none), hh⟩
   ·rw [e1]
    have hok := hs.hs.2.2 _ (List.getElem_mem hj)
    obtain ⟨hr, hn, _⟩ := hs.hs
    obtain ⟨ad, hv⟩ := hr.sl
    rw [hv] at hr
    obtain ⟨b, u0, w0, rfl, hbl, hrow0, hcut, hle, hat⟩ := hr.at Hdr.len hj
    have hrow : hget K b = .row (s.headers.map Hdr.cells).flatten u0 w0 := by rw [hb.2 b hbl]; exact hrow0
    have hbl2 : b < K.length := Nat.lt_of_lt_of_le hbl hb.1
    have c3 : (0 : Int) ≤ (j : Int) := by omega
    have c4 : ¬ (j : Int) < 0 := by omega
    have c5 : (j : Int) < (s.headers.length : Int) := by omega
    have h1 := hat 1 (by decide)
    simp only [Hdr.cells, List.getElem?_cons_succ, List.getElem?_cons_zero] at h1
    rw [List.length_map] at hv
    simp (disch := omega) only [kB, kcx, kdm, kdn, kel, aop, Za, Zb, Zc, reduceCtorEq, Zd, Ze, Zf, Zg, Zh, Zi, Zj, Zk, Zl, Zm, Zn, Zo, Zp, Zq, Zr, Zs, Zt, hZ', c3, c4, c5, hv, hrow, h1]
    refine tail s.headers[j].fv s.headers[j].fields hok (by rw [fldOf, if_neg c1, if_neg c2, e2]; rfl) _ _ (Base.app0 _) (by simp) (by rw [hget_base]; rfl) (by rw [hget_base]; rfl) (by exact ex_env rfl)
end
section
variable {R : FRes → Heap → Prop} {H K : Heap}
def rwV : Option Fld → Int
 | some f => f.width
 | none => 0
end
section
variable {R : FRes → Heap → Prop} {H K : Heap}
/-- Is there a key of that kind? -/
def anyK (l : List Ky) (k : Int) : Bool := l.any fun y => decide (y.kind = k)
def kindV (l : List Ky) : Int := if anyK l 3 = true ∨ anyK l 4 = true then 3 else if anyK l 2 = true then 2 else 1
def ixkI (K0 : Heap) (bx : Nat) (k : Int) (ad : Option Addr) (l : List Ky) : Nat → Env → Heap → Prop := fun z e K' =>
 ∃ i : Nat, i ≤ l.length ∧ z = l.length - i ∧ Base K0 K' ∧ hget K' bx = .row [.int .i64 k] 0 true ∧ anyK l k = anyK (l.drop i) k ∧
  (∃ x : Nat → Value, e = [.slice ad l.length l.length, .func (.func 55) #[] #[.pointer (some ⟨bx, 0, none⟩)], x 2, x 3, x 4, x 5, x 6, .int .i64 (l.length : Int), .int .i64 (i : Int), x 9, x 10, x 11, x 12, x 13, x 14, x 15, x 16, x 17, x 18])
theorem anyk_s {ad : Option Addr} {l : List Ky} {k : Int} {bx : Nat} (hr : RoSl H (.slice ad l.length l.length) (l.map Ky.cells)) (hn : few 40 l.length) {K0 : Heap} (hb : Base H K0) (hbx : bx < K0.length) (hg : hget K0 bx = .row [.int .i64 k] 0 true)
  (h : ∀ K', Base K0 K' → R (.ret (.bool (anyK l k))) K') : WD T 54 [.slice ad l.length l.length, .func (.func 55) #[] #[.pointer (some ⟨bx, 0, none⟩)]] K0 R := by
 unfold few at hn
 refine WD.of follows t54 (by simp) ?_
 simp (disch := omega) only [kB, kcx, kdm, kdn, kel, aop, Za, Zb, Zc, reduceCtorEq, Zd, Ze, Zf, Zg, Zh, Zi, Zj, Zk, Zl, Zm, Zn, Zo, Zp, Zq, Zr, Zs, Zt]
 refine WD.of follows t93 (by simp) ?_
 simp (disch := omega) only [kB, kcx, kdm, kdn, kel, aop, Za, Zb, Zc, reduceCtorEq, Zd, Ze, Zf, Zg, Zh, Zi, Zj, Zk, Zl, Zm, Zn, Zo, Zp, Zq, Zr, Zs, Zt]
 refine WLoop.inv (ixkI K0 bx k ad l) ?_ l.length _ _ ⟨0, Nat.zero_le _, by omega, Base.refl, hg, rfl, by exact ex_env rfl⟩
 rintro z e K' ⟨i, hi, rfl, hb2, hg2, hx, ⟨x, rfl⟩⟩
 by_cases hlt : i < l.length
 ·have c0 : (i : Int) < (l.length : Int) := by omega
  obtain ⟨b, u0, w0, rfl, hbl, hrow0, hcut, hle, _⟩ := hr.at Ky.len hlt
  have hrow : hget K' b = .row (l.map Ky.cells).flatten u0 w0 := by rw [(hb.trans hb2).2 b hbl]; exact hrow0
  have w2 : IntKind.i64.wrap ((i : Int) + 1) = ((i + 1 : Nat) : Int) := wI (by omega)
  have c3 : bx < K'.length := by have := hb2.1; omega
  rw [List.drop_eq_getElem_cons hlt] at hx
  generalize l[i] = x at *
  simp only [anyK, List.any_cons] at hx
  simp (disch := omega) only [kB, kcx, kdm, kdn, kel, aop, Za, Zb, Zc, reduceCtorEq, Zd, Ze, Zf, Zg, Zh, Zi, Zj, Zk, Zl, Zm, Zn, Zo, Zp, Zq, Zr, Zs, Zt, c0, hrow, hcut, hle]
  refine WD.of follows t55 (by simp) ?_
  simp only [Ky.cells]
  by_cases he : x.kind = k
  ·have ha : anyK l k = true := by rw [anyK, hx, decide_eq_true he, Bool.true_or]
   have c4 : (0 : Int) ≤ (i : Int) := by omega
   have hh := h (K' ++ [.row x.cells 0 true]) (hb2.app _)
   rw [ha] at hh
   simp only [Ky.cells] at hh
   simp (disch := omega) only [kB, kcx, kdm, kdn, kel, aop, Za, Zb, Zc, reduceCtorEq, Zd, Ze, Zf, Zg, Zh, Zi, Zj, Zk, Zl, Zm, Zn, Zo, Zp, Zq, Zr, Zs, Zt, hg2, decide_eq_true he, c4]
   exact hh
  ·rw [decide_eq_false he, Bool.false_or] at hx
   simp (disch := omega) only [kB, kcx, kdm, kdn, kel, aop, Za, Zb, Zc, reduceCtorEq, Zd, Ze, Zf, Zg, Zh, Zi, Zj, Zk, Zl, Zm, Zn, Zo, Zp, Zq, Zr, Zs, Zt, hg2, decide_eq_false he, w2]
   exact ⟨l.length - (i + 1), by omega, i + 1, by omega, rfl, hb2.app _, by rw [hget_old c3]; exact hg2, hx, by exact ex_env rfl⟩
 ·have c0 : ¬ (i : Int) < (l.length : Int) := by omega
  rw [List.drop_eq_nil_of_le (by omega)] at hx
  have hh := h _ hb2
  rw [hx] at hh
  simp (disch := omega) only [kB, kcx, kdm, kdn, kel, aop, Za, Zb, Zc, reduceCtorEq, Zd, Ze, Zf, Zg, Zh, Zi, Zj, Zk, Zl, Zm, Zn, Zo, Zp, Zq, Zr, Zs, Zt, c0]
  exact hh
theorem hask_s {ad : Option Addr} {l : List Ky} {k : Int} {bx : Nat} {c0 c2 c3 c4 c5 c6 : Value} (hr : RoSl H (.slice ad l.length l.length) (l.map Ky.cells)) (hn : few 40 l.length) {K0 : Heap} (hb : Base H K0) (hbx : bx < K0.length) (hg : hget K0 bx = .row [c0, .slice ad l.length l.length, c2, c3, c4, c5, c6] 0 true)
  (h : R (.ret (.bool (anyK l k))) K0) : WD T 53 [.int .i64 k, .pointer (some ⟨bx, 0, none⟩)] K0 R := by
 refine WD.gc0 (WD.of follows t53 (by simp) ?_)
 simp (disch := omega) only [kB, kcx, kdm, kdn, kel, aop, Za, Zb, Zc, reduceCtorEq, Zd, Ze, Zf, Zg, Zh, Zi, Zj, Zk, Zl, Zm, Zn, Zo, Zp, Zq, Zr, Zs, Zt, hg]
 refine anyk_s hr hn (hb.app _) (by simp) (by rw [hget_base0]; rfl) ?_
 intro K' hb2
 simp (disch := omega) only [kB, kcx, kdm, kdn, kel, aop, Za, Zb, Zc, reduceCtorEq, Zd, Ze, Zf, Zg, Zh, Zi, Zj, Zk, Zl, Zm, Zn, Zo, Zp, Zq, Zr, Zs, Zt]
 exact ⟨_, rfl, ((Base.app0 _).trans hb2).ext, .bool, h⟩
theorem kind_s {t : Tbl} (ht : t.OK H) (hb : Base H K) (h : R (.ret (.int .i64 (kindV t.keys))) K) : WD T 26 [.agg t.cells.toArray] K R := by
 refine WD.gc0 (WD.of follows t26 (by simp) ?_)
 obtain ⟨o1, o2, o3⟩ := ht.one
 obtain ⟨⟨hr, hn, _⟩, _⟩ := ht
 obtain ⟨ad, hv⟩ := hr.sl
 rw [List.length_map] at hv
 simp only [Tbl.cells]
 rw [hv] at hr o1 ⊢
 simp (disch := omega) only [kB, kcx, kdm, kdn, kel, aop, Za, Zb, Zc, reduceCtorEq, Zd, Ze, Zf, Zg, Zh, Zi, Zj, Zk, Zl, Zm, Zn, Zo, Zp, Zq, Zr, Zs, Zt, o1, o2, o3]
 refine hask_s hr hn (hb.app _) (by simp) (by rw [hget_base0]; rfl) ?_
 by_cases a3 : anyK t.keys 3 = true
 ·rw [kindV, if_pos (.inl a3)] at h
  rw [a3]
  simp (disch := omega) only [kB, kcx, kdm, kdn, kel, aop, Za, Zb, Zc, reduceCtorEq, Zd, Ze, Zf, Zg, Zh, Zi, Zj, Zk, Zl, Zm, Zn, Zo, Zp, Zq, Zr, Zs, Zt]
  exact ⟨_, rfl, ⟨_, rfl⟩, .int, h⟩
 ·have a3' := a3
  rw [Bool.not_eq_true] at a3'
  rw [a3']
  simp (disch := omega) only [kB, kcx, kdm, kdn, kel, aop, Za, Zb, Zc, reduceCtorEq, Zd, Ze, Zf, Zg, Zh, Zi, Zj, Zk, Zl, Zm, Zn, Zo, Zp, Zq, Zr, Zs, Zt]
  refine hask_s hr hn (hb.app _) (by simp) (by rw [hget_base0]; rfl) ?_
  by_cases a4 : anyK t.keys 4 = true
  ·rw [kindV, if_pos (.inr a4)] at h
   rw [a4]
   simp (disch := omega) only [kB, kcx, kdm, kdn, kel, aop, Za, Zb, Zc, reduceCtorEq, Zd, Ze, Zf, Zg, Zh, Zi, Zj, Zk, Zl, Zm, Zn, Zo, Zp, Zq, Zr, Zs, Zt]
   exact ⟨_, rfl, ⟨_, rfl⟩, .int, h⟩
  ·have a4' := a4
   rw [Bool.not_eq_true] at a4'
   rw [a4']
   rw [kindV, if_neg (fun q => q.elim a3 a4)] at h
   simp (disch := omega) only [kB, kcx, kdm, kdn, kel, aop, Za, Zb, Zc, reduceCtorEq, Zd, Ze, Zf, Zg, Zh, Zi, Zj, Zk, Zl, Zm, Zn, Zo, Zp, Zq, Zr, Zs, Zt]
   refine hask_s hr hn (hb.app _) (by simp) (by rw [hget_base0]; rfl) ?_
   by_cases a2 : anyK t.keys 2 = true
   ·rw [if_pos a2] at h
    rw [a2]
    simp (disch := omega) only [kB, kcx, kdm, kdn, kel, aop, Za, Zb, Zc, reduceCtorEq, Zd, Ze, Zf, Zg, Zh, Zi, Zj, Zk, Zl, Zm, Zn, Zo, Zp, Zq, Zr, Zs, Zt]
    exact ⟨_, rfl, ⟨_, rfl⟩, .int, h⟩
   ·rw [if_neg a2] at h
    rw [Bool.not_eq_true] at a2
    rw [a2]
    simp (disch := omega) only [kB, kcx, kdm, kdn, kel, aop, Za, Zb, Zc, reduceCtorEq, Zd, Ze, Zf, Zg, Zh, Zi, Zj, Zk, Zl, Zm, Zn, Zo, Zp, Zq, Zr, Zs, Zt]
    exact ⟨_, rfl, ⟨_, rfl⟩, .int, h⟩
end
section
variable {R : FRes → Heap → Prop} {H K : Heap}
def W64 : Nat := 2 ^ 64
theorem wr_u64n (n : Nat) : IntKind.wrap .u64 (n : Int) = ((n % W64 : Nat) : Int) := by
 simp [IntKind.wrap, IntKind.signed, IntKind.bits, W64]
theorem bin_shl64 {k' : IntKind} {a b : Nat} (hb : b ≤ 64) : binV .shl (.int .u64 (a : Int)) (.int k' (b : Int)) = some (.int .u64 (((a <<< b) % W64 : Nat) : Int)) := by
 have e : pr (Op.shift .shl .u64 (a : Int) k' (b : Int)) = some (.int .u64 (IntKind.wrap .u64 ((a : Int) * (2 ^ min b 64)))) := by
  simp only [Op.shift, if_neg (show ¬ ((b : Int) < 0) by omega), Int.toNat_natCast]
  rfl
 simp only [binV, intBin, if_neg (show ¬ ((b : Int) < 0) by omega), e, Nat.min_eq_left hb]
 rw [show ((a : Int) * 2 ^ b) = ((a * 2 ^ b : Nat) : Int) by norm_cast, wr_u64n, Nat.shiftLeft_eq]
theorem ofInt_nat (a : Nat) : (BitVec.ofInt IntKind.u64.bits (a : Int)).toNat = a % W64 := by
 rw [BitVec.ofInt_natCast, BitVec.toNat_ofNat]
 rfl
theorem bin_or64 {a b : Nat} (ha : a < 18446744073709551616) (hb : b < 18446744073709551616) : binV .or (.int .u64 (a : Int)) (.int .u64 (b : Int)) = some (.int .u64 ((a ||| b : Nat) : Int)) := by
 have e : pr (Op.intBits .or .u64 (a : Int) (b : Int)) = some (.int .u64 (IntKind.wrap .u64 ((BitVec.ofInt IntKind.u64.bits (a : Int) ||| BitVec.ofInt IntKind.u64.bits (b : Int)).toNat : Int))) := rfl
 simp only [binV, intBin, if_true, e]
 rw [BitVec.toNat_or, ofInt_nat, ofInt_nat, W64, Nat.mod_eq_of_lt (by omega), Nat.mod_eq_of_lt (by omega), wr_u64n, Nat.mod_eq_of_lt]
 exact Nat.or_lt_two_pow (n := 64) ha hb
/-- Does a value fit in a width? -/
def fitsN (b : Bt) (n : Nat) : Bool := if 64 < n then decide (n = 128) || decide (b.hi < 2 ^ (n - 64)) else decide (b.hi = 0) && (decide (n = 64) || decide (b.lo < 2 ^ n))
def fitsV (b : Bt) (w : Int) : Bool := if w < 1 ∨ 128 < w then false else fitsN b w.toNat
theorem shl_one {n : Nat} (h : n < 64) : (1 <<< n) % W64 = 2 ^ n := by
 rw [Nat.shiftLeft_eq, Nat.one_mul, W64]
 exact Nat.mod_eq_of_lt (Nat.pow_lt_pow_right (by decide) h)
set_option maxHeartbeats 1000000 in
theorem fits_s {b : Bt} (hb : b.OK) {w : Int} (hw : I64 w) (h : R (.ret (.bool (fitsV b w))) K) : WD T 87 [.agg b.cells.toArray, .int .i64 w] K R := by
 refine WD.gc0 (WD.of follows t87 (by simp) ?_)
 obtain ⟨h1, h2⟩ := hb
 unfold U64 at h1 h2
 simp only [Bt.cells]
 by_cases c1 : w < 1
 ·rw [fitsV, if_pos (.inl c1)] at h
  simp (disch := omega) only [kB, kcx, kdm, kdn, kel, aop, Za, Zb, Zc, reduceCtorEq, Zd, Ze, Zf, Zg, Zh, Zi, Zj, Zk, Zl, Zm, Zn, Zo, Zp, Zq, Zr, Zs, Zt, c1]
  exact ⟨_, rfl, ⟨_, rfl⟩, .bool, h⟩
 by_cases c2 : 128 < w
 ·rw [fitsV, if_pos (.inr c2)] at h
  simp (disch := omega) only [kB, kcx, kdm, kdn, kel, aop, Za, Zb, Zc, reduceCtorEq, Zd, Ze, Zf, Zg, Zh, Zi, Zj, Zk, Zl, Zm, Zn, Zo, Zp, Zq, Zr, Zs, Zt, c1, c2]
  exact ⟨_, rfl, ⟨_, rfl⟩, .bool, h⟩
 rw [fitsV, if_neg (by omega)] at h
 obtain ⟨n, rfl⟩ : ∃ n : Nat, w = (n : Int) := ⟨w.toNat, by omega⟩
 rw [Int.toNat_natCast] at h
 by_cases c3 : 64 < n
 ·rw [fitsN, if_pos c3] at h
  have c4 : (64 : Int) < (n : Int) := by omega
  by_cases c5 : n = 128
  ·subst c5
   rw [decide_eq_true rfl, Bool.true_or] at h
   have e : ((128 : Nat) : Int) = 128 := rfl
   rw [e]
   simp (disch := omega) only [kB, kcx, kdm, kdn, kel, aop, Za, Zb, Zc, reduceCtorEq, Zd, Ze, Zf, Zg, Zh, Zi, Zj, Zk, Zl, Zm, Zn, Zo, Zp, Zq, Zr, Zs, Zt]
   exact ⟨_, rfl, ⟨_, rfl⟩, .bool, h⟩
  ·have c6 : ¬ (n : Int) = 128 := by omega
   rw [decide_eq_false c5, Bool.false_or] at h
   have e := bin_shl64 (k' := .i64) (a := 1) (b := n - 64) (by omega)
   rw [shl_one (by omega), show ((1 : Nat) : Int) = 1 from rfl] at e
   have w3 : IntKind.i64.wrap ((n : Int) - 64) = ((n - 64 : Nat) : Int) := by rw [show (n : Int) - 64 = ((n - 64 : Nat) : Int) by omega]; exact wr_i64 (by omega) (by omega)
   have d1 : decide ((b.hi : Int) < ((2 ^ (n - 64) : Nat) : Int)) = decide (b.hi < 2 ^ (n - 64)) := by
    congr 1
    exact propext Int.ofNat_lt
   simp (disch := omega) only [kB, kcx, kdm, kdn, kel, aop, Za, Zb, Zc, reduceCtorEq, Zd, Ze, Zf, Zg, Zh, Zi, Zj, Zk, Zl, Zm, Zn, Zo, Zp, Zq, Zr, Zs, Zt, c1, c2, c4, c6, w3, e, d1]
   exact ⟨_, rfl, ⟨_, rfl⟩, .bool, h⟩
 ·rw [fitsN, if_neg c3] at h
  have c4 : ¬ (64 : Int) < (n : Int) := by omega
  by_cases c5 : b.hi = 0
  ·have c6 : ((b.hi : Nat) : Int) = 0 := by omega
   rw [decide_eq_true c5, Bool.true_and] at h
   by_cases c7 : n = 64
   ·subst c7
    rw [decide_eq_true rfl, Bool.true_or] at h
    have e : ((64 : Nat) : Int) = 64 := rfl
    rw [e]
    simp (disch := omega) only [kB, kcx, kdm, kdn, kel, aop, Za, Zb, Zc, reduceCtorEq, Zd, Ze, Zf, Zg, Zh, Zi, Zj, Zk, Zl, Zm, Zn, Zo, Zp, Zq, Zr, Zs, Zt, c6]
    exact ⟨_, rfl, ⟨_, rfl⟩, .bool, h⟩
   ·have c8 : ¬ (n : Int) = 64 := by omega
    rw [decide_eq_false c7, Bool.false_or] at h
    have e := bin_shl64 (k' := .i64) (a := 1) (b := n) (by omega)
    rw [shl_one (by omega), show ((1 : Nat) : Int) = 1 from rfl] at e
    have d1 : decide ((b.lo : Int) < ((2 ^ n : Nat) : Int)) = decide (b.lo < 2 ^ n) := by
     congr 1
     exact propext Int.ofNat_lt
    simp (disch := omega) only [kB, kcx, kdm, kdn, kel, aop, Za, Zb, Zc, reduceCtorEq, Zd, Ze, Zf, Zg, Zh, Zi, Zj, Zk, Zl, Zm, Zn, Zo, Zp, Zq, Zr, Zs, Zt, c1, c2, c4, c6, c8, e, d1]
    exact ⟨_, rfl, ⟨_, rfl⟩, .bool, h⟩
  ·have c6 : ¬ ((b.hi : Nat) : Int) = 0 := by omega
   rw [decide_eq_false c5, Bool.false_and] at h
   simp (disch := omega) only [kB, kcx, kdm, kdn, kel, aop, Za, Zb, Zc, reduceCtorEq, Zd, Ze, Zf, Zg, Zh, Zi, Zj, Zk, Zl, Zm, Zn, Zo, Zp, Zq, Zr, Zs, Zt, c1, c2, c4, c6]
   exact ⟨_, rfl, ⟨_, rfl⟩, .bool, h⟩
end
end Go.Proofs.Ytpllhhaeclnngaa.Ev
