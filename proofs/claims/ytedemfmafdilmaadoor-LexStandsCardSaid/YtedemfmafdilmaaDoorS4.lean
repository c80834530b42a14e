/- The law LexStands: its loops. -/
import Derived.Test.YtedemfmafdilmaaDoorS3
import Derived.Test.YtedemfmafdilmaaDoorL9
namespace Go.Proofs.YtedemfmafdilmaaDoor.Ev
set_option maxRecDepth 100000
set_option linter.unusedSimpArgs false
set_option linter.unusedVariables false
variable {R : FRes → Heap → Prop} {H : Heap}

def bgN (text : List UInt8) (i : Nat) : Nat := i + 1 - (adv (1, 1) (text.take i)).2

def inI (text : List UInt8) (K : Heap) (b N i pos n : Nat) : Nat → Env → Heap → Prop := fun k e H' =>
  ∃ j, j ≤ n ∧ k = n - j ∧ H' = K ∧
    (∃ x : Nat → Value, e = [.string (bs text), x 1, x 2, x 3, .slice (some ⟨b, 0, none⟩) N N, x 5, .int .i64 ((pos + j : Nat) : Int), .int .i64 ((adv (1, 1) (text.take (pos + j))).1 : Nat), .int .i64 (bgN text (pos + j) : Nat), .int .i64 i, .int .i64 pos, x 11, x 12, x 13, x 14, x 15, x 16, x 17, x 18, x 19, x 20, x 21, x 22, x 23, x 24, x 25, x 26, x 27, x 28, x 29, x 30, x 31, x 32, x 33, x 34, x 35, x 36, x 37, x 38, x 39, x 40, x 41, x 42, x 43, x 44, x 45, x 46, x 47, x 48, x 49, x 50, x 51, x 52, x 53, x 54, x 55, x 56, x 57, x 58, x 59, x 60, x 61, x 62, x 63, x 64, x 65, x 66, x 67, x 68, x 69, x 70, x 71, x 72, x 73, x 74, x 75, x 76, x 77, x 78, x 79, x 80, x 81, x 82, x 83, x 84, x 85, x 86, x 87, x 88, x 89, x 90, x 91, x 92, x 93, x 94, x 95, x 96, x 97, x 98, x 99, x 100, x 101, x 102, x 103, x 104, x 105, x 106, x 107, x 108, x 109, x 110, x 111, x 112, x 113, x 114, x 115, x 116, x 117, x 118, x 119, x 120, x 121, x 122, x 123, x 124, x 125, x 126, x 127, x 128, x 129, x 130, x 131, x 132, x 133, x 134, x 135, x 136, x 137, x 138, x 139, x 140, x 141, x 142, x 143, x 144, x 145, x 146, x 147, x 148, x 149, x 150, x 151, x 152, x 153, x 154, x 155, x 156, x 157, x 158, x 159, x 160, x 161, x 162, x 163, x 164, x 165, x 166, x 167, x 168, x 169, x 170, x 171, x 172, x 173, x 174, x 175, x 176, x 177, x 178, x 179, x 180, x 181, x 182, x 183, x 184, x 185, x 186, x 187, x 188, x 189, x 190, x 191, x 192, x 193, x 194, x 195, x 196, x 197, x 198, x 199, x 200, x 201, x 202, x 203, x 204, x 205, x 206, x 207, x 208, x 209, x 210, x 211, x 212, x 213, x 214, x 215, x 216, x 217, x 218, x 219, x 220, x 221, x 222, x 223, x 224])

set_option maxHeartbeats 2000000 in
theorem in_loop {text : List UInt8} {K : Heap} {b i pos n : Nat} {ts : List Tk} (hl : text.length ≤ 65536) (hb : hget K b = .row (ts.map Tk.cells).flatten 6 true) (hi : i < ts.length) (hN : ts.length ≤ 65536)
    (hn : pos + n < text.length) (ht : ts[i].pos = adv (1, 1) (text.take (pos + n))) {Q : Post}
    (hQ : ∀ e, (∃ x : Nat → Value, e = [.string (bs text), x 1, x 2, x 3, .slice (some ⟨b, 0, none⟩) ts.length ts.length, x 5, .int .i64 ((pos + n : Nat) : Int), .int .i64 ((adv (1, 1) (text.take (pos + n))).1 : Nat), .int .i64 (bgN text (pos + n) : Nat), .int .i64 i, .int .i64 pos, x 11, x 12, x 13, x 14, x 15, x 16, x 17, x 18, x 19, x 20, x 21, x 22, x 23, x 24, x 25, x 26, x 27, x 28, x 29, x 30, x 31, x 32, x 33, x 34, x 35, x 36, x 37, x 38, x 39, x 40, x 41, x 42, x 43, x 44, x 45, x 46, x 47, x 48, x 49, x 50, x 51, x 52, x 53, x 54, x 55, x 56, x 57, x 58, x 59, x 60, x 61, x 62, x 63, x 64, x 65, x 66, x 67, x 68, x 69, x 70, x 71, x 72, x 73, x 74, x 75, x 76, x 77, x 78, x 79, x 80, x 81, x 82, x 83, x 84, x 85, x 86, x 87, x 88, x 89, x 90, x 91, x 92, x 93, x 94, x 95, x 96, x 97, x 98, x 99, x 100, x 101, x 102, x 103, x 104, x 105, x 106, x 107, x 108, x 109, x 110, x 111, x 112, x 113, x 114, x 115, x 116, x 117, x 118, x 119, x 120, x 121, x 122, x 123, x 124, x 125, x 126, x 127, x 128, x 129, x 130, x 131, x 132, x 133, x 134, x 135, x 136, x 137, x 138, x 139, x 140, x 141, x 142, x 143, x 144, x 145, x 146, x 147, x 148, x 149, x 150, x 151, x 152, x 153, x 154, x 155, x 156, x 157, x 158, x 159, x 160, x 161, x 162, x 163, x 164, x 165, x 166, x 167, x 168, x 169, x 170, x 171, x 172, x 173, x 174, x 175, x 176, x 177, x 178, x 179, x 180, x 181, x 182, x 183, x 184, x 185, x 186, x 187, x 188, x 189, x 190, x 191, x 192, x 193, x 194, x 195, x 196, x 197, x 198, x 199, x 200, x 201, x 202, x 203, x 204, x 205, x 206, x 207, x 208, x 209, x 210, x 211, x 212, x 213, x 214, x 215, x 216, x 217, x 218, x 219, x 220, x 221, x 222, x 223, x 224]) → Q (.exit 2) e K)
    {e : Env} {H1 : Heap} (hI : inI text K b ts.length i pos n n e H1) : WLoop T (g4.body.at [1, 1, 1, 1, 1, 1, 1, 0, 1, 0, 0, 1, 0, 0, 1, 0, 0, 0]) e H1 Q := by
  refine WLoop.inv (inI text K b ts.length i pos n) ?_ _ _ _ hI
  rintro k e K1 ⟨j, k1, rfl, rfl, ⟨x, rfl⟩⟩
  simp only [AFunc.body, g4, ACode.at]
  have hc := cut_flat ts i hi
  have hlt : ((pos + j : Nat) : Int) < text.length := by omega
  have hi' : (i : Int) < (ts.length : Nat) := by omega
  have c1 := adv_col (text.take (pos + j)) (1, 1) (Nat.le_refl _)
  have c2 := (adv_le (text.take (pos + j)) (1, 1)).1
  rw [List.length_take] at c1 c2
  simp only at c1 c2
  have r4 : (ts.map Tk.cells).flatten[i * 6 + 4]? = some (.int .i64 (ts[i].pos.1 : Nat)) := by
    have := congrArg (fun l => l[4]?) hc
    simp only [List.getElem?_take, List.getElem?_drop] at this
    simpa [Tk.cells, tk] using this
  have r5 : (ts.map Tk.cells).flatten[i * 6 + 4 + 1]? = some (.int .i64 (ts[i].pos.2 : Nat)) := by
    have := congrArg (fun l => l[5]?) hc
    simp only [List.getElem?_take, List.getElem?_drop] at this
    simpa [Tk.cells, tk] using this
  rw [ht] at r4 r5
  have hbg : bgN text (pos + j) = pos + j + 1 - (adv (1, 1) (text.take (pos + j))).2 := rfl
  have hcol : ((pos + j : Nat) : Int) - (bgN text (pos + j) : Nat) + 1 = ((adv (1, 1) (text.take (pos + j))).2 : Nat) := by omega
  by_cases hj : j < n
  · have hli : text[pos + j]? = some text[pos + j] := List.getElem?_eq_getElem (by omega)
    have hrise := adv_lt ((text.drop (pos + j)).take (n - j)) (adv (1, 1) (text.take (pos + j))) (fun q => by have := congrArg List.length q; simp at this; omega)
    rw [adv_from, show pos + j + (n - j) = pos + n by omega] at hrise
    have htake : text.take (pos + (j + 1)) = text.take (pos + j) ++ [text[pos + j]] := by rw [← Nat.add_assoc, List.take_add_one, hli]; rfl
    have nxt10 : text[pos + j].toNat = 10 → adv (1, 1) (text.take (pos + (j + 1))) = ((adv (1, 1) (text.take (pos + j))).1 + 1, 1) := fun q => by
      rw [htake, adv_append]; simp only [adv, q, if_true]
    have nxt : ¬ text[pos + j].toNat = 10 → adv (1, 1) (text.take (pos + (j + 1))) = ((adv (1, 1) (text.take (pos + j))).1, (adv (1, 1) (text.take (pos + j))).2 + 1) := fun q => by
      rw [htake, adv_append]; simp only [adv, q, if_false]
    have step : ∀ (x : Nat → Value) (e : Env), True := fun _ _ => trivial
    by_cases hrow : ((adv (1, 1) (text.take (pos + j))).1 : Int) < ((adv (1, 1) (text.take (pos + n))).1 : Nat)
    · by_cases h10 : (text[pos + j].toNat : Int) = 10
      · simp (disch := omega) only [kaa, kab, kac, kad, kae, kaf, kag, kah, kai, kaj, kak, kal, kam, kan, kao, kap, kaq, kar, kas, kat, kau, kav, kaw, kax, kay, kaz, kba, kbb, kbc, kbd, kbe, kbf, kbg, kbh, kbi, kbj, kbk, kbl, kbm, kbn, kbo, kbp, kbq, kbr, kbs, kbt, kbu, kbv, kbw, kbx, kby, kbz, kca, kcb, kcc, kcd, kce, kcf, kcg, kch, kci, kcj, kck, kcl, kcm, aop, kcn, kco, kcp, kcq, kcr, kcs, kct, kcu, kcv, kcw, resultsL, resultOf, kcx, Nat.reduceEqDiff, kcy, kcz, kda, reduceCtorEq, kdb, kdc, kdd, kde, kdf, kdg, kdh, kdi, kdj, kdk, kdl, kdm, kdn, kdo, eq1, kdp, kdq, kdr, kds, kdt, kdu, kdv, kdw, kdx, kdy, kdz, kea, keb, kec, apartOK, apart2, AObj.live, ked, kee, kef, keg, keh, kei, kej, kek, kel, Int.reduceEq, Int.reduceLT, Int.reduceLE, Int.reduceAdd, Int.reduceSub, Int.reduceMul, Int.reduceToNat, kem, ken, keo, kep, keq, ker, kes, ket, keu, kev, kew, kex, key, kez, kfa, kfb, kfc, kfd, kfe, kff, kfg, kfh, kfi, kfj, kfk, kfl, cutCells, kfm, kfn, kfo, kfp, kfq, kfr, kfs, kft, kfu, kfv, kfw, kfx, kfy, Nat.reduceAdd, Nat.reduceLeDiff, Nat.reduceLT, Nat.reduceMul, Nat.reduceSub, kfz, kga, kgb, kgc, kgd, kge, kgf, kgg, kgh, kgi, kgj, kgk, kgl, kgm, kgn, kgo, kgp, kgq, kgr, kgs, kgt, kgu, kgv, kgw, kgx, kgy, kgz, kha, khb, khc, khd, hlt, hi', if_pos, hb, r4, r5, hrow, hli, h10, wr_i64, nadd1]
        refine ⟨n - (j + 1), by omega, j + 1, by omega, rfl, rfl, ?_⟩
        have e9 : bgN text (pos + (j + 1)) = pos + j + 1 := by rw [bgN, nxt10 (by omega)]; simp only; omega
        rw [e9, nxt10 (by omega)]
        exact ex_env rfl
      · simp (disch := omega) only [kaa, kab, kac, kad, kae, kaf, kag, kah, kai, kaj, kak, kal, kam, kan, kao, kap, kaq, kar, kas, kat, kau, kav, kaw, kax, kay, kaz, kba, kbb, kbc, kbd, kbe, kbf, kbg, kbh, kbi, kbj, kbk, kbl, kbm, kbn, kbo, kbp, kbq, kbr, kbs, kbt, kbu, kbv, kbw, kbx, kby, kbz, kca, kcb, kcc, kcd, kce, kcf, kcg, kch, kci, kcj, kck, kcl, kcm, aop, kcn, kco, kcp, kcq, kcr, kcs, kct, kcu, kcv, kcw, resultsL, resultOf, kcx, Nat.reduceEqDiff, kcy, kcz, kda, reduceCtorEq, kdb, kdc, kdd, kde, kdf, kdg, kdh, kdi, kdj, kdk, kdl, kdm, kdn, kdo, eq1, kdp, kdq, kdr, kds, kdt, kdu, kdv, kdw, kdx, kdy, kdz, kea, keb, kec, apartOK, apart2, AObj.live, ked, kee, kef, keg, keh, kei, kej, kek, kel, Int.reduceEq, Int.reduceLT, Int.reduceLE, Int.reduceAdd, Int.reduceSub, Int.reduceMul, Int.reduceToNat, kem, ken, keo, kep, keq, ker, kes, ket, keu, kev, kew, kex, key, kez, kfa, kfb, kfc, kfd, kfe, kff, kfg, kfh, kfi, kfj, kfk, kfl, cutCells, kfm, kfn, kfo, kfp, kfq, kfr, kfs, kft, kfu, kfv, kfw, kfx, kfy, Nat.reduceAdd, Nat.reduceLeDiff, Nat.reduceLT, Nat.reduceMul, Nat.reduceSub, kfz, kga, kgb, kgc, kgd, kge, kgf, kgg, kgh, kgi, kgj, kgk, kgl, kgm, kgn, kgo, kgp, kgq, kgr, kgs, kgt, kgu, kgv, kgw, kgx, kgy, kgz, kha, khb, khc, khd, hlt, hi', if_pos, hb, r4, r5, hrow, hli, h10, wr_i64, nadd1]
        refine ⟨n - (j + 1), by omega, j + 1, by omega, rfl, rfl, ?_⟩
        have e9 : bgN text (pos + (j + 1)) = bgN text (pos + j) := by rw [hbg, bgN, nxt (by omega)]; simp only; omega
        rw [e9, nxt (by omega)]
        exact ex_env rfl
    · have hcl : ((adv (1, 1) (text.take (pos + j))).2 : Int) < ((adv (1, 1) (text.take (pos + n))).2 : Nat) := by omega
      by_cases h10 : (text[pos + j].toNat : Int) = 10
      · simp (disch := omega) only [kaa, kab, kac, kad, kae, kaf, kag, kah, kai, kaj, kak, kal, kam, kan, kao, kap, kaq, kar, kas, kat, kau, kav, kaw, kax, kay, kaz, kba, kbb, kbc, kbd, kbe, kbf, kbg, kbh, kbi, kbj, kbk, kbl, kbm, kbn, kbo, kbp, kbq, kbr, kbs, kbt, kbu, kbv, kbw, kbx, kby, kbz, kca, kcb, kcc, kcd, kce, kcf, kcg, kch, kci, kcj, kck, kcl, kcm, aop, kcn, kco, kcp, kcq, kcr, kcs, kct, kcu, kcv, kcw, resultsL, resultOf, kcx, Nat.reduceEqDiff, kcy, kcz, kda, reduceCtorEq, kdb, kdc, kdd, kde, kdf, kdg, kdh, kdi, kdj, kdk, kdl, kdm, kdn, kdo, eq1, kdp, kdq, kdr, kds, kdt, kdu, kdv, kdw, kdx, kdy, kdz, kea, keb, kec, apartOK, apart2, AObj.live, ked, kee, kef, keg, keh, kei, kej, kek, kel, Int.reduceEq, Int.reduceLT, Int.reduceLE, Int.reduceAdd, Int.reduceSub, Int.reduceMul, Int.reduceToNat, kem, ken, keo, kep, keq, ker, kes, ket, keu, kev, kew, kex, key, kez, kfa, kfb, kfc, kfd, kfe, kff, kfg, kfh, kfi, kfj, kfk, kfl, cutCells, kfm, kfn, kfo, kfp, kfq, kfr, kfs, kft, kfu, kfv, kfw, kfx, kfy, Nat.reduceAdd, Nat.reduceLeDiff, Nat.reduceLT, Nat.reduceMul, Nat.reduceSub, kfz, kga, kgb, kgc, kgd, kge, kgf, kgg, kgh, kgi, kgj, kgk, kgl, kgm, kgn, kgo, kgp, kgq, kgr, kgs, kgt, kgu, kgv, kgw, kgx, kgy, kgz, kha, khb, khc, khd, hlt, hi', if_pos, hb, r4, r5, hrow, hcl, hcol, hli, h10, wr_i64, nadd1]
        refine ⟨n - (j + 1), by omega, j + 1, by omega, rfl, rfl, ?_⟩
        have e9 : bgN text (pos + (j + 1)) = pos + j + 1 := by rw [bgN, nxt10 (by omega)]; simp only; omega
        rw [e9, nxt10 (by omega)]
        exact ex_env rfl
      · simp (disch := omega) only [kaa, kab, kac, kad, kae, kaf, kag, kah, kai, kaj, kak, kal, kam, kan, kao, kap, kaq, kar, kas, kat, kau, kav, kaw, kax, kay, kaz, kba, kbb, kbc, kbd, kbe, kbf, kbg, kbh, kbi, kbj, kbk, kbl, kbm, kbn, kbo, kbp, kbq, kbr, kbs, kbt, kbu, kbv, kbw, kbx, kby, kbz, kca, kcb, kcc, kcd, kce, kcf, kcg, kch, kci, kcj, kck, kcl, kcm, aop, kcn, kco, kcp, kcq, kcr, kcs, kct, kcu, kcv, kcw, resultsL, resultOf, kcx, Nat.reduceEqDiff, kcy, kcz, kda, reduceCtorEq, kdb, kdc, kdd, kde, kdf, kdg, kdh, kdi, kdj, kdk, kdl, kdm, kdn, kdo, eq1, kdp, kdq, kdr, kds, kdt, kdu, kdv, kdw, kdx, kdy, kdz, kea, keb, kec, apartOK, apart2, AObj.live, ked, kee, kef, keg, keh, kei, kej, kek, kel, Int.reduceEq, Int.reduceLT, Int.reduceLE, Int.reduceAdd, Int.reduceSub, Int.reduceMul, Int.reduceToNat, kem, ken, keo, kep, keq, ker, kes, ket, keu, kev, kew, kex, key, kez, kfa, kfb, kfc, kfd, kfe, kff, kfg, kfh, kfi, kfj, kfk, kfl, cutCells, kfm, kfn, kfo, kfp, kfq, kfr, kfs, kft, kfu, kfv, kfw, kfx, kfy, Nat.reduceAdd, Nat.reduceLeDiff, Nat.reduceLT, Nat.reduceMul, Nat.reduceSub, kfz, kga, kgb, kgc, kgd, kge, kgf, kgg, kgh, kgi, kgj, kgk, kgl, kgm, kgn, kgo, kgp, kgq, kgr, kgs, kgt, kgu, kgv, kgw, kgx, kgy, kgz, kha, khb, khc, khd, hlt, hi', if_pos, hb, r4, r5, hrow, hcl, hcol, hli, h10, wr_i64, nadd1]
        refine ⟨n - (j + 1), by omega, j + 1, by omega, rfl, rfl, ?_⟩
        have e9 : bgN text (pos + (j + 1)) = bgN text (pos + j) := by rw [hbg, bgN, nxt (by omega)]; simp only; omega
        rw [e9, nxt (by omega)]
        exact ex_env rfl
  · obtain rfl : j = n := by omega
    have hrow : ¬ ((adv (1, 1) (text.take (pos + j))).1 : Int) < ((adv (1, 1) (text.take (pos + j))).1 : Nat) := by omega
    have hcl : ¬ ((adv (1, 1) (text.take (pos + j))).2 : Int) < ((adv (1, 1) (text.take (pos + j))).2 : Nat) := by omega
    simp (disch := omega) only [kaa, kab, kac, kad, kae, kaf, kag, kah, kai, kaj, kak, kal, kam, kan, kao, kap, kaq, kar, kas, kat, kau, kav, kaw, kax, kay, kaz, kba, kbb, kbc, kbd, kbe, kbf, kbg, kbh, kbi, kbj, kbk, kbl, kbm, kbn, kbo, kbp, kbq, kbr, kbs, kbt, kbu, kbv, kbw, kbx, kby, kbz, kca, kcb, kcc, kcd, kce, kcf, kcg, kch, kci, kcj, kck, kcl, kcm, aop, kcn, kco, kcp, kcq, kcr, kcs, kct, kcu, kcv, kcw, resultsL, resultOf, kcx, Nat.reduceEqDiff, kcy, kcz, kda, reduceCtorEq, kdb, kdc, kdd, kde, kdf, kdg, kdh, kdi, kdj, kdk, kdl, kdm, kdn, kdo, eq1, kdp, kdq, kdr, kds, kdt, kdu, kdv, kdw, kdx, kdy, kdz, kea, keb, kec, apartOK, apart2, AObj.live, ked, kee, kef, keg, keh, kei, kej, kek, kel, Int.reduceEq, Int.reduceLT, Int.reduceLE, Int.reduceAdd, Int.reduceSub, Int.reduceMul, Int.reduceToNat, kem, ken, keo, kep, keq, ker, kes, ket, keu, kev, kew, kex, key, kez, kfa, kfb, kfc, kfd, kfe, kff, kfg, kfh, kfi, kfj, kfk, kfl, cutCells, kfm, kfn, kfo, kfp, kfq, kfr, kfs, kft, kfu, kfv, kfw, kfx, kfy, Nat.reduceAdd, Nat.reduceLeDiff, Nat.reduceLT, Nat.reduceMul, Nat.reduceSub, kfz, kga, kgb, kgc, kgd, kge, kgf, kgg, kgh, kgi, kgj, kgk, kgl, kgm, kgn, kgo, kgp, kgq, kgr, kgs, kgt, kgu, kgv, kgw, kgx, kgy, kgz, kha, khb, khc, khd, hlt, hi', if_pos, hb, r4, r5, hrow, hcl, hcol, wr_i64]
    exact hQ _ (by exact ex_env rfl)

end Go.Proofs.YtedemfmafdilmaaDoor.Ev
