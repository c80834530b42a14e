/- The document's value of a number's text. -/
import Derived.Test.YtedemfmafdilmaaDoorR6
namespace Go.Proofs.YtedemfmafdilmaaDoor.Ev
set_option maxRecDepth 100000
set_option linter.unusedSimpArgs false
set_option linter.unusedVariables false
variable {R : FRes → Heap → Prop} {H : Heap}

theorem rds_succ (f : Env → Heap → Post → Prop) (n : Nat) (e : Env) (H : Heap) (Q : Post) : rds f (n + 1) e H Q = f e H (seqK (rds f n) Q) := propext ⟨fun h => h, fun h => h⟩

theorem says_dig {b : UInt8} {base : Nat} (hb : base ≤ 16) : (saysN b.toNat < (base : Int) ↔ digV b < base) ∧ (digV b < base → saysN b.toNat = ((digV b : Nat) : Int)) := by
  have h256 := b.toNat_lt
  unfold saysN digV digitN
  simp only [Bool.and_eq_true, decide_eq_true_eq]
  repeat' split
  all_goals omega

/-- The loop of Value. -/
abbrev c47 : ACode := g47.body.at [1, 1, 1, 1, 1, 1, 0, 1, 0, 0]

def valI (l : List UInt8) (s0 base : Nat) (H : Heap) : Nat → Env → Heap → Prop := fun n e H' =>
  ∃ (G : Heap) (j a k6 : Nat), s0 + j ≤ l.length ∧ n = l.length - (s0 + j) ∧ a < 65536 ^ 8 ∧ numFold base 0 (l.drop s0) = numFold base a (l.drop (s0 + j)) ∧
    H' = H ++ G ∧ hget G 0 = .row [.int .u64 0, .int .u64 0] 0 true ∧ hget G k6 = .row (dgN a 8) 1 true ∧
    (∃ x : Nat → Value, e = [.string (bs l), x 1, .pointer (some ⟨H.length, 0, none⟩), x 3, .int .i64 base, x 5, .slice (some ⟨H.length + k6, 0, none⟩) 8 8, .int .i64 ((s0 + j : Nat) : Int), x 8, x 9, x 10, x 11, x 12, x 13, x 14, x 15, x 16, x 17, x 18, x 19, x 20, x 21, x 22, x 23, x 24, x 25, x 26, x 27, x 28, x 29, x 30, x 31, x 32, x 33, x 34, x 35, x 36, x 37, x 38, x 39, x 40, x 41, x 42, x 43, x 44, x 45, x 46, x 47, x 48, x 49, x 50, x 51, x 52, x 53, x 54, x 55, x 56, x 57, x 58, x 59, x 60, x 61, x 62, x 63, x 64, x 65, x 66, x 67, x 68, x 69, x 70, x 71, x 72, x 73, x 74, x 75, x 76, x 77, x 78, x 79, x 80, x 81, x 82, x 83, x 84, x 85, x 86, x 87, x 88, x 89, x 90])

theorem pow8 : 65536 ^ 8 = W64 * W64 := by decide

theorem hi_lo {a : Nat} (ha : a < 65536 ^ 8) :
    65536 * (65536 * (65536 * (65536 * 0 + a / 65536 ^ 7 % 65536) + a / 65536 ^ 6 % 65536) + a / 65536 ^ 5 % 65536) + a / 65536 ^ 4 % 65536 = a / W64 ∧
    65536 * (65536 * (65536 * (65536 * 0 + a / 65536 ^ 3 % 65536) + a / 65536 ^ 2 % 65536) + a / 65536 ^ 1 % 65536) + a / 65536 ^ 0 % 65536 = a % W64 := by
  simp only [W64, Nat.reducePow] at *
  constructor <;> omega

theorem value_loop {l : List UInt8} {s0 base : Nat} (hbase : base ≤ 16) (hs0 : s0 ≤ l.length) (hl : l.length ≤ 1000000) {H : Heap} (hH : On0 H) {Q : Post}
    (hok : ∀ a G k6 e, numFold base 0 (l.drop s0) = some a → a < 65536 ^ 8 → hget G 0 = .row [.int .u64 0, .int .u64 0] 0 true → hget G k6 = .row (dgN a 8) 1 true →
      (∃ x : Nat → Value, e = [x 0, x 1, .pointer (some ⟨H.length, 0, none⟩), x 3, x 4, x 5, .slice (some ⟨H.length + k6, 0, none⟩) 8 8, x 7, x 8, x 9, x 10, x 11, x 12, x 13, x 14, x 15, x 16, x 17, x 18, x 19, x 20, x 21, x 22, x 23, x 24, x 25, x 26, x 27, x 28, x 29, x 30, x 31, x 32, x 33, x 34, x 35, x 36, x 37, x 38, x 39, x 40, x 41, x 42, x 43, x 44, x 45, x 46, x 47, x 48, x 49, x 50, x 51, x 52, x 53, x 54, x 55, x 56, x 57, x 58, x 59, x 60, x 61, x 62, x 63, x 64, x 65, x 66, x 67, x 68, x 69, x 70, x 71, x 72, x 73, x 74, x 75, x 76, x 77, x 78, x 79, x 80, x 81, x 82, x 83, x 84, x 85, x 86, x 87, x 88, x 89, x 90]) → Q (.exit 0) e (H ++ G))
    (hno : ∀ G e, numFold base 0 (l.drop s0) = none → hget G 0 = .row [.int .u64 0, .int .u64 0] 0 true → (∃ x : Nat → Value, e = [x 0, x 1, .pointer (some ⟨H.length, 0, none⟩), .bool false, x 4, x 5, x 6, x 7, x 8, x 9, x 10, x 11, x 12, x 13, x 14, x 15, x 16, x 17, x 18, x 19, x 20, x 21, x 22, x 23, x 24, x 25, x 26, x 27, x 28, x 29, x 30, x 31, x 32, x 33, x 34, x 35, x 36, x 37, x 38, x 39, x 40, x 41, x 42, x 43, x 44, x 45, x 46, x 47, x 48, x 49, x 50, x 51, x 52, x 53, x 54, x 55, x 56, x 57, x 58, x 59, x 60, x 61, x 62, x 63, x 64, x 65, x 66, x 67, x 68, x 69, x 70, x 71, x 72, x 73, x 74, x 75, x 76, x 77, x 78, x 79, x 80, x 81, x 82, x 83, x 84, x 85, x 86, x 87, x 88, x 89, x 90]) → Q .ret e (H ++ G))
    {e : Env} {H1 : Heap} (hI : valI l s0 base H (l.length - s0) e H1) : WLoop T c47 e H1 Q := by
  refine WLoop.inv (valI l s0 base H) ?_ _ _ _ hI
  rintro n e H' ⟨G, j, a, k6, k1, rfl, ha, hf, rfl, g0, g6, ⟨x, rfl⟩⟩
  have l0 : 0 < G.length := hget_lt g0 rfl
  simp only [c47, AFunc.body, g47, ACode.at]
  by_cases hi : s0 + j < l.length
  · have hi' : ((s0 + j : Nat) : Int) < l.length := by omega
    have hli : l[s0 + j]? = some l[s0 + j] := List.getElem?_eq_getElem hi
    have hd : l.drop (s0 + j) = l[s0 + j] :: l.drop (s0 + j + 1) := List.drop_eq_getElem_cons hi
    rw [hd] at hf
    obtain ⟨d1, d2⟩ := says_dig (b := l[s0 + j]) hbase
    simp (disch := omega) only [kaa, kab, kac, kad, kae, kaf, kag, kah, kai, kaj, kak, kal, kam, kan, kao, kap, kaq, kar, kas, kat, kau, kav, kaw, kax, kay, kaz, kba, kbb, kbc, kbd, kbe, kbf, kbg, kbh, kbi, kbj, kbk, kbl, kbm, kbn, kbo, kbp, kbq, kbr, kbs, kbt, kbu, kbv, kbw, kbx, kby, kbz, kca, kcb, kcc, kcd, kce, kcf, kcg, kch, kci, kcj, kck, kcl, kcm, aop, kcn, kco, kcp, kcq, kcr, kcs, kct, kcu, kcv, kcw, resultsL, resultOf, kcx, Nat.reduceEqDiff, kcy, kcz, kda, reduceCtorEq, kdb, kdc, kdd, kde, kdf, kdg, kdh, kdi, kdj, kdk, kdl, kdm, kdn, kdo, eq1, kdp, kdq, kdr, kds, kdt, kdu, kdv, kdw, kdx, kdy, kdz, kea, keb, kec, apartOK, apart2, AObj.live, ked, kee, kef, keg, keh, kei, kej, kek, kel, Int.reduceEq, Int.reduceLT, Int.reduceLE, Int.reduceAdd, Int.reduceSub, Int.reduceMul, Int.reduceToNat, kem, ken, keo, kep, keq, ker, kes, ket, keu, kev, kew, kex, key, kez, kfa, kfb, kfc, kfd, kfe, kff, kfg, kfh, kfi, kfj, kfk, kfl, cutCells, kfm, kfn, kfo, kfp, kfq, kfr, kfs, kft, kfu, kfv, kfw, kfx, kfy, Nat.reduceAdd, Nat.reduceLeDiff, Nat.reduceLT, Nat.reduceMul, Nat.reduceSub, kfz, kga, kgb, kgc, kgd, kge, kgf, kgg, kgh, kgi, kgj, kgk, kgl, kgm, kgn, kgo, kgp, kgq, kgr, kgs, kgt, kgu, kgv, kgw, kgx, kgy, kgz, kha, khb, khc, khd, hi', hli]
    (repeat ((first | refine says_s (hH.app _) ?_); try simp (disch := omega) only [kaa, kab, kac, kad, kae, kaf, kag, kah, kai, kaj, kak, kal, kam, kan, kao, kap, kaq, kar, kas, kat, kau, kav, kaw, kax, kay, kaz, kba, kbb, kbc, kbd, kbe, kbf, kbg, kbh, kbi, kbj, kbk, kbl, kbm, kbn, kbo, kbp, kbq, kbr, kbs, kbt, kbu, kbv, kbw, kbx, kby, kbz, kca, kcb, kcc, kcd, kce, kcf, kcg, kch, kci, kcj, kck, kcl, kcm, aop, kcn, kco, kcp, kcq, kcr, kcs, kct, kcu, kcv, kcw, resultsL, resultOf, kcx, Nat.reduceEqDiff, kcy, kcz, kda, reduceCtorEq, kdb, kdc, kdd, kde, kdf, kdg, kdh, kdi, kdj, kdk, kdl, kdm, kdn, kdo, eq1, kdp, kdq, kdr, kds, kdt, kdu, kdv, kdw, kdx, kdy, kdz, kea, keb, kec, apartOK, apart2, AObj.live, ked, kee, kef, keg, keh, kei, kej, kek, kel, Int.reduceEq, Int.reduceLT, Int.reduceLE, Int.reduceAdd, Int.reduceSub, Int.reduceMul, Int.reduceToNat, kem, ken, keo, kep, keq, ker, kes, ket, keu, kev, kew, kex, key, kez, kfa, kfb, kfc, kfd, kfe, kff, kfg, kfh, kfi, kfj, kfk, kfl, cutCells, kfm, kfn, kfo, kfp, kfq, kfr, kfs, kft, kfu, kfv, kfw, kfx, kfy, Nat.reduceAdd, Nat.reduceLeDiff, Nat.reduceLT, Nat.reduceMul, Nat.reduceSub, kfz, kga, kgb, kgc, kgd, kge, kgf, kgg, kgh, kgi, kgj, kgk, kgl, kgm, kgn, kgo, kgp, kgq, kgr, kgs, kgt, kgu, kgv, kgw, kgx, kgy, kgz, kha, khb, khc, khd]))
    by_cases hdg : digV l[s0 + j] < base
    · have e1 := d2 hdg
      have hnot : ¬ ((base : Int) ≤ ((digV l[s0 + j] : Nat) : Int)) := by omega
      simp (disch := omega) only [kaa, kab, kac, kad, kae, kaf, kag, kah, kai, kaj, kak, kal, kam, kan, kao, kap, kaq, kar, kas, kat, kau, kav, kaw, kax, kay, kaz, kba, kbb, kbc, kbd, kbe, kbf, kbg, kbh, kbi, kbj, kbk, kbl, kbm, kbn, kbo, kbp, kbq, kbr, kbs, kbt, kbu, kbv, kbw, kbx, kby, kbz, kca, kcb, kcc, kcd, kce, kcf, kcg, kch, kci, kcj, kck, kcl, kcm, aop, kcn, kco, kcp, kcq, kcr, kcs, kct, kcu, kcv, kcw, resultsL, resultOf, kcx, Nat.reduceEqDiff, kcy, kcz, kda, reduceCtorEq, kdb, kdc, kdd, kde, kdf, kdg, kdh, kdi, kdj, kdk, kdl, kdm, kdn, kdo, eq1, kdp, kdq, kdr, kds, kdt, kdu, kdv, kdw, kdx, kdy, kdz, kea, keb, kec, apartOK, apart2, AObj.live, ked, kee, kef, keg, keh, kei, kej, kek, kel, Int.reduceEq, Int.reduceLT, Int.reduceLE, Int.reduceAdd, Int.reduceSub, Int.reduceMul, Int.reduceToNat, kem, ken, keo, kep, keq, ker, kes, ket, keu, kev, kew, kex, key, kez, kfa, kfb, kfc, kfd, kfe, kff, kfg, kfh, kfi, kfj, kfk, kfl, cutCells, kfm, kfn, kfo, kfp, kfq, kfr, kfs, kft, kfu, kfv, kfw, kfx, kfy, Nat.reduceAdd, Nat.reduceLeDiff, Nat.reduceLT, Nat.reduceMul, Nat.reduceSub, kfz, kga, kgb, kgc, kgd, kge, kgf, kgg, kgh, kgi, kgj, kgk, kgl, kgm, kgn, kgo, kgp, kgq, kgr, kgs, kgt, kgu, kgv, kgw, kgx, kgy, kgz, kha, khb, khc, khd, e1, hnot]
      have g6' : hget (H ++ G) (H.length + k6) = .row (dgN a 8) 1 true := by rw [hget_base]; exact g6
      (repeat ((first | refine grown_s (v := a) (d0 := digV l[s0 + j]) g6' ha hbase (by omega) ?_); try simp (disch := omega) only [kaa, kab, kac, kad, kae, kaf, kag, kah, kai, kaj, kak, kal, kam, kan, kao, kap, kaq, kar, kas, kat, kau, kav, kaw, kax, kay, kaz, kba, kbb, kbc, kbd, kbe, kbf, kbg, kbh, kbi, kbj, kbk, kbl, kbm, kbn, kbo, kbp, kbq, kbr, kbs, kbt, kbu, kbv, kbw, kbx, kby, kbz, kca, kcb, kcc, kcd, kce, kcf, kcg, kch, kci, kcj, kck, kcl, kcm, aop, kcn, kco, kcp, kcq, kcr, kcs, kct, kcu, kcv, kcw, resultsL, resultOf, kcx, Nat.reduceEqDiff, kcy, kcz, kda, reduceCtorEq, kdb, kdc, kdd, kde, kdf, kdg, kdh, kdi, kdj, kdk, kdl, kdm, kdn, kdo, eq1, kdp, kdq, kdr, kds, kdt, kdu, kdv, kdw, kdx, kdy, kdz, kea, keb, kec, apartOK, apart2, AObj.live, ked, kee, kef, keg, keh, kei, kej, kek, kel, Int.reduceEq, Int.reduceLT, Int.reduceLE, Int.reduceAdd, Int.reduceSub, Int.reduceMul, Int.reduceToNat, kem, ken, keo, kep, keq, ker, kes, ket, keu, kev, kew, kex, key, kez, kfa, kfb, kfc, kfd, kfe, kff, kfg, kfh, kfi, kfj, kfk, kfl, cutCells, kfm, kfn, kfo, kfp, kfq, kfr, kfs, kft, kfu, kfv, kfw, kfx, kfy, Nat.reduceAdd, Nat.reduceLeDiff, Nat.reduceLT, Nat.reduceMul, Nat.reduceSub, kfz, kga, kgb, kgc, kgd, kge, kgf, kgg, kgh, kgi, kgj, kgk, kgl, kgm, kgn, kgo, kgp, kgq, kgr, kgs, kgt, kgu, kgv, kgw, kgx, kgy, kgz, kha, khb, khc, khd]))
      by_cases hlt : a * base + digV l[s0 + j] < 65536 ^ 8
      · simp (disch := omega) only [kaa, kab, kac, kad, kae, kaf, kag, kah, kai, kaj, kak, kal, kam, kan, kao, kap, kaq, kar, kas, kat, kau, kav, kaw, kax, kay, kaz, kba, kbb, kbc, kbd, kbe, kbf, kbg, kbh, kbi, kbj, kbk, kbl, kbm, kbn, kbo, kbp, kbq, kbr, kbs, kbt, kbu, kbv, kbw, kbx, kby, kbz, kca, kcb, kcc, kcd, kce, kcf, kcg, kch, kci, kcj, kck, kcl, kcm, aop, kcn, kco, kcp, kcq, kcr, kcs, kct, kcu, kcv, kcw, resultsL, resultOf, kcx, Nat.reduceEqDiff, kcy, kcz, kda, reduceCtorEq, kdb, kdc, kdd, kde, kdf, kdg, kdh, kdi, kdj, kdk, kdl, kdm, kdn, kdo, eq1, kdp, kdq, kdr, kds, kdt, kdu, kdv, kdw, kdx, kdy, kdz, kea, keb, kec, apartOK, apart2, AObj.live, ked, kee, kef, keg, keh, kei, kej, kek, kel, Int.reduceEq, Int.reduceLT, Int.reduceLE, Int.reduceAdd, Int.reduceSub, Int.reduceMul, Int.reduceToNat, kem, ken, keo, kep, keq, ker, kes, ket, keu, kev, kew, kex, key, kez, kfa, kfb, kfc, kfd, kfe, kff, kfg, kfh, kfi, kfj, kfk, kfl, cutCells, kfm, kfn, kfo, kfp, kfq, kfr, kfs, kft, kfu, kfv, kfw, kfx, kfy, Nat.reduceAdd, Nat.reduceLeDiff, Nat.reduceLT, Nat.reduceMul, Nat.reduceSub, kfz, kga, kgb, kgc, kgd, kge, kgf, kgg, kgh, kgi, kgj, kgk, kgl, kgm, kgn, kgo, kgp, kgq, kgr, kgs, kgt, kgu, kgv, kgw, kgx, kgy, kgz, kha, khb, khc, khd, hlt, wr_i64, nadd1]
        refine ⟨l.length - (s0 + (j + 1)), by omega, _, j + 1, a * base + digV l[s0 + j], G.length, by omega, rfl, hlt, ?_, rfl, ?_, hget_last _ _, ex_env rfl⟩
        · rw [hf]
          simp only [numFold]
          rw [if_pos ⟨hdg, by rw [← pow8]; exact hlt⟩]
          rfl
        · rw [hget_old l0]; exact g0
      · simp (disch := omega) only [kaa, kab, kac, kad, kae, kaf, kag, kah, kai, kaj, kak, kal, kam, kan, kao, kap, kaq, kar, kas, kat, kau, kav, kaw, kax, kay, kaz, kba, kbb, kbc, kbd, kbe, kbf, kbg, kbh, kbi, kbj, kbk, kbl, kbm, kbn, kbo, kbp, kbq, kbr, kbs, kbt, kbu, kbv, kbw, kbx, kby, kbz, kca, kcb, kcc, kcd, kce, kcf, kcg, kch, kci, kcj, kck, kcl, kcm, aop, kcn, kco, kcp, kcq, kcr, kcs, kct, kcu, kcv, kcw, resultsL, resultOf, kcx, Nat.reduceEqDiff, kcy, kcz, kda, reduceCtorEq, kdb, kdc, kdd, kde, kdf, kdg, kdh, kdi, kdj, kdk, kdl, kdm, kdn, kdo, eq1, kdp, kdq, kdr, kds, kdt, kdu, kdv, kdw, kdx, kdy, kdz, kea, keb, kec, apartOK, apart2, AObj.live, ked, kee, kef, keg, keh, kei, kej, kek, kel, Int.reduceEq, Int.reduceLT, Int.reduceLE, Int.reduceAdd, Int.reduceSub, Int.reduceMul, Int.reduceToNat, kem, ken, keo, kep, keq, ker, kes, ket, keu, kev, kew, kex, key, kez, kfa, kfb, kfc, kfd, kfe, kff, kfg, kfh, kfi, kfj, kfk, kfl, cutCells, kfm, kfn, kfo, kfp, kfq, kfr, kfs, kft, kfu, kfv, kfw, kfx, kfy, Nat.reduceAdd, Nat.reduceLeDiff, Nat.reduceLT, Nat.reduceMul, Nat.reduceSub, kfz, kga, kgb, kgc, kgd, kge, kgf, kgg, kgh, kgi, kgj, kgk, kgl, kgm, kgn, kgo, kgp, kgq, kgr, kgs, kgt, kgu, kgv, kgw, kgx, kgy, kgz, kha, khb, khc, khd, hlt, g0]
        refine hno _ _ ?_ ?_ (by exact ex_env rfl)
        · rw [hf]
          simp only [numFold]
          rw [if_neg fun q => hlt (by rw [pow8]; exact q.2)]
        · rw [hget_oldS l0, hget_set' l0]
    · have hge : (base : Int) ≤ saysN l[s0 + j].toNat := by omega
      simp (disch := omega) only [kaa, kab, kac, kad, kae, kaf, kag, kah, kai, kaj, kak, kal, kam, kan, kao, kap, kaq, kar, kas, kat, kau, kav, kaw, kax, kay, kaz, kba, kbb, kbc, kbd, kbe, kbf, kbg, kbh, kbi, kbj, kbk, kbl, kbm, kbn, kbo, kbp, kbq, kbr, kbs, kbt, kbu, kbv, kbw, kbx, kby, kbz, kca, kcb, kcc, kcd, kce, kcf, kcg, kch, kci, kcj, kck, kcl, kcm, aop, kcn, kco, kcp, kcq, kcr, kcs, kct, kcu, kcv, kcw, resultsL, resultOf, kcx, Nat.reduceEqDiff, kcy, kcz, kda, reduceCtorEq, kdb, kdc, kdd, kde, kdf, kdg, kdh, kdi, kdj, kdk, kdl, kdm, kdn, kdo, eq1, kdp, kdq, kdr, kds, kdt, kdu, kdv, kdw, kdx, kdy, kdz, kea, keb, kec, apartOK, apart2, AObj.live, ked, kee, kef, keg, keh, kei, kej, kek, kel, Int.reduceEq, Int.reduceLT, Int.reduceLE, Int.reduceAdd, Int.reduceSub, Int.reduceMul, Int.reduceToNat, kem, ken, keo, kep, keq, ker, kes, ket, keu, kev, kew, kex, key, kez, kfa, kfb, kfc, kfd, kfe, kff, kfg, kfh, kfi, kfj, kfk, kfl, cutCells, kfm, kfn, kfo, kfp, kfq, kfr, kfs, kft, kfu, kfv, kfw, kfx, kfy, Nat.reduceAdd, Nat.reduceLeDiff, Nat.reduceLT, Nat.reduceMul, Nat.reduceSub, kfz, kga, kgb, kgc, kgd, kge, kgf, kgg, kgh, kgi, kgj, kgk, kgl, kgm, kgn, kgo, kgp, kgq, kgr, kgs, kgt, kgu, kgv, kgw, kgx, kgy, kgz, kha, khb, khc, khd, hge, g0]
      refine hno _ _ ?_ ?_ (by exact ex_env rfl)
      · rw [hf]
        simp only [numFold]
        rw [if_neg fun q => hdg q.1]
      · rw [hget_set' l0]
  · have hi' : ¬ ((s0 + j : Nat) : Int) < l.length := by omega
    simp (disch := omega) only [kaa, kab, kac, kad, kae, kaf, kag, kah, kai, kaj, kak, kal, kam, kan, kao, kap, kaq, kar, kas, kat, kau, kav, kaw, kax, kay, kaz, kba, kbb, kbc, kbd, kbe, kbf, kbg, kbh, kbi, kbj, kbk, kbl, kbm, kbn, kbo, kbp, kbq, kbr, kbs, kbt, kbu, kbv, kbw, kbx, kby, kbz, kca, kcb, kcc, kcd, kce, kcf, kcg, kch, kci, kcj, kck, kcl, kcm, aop, kcn, kco, kcp, kcq, kcr, kcs, kct, kcu, kcv, kcw, resultsL, resultOf, kcx, Nat.reduceEqDiff, kcy, kcz, kda, reduceCtorEq, kdb, kdc, kdd, kde, kdf, kdg, kdh, kdi, kdj, kdk, kdl, kdm, kdn, kdo, eq1, kdp, kdq, kdr, kds, kdt, kdu, kdv, kdw, kdx, kdy, kdz, kea, keb, kec, apartOK, apart2, AObj.live, ked, kee, kef, keg, keh, kei, kej, kek, kel, Int.reduceEq, Int.reduceLT, Int.reduceLE, Int.reduceAdd, Int.reduceSub, Int.reduceMul, Int.reduceToNat, kem, ken, keo, kep, keq, ker, kes, ket, keu, kev, kew, kex, key, kez, kfa, kfb, kfc, kfd, kfe, kff, kfg, kfh, kfi, kfj, kfk, kfl, cutCells, kfm, kfn, kfo, kfp, kfq, kfr, kfs, kft, kfu, kfv, kfw, kfx, kfy, Nat.reduceAdd, Nat.reduceLeDiff, Nat.reduceLT, Nat.reduceMul, Nat.reduceSub, kfz, kga, kgb, kgc, kgd, kge, kgf, kgg, kgh, kgi, kgj, kgk, kgl, kgm, kgn, kgo, kgp, kgq, kgr, kgs, kgt, kgu, kgv, kgw, kgx, kgy, kgz, kha, khb, khc, khd, hi']
    refine hok a G k6 _ ?_ ha g0 g6 (by exact ex_env rfl)
    rw [hf, List.drop_eq_nil_iff.2 (by omega)]
    rfl


theorem value_fin {l : List UInt8} (hl : l.length ≤ 1000000) (hH : On0 H) (h : R (.ret (numR (numV l))) H) (s0 base : Nat) (hb : base ≤ 16) (hs0 : s0 < l.length) (hn : numV l = numFold base 0 (l.drop s0)) {e : Env}
    (he : (∃ x : Nat → Value, e = [.string (bs l), x 1, .pointer (some ⟨H.length, 0, none⟩), x 3, .int .i64 base, x 5, .slice (some ⟨H.length + 1, 0, none⟩) 8 8, .int .i64 (s0 : Int), x 8, x 9, x 10, x 11, x 12, x 13, x 14, x 15, x 16, x 17, x 18, x 19, x 20, x 21, x 22, x 23, x 24, x 25, x 26, x 27, x 28, x 29, x 30, x 31, x 32, x 33, x 34, x 35, x 36, x 37, x 38, x 39, x 40, x 41, x 42, x 43, x 44, x 45, x 46, x 47, x 48, x 49, x 50, x 51, x 52, x 53, x 54, x 55, x 56, x 57, x 58, x 59, x 60, x 61, x 62, x 63, x 64, x 65, x 66, x 67, x 68, x 69, x 70, x 71, x 72, x 73, x 74, x 75, x 76, x 77, x 78, x 79, x 80, x 81, x 82, x 83, x 84, x 85, x 86, x 87, x 88, x 89, x 90])) :
    WLoop T c47 e (H ++ [.row [.int .u64 0, .int .u64 0] 0 true, .row (dgN 0 8) 1 true]) (blockK 0 (seqK (WC T (g47.body.at [1, 1, 1, 1, 1, 1, 1])) (retK [.cellN 2 2, .tmp 3] fun r H1 =>
        ∃ v, r = FRes.ret v ∧ (∃ g, H1 = H ++ g) ∧ Scoped (List.length H) v ∧ R (FRes.ret v) H))) := by
  have hsc : ∀ o, Scoped H.length (numR o) := fun o => .tup2 (.closed rfl) .bool
  refine value_loop hb (by omega) hl hH ?_ ?_ ⟨_, 0, 0, 1, by omega, rfl, by decide, rfl, rfl, rfl, rfl, he⟩
  · rintro a G k6 e hf ha g0 g6 ⟨x, rfl⟩
    simp only [AFunc.body, g47, ACode.at]
    have l0 : 0 < G.length := hget_lt g0 rfl
    have l6 : k6 < G.length := hget_lt g6 rfl
    have q0 := dgN_get a 8 0 (by decide)
    have q1 := dgN_get a 8 1 (by decide)
    have q2 := dgN_get a 8 2 (by decide)
    have q3 := dgN_get a 8 3 (by decide)
    have q4 := dgN_get a 8 4 (by decide)
    have q5 := dgN_get a 8 5 (by decide)
    have q6 := dgN_get a 8 6 (by decide)
    have q7 := dgN_get a 8 7 (by decide)
    simp only [Nat.reducePow] at q0 q1 q2 q3 q4 q5 q6 q7
    simp (disch := omega) only [kaa, kab, kac, kad, kae, kaf, kag, kah, kai, kaj, kak, kal, kam, kan, kao, kap, kaq, kar, kas, kat, kau, kav, kaw, kax, kay, kaz, kba, kbb, kbc, kbd, kbe, kbf, kbg, kbh, kbi, kbj, kbk, kbl, kbm, kbn, kbo, kbp, kbq, kbr, kbs, kbt, kbu, kbv, kbw, kbx, kby, kbz, kca, kcb, kcc, kcd, kce, kcf, kcg, kch, kci, kcj, kck, kcl, kcm, aop, kcn, kco, kcp, kcq, kcr, kcs, kct, kcu, kcv, kcw, resultsL, resultOf, kcx, Nat.reduceEqDiff, kcy, kcz, kda, reduceCtorEq, kdb, kdc, kdd, kde, kdf, kdg, kdh, kdi, kdj, kdk, kdl, kdm, kdn, kdo, eq1, kdp, kdq, kdr, kds, kdt, kdu, kdv, kdw, kdx, kdy, kdz, kea, keb, kec, apartOK, apart2, AObj.live, ked, kee, kef, keg, keh, kei, kej, kek, kel, Int.reduceEq, Int.reduceLT, Int.reduceLE, Int.reduceAdd, Int.reduceSub, Int.reduceMul, Int.reduceToNat, kem, ken, keo, kep, keq, ker, kes, ket, keu, kev, kew, kex, key, kez, kfa, kfb, kfc, kfd, kfe, kff, kfg, kfh, kfi, kfj, kfk, kfl, cutCells, kfm, kfn, kfo, kfp, kfq, kfr, kfs, kft, kfu, kfv, kfw, kfx, kfy, Nat.reduceAdd, Nat.reduceLeDiff, Nat.reduceLT, Nat.reduceMul, Nat.reduceSub, kfz, kga, kgb, kgc, kgd, kge, kgf, kgg, kgh, kgi, kgj, kgk, kgl, kgm, kgn, kgo, kgp, kgq, kgr, kgs, kgt, kgu, kgv, kgw, kgx, kgy, kgz, kha, khb, khc, khd]
    refine ⟨5, ?_⟩
    simp (disch := omega) only [kaa, kab, kac, kad, kae, kaf, kag, kah, kai, kaj, kak, kal, kam, kan, kao, kap, kaq, kar, kas, kat, kau, kav, kaw, kax, kay, kaz, kba, kbb, kbc, kbd, kbe, kbf, kbg, kbh, kbi, kbj, kbk, kbl, kbm, kbn, kbo, kbp, kbq, kbr, kbs, kbt, kbu, kbv, kbw, kbx, kby, kbz, kca, kcb, kcc, kcd, kce, kcf, kcg, kch, kci, kcj, kck, kcl, kcm, aop, kcn, kco, kcp, kcq, kcr, kcs, kct, kcu, kcv, kcw, resultsL, resultOf, kcx, Nat.reduceEqDiff, kcy, kcz, kda, reduceCtorEq, kdb, kdc, kdd, kde, kdf, kdg, kdh, kdi, kdj, kdk, kdl, kdm, kdn, kdo, eq1, kdp, kdq, kdr, kds, kdt, kdu, kdv, kdw, kdx, kdy, kdz, kea, keb, kec, apartOK, apart2, AObj.live, ked, kee, kef, keg, keh, kei, kej, kek, kel, Int.reduceEq, Int.reduceLT, Int.reduceLE, Int.reduceAdd, Int.reduceSub, Int.reduceMul, Int.reduceToNat, kem, ken, keo, kep, keq, ker, kes, ket, keu, kev, kew, kex, key, kez, kfa, kfb, kfc, kfd, kfe, kff, kfg, kfh, kfi, kfj, kfk, kfl, cutCells, kfm, kfn, kfo, kfp, kfq, kfr, kfs, kft, kfu, kfv, kfw, kfx, kfy, Nat.reduceAdd, Nat.reduceLeDiff, Nat.reduceLT, Nat.reduceMul, Nat.reduceSub, kfz, kga, kgb, kgc, kgd, kge, kgf, kgg, kgh, kgi, kgj, kgk, kgl, kgm, kgn, kgo, kgp, kgq, kgr, kgs, kgt, kgu, kgv, kgw, kgx, kgy, kgz, kha, khb, khc, khd, rds_succ, g6, q0, q1, q2, q3, q4, q5, q6, q7, if_pos, wr_u64, wr_i64, g0]
    have ha' : a < 340282366920938463463374607431768211456 := by simpa only [Nat.reducePow] using ha
    have e1 : (65536 * (65536 * (65536 * (0 + ((a / 5192296858534827628530496329220096 % 65536 : Nat) : Int)) + ((a / 79228162514264337593543950336 % 65536 : Nat) : Int)) + ((a / 1208925819614629174706176 % 65536 : Nat) : Int)) + ((a / 18446744073709551616 % 65536 : Nat) : Int)) = ((a / W64 : Nat) : Int) := by
      simp only [W64]; omega
    have e2 : (65536 * (65536 * (65536 * (0 + ((a / 281474976710656 % 65536 : Nat) : Int)) + ((a / 4294967296 % 65536 : Nat) : Int)) + ((a / 65536 % 65536 : Nat) : Int)) + ((a / 1 % 65536 : Nat) : Int)) = ((a % W64 : Nat) : Int) := by
      simp only [W64]; omega
    rw [e1, e2]
    refine ⟨_, rfl, ⟨_, rfl⟩, hsc (some a), ?_⟩
    rw [hn, hf] at h
    exact h
  · rintro G e hf g0 ⟨x, rfl⟩
    simp (disch := omega) only [kaa, kab, kac, kad, kae, kaf, kag, kah, kai, kaj, kak, kal, kam, kan, kao, kap, kaq, kar, kas, kat, kau, kav, kaw, kax, kay, kaz, kba, kbb, kbc, kbd, kbe, kbf, kbg, kbh, kbi, kbj, kbk, kbl, kbm, kbn, kbo, kbp, kbq, kbr, kbs, kbt, kbu, kbv, kbw, kbx, kby, kbz, kca, kcb, kcc, kcd, kce, kcf, kcg, kch, kci, kcj, kck, kcl, kcm, aop, kcn, kco, kcp, kcq, kcr, kcs, kct, kcu, kcv, kcw, resultsL, resultOf, kcx, Nat.reduceEqDiff, kcy, kcz, kda, reduceCtorEq, kdb, kdc, kdd, kde, kdf, kdg, kdh, kdi, kdj, kdk, kdl, kdm, kdn, kdo, eq1, kdp, kdq, kdr, kds, kdt, kdu, kdv, kdw, kdx, kdy, kdz, kea, keb, kec, apartOK, apart2, AObj.live, ked, kee, kef, keg, keh, kei, kej, kek, kel, Int.reduceEq, Int.reduceLT, Int.reduceLE, Int.reduceAdd, Int.reduceSub, Int.reduceMul, Int.reduceToNat, kem, ken, keo, kep, keq, ker, kes, ket, keu, kev, kew, kex, key, kez, kfa, kfb, kfc, kfd, kfe, kff, kfg, kfh, kfi, kfj, kfk, kfl, cutCells, kfm, kfn, kfo, kfp, kfq, kfr, kfs, kft, kfu, kfv, kfw, kfx, kfy, Nat.reduceAdd, Nat.reduceLeDiff, Nat.reduceLT, Nat.reduceMul, Nat.reduceSub, kfz, kga, kgb, kgc, kgd, kge, kgf, kgg, kgh, kgi, kgj, kgk, kgl, kgm, kgn, kgo, kgp, kgq, kgr, kgs, kgt, kgu, kgv, kgw, kgx, kgy, kgz, kha, khb, khc, khd, g0]
    refine ⟨_, rfl, ⟨_, rfl⟩, hsc none, ?_⟩
    rw [hn, hf] at h
    exact h

theorem value_s {l : List UInt8} (hl : l.length ≤ 1000000) (hH : On0 H) (h : R (.ret (numR (numV l))) H) : WD T 47 [.string (bs l)] H R := by
  refine WD.gc0 (WD.of follows t47 (by simp) ?_)
  have hsc : ∀ o, Scoped H.length (numR o) := fun o => .tup2 (.closed rfl) .bool
  have none_ : ∀ K : Heap, numV l = none → ∃ v, FRes.ret (.tuple #[.agg #[.int .u64 0, .int .u64 0], .bool false]) = FRes.ret v ∧ (∃ g, H ++ K = H ++ g) ∧ Scoped H.length v ∧ R (.ret v) H := fun K q => by
    rw [q] at h
    exact ⟨_, rfl, ⟨_, rfl⟩, hsc none, h⟩
  by_cases h1 : (1 : Int) < l.length
  · have e0 : l[0]? = some l[0] := List.getElem?_eq_getElem (by omega)
    have e1 : l[1]? = some l[1] := List.getElem?_eq_getElem (by omega)
    have hpre : ∀ a b : UInt8, [a, b].isPrefixOf l = (a == l[0] && b == l[1]) := fun a b => by
      match l, h1 with
      | c :: d :: t, _ => simp [List.isPrefixOf]
    have hhead : l.head? = some l[0] := by rw [List.head?_eq_getElem?, e0]
    by_cases h48 : (l[0].toNat : Int) = 48
    · have h48' : l[0] = 48 := UInt8.toNat_inj.1 (show l[0].toNat = (48 : UInt8).toNat from Int.ofNat.inj h48)
      by_cases h120 : (l[1].toNat : Int) = 120
      · have h120' : l[1] = 120 := UInt8.toNat_inj.1 (show l[1].toNat = (120 : UInt8).toNat from Int.ofNat.inj h120)
        have hnv : numV l = if l.length = 2 then none else numFold 16 0 (l.drop 2) := by
          rw [numV, hpre, h48', h120']; rfl
        by_cases hl2 : (l.length : Int) ≤ 2
        · simp (disch := omega) only [kaa, kab, kac, kad, kae, kaf, kag, kah, kai, kaj, kak, kal, kam, kan, kao, kap, kaq, kar, kas, kat, kau, kav, kaw, kax, kay, kaz, kba, kbb, kbc, kbd, kbe, kbf, kbg, kbh, kbi, kbj, kbk, kbl, kbm, kbn, kbo, kbp, kbq, kbr, kbs, kbt, kbu, kbv, kbw, kbx, kby, kbz, kca, kcb, kcc, kcd, kce, kcf, kcg, kch, kci, kcj, kck, kcl, kcm, aop, kcn, kco, kcp, kcq, kcr, kcs, kct, kcu, kcv, kcw, resultsL, resultOf, kcx, Nat.reduceEqDiff, kcy, kcz, kda, reduceCtorEq, kdb, kdc, kdd, kde, kdf, kdg, kdh, kdi, kdj, kdk, kdl, kdm, kdn, kdo, eq1, kdp, kdq, kdr, kds, kdt, kdu, kdv, kdw, kdx, kdy, kdz, kea, keb, kec, apartOK, apart2, AObj.live, ked, kee, kef, keg, keh, kei, kej, kek, kel, Int.reduceEq, Int.reduceLT, Int.reduceLE, Int.reduceAdd, Int.reduceSub, Int.reduceMul, Int.reduceToNat, kem, ken, keo, kep, keq, ker, kes, ket, keu, kev, kew, kex, key, kez, kfa, kfb, kfc, kfd, kfe, kff, kfg, kfh, kfi, kfj, kfk, kfl, cutCells, kfm, kfn, kfo, kfp, kfq, kfr, kfs, kft, kfu, kfv, kfw, kfx, kfy, Nat.reduceAdd, Nat.reduceLeDiff, Nat.reduceLT, Nat.reduceMul, Nat.reduceSub, kfz, kga, kgb, kgc, kgd, kge, kgf, kgg, kgh, kgi, kgj, kgk, kgl, kgm, kgn, kgo, kgp, kgq, kgr, kgs, kgt, kgu, kgv, kgw, kgx, kgy, kgz, kha, khb, khc, khd, h1, e0, e1, h48, h120, hl2]
          rw [if_pos (by omega)] at hnv
          exact none_ _ hnv
        · simp (disch := omega) only [kaa, kab, kac, kad, kae, kaf, kag, kah, kai, kaj, kak, kal, kam, kan, kao, kap, kaq, kar, kas, kat, kau, kav, kaw, kax, kay, kaz, kba, kbb, kbc, kbd, kbe, kbf, kbg, kbh, kbi, kbj, kbk, kbl, kbm, kbn, kbo, kbp, kbq, kbr, kbs, kbt, kbu, kbv, kbw, kbx, kby, kbz, kca, kcb, kcc, kcd, kce, kcf, kcg, kch, kci, kcj, kck, kcl, kcm, aop, kcn, kco, kcp, kcq, kcr, kcs, kct, kcu, kcv, kcw, resultsL, resultOf, kcx, Nat.reduceEqDiff, kcy, kcz, kda, reduceCtorEq, kdb, kdc, kdd, kde, kdf, kdg, kdh, kdi, kdj, kdk, kdl, kdm, kdn, kdo, eq1, kdp, kdq, kdr, kds, kdt, kdu, kdv, kdw, kdx, kdy, kdz, kea, keb, kec, apartOK, apart2, AObj.live, ked, kee, kef, keg, keh, kei, kej, kek, kel, Int.reduceEq, Int.reduceLT, Int.reduceLE, Int.reduceAdd, Int.reduceSub, Int.reduceMul, Int.reduceToNat, kem, ken, keo, kep, keq, ker, kes, ket, keu, kev, kew, kex, key, kez, kfa, kfb, kfc, kfd, kfe, kff, kfg, kfh, kfi, kfj, kfk, kfl, cutCells, kfm, kfn, kfo, kfp, kfq, kfr, kfs, kft, kfu, kfv, kfw, kfx, kfy, Nat.reduceAdd, Nat.reduceLeDiff, Nat.reduceLT, Nat.reduceMul, Nat.reduceSub, kfz, kga, kgb, kgc, kgd, kge, kgf, kgg, kgh, kgi, kgj, kgk, kgl, kgm, kgn, kgo, kgp, kgq, kgr, kgs, kgt, kgu, kgv, kgw, kgx, kgy, kgz, kha, khb, khc, khd, h1, e0, e1, h48, h120, hl2]
          rw [if_neg (by omega)] at hnv
          exact value_fin hl hH h 2 16 (by omega) (by omega) hnv (by exact ex_env rfl)
      · by_cases h98 : (l[1].toNat : Int) = 98
        · have h98' : l[1] = 98 := UInt8.toNat_inj.1 (show l[1].toNat = (98 : UInt8).toNat from Int.ofNat.inj h98)
          have hnv : numV l = if l.length = 2 then none else numFold 2 0 (l.drop 2) := by
            rw [numV, hpre, hpre, h48', h98']; rfl
          by_cases hl2 : (l.length : Int) ≤ 2
          · simp (disch := omega) only [kaa, kab, kac, kad, kae, kaf, kag, kah, kai, kaj, kak, kal, kam, kan, kao, kap, kaq, kar, kas, kat, kau, kav, kaw, kax, kay, kaz, kba, kbb, kbc, kbd, kbe, kbf, kbg, kbh, kbi, kbj, kbk, kbl, kbm, kbn, kbo, kbp, kbq, kbr, kbs, kbt, kbu, kbv, kbw, kbx, kby, kbz, kca, kcb, kcc, kcd, kce, kcf, kcg, kch, kci, kcj, kck, kcl, kcm, aop, kcn, kco, kcp, kcq, kcr, kcs, kct, kcu, kcv, kcw, resultsL, resultOf, kcx, Nat.reduceEqDiff, kcy, kcz, kda, reduceCtorEq, kdb, kdc, kdd, kde, kdf, kdg, kdh, kdi, kdj, kdk, kdl, kdm, kdn, kdo, eq1, kdp, kdq, kdr, kds, kdt, kdu, kdv, kdw, kdx, kdy, kdz, kea, keb, kec, apartOK, apart2, AObj.live, ked, kee, kef, keg, keh, kei, kej, kek, kel, Int.reduceEq, Int.reduceLT, Int.reduceLE, Int.reduceAdd, Int.reduceSub, Int.reduceMul, Int.reduceToNat, kem, ken, keo, kep, keq, ker, kes, ket, keu, kev, kew, kex, key, kez, kfa, kfb, kfc, kfd, kfe, kff, kfg, kfh, kfi, kfj, kfk, kfl, cutCells, kfm, kfn, kfo, kfp, kfq, kfr, kfs, kft, kfu, kfv, kfw, kfx, kfy, Nat.reduceAdd, Nat.reduceLeDiff, Nat.reduceLT, Nat.reduceMul, Nat.reduceSub, kfz, kga, kgb, kgc, kgd, kge, kgf, kgg, kgh, kgi, kgj, kgk, kgl, kgm, kgn, kgo, kgp, kgq, kgr, kgs, kgt, kgu, kgv, kgw, kgx, kgy, kgz, kha, khb, khc, khd, h1, e0, e1, h48, h98, hl2]
            rw [if_pos (by omega)] at hnv
            exact none_ _ hnv
          · simp (disch := omega) only [kaa, kab, kac, kad, kae, kaf, kag, kah, kai, kaj, kak, kal, kam, kan, kao, kap, kaq, kar, kas, kat, kau, kav, kaw, kax, kay, kaz, kba, kbb, kbc, kbd, kbe, kbf, kbg, kbh, kbi, kbj, kbk, kbl, kbm, kbn, kbo, kbp, kbq, kbr, kbs, kbt, kbu, kbv, kbw, kbx, kby, kbz, kca, kcb, kcc, kcd, kce, kcf, kcg, kch, kci, kcj, kck, kcl, kcm, aop, kcn, kco, kcp, kcq, kcr, kcs, kct, kcu, kcv, kcw, resultsL, resultOf, kcx, Nat.reduceEqDiff, kcy, kcz, kda, reduceCtorEq, kdb, kdc, kdd, kde, kdf, kdg, kdh, kdi, kdj, kdk, kdl, kdm, kdn, kdo, eq1, kdp, kdq, kdr, kds, kdt, kdu, kdv, kdw, kdx, kdy, kdz, kea, keb, kec, apartOK, apart2, AObj.live, ked, kee, kef, keg, keh, kei, kej, kek, kel, Int.reduceEq, Int.reduceLT, Int.reduceLE, Int.reduceAdd, Int.reduceSub, Int.reduceMul, Int.reduceToNat, kem, ken, keo, kep, keq, ker, kes, ket, keu, kev, kew, kex, key, kez, kfa, kfb, kfc, kfd, kfe, kff, kfg, kfh, kfi, kfj, kfk, kfl, cutCells, kfm, kfn, kfo, kfp, kfq, kfr, kfs, kft, kfu, kfv, kfw, kfx, kfy, Nat.reduceAdd, Nat.reduceLeDiff, Nat.reduceLT, Nat.reduceMul, Nat.reduceSub, kfz, kga, kgb, kgc, kgd, kge, kgf, kgg, kgh, kgi, kgj, kgk, kgl, kgm, kgn, kgo, kgp, kgq, kgr, kgs, kgt, kgu, kgv, kgw, kgx, kgy, kgz, kha, khb, khc, khd, h1, e0, e1, h48, h98, hl2]
            rw [if_neg (by omega)] at hnv
            exact value_fin hl hH h 2 2 (by omega) (by omega) hnv (by exact ex_env rfl)
        · have n120 : ¬ l[1] = 120 := fun q => h120 (by rw [q]; rfl)
          have n98 : ¬ l[1] = 98 := fun q => h98 (by rw [q]; rfl)
          simp (disch := omega) only [kaa, kab, kac, kad, kae, kaf, kag, kah, kai, kaj, kak, kal, kam, kan, kao, kap, kaq, kar, kas, kat, kau, kav, kaw, kax, kay, kaz, kba, kbb, kbc, kbd, kbe, kbf, kbg, kbh, kbi, kbj, kbk, kbl, kbm, kbn, kbo, kbp, kbq, kbr, kbs, kbt, kbu, kbv, kbw, kbx, kby, kbz, kca, kcb, kcc, kcd, kce, kcf, kcg, kch, kci, kcj, kck, kcl, kcm, aop, kcn, kco, kcp, kcq, kcr, kcs, kct, kcu, kcv, kcw, resultsL, resultOf, kcx, Nat.reduceEqDiff, kcy, kcz, kda, reduceCtorEq, kdb, kdc, kdd, kde, kdf, kdg, kdh, kdi, kdj, kdk, kdl, kdm, kdn, kdo, eq1, kdp, kdq, kdr, kds, kdt, kdu, kdv, kdw, kdx, kdy, kdz, kea, keb, kec, apartOK, apart2, AObj.live, ked, kee, kef, keg, keh, kei, kej, kek, kel, Int.reduceEq, Int.reduceLT, Int.reduceLE, Int.reduceAdd, Int.reduceSub, Int.reduceMul, Int.reduceToNat, kem, ken, keo, kep, keq, ker, kes, ket, keu, kev, kew, kex, key, kez, kfa, kfb, kfc, kfd, kfe, kff, kfg, kfh, kfi, kfj, kfk, kfl, cutCells, kfm, kfn, kfo, kfp, kfq, kfr, kfs, kft, kfu, kfv, kfw, kfx, kfy, Nat.reduceAdd, Nat.reduceLeDiff, Nat.reduceLT, Nat.reduceMul, Nat.reduceSub, kfz, kga, kgb, kgc, kgd, kge, kgf, kgg, kgh, kgi, kgj, kgk, kgl, kgm, kgn, kgo, kgp, kgq, kgr, kgs, kgt, kgu, kgv, kgw, kgx, kgy, kgz, kha, khb, khc, khd, h1, e0, e1, h48, h120, h98]
          refine none_ _ ?_
          have b120 : ((120 : UInt8) == l[1]) = false := beq_eq_false_iff_ne.2 fun q => n120 q.symm
          have b98 : ((98 : UInt8) == l[1]) = false := beq_eq_false_iff_ne.2 fun q => n98 q.symm
          rw [numV, hpre, hpre, b120, b98, Bool.and_false, if_neg (by simp), if_neg (by simp), if_pos ⟨by omega, by rw [hhead, h48']⟩]
    · have n48 : ¬ l[0] = 48 := fun q => h48 (by rw [q]; rfl)
      have hnv : numV l = numFold 10 0 (l.drop 0) := by
        have hne : ¬ l = [] := fun q => by rw [q] at h1; simp at h1
        have b48 : ((48 : UInt8) == l[0]) = false := beq_eq_false_iff_ne.2 fun q => n48 q.symm
        rw [numV, hpre, hpre, b48, Bool.false_and, Bool.false_and, if_neg (by simp), if_neg (by simp), if_neg (fun q => n48 (by have := q.2; rw [hhead] at this; exact Option.some.inj this)), if_neg hne]
        rfl
      have hl0 : ¬ (l.length : Int) ≤ 0 := by omega
      simp (disch := omega) only [kaa, kab, kac, kad, kae, kaf, kag, kah, kai, kaj, kak, kal, kam, kan, kao, kap, kaq, kar, kas, kat, kau, kav, kaw, kax, kay, kaz, kba, kbb, kbc, kbd, kbe, kbf, kbg, kbh, kbi, kbj, kbk, kbl, kbm, kbn, kbo, kbp, kbq, kbr, kbs, kbt, kbu, kbv, kbw, kbx, kby, kbz, kca, kcb, kcc, kcd, kce, kcf, kcg, kch, kci, kcj, kck, kcl, kcm, aop, kcn, kco, kcp, kcq, kcr, kcs, kct, kcu, kcv, kcw, resultsL, resultOf, kcx, Nat.reduceEqDiff, kcy, kcz, kda, reduceCtorEq, kdb, kdc, kdd, kde, kdf, kdg, kdh, kdi, kdj, kdk, kdl, kdm, kdn, kdo, eq1, kdp, kdq, kdr, kds, kdt, kdu, kdv, kdw, kdx, kdy, kdz, kea, keb, kec, apartOK, apart2, AObj.live, ked, kee, kef, keg, keh, kei, kej, kek, kel, Int.reduceEq, Int.reduceLT, Int.reduceLE, Int.reduceAdd, Int.reduceSub, Int.reduceMul, Int.reduceToNat, kem, ken, keo, kep, keq, ker, kes, ket, keu, kev, kew, kex, key, kez, kfa, kfb, kfc, kfd, kfe, kff, kfg, kfh, kfi, kfj, kfk, kfl, cutCells, kfm, kfn, kfo, kfp, kfq, kfr, kfs, kft, kfu, kfv, kfw, kfx, kfy, Nat.reduceAdd, Nat.reduceLeDiff, Nat.reduceLT, Nat.reduceMul, Nat.reduceSub, kfz, kga, kgb, kgc, kgd, kge, kgf, kgg, kgh, kgi, kgj, kgk, kgl, kgm, kgn, kgo, kgp, kgq, kgr, kgs, kgt, kgu, kgv, kgw, kgx, kgy, kgz, kha, khb, khc, khd, h1, e0, e1, h48, hl0]
      exact value_fin hl hH h 0 10 (by omega) (by omega) hnv (by exact ex_env rfl)
  · have hpre : ∀ a b : UInt8, [a, b].isPrefixOf l = false := fun a b => by
      match l, h1 with
      | [], _ => rfl
      | [c], _ => simp [List.isPrefixOf]
      | c :: d :: t, h1 => exact absurd (by simp; omega) h1
    by_cases hl0 : (l.length : Int) ≤ 0
    · have hnil : l = [] := List.eq_nil_of_length_eq_zero (by omega)
      simp (disch := omega) only [kaa, kab, kac, kad, kae, kaf, kag, kah, kai, kaj, kak, kal, kam, kan, kao, kap, kaq, kar, kas, kat, kau, kav, kaw, kax, kay, kaz, kba, kbb, kbc, kbd, kbe, kbf, kbg, kbh, kbi, kbj, kbk, kbl, kbm, kbn, kbo, kbp, kbq, kbr, kbs, kbt, kbu, kbv, kbw, kbx, kby, kbz, kca, kcb, kcc, kcd, kce, kcf, kcg, kch, kci, kcj, kck, kcl, kcm, aop, kcn, kco, kcp, kcq, kcr, kcs, kct, kcu, kcv, kcw, resultsL, resultOf, kcx, Nat.reduceEqDiff, kcy, kcz, kda, reduceCtorEq, kdb, kdc, kdd, kde, kdf, kdg, kdh, kdi, kdj, kdk, kdl, kdm, kdn, kdo, eq1, kdp, kdq, kdr, kds, kdt, kdu, kdv, kdw, kdx, kdy, kdz, kea, keb, kec, apartOK, apart2, AObj.live, ked, kee, kef, keg, keh, kei, kej, kek, kel, Int.reduceEq, Int.reduceLT, Int.reduceLE, Int.reduceAdd, Int.reduceSub, Int.reduceMul, Int.reduceToNat, kem, ken, keo, kep, keq, ker, kes, ket, keu, kev, kew, kex, key, kez, kfa, kfb, kfc, kfd, kfe, kff, kfg, kfh, kfi, kfj, kfk, kfl, cutCells, kfm, kfn, kfo, kfp, kfq, kfr, kfs, kft, kfu, kfv, kfw, kfx, kfy, Nat.reduceAdd, Nat.reduceLeDiff, Nat.reduceLT, Nat.reduceMul, Nat.reduceSub, kfz, kga, kgb, kgc, kgd, kge, kgf, kgg, kgh, kgi, kgj, kgk, kgl, kgm, kgn, kgo, kgp, kgq, kgr, kgs, kgt, kgu, kgv, kgw, kgx, kgy, kgz, kha, khb, khc, khd, h1, hl0]
      refine none_ _ ?_
      rw [hnil]; rfl
    · have hnv : numV l = numFold 10 0 (l.drop 0) := by
        rw [numV, hpre, hpre]
        have hne : ¬ l = [] := fun q => by rw [q] at hl0; simp at hl0
        rw [if_neg (by simp), if_neg (by simp), if_neg (by omega), if_neg hne]
        rfl
      simp (disch := omega) only [kaa, kab, kac, kad, kae, kaf, kag, kah, kai, kaj, kak, kal, kam, kan, kao, kap, kaq, kar, kas, kat, kau, kav, kaw, kax, kay, kaz, kba, kbb, kbc, kbd, kbe, kbf, kbg, kbh, kbi, kbj, kbk, kbl, kbm, kbn, kbo, kbp, kbq, kbr, kbs, kbt, kbu, kbv, kbw, kbx, kby, kbz, kca, kcb, kcc, kcd, kce, kcf, kcg, kch, kci, kcj, kck, kcl, kcm, aop, kcn, kco, kcp, kcq, kcr, kcs, kct, kcu, kcv, kcw, resultsL, resultOf, kcx, Nat.reduceEqDiff, kcy, kcz, kda, reduceCtorEq, kdb, kdc, kdd, kde, kdf, kdg, kdh, kdi, kdj, kdk, kdl, kdm, kdn, kdo, eq1, kdp, kdq, kdr, kds, kdt, kdu, kdv, kdw, kdx, kdy, kdz, kea, keb, kec, apartOK, apart2, AObj.live, ked, kee, kef, keg, keh, kei, kej, kek, kel, Int.reduceEq, Int.reduceLT, Int.reduceLE, Int.reduceAdd, Int.reduceSub, Int.reduceMul, Int.reduceToNat, kem, ken, keo, kep, keq, ker, kes, ket, keu, kev, kew, kex, key, kez, kfa, kfb, kfc, kfd, kfe, kff, kfg, kfh, kfi, kfj, kfk, kfl, cutCells, kfm, kfn, kfo, kfp, kfq, kfr, kfs, kft, kfu, kfv, kfw, kfx, kfy, Nat.reduceAdd, Nat.reduceLeDiff, Nat.reduceLT, Nat.reduceMul, Nat.reduceSub, kfz, kga, kgb, kgc, kgd, kge, kgf, kgg, kgh, kgi, kgj, kgk, kgl, kgm, kgn, kgo, kgp, kgq, kgr, kgs, kgt, kgu, kgv, kgw, kgx, kgy, kgz, kha, khb, khc, khd, h1, hl0]
      exact value_fin hl hH h 0 10 (by omega) (by omega) hnv (by exact ex_env rfl)

end Go.Proofs.YtedemfmafdilmaaDoor.Ev
