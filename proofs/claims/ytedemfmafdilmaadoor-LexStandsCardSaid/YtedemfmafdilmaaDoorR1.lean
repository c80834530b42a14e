/- The document's own small functions. -/
import Derived.Test.YtedemfmafdilmaaDoorL9
namespace Go.Proofs.YtedemfmafdilmaaDoor.Ev
set_option maxRecDepth 100000
set_option linter.unusedSimpArgs false
set_option linter.unusedVariables false
variable {R : FRes → Heap → Prop} {H : Heap}

def isBool (b : Bool) : Option (FRes × Heap) → Bool
  | some (.ret (.bool c), _) => b == c
  | _ => false
theorem of_isBool {b : Bool} {x : Option (FRes × Heap)} (h : isBool b x = true) : ∃ H1, x = some (.ret (.bool b), H1) := by
  unfold isBool at h
  split at h
  · obtain rfl : b = _ := by simpa using h
    exact ⟨_, rfl⟩
  · cases h
def isInt (n : Int) : Option (FRes × Heap) → Bool
  | some (.ret (.int .i64 m), _) => n == m
  | _ => false
theorem of_isInt {n : Int} {x : Option (FRes × Heap)} (h : isInt n x = true) : ∃ H1, x = some (.ret (.int .i64 n), H1) := by
  unfold isInt at h
  split at h
  · obtain rfl : n = _ := by simpa using h
    exact ⟨_, rfl⟩
  · cases h

theorem byte_bool {f : FuncId} {g : Nat → Bool} (hc : (List.range 256).all (fun n => isBool (g n) (evalFn Tab 16 f [.int .u8 (n : Int)] H0)) = true) {b : UInt8} (hH : On0 H) (h : R (.ret (.bool (g b.toNat))) H) : WD T f [.int .u8 (b.toNat : Int)] H R := by
  have h1 := List.all_eq_true.1 hc b.toNat (by simpa using b.toNat_lt)
  obtain ⟨H1, he⟩ := of_isBool h1
  exact WD.frame0 hH globs H0_rows (by simp [closedV, closed1]) .bool (WD.ev follows table_ok he rfl) h
theorem byte_int {f : FuncId} {g : Nat → Int} (hc : (List.range 256).all (fun n => isInt (g n) (evalFn Tab 16 f [.int .u8 (n : Int)] H0)) = true) {b : UInt8} (hH : On0 H) (h : R (.ret (.int .i64 (g b.toNat))) H) : WD T f [.int .u8 (b.toNat : Int)] H R := by
  have h1 := List.all_eq_true.1 hc b.toNat (by simpa using b.toNat_lt)
  obtain ⟨H1, he⟩ := of_isInt h1
  exact WD.frame0 hH globs H0_rows (by simp [closedV, closed1]) .int (WD.ev follows table_ok he rfl) h

def smallN (n : Nat) : Bool := decide (97 ≤ n) && decide (n ≤ 122)
def digitN (n : Nat) : Bool := decide (48 ≤ n) && decide (n ≤ 57)
def partN (n : Nat) : Bool := digitN n || smallN n || (decide (65 ≤ n) && decide (n ≤ 90)) || n == 95
def blankN (n : Nat) : Bool := n == 32 || n == 9 || n == 10 || n == 13
def saysN (n : Nat) : Int := if digitN n then (n : Int) - 48 else if 97 ≤ n ∧ n ≤ 102 then (n : Int) - 87 else if 65 ≤ n ∧ n ≤ 70 then (n : Int) - 55 else 99

theorem rsmall_s {b : UInt8} (hH : On0 H) (h : R (.ret (.bool (smallN b.toNat))) H) : WD T 34 [.int .u8 (b.toNat : Int)] H R := byte_bool (by kernel_rfl) hH h
theorem rdigit_s {b : UInt8} (hH : On0 H) (h : R (.ret (.bool (digitN b.toNat))) H) : WD T 35 [.int .u8 (b.toNat : Int)] H R := byte_bool (by kernel_rfl) hH h
theorem rblank_s {b : UInt8} (hH : On0 H) (h : R (.ret (.bool (blankN b.toNat))) H) : WD T 44 [.int .u8 (b.toNat : Int)] H R := byte_bool (by kernel_rfl) hH h
theorem rpart_s {b : UInt8} (hH : On0 H) (h : R (.ret (.bool (partN b.toNat))) H) : WD T 45 [.int .u8 (b.toNat : Int)] H R := byte_bool (by kernel_rfl) hH h
theorem says_s {b : UInt8} (hH : On0 H) (h : R (.ret (.int .i64 (saysN b.toNat))) H) : WD T 56 [.int .u8 (b.toNat : Int)] H R := byte_int (by kernel_rfl) hH h

theorem small_first (b : UInt8) : smallN b.toNat = firstQ b := by
  simp only [smallN, firstQ]
  congr 1 <;> congr 1 <;> simp <;> omega
theorem digit_q (b : UInt8) : digitN b.toNat = digQ b := by
  simp only [digitN, digQ]
  congr 1 <;> congr 1 <;> simp <;> omega

/-- The reserved words, laid anew. -/
theorem rReserved_s (h : R (.ret (.slice (some ⟨H.length, 0, none⟩) 29 29)) (H ++ [.row (strV wordsL) 1 true])) : WD T 20 [] H R := by
  exact WD.ev follows table_ok (show evalFn Tab 2 20 [] H = some (.ret (.slice (some ⟨H.length, 0, none⟩) 29 29), H ++ [.row (strV wordsL) 1 true]) by kernel_rfl) h

def rwordI (l : List UInt8) (H : Heap) : Nat → Env → Heap → Prop := fun n e H' =>
  ∃ i : Nat, i ≤ 29 ∧ n = 29 - i ∧ H' = H ++ [.row (strV wordsL) 1 true] ∧ (∃ x : Nat → Value, e = [.string (bs l), x 1, x 2, .slice (some ⟨H.length, 0, none⟩) 29 29, .int .i64 i, x 5, x 6, x 7, x 8, x 9, x 10, x 11, x 12, x 13, x 14, x 15, x 16, x 17]) ∧ ∀ j (h : j < wordsL.length), j < i → wordsL[j] ≠ l

theorem rIsReserved_s {l : List UInt8} (h : R (.ret (.bool (wordsL.contains l))) H) : WD T 36 [.string (bs l)] H R := by
  refine WD.gc0 (WD.of follows t36 (by simp) ?_)
  simp (disch := omega) only [kaa, kab, kac, kad, kae, kaf, kag, kah, kai, kaj, kak, kal, kam, kan, kao, kap, kaq, kar, kas, kat, kau, kav, kaw, kax, kay, kaz, kba, kbb, kbc, kbd, kbe, kbf, kbg, kbh, kbi, kbj, kbk, kbl, kbm, kbn, kbo, kbp, kbq, kbr, kbs, kbt, kbu, kbv, kbw, kbx, kby, kbz, kca, kcb, kcc, kcd, kce, kcf, kcg, kch, kci, kcj, kck, kcl, kcm, aop, kcn, kco, kcp, kcq, kcr, kcs, kct, kcu, kcv, kcw, resultsL, resultOf, kcx, Nat.reduceEqDiff, kcy, kcz, kda, reduceCtorEq, kdb, kdc, kdd, kde, kdf, kdg, kdh, kdi, kdj, kdk, kdl, kdm, kdn, kdo, eq1, kdp, kdq, kdr, kds, kdt, kdu, kdv, kdw, kdx, kdy, kdz, kea, keb, kec, apartOK, apart2, AObj.live, ked, kee, kef, keg, keh, kei, kej, kek, kel, Int.reduceEq, Int.reduceLT, Int.reduceLE, Int.reduceAdd, Int.reduceSub, Int.reduceMul, Int.reduceToNat, kem, ken, keo, kep, keq, ker, kes, ket, keu, kev, kew, kex, key, kez, kfa, kfb, kfc, kfd, kfe, kff, kfg, kfh, kfi, kfj, kfk, kfl, cutCells, kfm, kfn, kfo, kfp, kfq, kfr, kfs, kft, kfu, kfv, kfw, kfx, kfy, Nat.reduceAdd, Nat.reduceLeDiff, Nat.reduceLT, Nat.reduceMul, Nat.reduceSub, kfz, kga, kgb, kgc, kgd, kge, kgf, kgg, kgh, kgi, kgj, kgk, kgl, kgm, kgn, kgo, kgp, kgq, kgr, kgs, kgt, kgu, kgv, kgw, kgx, kgy, kgz, kha, khb, khc, khd]
  (repeat ((first | refine rReserved_s ?_); try simp (disch := omega) only [kaa, kab, kac, kad, kae, kaf, kag, kah, kai, kaj, kak, kal, kam, kan, kao, kap, kaq, kar, kas, kat, kau, kav, kaw, kax, kay, kaz, kba, kbb, kbc, kbd, kbe, kbf, kbg, kbh, kbi, kbj, kbk, kbl, kbm, kbn, kbo, kbp, kbq, kbr, kbs, kbt, kbu, kbv, kbw, kbx, kby, kbz, kca, kcb, kcc, kcd, kce, kcf, kcg, kch, kci, kcj, kck, kcl, kcm, aop, kcn, kco, kcp, kcq, kcr, kcs, kct, kcu, kcv, kcw, resultsL, resultOf, kcx, Nat.reduceEqDiff, kcy, kcz, kda, reduceCtorEq, kdb, kdc, kdd, kde, kdf, kdg, kdh, kdi, kdj, kdk, kdl, kdm, kdn, kdo, eq1, kdp, kdq, kdr, kds, kdt, kdu, kdv, kdw, kdx, kdy, kdz, kea, keb, kec, apartOK, apart2, AObj.live, ked, kee, kef, keg, keh, kei, kej, kek, kel, Int.reduceEq, Int.reduceLT, Int.reduceLE, Int.reduceAdd, Int.reduceSub, Int.reduceMul, Int.reduceToNat, kem, ken, keo, kep, keq, ker, kes, ket, keu, kev, kew, kex, key, kez, kfa, kfb, kfc, kfd, kfe, kff, kfg, kfh, kfi, kfj, kfk, kfl, cutCells, kfm, kfn, kfo, kfp, kfq, kfr, kfs, kft, kfu, kfv, kfw, kfx, kfy, Nat.reduceAdd, Nat.reduceLeDiff, Nat.reduceLT, Nat.reduceMul, Nat.reduceSub, kfz, kga, kgb, kgc, kgd, kge, kgf, kgg, kgh, kgi, kgj, kgk, kgl, kgm, kgn, kgo, kgp, kgq, kgr, kgs, kgt, kgu, kgv, kgw, kgx, kgy, kgz, kha, khb, khc, khd]))
  refine WLoop.inv (rwordI l H) ?_ 29 _ _ ⟨0, by simp, rfl, rfl, (ex_env rfl), fun j _ h => by omega⟩
  rintro n e H' ⟨i, h1, rfl, rfl, ⟨x, rfl⟩, h4⟩
  have hlen : wordsL.length = 29 := rfl
  by_cases hi : i < 29
  · have hi' : (i : Int) < 29 := by omega
    have hi2 : (i : Int) < ((29 : Nat) : Int) := by omega
    have hw := strV_get wordsL i (by omega)
    simp (disch := omega) only [kaa, kab, kac, kad, kae, kaf, kag, kah, kai, kaj, kak, kal, kam, kan, kao, kap, kaq, kar, kas, kat, kau, kav, kaw, kax, kay, kaz, kba, kbb, kbc, kbd, kbe, kbf, kbg, kbh, kbi, kbj, kbk, kbl, kbm, kbn, kbo, kbp, kbq, kbr, kbs, kbt, kbu, kbv, kbw, kbx, kby, kbz, kca, kcb, kcc, kcd, kce, kcf, kcg, kch, kci, kcj, kck, kcl, kcm, aop, kcn, kco, kcp, kcq, kcr, kcs, kct, kcu, kcv, kcw, resultsL, resultOf, kcx, Nat.reduceEqDiff, kcy, kcz, kda, reduceCtorEq, kdb, kdc, kdd, kde, kdf, kdg, kdh, kdi, kdj, kdk, kdl, kdm, kdn, kdo, eq1, kdp, kdq, kdr, kds, kdt, kdu, kdv, kdw, kdx, kdy, kdz, kea, keb, kec, apartOK, apart2, AObj.live, ked, kee, kef, keg, keh, kei, kej, kek, kel, Int.reduceEq, Int.reduceLT, Int.reduceLE, Int.reduceAdd, Int.reduceSub, Int.reduceMul, Int.reduceToNat, kem, ken, keo, kep, keq, ker, kes, ket, keu, kev, kew, kex, key, kez, kfa, kfb, kfc, kfd, kfe, kff, kfg, kfh, kfi, kfj, kfk, kfl, cutCells, kfm, kfn, kfo, kfp, kfq, kfr, kfs, kft, kfu, kfv, kfw, kfx, kfy, Nat.reduceAdd, Nat.reduceLeDiff, Nat.reduceLT, Nat.reduceMul, Nat.reduceSub, kfz, kga, kgb, kgc, kgd, kge, kgf, kgg, kgh, kgi, kgj, kgk, kgl, kgm, kgn, kgo, kgp, kgq, kgr, kgs, kgt, kgu, kgv, kgw, kgx, kgy, kgz, kha, khb, khc, khd, hi', hi2, hw, if_pos]
    refine wb_dec (fun hx => ?_) (fun hx => ?_) <;> simp (disch := omega) only [kaa, kab, kac, kad, kae, kaf, kag, kah, kai, kaj, kak, kal, kam, kan, kao, kap, kaq, kar, kas, kat, kau, kav, kaw, kax, kay, kaz, kba, kbb, kbc, kbd, kbe, kbf, kbg, kbh, kbi, kbj, kbk, kbl, kbm, kbn, kbo, kbp, kbq, kbr, kbs, kbt, kbu, kbv, kbw, kbx, kby, kbz, kca, kcb, kcc, kcd, kce, kcf, kcg, kch, kci, kcj, kck, kcl, kcm, aop, kcn, kco, kcp, kcq, kcr, kcs, kct, kcu, kcv, kcw, resultsL, resultOf, kcx, Nat.reduceEqDiff, kcy, kcz, kda, reduceCtorEq, kdb, kdc, kdd, kde, kdf, kdg, kdh, kdi, kdj, kdk, kdl, kdm, kdn, kdo, eq1, kdp, kdq, kdr, kds, kdt, kdu, kdv, kdw, kdx, kdy, kdz, kea, keb, kec, apartOK, apart2, AObj.live, ked, kee, kef, keg, keh, kei, kej, kek, kel, Int.reduceEq, Int.reduceLT, Int.reduceLE, Int.reduceAdd, Int.reduceSub, Int.reduceMul, Int.reduceToNat, kem, ken, keo, kep, keq, ker, kes, ket, keu, kev, kew, kex, key, kez, kfa, kfb, kfc, kfd, kfe, kff, kfg, kfh, kfi, kfj, kfk, kfl, cutCells, kfm, kfn, kfo, kfp, kfq, kfr, kfs, kft, kfu, kfv, kfw, kfx, kfy, Nat.reduceAdd, Nat.reduceLeDiff, Nat.reduceLT, Nat.reduceMul, Nat.reduceSub, kfz, kga, kgb, kgc, kgd, kge, kgf, kgg, kgh, kgi, kgj, kgk, kgl, kgm, kgn, kgo, kgp, kgq, kgr, kgs, kgt, kgu, kgv, kgw, kgx, kgy, kgz, kha, khb, khc, khd, wr_i64]
    · have e : wordsL.contains l = true := by
        rw [List.contains_iff_mem, ← hx]
        exact List.getElem_mem _
      rw [e] at h
      exact ⟨_, rfl, ⟨_, rfl⟩, .bool, h⟩
    · refine ⟨29 - (i + 1), by omega, i + 1, by omega, rfl, rfl, (ex_env rfl), fun j hj hji => ?_⟩
      · by_cases hji2 : j = i
        · subst hji2; exact hx
        · exact h4 j hj (by omega)
  · have hi' : ¬ (i : Int) < 29 := by omega
    have hi2 : ¬ (i : Int) < ((29 : Nat) : Int) := by omega
    simp (disch := omega) only [kaa, kab, kac, kad, kae, kaf, kag, kah, kai, kaj, kak, kal, kam, kan, kao, kap, kaq, kar, kas, kat, kau, kav, kaw, kax, kay, kaz, kba, kbb, kbc, kbd, kbe, kbf, kbg, kbh, kbi, kbj, kbk, kbl, kbm, kbn, kbo, kbp, kbq, kbr, kbs, kbt, kbu, kbv, kbw, kbx, kby, kbz, kca, kcb, kcc, kcd, kce, kcf, kcg, kch, kci, kcj, kck, kcl, kcm, aop, kcn, kco, kcp, kcq, kcr, kcs, kct, kcu, kcv, kcw, resultsL, resultOf, kcx, Nat.reduceEqDiff, kcy, kcz, kda, reduceCtorEq, kdb, kdc, kdd, kde, kdf, kdg, kdh, kdi, kdj, kdk, kdl, kdm, kdn, kdo, eq1, kdp, kdq, kdr, kds, kdt, kdu, kdv, kdw, kdx, kdy, kdz, kea, keb, kec, apartOK, apart2, AObj.live, ked, kee, kef, keg, keh, kei, kej, kek, kel, Int.reduceEq, Int.reduceLT, Int.reduceLE, Int.reduceAdd, Int.reduceSub, Int.reduceMul, Int.reduceToNat, kem, ken, keo, kep, keq, ker, kes, ket, keu, kev, kew, kex, key, kez, kfa, kfb, kfc, kfd, kfe, kff, kfg, kfh, kfi, kfj, kfk, kfl, cutCells, kfm, kfn, kfo, kfp, kfq, kfr, kfs, kft, kfu, kfv, kfw, kfx, kfy, Nat.reduceAdd, Nat.reduceLeDiff, Nat.reduceLT, Nat.reduceMul, Nat.reduceSub, kfz, kga, kgb, kgc, kgd, kge, kgf, kgg, kgh, kgi, kgj, kgk, kgl, kgm, kgn, kgo, kgp, kgq, kgr, kgs, kgt, kgu, kgv, kgw, kgx, kgy, kgz, kha, khb, khc, khd, hi', hi2]
    have e : wordsL.contains l = false := by
      rw [Bool.eq_false_iff]
      intro hc
      rw [List.contains_iff_mem] at hc
      obtain ⟨j, hj, rfl⟩ := List.getElem_of_mem hc
      exact h4 j hj (by omega) rfl
    rw [e] at h
    exact ⟨_, rfl, ⟨_, rfl⟩, .bool, h⟩

end Go.Proofs.YtedemfmafdilmaaDoor.Ev
