/- Parts of the proof: L2, L3, L4, L5, L6, L7, L8. Conditions: none. -/
import Derived.Test.YtedemfmafdilmaaDoorEachX2
/- The scanner's small functions. -/
namespace Go.Proofs.YtedemfmafdilmaaDoor.Ev
set_option maxRecDepth 100000
set_option linter.unusedSimpArgs false
set_option linter.unusedVariables false
variable {R : FRes → Heap → Prop} {H : Heap}

theorem hasPrefix_s {l p : List UInt8} (hl : l.length ≤ 4611686018427387904) (hp : p.length ≤ 4611686018427387904) (h : R (.ret (.bool (p.isPrefixOf l))) H) :
    WD T 51 [.string (bs l), .string (bs p)] H R := by
  have inner : ∀ {R : FRes → Heap → Prop}, R (.ret (.bool (p.isPrefixOf l))) H → WD T 69 [.string (bs l), .string (bs p)] H R := by
    intro R h
    refine WD.of follows t69 (by simp) ?_
    simp only [kaa, kab, kac, kad, khm, khn, kho, khp, khq, khr, kae, kaf, kag, kah, kai, kaj, kak, kal, kam, kan, kao, khe, khf, khg, khh, khi, khj, khk, khl, kap, kaq, kar, kas, kat, kau, kav, kaw, kax, kay, kaz, kba, kbb, kbc, kbd, kbe, kbf, kbg, kbh, kbi, kbj, kbk, kbl, kbm, kbn, kbo, kbp, kbq, kbr, kbs, kbt, kbu, kbv, kbw, kbx, kby, kbz, kca, kcb, kcc, kcd, kce, kcf, kcg, kch, kci, kcj, kck, kcl, kcm, aop, kcn, kco, kcp, kcq, kcr, kcs, kct, kcu, kcv, kcw, resultsL, resultOf, kcx, Nat.reduceEqDiff, kcy, kcz, kda, reduceCtorEq, kdb, kdc, kdd, kde, kdf, kdg, kdh, kdi, kdj, kdk, kdl, kdm, kdn, kdo, eq1, kdp, kdq, kdr, kds, kdt, kdu, kdv, kdw, kdx, kdy, kdz, kea, keb, kec, apartOK, apart2, AObj.live, ked, kee, kef, keg, keh, kei, kej, kek, kel, Int.reduceEq, Int.reduceLT, Int.reduceLE, Int.reduceAdd, Int.reduceSub, Int.reduceMul, Int.reduceToNat, kem, ken, keo, kep, keq, ker, kes, ket, keu, kev, kew, kex, key, kez, kfa, kfb, kfc, kfd, kfe, kff, kfg, kfh, kfi, kfj, kfk, kfl, cutCells, kfm, kfn, kfo, kfp, kfq, kfr, kfs, kft, kfu, kfv, kfw, kfx, kfy, Nat.reduceAdd, Nat.reduceLeDiff, Nat.reduceLT, Nat.reduceMul, Nat.reduceSub, kfz, kga, kgb, kgc]
    by_cases h1 : p.length ≤ l.length
    · have h' : (p.length : Int) ≤ l.length := by omega
      simp (disch := omega) only [kaa, kab, kac, kad, khm, khn, kho, khp, khq, khr, kae, kaf, kag, kah, kai, kaj, kak, kal, kam, kan, kao, khe, khf, khg, khh, khi, khj, khk, khl, kap, kaq, kar, kas, kat, kau, kav, kaw, kax, kay, kaz, kba, kbb, kbc, kbd, kbe, kbf, kbg, kbh, kbi, kbj, kbk, kbl, kbm, kbn, kbo, kbp, kbq, kbr, kbs, kbt, kbu, kbv, kbw, kbx, kby, kbz, kca, kcb, kcc, kcd, kce, kcf, kcg, kch, kci, kcj, kck, kcl, kcm, aop, kcn, kco, kcp, kcq, kcr, kcs, kct, kcu, kcv, kcw, resultsL, resultOf, kcx, Nat.reduceEqDiff, kcy, kcz, kda, reduceCtorEq, kdb, kdc, kdd, kde, kdf, kdg, kdh, kdi, kdj, kdk, kdl, kdm, kdn, kdo, eq1, kdp, kdq, kdr, kds, kdt, kdu, kdv, kdw, kdx, kdy, kdz, kea, keb, kec, apartOK, apart2, AObj.live, ked, kee, kef, keg, keh, kei, kej, kek, kel, Int.reduceEq, Int.reduceLT, Int.reduceLE, Int.reduceAdd, Int.reduceSub, Int.reduceMul, Int.reduceToNat, kem, ken, keo, kep, keq, ker, kes, ket, keu, kev, kew, kex, key, kez, kfa, kfb, kfc, kfd, kfe, kff, kfg, kfh, kfi, kfj, kfk, kfl, cutCells, kfm, kfn, kfo, kfp, kfq, kfr, kfs, kft, kfu, kfv, kfw, kfx, kfy, Nat.reduceAdd, Nat.reduceLeDiff, Nat.reduceLT, Nat.reduceMul, Nat.reduceSub, kfz, kga, kgb, kgc, kgd, kge, kgf, kgg, kgh, kgi, kgj, kgk, kgl, kgm, kgn, kgo, kgp, kgq, kgr, kgs, kgt, kgu, kgv, kgw, kgx, kgy, kgz, kha, khb, khc, khd, h']
      have e : decide (List.take p.length l = p) = p.isPrefixOf l := by
        rw [Bool.eq_iff_iff, List.isPrefixOf_iff_prefix, List.prefix_iff_eq_take, decide_eq_true_iff]
        exact eq_comm
      rw [e]
      exact h
    · have h' : ¬ (p.length : Int) ≤ l.length := by omega
      simp (disch := omega) only [kaa, kab, kac, kad, khm, khn, kho, khp, khq, khr, kae, kaf, kag, kah, kai, kaj, kak, kal, kam, kan, kao, khe, khf, khg, khh, khi, khj, khk, khl, kap, kaq, kar, kas, kat, kau, kav, kaw, kax, kay, kaz, kba, kbb, kbc, kbd, kbe, kbf, kbg, kbh, kbi, kbj, kbk, kbl, kbm, kbn, kbo, kbp, kbq, kbr, kbs, kbt, kbu, kbv, kbw, kbx, kby, kbz, kca, kcb, kcc, kcd, kce, kcf, kcg, kch, kci, kcj, kck, kcl, kcm, aop, kcn, kco, kcp, kcq, kcr, kcs, kct, kcu, kcv, kcw, resultsL, resultOf, kcx, Nat.reduceEqDiff, kcy, kcz, kda, reduceCtorEq, kdb, kdc, kdd, kde, kdf, kdg, kdh, kdi, kdj, kdk, kdl, kdm, kdn, kdo, eq1, kdp, kdq, kdr, kds, kdt, kdu, kdv, kdw, kdx, kdy, kdz, kea, keb, kec, apartOK, apart2, AObj.live, ked, kee, kef, keg, keh, kei, kej, kek, kel, Int.reduceEq, Int.reduceLT, Int.reduceLE, Int.reduceAdd, Int.reduceSub, Int.reduceMul, Int.reduceToNat, kem, ken, keo, kep, keq, ker, kes, ket, keu, kev, kew, kex, key, kez, kfa, kfb, kfc, kfd, kfe, kff, kfg, kfh, kfi, kfj, kfk, kfl, cutCells, kfm, kfn, kfo, kfp, kfq, kfr, kfs, kft, kfu, kfv, kfw, kfx, kfy, Nat.reduceAdd, Nat.reduceLeDiff, Nat.reduceLT, Nat.reduceMul, Nat.reduceSub, kfz, kga, kgb, kgc, kgd, kge, kgf, kgg, kgh, kgi, kgj, kgk, kgl, kgm, kgn, kgo, kgp, kgq, kgr, kgs, kgt, kgu, kgv, kgw, kgx, kgy, kgz, kha, khb, khc, khd, h']
      have e : p.isPrefixOf l = false := by
        cases hx : p.isPrefixOf l
        · rfl
        · exact absurd (List.isPrefixOf_iff_prefix.1 hx).length_le h1
      rw [e] at h
      exact h
  refine WD.of follows t51 (by simp) ?_
  simp only [kaa, kab, kac, kad, khm, khn, kho, khp, khq, khr, kae, kaf, kag, kah, kai, kaj, kak, kal, kam, kan, kao, khe, khf, khg, khh, khi, khj, khk, khl, kap, kaq, kar, kas, kat, kau, kav, kaw, kax, kay, kaz, kba, kbb, kbc, kbd, kbe, kbf, kbg, kbh, kbi, kbj, kbk, kbl, kbm, kbn, kbo, kbp, kbq, kbr, kbs, kbt, kbu, kbv, kbw, kbx, kby, kbz, kca, kcb, kcc, kcd, kce, kcf, kcg, kch, kci, kcj, kck, kcl, kcm, aop, kcn, kco, kcp, kcq, kcr, kcs, kct, kcu, kcv, kcw, resultsL, resultOf, kcx, Nat.reduceEqDiff, kcy, kcz, kda, reduceCtorEq, kdb, kdc, kdd, kde, kdf, kdg, kdh, kdi, kdj, kdk, kdl, kdm, kdn, kdo, eq1, kdp, kdq, kdr, kds, kdt, kdu, kdv, kdw, kdx, kdy, kdz, kea, keb, kec, apartOK, apart2, AObj.live, ked, kee, kef, keg, keh, kei, kej, kek, kel, Int.reduceEq, Int.reduceLT, Int.reduceLE, Int.reduceAdd, Int.reduceSub, Int.reduceMul, Int.reduceToNat, kem, ken, keo, kep, keq, ker, kes, ket, keu, kev, kew, kex, key, kez, kfa, kfb, kfc, kfd, kfe, kff, kfg, kfh, kfi, kfj, kfk, kfl, cutCells, kfm, kfn, kfo, kfp, kfq, kfr, kfs, kft, kfu, kfv, kfw, kfx, kfy, Nat.reduceAdd, Nat.reduceLeDiff, Nat.reduceLT, Nat.reduceMul, Nat.reduceSub, kfz, kga, kgb, kgc]
  (repeat ((first | refine inner ?_); try simp (disch := omega) only [kaa, kab, kac, kad, khm, khn, kho, khp, khq, khr, kae, kaf, kag, kah, kai, kaj, kak, kal, kam, kan, kao, khe, khf, khg, khh, khi, khj, khk, khl, kap, kaq, kar, kas, kat, kau, kav, kaw, kax, kay, kaz, kba, kbb, kbc, kbd, kbe, kbf, kbg, kbh, kbi, kbj, kbk, kbl, kbm, kbn, kbo, kbp, kbq, kbr, kbs, kbt, kbu, kbv, kbw, kbx, kby, kbz, kca, kcb, kcc, kcd, kce, kcf, kcg, kch, kci, kcj, kck, kcl, kcm, aop, kcn, kco, kcp, kcq, kcr, kcs, kct, kcu, kcv, kcw, resultsL, resultOf, kcx, Nat.reduceEqDiff, kcy, kcz, kda, reduceCtorEq, kdb, kdc, kdd, kde, kdf, kdg, kdh, kdi, kdj, kdk, kdl, kdm, kdn, kdo, eq1, kdp, kdq, kdr, kds, kdt, kdu, kdv, kdw, kdx, kdy, kdz, kea, keb, kec, apartOK, apart2, AObj.live, ked, kee, kef, keg, keh, kei, kej, kek, kel, Int.reduceEq, Int.reduceLT, Int.reduceLE, Int.reduceAdd, Int.reduceSub, Int.reduceMul, Int.reduceToNat, kem, ken, keo, kep, keq, ker, kes, ket, keu, kev, kew, kex, key, kez, kfa, kfb, kfc, kfd, kfe, kff, kfg, kfh, kfi, kfj, kfk, kfl, cutCells, kfm, kfn, kfo, kfp, kfq, kfr, kfs, kft, kfu, kfv, kfw, kfx, kfy, Nat.reduceAdd, Nat.reduceLeDiff, Nat.reduceLT, Nat.reduceMul, Nat.reduceSub, kfz, kga, kgb, kgc, kgd, kge, kgf, kgg, kgh, kgi, kgj, kgk, kgl, kgm, kgn, kgo, kgp, kgq, kgr, kgs, kgt, kgu, kgv, kgw, kgx, kgy, kgz, kha, khb, khc, khd]))
  exact h


/-- What a lexer's function may read: the two laid variables. -/
structure GH (H : Heap) : Prop where
  words : hget H 0 = .row (strV wordsL) 0 false
  signs : hget H 1 = .row (strV signsL) 0 false
  two : 2 ≤ H.length

theorem GH.ext {H H' : Heap} (h : GH H) (k : Ext H H') : GH H' := by
  have := h.two
  exact ⟨by rw [k.get (by omega)]; exact h.words, by rw [k.get (by omega)]; exact h.signs, Nat.le_trans h.two k.len⟩
theorem GH.upd {H H' : Heap} {b : Nat} {o : AObj} (h : GH H) (k : Upd b o H H') (hb : 2 ≤ b) : GH H' := by
  have := h.two
  exact ⟨by rw [k.other (by omega) (by omega)]; exact h.words, by rw [k.other (by omega) (by omega)]; exact h.signs, Nat.le_trans h.two k.len⟩

theorem strV_get (l : List (List UInt8)) (i : Nat) (h : i < l.length) : (strV l)[i]? = some (.string (bs l[i])) := by
  simp [strV, h, bs]

def wordI (l : List UInt8) (H : Heap) : Nat → Env → Heap → Prop := fun n e H' =>
  ∃ i : Nat, i ≤ 29 ∧ n = 29 - i ∧ H' = H ∧ (∃ x : Nat → Value, e = [.string (bs l), x 1, x 2, x 3, .int .i64 i, x 5, x 6, x 7, x 8, x 9, x 10, x 11, x 12]) ∧ ∀ j (h : j < wordsL.length), j < i → wordsL[j] ≠ l

theorem isReserved_s {l : List UInt8} (hH : GH H) (h : R (.ret (.bool (wordsL.contains l))) H) : WD T 33 [.string (bs l)] H R := by
  refine WD.of follows t33 (by simp) ?_
  simp only [kaa, kab, kac, kad, khm, khn, kho, khp, khq, khr, kae, kaf, kag, kah, kai, kaj, kak, kal, kam, kan, kao, khe, khf, khg, khh, khi, khj, khk, khl, kap, kaq, kar, kas, kat, kau, kav, kaw, kax, kay, kaz, kba, kbb, kbc, kbd, kbe, kbf, kbg, kbh, kbi, kbj, kbk, kbl, kbm, kbn, kbo, kbp, kbq, kbr, kbs, kbt, kbu, kbv, kbw, kbx, kby, kbz, kca, kcb, kcc, kcd, kce, kcf, kcg, kch, kci, kcj, kck, kcl, kcm, aop, kcn, kco, kcp, kcq, kcr, kcs, kct, kcu, kcv, kcw, resultsL, resultOf, kcx, Nat.reduceEqDiff, kcy, kcz, kda, reduceCtorEq, kdb, kdc, kdd, kde, kdf, kdg, kdh, kdi, kdj, kdk, kdl, kdm, kdn, kdo, eq1, kdp, kdq, kdr, kds, kdt, kdu, kdv, kdw, kdx, kdy, kdz, kea, keb, kec, apartOK, apart2, AObj.live, ked, kee, kef, keg, keh, kei, kej, kek, kel, Int.reduceEq, Int.reduceLT, Int.reduceLE, Int.reduceAdd, Int.reduceSub, Int.reduceMul, Int.reduceToNat, kem, ken, keo, kep, keq, ker, kes, ket, keu, kev, kew, kex, key, kez, kfa, kfb, kfc, kfd, kfe, kff, kfg, kfh, kfi, kfj, kfk, kfl, cutCells, kfm, kfn, kfo, kfp, kfq, kfr, kfs, kft, kfu, kfv, kfw, kfx, kfy, Nat.reduceAdd, Nat.reduceLeDiff, Nat.reduceLT, Nat.reduceMul, Nat.reduceSub, kfz, kga, kgb, kgc]
  refine WLoop.inv (wordI l H) ?_ 29 _ _ ⟨0, by simp, rfl, rfl, (ex_env rfl), fun j _ h => by omega⟩
  · rintro n e H' ⟨i, h1, rfl, rfl, ⟨x, rfl⟩, h4⟩
    have hlen : wordsL.length = 29 := rfl
    by_cases hi : i < 29
    · have hi' : (i : Int) < 29 := by omega
      have hw := strV_get wordsL i (by omega)
      simp (disch := omega) only [kaa, kab, kac, kad, khm, khn, kho, khp, khq, khr, kae, kaf, kag, kah, kai, kaj, kak, kal, kam, kan, kao, khe, khf, khg, khh, khi, khj, khk, khl, kap, kaq, kar, kas, kat, kau, kav, kaw, kax, kay, kaz, kba, kbb, kbc, kbd, kbe, kbf, kbg, kbh, kbi, kbj, kbk, kbl, kbm, kbn, kbo, kbp, kbq, kbr, kbs, kbt, kbu, kbv, kbw, kbx, kby, kbz, kca, kcb, kcc, kcd, kce, kcf, kcg, kch, kci, kcj, kck, kcl, kcm, aop, kcn, kco, kcp, kcq, kcr, kcs, kct, kcu, kcv, kcw, resultsL, resultOf, kcx, Nat.reduceEqDiff, kcy, kcz, kda, reduceCtorEq, kdb, kdc, kdd, kde, kdf, kdg, kdh, kdi, kdj, kdk, kdl, kdm, kdn, kdo, eq1, kdp, kdq, kdr, kds, kdt, kdu, kdv, kdw, kdx, kdy, kdz, kea, keb, kec, apartOK, apart2, AObj.live, ked, kee, kef, keg, keh, kei, kej, kek, kel, Int.reduceEq, Int.reduceLT, Int.reduceLE, Int.reduceAdd, Int.reduceSub, Int.reduceMul, Int.reduceToNat, kem, ken, keo, kep, keq, ker, kes, ket, keu, kev, kew, kex, key, kez, kfa, kfb, kfc, kfd, kfe, kff, kfg, kfh, kfi, kfj, kfk, kfl, cutCells, kfm, kfn, kfo, kfp, kfq, kfr, kfs, kft, kfu, kfv, kfw, kfx, kfy, Nat.reduceAdd, Nat.reduceLeDiff, Nat.reduceLT, Nat.reduceMul, Nat.reduceSub, kfz, kga, kgb, kgc, kgd, kge, kgf, kgg, kgh, kgi, kgj, kgk, kgl, kgm, kgn, kgo, kgp, kgq, kgr, kgs, kgt, kgu, kgv, kgw, kgx, kgy, kgz, kha, khb, khc, khd, hi', hH.words, hw, Nat.zero_add, Nat.mul_one, if_pos]
      refine wb_dec (fun hx => ?_) (fun hx => ?_) <;> simp (disch := omega) only [kaa, kab, kac, kad, khm, khn, kho, khp, khq, khr, kae, kaf, kag, kah, kai, kaj, kak, kal, kam, kan, kao, khe, khf, khg, khh, khi, khj, khk, khl, kap, kaq, kar, kas, kat, kau, kav, kaw, kax, kay, kaz, kba, kbb, kbc, kbd, kbe, kbf, kbg, kbh, kbi, kbj, kbk, kbl, kbm, kbn, kbo, kbp, kbq, kbr, kbs, kbt, kbu, kbv, kbw, kbx, kby, kbz, kca, kcb, kcc, kcd, kce, kcf, kcg, kch, kci, kcj, kck, kcl, kcm, aop, kcn, kco, kcp, kcq, kcr, kcs, kct, kcu, kcv, kcw, resultsL, resultOf, kcx, Nat.reduceEqDiff, kcy, kcz, kda, reduceCtorEq, kdb, kdc, kdd, kde, kdf, kdg, kdh, kdi, kdj, kdk, kdl, kdm, kdn, kdo, eq1, kdp, kdq, kdr, kds, kdt, kdu, kdv, kdw, kdx, kdy, kdz, kea, keb, kec, apartOK, apart2, AObj.live, ked, kee, kef, keg, keh, kei, kej, kek, kel, Int.reduceEq, Int.reduceLT, Int.reduceLE, Int.reduceAdd, Int.reduceSub, Int.reduceMul, Int.reduceToNat, kem, ken, keo, kep, keq, ker, kes, ket, keu, kev, kew, kex, key, kez, kfa, kfb, kfc, kfd, kfe, kff, kfg, kfh, kfi, kfj, kfk, kfl, cutCells, kfm, kfn, kfo, kfp, kfq, kfr, kfs, kft, kfu, kfv, kfw, kfx, kfy, Nat.reduceAdd, Nat.reduceLeDiff, Nat.reduceLT, Nat.reduceMul, Nat.reduceSub, kfz, kga, kgb, kgc, kgd, kge, kgf, kgg, kgh, kgi, kgj, kgk, kgl, kgm, kgn, kgo, kgp, kgq, kgr, kgs, kgt, kgu, kgv, kgw, kgx, kgy, kgz, kha, khb, khc, khd, wr_i64]
      · have e : wordsL.contains l = true := by
          rw [List.contains_iff_mem, ← hx]
          exact List.getElem_mem _
        rw [e] at h
        exact h
      · refine ⟨29 - (i + 1), by omega, i + 1, by omega, rfl, rfl, (ex_env rfl), fun j hj hji => ?_⟩
        · by_cases hji2 : j = i
          · subst hji2; exact hx
          · exact h4 j hj (by omega)
    · have hi' : ¬ (i : Int) < 29 := by omega
      simp (disch := omega) only [kaa, kab, kac, kad, khm, khn, kho, khp, khq, khr, kae, kaf, kag, kah, kai, kaj, kak, kal, kam, kan, kao, khe, khf, khg, khh, khi, khj, khk, khl, kap, kaq, kar, kas, kat, kau, kav, kaw, kax, kay, kaz, kba, kbb, kbc, kbd, kbe, kbf, kbg, kbh, kbi, kbj, kbk, kbl, kbm, kbn, kbo, kbp, kbq, kbr, kbs, kbt, kbu, kbv, kbw, kbx, kby, kbz, kca, kcb, kcc, kcd, kce, kcf, kcg, kch, kci, kcj, kck, kcl, kcm, aop, kcn, kco, kcp, kcq, kcr, kcs, kct, kcu, kcv, kcw, resultsL, resultOf, kcx, Nat.reduceEqDiff, kcy, kcz, kda, reduceCtorEq, kdb, kdc, kdd, kde, kdf, kdg, kdh, kdi, kdj, kdk, kdl, kdm, kdn, kdo, eq1, kdp, kdq, kdr, kds, kdt, kdu, kdv, kdw, kdx, kdy, kdz, kea, keb, kec, apartOK, apart2, AObj.live, ked, kee, kef, keg, keh, kei, kej, kek, kel, Int.reduceEq, Int.reduceLT, Int.reduceLE, Int.reduceAdd, Int.reduceSub, Int.reduceMul, Int.reduceToNat, kem, ken, keo, kep, keq, ker, kes, ket, keu, kev, kew, kex, key, kez, kfa, kfb, kfc, kfd, kfe, kff, kfg, kfh, kfi, kfj, kfk, kfl, cutCells, kfm, kfn, kfo, kfp, kfq, kfr, kfs, kft, kfu, kfv, kfw, kfx, kfy, Nat.reduceAdd, Nat.reduceLeDiff, Nat.reduceLT, Nat.reduceMul, Nat.reduceSub, kfz, kga, kgb, kgc, kgd, kge, kgf, kgg, kgh, kgi, kgj, kgk, kgl, kgm, kgn, kgo, kgp, kgq, kgr, kgs, kgt, kgu, kgv, kgw, kgx, kgy, kgz, kha, khb, khc, khd, hi']
      have e : wordsL.contains l = false := by
        rw [Bool.eq_false_iff]
        intro hc
        rw [List.contains_iff_mem] at hc
        obtain ⟨j, hj, rfl⟩ := List.getElem_of_mem hc
        exact h4 j hj (by omega) rfl
      rw [e] at h
      exact h


theorem nat_mul_lt {a b A B : Nat} (ha : a < A) (hb : b < B) : a * b < A * B := Nat.mul_lt_mul_of_lt_of_le ha (Nat.le_of_lt hb) (by omega)

theorem mul64_s {x y : Nat} (hx : x < 18446744073709551616) (hy : y < 18446744073709551616)
    (h : R (.ret (.tuple #[.int .u64 ((x * y / 18446744073709551616 : Nat) : Int), .int .u64 ((x * y % 18446744073709551616 : Nat) : Int)])) H) :
    WD T 54 [.int .u64 (x : Int), .int .u64 (y : Int)] H R := by
  refine WD.of follows t54 (by simp) ?_
  have hm := mul_halves x y
  have h1 : x % 4294967296 * (y % 4294967296) ≤ 4294967295 * 4294967295 := Nat.mul_le_mul (by omega) (by omega)
  have h2 : x / 4294967296 * (y % 4294967296) ≤ 4294967295 * 4294967295 := Nat.mul_le_mul (by omega) (by omega)
  have h3 : x % 4294967296 * (y / 4294967296) ≤ 4294967295 * 4294967295 := Nat.mul_le_mul (by omega) (by omega)
  have h4 : x / 4294967296 * (y / 4294967296) ≤ 4294967295 * 4294967295 := Nat.mul_le_mul (by omega) (by omega)
  simp (maxSteps := 1000000) (disch := omega) only [kaa, kab, kac, kad, khm, khn, kho, khp, khq, khr, kae, kaf, kag, kah, kai, kaj, kak, kal, kam, kan, kao, khe, khf, khg, khh, khi, khj, khk, khl, kap, kaq, kar, kas, kat, kau, kav, kaw, kax, kay, kaz, kba, kbb, kbc, kbd, kbe, kbf, kbg, kbh, kbi, kbj, kbk, kbl, kbm, kbn, kbo, kbp, kbq, kbr, kbs, kbt, kbu, kbv, kbw, kbx, kby, kbz, kca, kcb, kcc, kcd, kch, kci, kcj, kck, kcl, kcm, aop, kcn, kco, kcp, kcq, kcr, kcs, kct, kcu, kcv, kcw, resultsL, resultOf, kcx, Nat.reduceEqDiff, kcy, kcz, kda, reduceCtorEq, kdb, kdc, kdd, kde, kdf, kdg, kdh, kdi, kdj, kdk, kdl, kdm, kdn, kdo, eq1, kdp, kdq, kdr, kds, kdt, kdu, kdv, kdw, kdx, kdy, kdz, kea, keb, kec, apartOK, apart2, AObj.live, ked, kee, kef, keg, keh, kei, kej, kek, kel, Int.reduceEq, Int.reduceLT, Int.reduceLE, Int.reduceAdd, Int.reduceSub, Int.reduceMul, Int.reduceToNat, kem, ken, keo, kep, keq, ker, kes, ket, keu, kev, kew, kex, key, kez, kfa, kfb, kfc, kfd, kfe, kff, kfg, kfh, kfi, kfj, kfk, kfl, cutCells, kfm, kfn, kfo, kfp, kfq, kfr, kfs, kft, kfu, kfv, kfw, kfx, kfy, Nat.reduceAdd, Nat.reduceLeDiff, Nat.reduceLT, Nat.reduceMul, Nat.reduceSub, kfz, kga, kgb, kgc, u64_low, u64_high, u64_add, u64_mul, u64_mulw]
  rw [hm]
  exact h

theorem add64_s {x y c : Nat} (hc : c ≤ 1) (h : R (.ret (.tuple #[.int .u64 (((x + y + c) % 18446744073709551616 : Nat) : Int), .int .u64 (((x + y + c) / 18446744073709551616 : Nat) : Int)])) H) :
    WD T 55 [.int .u64 (x : Int), .int .u64 (y : Int), .int .u64 (c : Int)] H R := by
  refine WD.ext table_ok (show Tab 55 = some (.ext add64) from rfl) ?_ h
  simp only [add64]
  rw [if_pos (by omega)]
  congr 3
theorem add64_s0 {x y : Nat} (h : R (.ret (.tuple #[.int .u64 (((x + y) % 18446744073709551616 : Nat) : Int), .int .u64 (((x + y) / 18446744073709551616 : Nat) : Int)])) H) :
    WD T 55 [.int .u64 (x : Int), .int .u64 (y : Int), .int .u64 0] H R := add64_s (c := 0) (by omega) h

theorem strV_get1 {l : List (List UInt8)} {i : Nat} (h : i < l.length) : (strV l)[i]? = some (.string (bs l[i])) := strV_get l i h

/-- How many bytes the sign has that a text begins with. -/
def signN (l : List UInt8) : Nat := match signsL.find? (fun s => s.isPrefixOf l) with
  | some s => s.length
  | none => 0

def signI (l : List UInt8) (H : Heap) : Nat → Env → Heap → Prop := fun n e H' =>
  ∃ i : Nat, i ≤ 18 ∧ n = 18 - i ∧ H' = H ∧ (∃ x : Nat → Value, e = [.string (bs l), x 1, x 2, x 3, .int .i64 i, x 5, x 6, x 7, x 8, x 9, x 10, x 11, x 12, x 13, x 14, x 15, x 16]) ∧ ∀ j (h : j < signsL.length), j < i → signsL[j].isPrefixOf l = false

theorem signs_short : ∀ s ∈ signsL, s.length ≤ 4611686018427387904 := by
  have : signsL.all (fun s => decide (s.length ≤ 4611686018427387904)) = true := by rfl
  intro s hs
  simpa using List.all_eq_true.1 this s hs

theorem sign_s {l : List UInt8} (hl : l.length ≤ 4611686018427387904) (hH : GH H) (h : R (.ret (.int .i64 (signN l : Nat))) H) : WD T 42 [.string (bs l)] H R := by
  refine WD.of follows t42 (by simp) ?_
  simp only [kaa, kab, kac, kad, khm, khn, kho, khp, khq, khr, kae, kaf, kag, kah, kai, kaj, kak, kal, kam, kan, kao, khe, khf, khg, khh, khi, khj, khk, khl, kap, kaq, kar, kas, kat, kau, kav, kaw, kax, kay, kaz, kba, kbb, kbc, kbd, kbe, kbf, kbg, kbh, kbi, kbj, kbk, kbl, kbm, kbn, kbo, kbp, kbq, kbr, kbs, kbt, kbu, kbv, kbw, kbx, kby, kbz, kca, kcb, kcc, kcd, kce, kcf, kcg, kch, kci, kcj, kck, kcl, kcm, aop, kcn, kco, kcp, kcq, kcr, kcs, kct, kcu, kcv, kcw, resultsL, resultOf, kcx, Nat.reduceEqDiff, kcy, kcz, kda, reduceCtorEq, kdb, kdc, kdd, kde, kdf, kdg, kdh, kdi, kdj, kdk, kdl, kdm, kdn, kdo, eq1, kdp, kdq, kdr, kds, kdt, kdu, kdv, kdw, kdx, kdy, kdz, kea, keb, kec, apartOK, apart2, AObj.live, ked, kee, kef, keg, keh, kei, kej, kek, kel, Int.reduceEq, Int.reduceLT, Int.reduceLE, Int.reduceAdd, Int.reduceSub, Int.reduceMul, Int.reduceToNat, kem, ken, keo, kep, keq, ker, kes, ket, keu, kev, kew, kex, key, kez, kfa, kfb, kfc, kfd, kfe, kff, kfg, kfh, kfi, kfj, kfk, kfl, cutCells, kfm, kfn, kfo, kfp, kfq, kfr, kfs, kft, kfu, kfv, kfw, kfx, kfy, Nat.reduceAdd, Nat.reduceLeDiff, Nat.reduceLT, Nat.reduceMul, Nat.reduceSub, kfz, kga, kgb, kgc]
  refine WLoop.inv (signI l H) ?_ 18 _ _ ⟨0, by simp, rfl, rfl, (ex_env rfl), fun j _ h => by omega⟩
  rintro n e H' ⟨i, h1, rfl, rfl, ⟨x, rfl⟩, h4⟩
  have hlen : signsL.length = 18 := rfl
  by_cases hi : i < 18
  · have hi' : (i : Int) < 18 := by omega
    have hw := strV_get signsL i (by omega)
    have hs := signs_short signsL[i] (List.getElem_mem _)
    simp (disch := omega) only [kaa, kab, kac, kad, khm, khn, kho, khp, khq, khr, kae, kaf, kag, kah, kai, kaj, kak, kal, kam, kan, kao, khe, khf, khg, khh, khi, khj, khk, khl, kap, kaq, kar, kas, kat, kau, kav, kaw, kax, kay, kaz, kba, kbb, kbc, kbd, kbe, kbf, kbg, kbh, kbi, kbj, kbk, kbl, kbm, kbn, kbo, kbp, kbq, kbr, kbs, kbt, kbu, kbv, kbw, kbx, kby, kbz, kca, kcb, kcc, kcd, kce, kcf, kcg, kch, kci, kcj, kck, kcl, kcm, aop, kcn, kco, kcp, kcq, kcr, kcs, kct, kcu, kcv, kcw, resultsL, resultOf, kcx, Nat.reduceEqDiff, kcy, kcz, kda, reduceCtorEq, kdb, kdc, kdd, kde, kdf, kdg, kdh, kdi, kdj, kdk, kdl, kdm, kdn, kdo, eq1, kdp, kdq, kdr, kds, kdt, kdu, kdv, kdw, kdx, kdy, kdz, kea, keb, kec, apartOK, apart2, AObj.live, ked, kee, kef, keg, keh, kei, kej, kek, kel, Int.reduceEq, Int.reduceLT, Int.reduceLE, Int.reduceAdd, Int.reduceSub, Int.reduceMul, Int.reduceToNat, kem, ken, keo, kep, keq, ker, kes, ket, keu, kev, kew, kex, key, kez, kfa, kfb, kfc, kfd, kfe, kff, kfg, kfh, kfi, kfj, kfk, kfl, cutCells, kfm, kfn, kfo, kfp, kfq, kfr, kfs, kft, kfu, kfv, kfw, kfx, kfy, Nat.reduceAdd, Nat.reduceLeDiff, Nat.reduceLT, Nat.reduceMul, Nat.reduceSub, kfz, kga, kgb, kgc, kgd, kge, kgf, kgg, kgh, kgi, kgj, kgk, kgl, kgm, kgn, kgo, kgp, kgq, kgr, kgs, kgt, kgu, kgv, kgw, kgx, kgy, kgz, kha, khb, khc, khd, hi', hH.signs, hw, Nat.zero_add, Nat.mul_one, if_pos]
    (repeat ((first | refine hasPrefix_s hl hs ?_); try simp (disch := omega) only [kaa, kab, kac, kad, khm, khn, kho, khp, khq, khr, kae, kaf, kag, kah, kai, kaj, kak, kal, kam, kan, kao, khe, khf, khg, khh, khi, khj, khk, khl, kap, kaq, kar, kas, kat, kau, kav, kaw, kax, kay, kaz, kba, kbb, kbc, kbd, kbe, kbf, kbg, kbh, kbi, kbj, kbk, kbl, kbm, kbn, kbo, kbp, kbq, kbr, kbs, kbt, kbu, kbv, kbw, kbx, kby, kbz, kca, kcb, kcc, kcd, kce, kcf, kcg, kch, kci, kcj, kck, kcl, kcm, aop, kcn, kco, kcp, kcq, kcr, kcs, kct, kcu, kcv, kcw, resultsL, resultOf, kcx, Nat.reduceEqDiff, kcy, kcz, kda, reduceCtorEq, kdb, kdc, kdd, kde, kdf, kdg, kdh, kdi, kdj, kdk, kdl, kdm, kdn, kdo, eq1, kdp, kdq, kdr, kds, kdt, kdu, kdv, kdw, kdx, kdy, kdz, kea, keb, kec, apartOK, apart2, AObj.live, ked, kee, kef, keg, keh, kei, kej, kek, kel, Int.reduceEq, Int.reduceLT, Int.reduceLE, Int.reduceAdd, Int.reduceSub, Int.reduceMul, Int.reduceToNat, kem, ken, keo, kep, keq, ker, kes, ket, keu, kev, kew, kex, key, kez, kfa, kfb, kfc, kfd, kfe, kff, kfg, kfh, kfi, kfj, kfk, kfl, cutCells, kfm, kfn, kfo, kfp, kfq, kfr, kfs, kft, kfu, kfv, kfw, kfx, kfy, Nat.reduceAdd, Nat.reduceLeDiff, Nat.reduceLT, Nat.reduceMul, Nat.reduceSub, kfz, kga, kgb, kgc, kgd, kge, kgf, kgg, kgh, kgi, kgj, kgk, kgl, kgm, kgn, kgo, kgp, kgq, kgr, kgs, kgt, kgu, kgv, kgw, kgx, kgy, kgz, kha, khb, khc, khd]))
    refine wb_split (fun hx => ?_) (fun hx => ?_) <;> simp (disch := omega) only [kaa, kab, kac, kad, khm, khn, kho, khp, khq, khr, kae, kaf, kag, kah, kai, kaj, kak, kal, kam, kan, kao, khe, khf, khg, khh, khi, khj, khk, khl, kap, kaq, kar, kas, kat, kau, kav, kaw, kax, kay, kaz, kba, kbb, kbc, kbd, kbe, kbf, kbg, kbh, kbi, kbj, kbk, kbl, kbm, kbn, kbo, kbp, kbq, kbr, kbs, kbt, kbu, kbv, kbw, kbx, kby, kbz, kca, kcb, kcc, kcd, kce, kcf, kcg, kch, kci, kcj, kck, kcl, kcm, aop, kcn, kco, kcp, kcq, kcr, kcs, kct, kcu, kcv, kcw, resultsL, resultOf, kcx, Nat.reduceEqDiff, kcy, kcz, kda, reduceCtorEq, kdb, kdc, kdd, kde, kdf, kdg, kdh, kdi, kdj, kdk, kdl, kdm, kdn, kdo, eq1, kdp, kdq, kdr, kds, kdt, kdu, kdv, kdw, kdx, kdy, kdz, kea, keb, kec, apartOK, apart2, AObj.live, ked, kee, kef, keg, keh, kei, kej, kek, kel, Int.reduceEq, Int.reduceLT, Int.reduceLE, Int.reduceAdd, Int.reduceSub, Int.reduceMul, Int.reduceToNat, kem, ken, keo, kep, keq, ker, kes, ket, keu, kev, kew, kex, key, kez, kfa, kfb, kfc, kfd, kfe, kff, kfg, kfh, kfi, kfj, kfk, kfl, cutCells, kfm, kfn, kfo, kfp, kfq, kfr, kfs, kft, kfu, kfv, kfw, kfx, kfy, Nat.reduceAdd, Nat.reduceLeDiff, Nat.reduceLT, Nat.reduceMul, Nat.reduceSub, kfz, kga, kgb, kgc, kgd, kge, kgf, kgg, kgh, kgi, kgj, kgk, kgl, kgm, kgn, kgo, kgp, kgq, kgr, kgs, kgt, kgu, kgv, kgw, kgx, kgy, kgz, kha, khb, khc, khd, wr_i64, hi', hH.signs, hw, Nat.zero_add, Nat.mul_one, if_pos]
    · have : signsL.find? (fun s => s.isPrefixOf l) = some signsL[i] := by
        rw [List.find?_eq_some_iff_getElem]
        exact ⟨hx, i, by omega, rfl, fun j hj => by rw [h4 j (by omega) hj]; rfl⟩
      simp only [signN, this] at h
      exact h
    · refine ⟨18 - (i + 1), by omega, i + 1, by omega, rfl, rfl, (ex_env rfl), fun j hj hji => ?_⟩
      by_cases hji2 : j = i
      · subst hji2; exact hx
      · exact h4 j hj (by omega)
  · have hi' : ¬ (i : Int) < 18 := by omega
    simp (disch := omega) only [kaa, kab, kac, kad, khm, khn, kho, khp, khq, khr, kae, kaf, kag, kah, kai, kaj, kak, kal, kam, kan, kao, khe, khf, khg, khh, khi, khj, khk, khl, kap, kaq, kar, kas, kat, kau, kav, kaw, kax, kay, kaz, kba, kbb, kbc, kbd, kbe, kbf, kbg, kbh, kbi, kbj, kbk, kbl, kbm, kbn, kbo, kbp, kbq, kbr, kbs, kbt, kbu, kbv, kbw, kbx, kby, kbz, kca, kcb, kcc, kcd, kce, kcf, kcg, kch, kci, kcj, kck, kcl, kcm, aop, kcn, kco, kcp, kcq, kcr, kcs, kct, kcu, kcv, kcw, resultsL, resultOf, kcx, Nat.reduceEqDiff, kcy, kcz, kda, reduceCtorEq, kdb, kdc, kdd, kde, kdf, kdg, kdh, kdi, kdj, kdk, kdl, kdm, kdn, kdo, eq1, kdp, kdq, kdr, kds, kdt, kdu, kdv, kdw, kdx, kdy, kdz, kea, keb, kec, apartOK, apart2, AObj.live, ked, kee, kef, keg, keh, kei, kej, kek, kel, Int.reduceEq, Int.reduceLT, Int.reduceLE, Int.reduceAdd, Int.reduceSub, Int.reduceMul, Int.reduceToNat, kem, ken, keo, kep, keq, ker, kes, ket, keu, kev, kew, kex, key, kez, kfa, kfb, kfc, kfd, kfe, kff, kfg, kfh, kfi, kfj, kfk, kfl, cutCells, kfm, kfn, kfo, kfp, kfq, kfr, kfs, kft, kfu, kfv, kfw, kfx, kfy, Nat.reduceAdd, Nat.reduceLeDiff, Nat.reduceLT, Nat.reduceMul, Nat.reduceSub, kfz, kga, kgb, kgc, kgd, kge, kgf, kgg, kgh, kgi, kgj, kgk, kgl, kgm, kgn, kgo, kgp, kgq, kgr, kgs, kgt, kgu, kgv, kgw, kgx, kgy, kgz, kha, khb, khc, khd, hi']
    have : signsL.find? (fun s => s.isPrefixOf l) = none := by
      rw [List.find?_eq_none]
      intro s hs
      obtain ⟨j, hj, rfl⟩ := List.getElem_of_mem hs
      rw [h4 j hj (by omega)]
      simp
    have e0 : signN l = 0 := by simp only [signN, this]
    rw [e0] at h
    exact h

/-- What a digit says, of any base; 99: none. -/
def digV (b : UInt8) : Nat :=
  if 48 ≤ b.toNat ∧ b.toNat ≤ 57 then b.toNat - 48 else if 97 ≤ b.toNat ∧ b.toNat ≤ 122 then b.toNat - 87 else if 65 ≤ b.toNat ∧ b.toNat ≤ 90 then b.toNat - 55 else 99

theorem digit_s {b : UInt8} {base : Nat} (h : R (.ret (.tuple #[.int .u64 (digV b : Nat), .bool (decide (digV b < base))])) H) :
    WD T 53 [.int .i32 (b.toNat : Int), .int .u64 (base : Int)] H R := by
  refine WD.of follows t53 (by simp) ?_
  have hb : b.toNat < 256 := b.toNat_lt
  have fin : ∀ n : Int, n = ((digV b : Nat) : Int) → R (FRes.ret (pack [.int .u64 n, .bool (decide (n < (base : Int)))])) H := by
    rintro n rfl
    simp only [Int.ofNat_lt]
    exact h
  simp only [kaa, kab, kac, kad, khm, khn, kho, khp, khq, khr, kae, kaf, kag, kah, kai, kaj, kak, kal, kam, kan, kao, khe, khf, khg, khh, khi, khj, khk, khl, kap, kaq, kar, kas, kat, kau, kav, kaw, kax, kay, kaz, kba, kbb, kbc, kbd, kbe, kbf, kbg, kbh, kbi, kbj, kbk, kbl, kbm, kbn, kbo, kbp, kbq, kbr, kbs, kbt, kbu, kbv, kbw, kbx, kby, kbz, kca, kcb, kcc, kcd, kce, kcf, kcg, kch, kci, kcj, kck, kcl, kcm, aop, kcn, kco, kcp, kcq, kcr, kcs, kct, kcu, kcv, kcw, resultsL, resultOf, kcx, Nat.reduceEqDiff, kcy, kcz, kda, reduceCtorEq, kdb, kdc, kdd, kde, kdf, kdg, kdh, kdi, kdj, kdk, kdl, kdm, kdn, kdo, eq1, kdp, kdq, kdr, kds, kdt, kdu, kdv, kdw, kdx, kdy, kdz, kea, keb, kec, apartOK, apart2, AObj.live, ked, kee, kef, keg, keh, kei, kej, kek, kel, Int.reduceEq, Int.reduceLT, Int.reduceLE, Int.reduceAdd, Int.reduceSub, Int.reduceMul, Int.reduceToNat, kem, ken, keo, kep, keq, ker, kes, ket, keu, kev, kew, kex, key, kez, kfa, kfb, kfc, kfd, kfe, kff, kfg, kfh, kfi, kfj, kfk, kfl, cutCells, kfm, kfn, kfo, kfp, kfq, kfr, kfs, kft, kfu, kfv, kfw, kfx, kfy, Nat.reduceAdd, Nat.reduceLeDiff, Nat.reduceLT, Nat.reduceMul, Nat.reduceSub, kfz, kga, kgb, kgc]
  (repeat ((first | refine isDigit_s ?_); try simp (disch := omega) only [kaa, kab, kac, kad, khm, khn, kho, khp, khq, khr, kae, kaf, kag, kah, kai, kaj, kak, kal, kam, kan, kao, khe, khf, khg, khh, khi, khj, khk, khl, kap, kaq, kar, kas, kat, kau, kav, kaw, kax, kay, kaz, kba, kbb, kbc, kbd, kbe, kbf, kbg, kbh, kbi, kbj, kbk, kbl, kbm, kbn, kbo, kbp, kbq, kbr, kbs, kbt, kbu, kbv, kbw, kbx, kby, kbz, kca, kcb, kcc, kcd, kce, kcf, kcg, kch, kci, kcj, kck, kcl, kcm, aop, kcn, kco, kcp, kcq, kcr, kcs, kct, kcu, kcv, kcw, resultsL, resultOf, kcx, Nat.reduceEqDiff, kcy, kcz, kda, reduceCtorEq, kdb, kdc, kdd, kde, kdf, kdg, kdh, kdi, kdj, kdk, kdl, kdm, kdn, kdo, eq1, kdp, kdq, kdr, kds, kdt, kdu, kdv, kdw, kdx, kdy, kdz, kea, keb, kec, apartOK, apart2, AObj.live, ked, kee, kef, keg, keh, kei, kej, kek, kel, Int.reduceEq, Int.reduceLT, Int.reduceLE, Int.reduceAdd, Int.reduceSub, Int.reduceMul, Int.reduceToNat, kem, ken, keo, kep, keq, ker, kes, ket, keu, kev, kew, kex, key, kez, kfa, kfb, kfc, kfd, kfe, kff, kfg, kfh, kfi, kfj, kfk, kfl, cutCells, kfm, kfn, kfo, kfp, kfq, kfr, kfs, kft, kfu, kfv, kfw, kfx, kfy, Nat.reduceAdd, Nat.reduceLeDiff, Nat.reduceLT, Nat.reduceMul, Nat.reduceSub, kfz, kga, kgb, kgc, kgd, kge, kgf, kgg, kgh, kgi, kgj, kgk, kgl, kgm, kgn, kgo, kgp, kgq, kgr, kgs, kgt, kgu, kgv, kgw, kgx, kgy, kgz, kha, khb, khc, khd]))
  by_cases h1 : 48 ≤ b.toNat ∧ b.toNat ≤ 57
  · have e1 : (decide (48 ≤ (b.toNat : Int)) && decide ((b.toNat : Int) ≤ 57)) = true := by simp; omega
    simp (disch := omega) only [kaa, kab, kac, kad, khm, khn, kho, khp, khq, khr, kae, kaf, kag, kah, kai, kaj, kak, kal, kam, kan, kao, khe, khf, khg, khh, khi, khj, khk, khl, kap, kaq, kar, kas, kat, kau, kav, kaw, kax, kay, kaz, kba, kbb, kbc, kbd, kbe, kbf, kbg, kbh, kbi, kbj, kbk, kbl, kbm, kbn, kbo, kbp, kbq, kbr, kbs, kbt, kbu, kbv, kbw, kbx, kby, kbz, kca, kcb, kcc, kcd, kce, kcf, kcg, kch, kci, kcj, kck, kcl, kcm, aop, kcn, kco, kcp, kcq, kcr, kcs, kct, kcu, kcv, kcw, resultsL, resultOf, kcx, Nat.reduceEqDiff, kcy, kcz, kda, reduceCtorEq, kdb, kdc, kdd, kde, kdf, kdg, kdh, kdi, kdj, kdk, kdl, kdm, kdn, kdo, eq1, kdp, kdq, kdr, kds, kdt, kdu, kdv, kdw, kdx, kdy, kdz, kea, keb, kec, apartOK, apart2, AObj.live, ked, kee, kef, keg, keh, kei, kej, kek, kel, Int.reduceEq, Int.reduceLT, Int.reduceLE, Int.reduceAdd, Int.reduceSub, Int.reduceMul, Int.reduceToNat, kem, ken, keo, kep, keq, ker, kes, ket, keu, kev, kew, kex, key, kez, kfa, kfb, kfc, kfd, kfe, kff, kfg, kfh, kfi, kfj, kfk, kfl, cutCells, kfm, kfn, kfo, kfp, kfq, kfr, kfs, kft, kfu, kfv, kfw, kfx, kfy, Nat.reduceAdd, Nat.reduceLeDiff, Nat.reduceLT, Nat.reduceMul, Nat.reduceSub, kfz, kga, kgb, kgc, kgd, kge, kgf, kgg, kgh, kgi, kgj, kgk, kgl, kgm, kgn, kgo, kgp, kgq, kgr, kgs, kgt, kgu, kgv, kgw, kgx, kgy, kgz, kha, khb, khc, khd, e1, wr_i32, wr_u64]
    exact fin _ (by simp only [digV, if_pos h1]; omega)
  · have e1 : (decide (48 ≤ (b.toNat : Int)) && decide ((b.toNat : Int) ≤ 57)) = false := by simp; omega
    simp (disch := omega) only [kaa, kab, kac, kad, khm, khn, kho, khp, khq, khr, kae, kaf, kag, kah, kai, kaj, kak, kal, kam, kan, kao, khe, khf, khg, khh, khi, khj, khk, khl, kap, kaq, kar, kas, kat, kau, kav, kaw, kax, kay, kaz, kba, kbb, kbc, kbd, kbe, kbf, kbg, kbh, kbi, kbj, kbk, kbl, kbm, kbn, kbo, kbp, kbq, kbr, kbs, kbt, kbu, kbv, kbw, kbx, kby, kbz, kca, kcb, kcc, kcd, kce, kcf, kcg, kch, kci, kcj, kck, kcl, kcm, aop, kcn, kco, kcp, kcq, kcr, kcs, kct, kcu, kcv, kcw, resultsL, resultOf, kcx, Nat.reduceEqDiff, kcy, kcz, kda, reduceCtorEq, kdb, kdc, kdd, kde, kdf, kdg, kdh, kdi, kdj, kdk, kdl, kdm, kdn, kdo, eq1, kdp, kdq, kdr, kds, kdt, kdu, kdv, kdw, kdx, kdy, kdz, kea, keb, kec, apartOK, apart2, AObj.live, ked, kee, kef, keg, keh, kei, kej, kek, kel, Int.reduceEq, Int.reduceLT, Int.reduceLE, Int.reduceAdd, Int.reduceSub, Int.reduceMul, Int.reduceToNat, kem, ken, keo, kep, keq, ker, kes, ket, keu, kev, kew, kex, key, kez, kfa, kfb, kfc, kfd, kfe, kff, kfg, kfh, kfi, kfj, kfk, kfl, cutCells, kfm, kfn, kfo, kfp, kfq, kfr, kfs, kft, kfu, kfv, kfw, kfx, kfy, Nat.reduceAdd, Nat.reduceLeDiff, Nat.reduceLT, Nat.reduceMul, Nat.reduceSub, kfz, kga, kgb, kgc, kgd, kge, kgf, kgg, kgh, kgi, kgj, kgk, kgl, kgm, kgn, kgo, kgp, kgq, kgr, kgs, kgt, kgu, kgv, kgw, kgx, kgy, kgz, kha, khb, khc, khd, e1]
    (repeat ((first | refine isSmall_s ?_); try simp (disch := omega) only [kaa, kab, kac, kad, khm, khn, kho, khp, khq, khr, kae, kaf, kag, kah, kai, kaj, kak, kal, kam, kan, kao, khe, khf, khg, khh, khi, khj, khk, khl, kap, kaq, kar, kas, kat, kau, kav, kaw, kax, kay, kaz, kba, kbb, kbc, kbd, kbe, kbf, kbg, kbh, kbi, kbj, kbk, kbl, kbm, kbn, kbo, kbp, kbq, kbr, kbs, kbt, kbu, kbv, kbw, kbx, kby, kbz, kca, kcb, kcc, kcd, kce, kcf, kcg, kch, kci, kcj, kck, kcl, kcm, aop, kcn, kco, kcp, kcq, kcr, kcs, kct, kcu, kcv, kcw, resultsL, resultOf, kcx, Nat.reduceEqDiff, kcy, kcz, kda, reduceCtorEq, kdb, kdc, kdd, kde, kdf, kdg, kdh, kdi, kdj, kdk, kdl, kdm, kdn, kdo, eq1, kdp, kdq, kdr, kds, kdt, kdu, kdv, kdw, kdx, kdy, kdz, kea, keb, kec, apartOK, apart2, AObj.live, ked, kee, kef, keg, keh, kei, kej, kek, kel, Int.reduceEq, Int.reduceLT, Int.reduceLE, Int.reduceAdd, Int.reduceSub, Int.reduceMul, Int.reduceToNat, kem, ken, keo, kep, keq, ker, kes, ket, keu, kev, kew, kex, key, kez, kfa, kfb, kfc, kfd, kfe, kff, kfg, kfh, kfi, kfj, kfk, kfl, cutCells, kfm, kfn, kfo, kfp, kfq, kfr, kfs, kft, kfu, kfv, kfw, kfx, kfy, Nat.reduceAdd, Nat.reduceLeDiff, Nat.reduceLT, Nat.reduceMul, Nat.reduceSub, kfz, kga, kgb, kgc, kgd, kge, kgf, kgg, kgh, kgi, kgj, kgk, kgl, kgm, kgn, kgo, kgp, kgq, kgr, kgs, kgt, kgu, kgv, kgw, kgx, kgy, kgz, kha, khb, khc, khd]))
    by_cases h2 : 97 ≤ b.toNat ∧ b.toNat ≤ 122
    · have e2 : (decide (97 ≤ (b.toNat : Int)) && decide ((b.toNat : Int) ≤ 122)) = true := by simp; omega
      simp (disch := omega) only [kaa, kab, kac, kad, khm, khn, kho, khp, khq, khr, kae, kaf, kag, kah, kai, kaj, kak, kal, kam, kan, kao, khe, khf, khg, khh, khi, khj, khk, khl, kap, kaq, kar, kas, kat, kau, kav, kaw, kax, kay, kaz, kba, kbb, kbc, kbd, kbe, kbf, kbg, kbh, kbi, kbj, kbk, kbl, kbm, kbn, kbo, kbp, kbq, kbr, kbs, kbt, kbu, kbv, kbw, kbx, kby, kbz, kca, kcb, kcc, kcd, kce, kcf, kcg, kch, kci, kcj, kck, kcl, kcm, aop, kcn, kco, kcp, kcq, kcr, kcs, kct, kcu, kcv, kcw, resultsL, resultOf, kcx, Nat.reduceEqDiff, kcy, kcz, kda, reduceCtorEq, kdb, kdc, kdd, kde, kdf, kdg, kdh, kdi, kdj, kdk, kdl, kdm, kdn, kdo, eq1, kdp, kdq, kdr, kds, kdt, kdu, kdv, kdw, kdx, kdy, kdz, kea, keb, kec, apartOK, apart2, AObj.live, ked, kee, kef, keg, keh, kei, kej, kek, kel, Int.reduceEq, Int.reduceLT, Int.reduceLE, Int.reduceAdd, Int.reduceSub, Int.reduceMul, Int.reduceToNat, kem, ken, keo, kep, keq, ker, kes, ket, keu, kev, kew, kex, key, kez, kfa, kfb, kfc, kfd, kfe, kff, kfg, kfh, kfi, kfj, kfk, kfl, cutCells, kfm, kfn, kfo, kfp, kfq, kfr, kfs, kft, kfu, kfv, kfw, kfx, kfy, Nat.reduceAdd, Nat.reduceLeDiff, Nat.reduceLT, Nat.reduceMul, Nat.reduceSub, kfz, kga, kgb, kgc, kgd, kge, kgf, kgg, kgh, kgi, kgj, kgk, kgl, kgm, kgn, kgo, kgp, kgq, kgr, kgs, kgt, kgu, kgv, kgw, kgx, kgy, kgz, kha, khb, khc, khd, e2, wr_i32, wr_u64]
      exact fin _ (by simp only [digV, if_neg h1, if_pos h2]; omega)
    · have e2 : (decide (97 ≤ (b.toNat : Int)) && decide ((b.toNat : Int) ≤ 122)) = false := by simp; omega
      simp (disch := omega) only [kaa, kab, kac, kad, khm, khn, kho, khp, khq, khr, kae, kaf, kag, kah, kai, kaj, kak, kal, kam, kan, kao, khe, khf, khg, khh, khi, khj, khk, khl, kap, kaq, kar, kas, kat, kau, kav, kaw, kax, kay, kaz, kba, kbb, kbc, kbd, kbe, kbf, kbg, kbh, kbi, kbj, kbk, kbl, kbm, kbn, kbo, kbp, kbq, kbr, kbs, kbt, kbu, kbv, kbw, kbx, kby, kbz, kca, kcb, kcc, kcd, kce, kcf, kcg, kch, kci, kcj, kck, kcl, kcm, aop, kcn, kco, kcp, kcq, kcr, kcs, kct, kcu, kcv, kcw, resultsL, resultOf, kcx, Nat.reduceEqDiff, kcy, kcz, kda, reduceCtorEq, kdb, kdc, kdd, kde, kdf, kdg, kdh, kdi, kdj, kdk, kdl, kdm, kdn, kdo, eq1, kdp, kdq, kdr, kds, kdt, kdu, kdv, kdw, kdx, kdy, kdz, kea, keb, kec, apartOK, apart2, AObj.live, ked, kee, kef, keg, keh, kei, kej, kek, kel, Int.reduceEq, Int.reduceLT, Int.reduceLE, Int.reduceAdd, Int.reduceSub, Int.reduceMul, Int.reduceToNat, kem, ken, keo, kep, keq, ker, kes, ket, keu, kev, kew, kex, key, kez, kfa, kfb, kfc, kfd, kfe, kff, kfg, kfh, kfi, kfj, kfk, kfl, cutCells, kfm, kfn, kfo, kfp, kfq, kfr, kfs, kft, kfu, kfv, kfw, kfx, kfy, Nat.reduceAdd, Nat.reduceLeDiff, Nat.reduceLT, Nat.reduceMul, Nat.reduceSub, kfz, kga, kgb, kgc, kgd, kge, kgf, kgg, kgh, kgi, kgj, kgk, kgl, kgm, kgn, kgo, kgp, kgq, kgr, kgs, kgt, kgu, kgv, kgw, kgx, kgy, kgz, kha, khb, khc, khd, e2]
      by_cases h3 : 65 ≤ b.toNat
      · have e3 : 65 ≤ (b.toNat : Int) := by omega
        simp (disch := omega) only [kaa, kab, kac, kad, khm, khn, kho, khp, khq, khr, kae, kaf, kag, kah, kai, kaj, kak, kal, kam, kan, kao, khe, khf, khg, khh, khi, khj, khk, khl, kap, kaq, kar, kas, kat, kau, kav, kaw, kax, kay, kaz, kba, kbb, kbc, kbd, kbe, kbf, kbg, kbh, kbi, kbj, kbk, kbl, kbm, kbn, kbo, kbp, kbq, kbr, kbs, kbt, kbu, kbv, kbw, kbx, kby, kbz, kca, kcb, kcc, kcd, kce, kcf, kcg, kch, kci, kcj, kck, kcl, kcm, aop, kcn, kco, kcp, kcq, kcr, kcs, kct, kcu, kcv, kcw, resultsL, resultOf, kcx, Nat.reduceEqDiff, kcy, kcz, kda, reduceCtorEq, kdb, kdc, kdd, kde, kdf, kdg, kdh, kdi, kdj, kdk, kdl, kdm, kdn, kdo, eq1, kdp, kdq, kdr, kds, kdt, kdu, kdv, kdw, kdx, kdy, kdz, kea, keb, kec, apartOK, apart2, AObj.live, ked, kee, kef, keg, keh, kei, kej, kek, kel, Int.reduceEq, Int.reduceLT, Int.reduceLE, Int.reduceAdd, Int.reduceSub, Int.reduceMul, Int.reduceToNat, kem, ken, keo, kep, keq, ker, kes, ket, keu, kev, kew, kex, key, kez, kfa, kfb, kfc, kfd, kfe, kff, kfg, kfh, kfi, kfj, kfk, kfl, cutCells, kfm, kfn, kfo, kfp, kfq, kfr, kfs, kft, kfu, kfv, kfw, kfx, kfy, Nat.reduceAdd, Nat.reduceLeDiff, Nat.reduceLT, Nat.reduceMul, Nat.reduceSub, kfz, kga, kgb, kgc, kgd, kge, kgf, kgg, kgh, kgi, kgj, kgk, kgl, kgm, kgn, kgo, kgp, kgq, kgr, kgs, kgt, kgu, kgv, kgw, kgx, kgy, kgz, kha, khb, khc, khd, e3]
        by_cases h4 : b.toNat ≤ 90
        · have e4 : (b.toNat : Int) ≤ 90 := by omega
          simp (disch := omega) only [kaa, kab, kac, kad, khm, khn, kho, khp, khq, khr, kae, kaf, kag, kah, kai, kaj, kak, kal, kam, kan, kao, khe, khf, khg, khh, khi, khj, khk, khl, kap, kaq, kar, kas, kat, kau, kav, kaw, kax, kay, kaz, kba, kbb, kbc, kbd, kbe, kbf, kbg, kbh, kbi, kbj, kbk, kbl, kbm, kbn, kbo, kbp, kbq, kbr, kbs, kbt, kbu, kbv, kbw, kbx, kby, kbz, kca, kcb, kcc, kcd, kce, kcf, kcg, kch, kci, kcj, kck, kcl, kcm, aop, kcn, kco, kcp, kcq, kcr, kcs, kct, kcu, kcv, kcw, resultsL, resultOf, kcx, Nat.reduceEqDiff, kcy, kcz, kda, reduceCtorEq, kdb, kdc, kdd, kde, kdf, kdg, kdh, kdi, kdj, kdk, kdl, kdm, kdn, kdo, eq1, kdp, kdq, kdr, kds, kdt, kdu, kdv, kdw, kdx, kdy, kdz, kea, keb, kec, apartOK, apart2, AObj.live, ked, kee, kef, keg, keh, kei, kej, kek, kel, Int.reduceEq, Int.reduceLT, Int.reduceLE, Int.reduceAdd, Int.reduceSub, Int.reduceMul, Int.reduceToNat, kem, ken, keo, kep, keq, ker, kes, ket, keu, kev, kew, kex, key, kez, kfa, kfb, kfc, kfd, kfe, kff, kfg, kfh, kfi, kfj, kfk, kfl, cutCells, kfm, kfn, kfo, kfp, kfq, kfr, kfs, kft, kfu, kfv, kfw, kfx, kfy, Nat.reduceAdd, Nat.reduceLeDiff, Nat.reduceLT, Nat.reduceMul, Nat.reduceSub, kfz, kga, kgb, kgc, kgd, kge, kgf, kgg, kgh, kgi, kgj, kgk, kgl, kgm, kgn, kgo, kgp, kgq, kgr, kgs, kgt, kgu, kgv, kgw, kgx, kgy, kgz, kha, khb, khc, khd, e4, wr_i32, wr_u64]
          exact fin _ (by simp only [digV, if_neg h1, if_neg h2, if_pos (And.intro h3 h4)]; omega)
        · have e4 : ¬ (b.toNat : Int) ≤ 90 := by omega
          simp (disch := omega) only [kaa, kab, kac, kad, khm, khn, kho, khp, khq, khr, kae, kaf, kag, kah, kai, kaj, kak, kal, kam, kan, kao, khe, khf, khg, khh, khi, khj, khk, khl, kap, kaq, kar, kas, kat, kau, kav, kaw, kax, kay, kaz, kba, kbb, kbc, kbd, kbe, kbf, kbg, kbh, kbi, kbj, kbk, kbl, kbm, kbn, kbo, kbp, kbq, kbr, kbs, kbt, kbu, kbv, kbw, kbx, kby, kbz, kca, kcb, kcc, kcd, kce, kcf, kcg, kch, kci, kcj, kck, kcl, kcm, aop, kcn, kco, kcp, kcq, kcr, kcs, kct, kcu, kcv, kcw, resultsL, resultOf, kcx, Nat.reduceEqDiff, kcy, kcz, kda, reduceCtorEq, kdb, kdc, kdd, kde, kdf, kdg, kdh, kdi, kdj, kdk, kdl, kdm, kdn, kdo, eq1, kdp, kdq, kdr, kds, kdt, kdu, kdv, kdw, kdx, kdy, kdz, kea, keb, kec, apartOK, apart2, AObj.live, ked, kee, kef, keg, keh, kei, kej, kek, kel, Int.reduceEq, Int.reduceLT, Int.reduceLE, Int.reduceAdd, Int.reduceSub, Int.reduceMul, Int.reduceToNat, kem, ken, keo, kep, keq, ker, kes, ket, keu, kev, kew, kex, key, kez, kfa, kfb, kfc, kfd, kfe, kff, kfg, kfh, kfi, kfj, kfk, kfl, cutCells, kfm, kfn, kfo, kfp, kfq, kfr, kfs, kft, kfu, kfv, kfw, kfx, kfy, Nat.reduceAdd, Nat.reduceLeDiff, Nat.reduceLT, Nat.reduceMul, Nat.reduceSub, kfz, kga, kgb, kgc, kgd, kge, kgf, kgg, kgh, kgi, kgj, kgk, kgl, kgm, kgn, kgo, kgp, kgq, kgr, kgs, kgt, kgu, kgv, kgw, kgx, kgy, kgz, kha, khb, khc, khd, e4]
          exact fin _ (by simp only [digV, if_neg h1, if_neg h2, if_neg (fun x : 65 ≤ b.toNat ∧ b.toNat ≤ 90 => h4 x.2)]; rfl)
      · have e3 : ¬ 65 ≤ (b.toNat : Int) := by omega
        simp (disch := omega) only [kaa, kab, kac, kad, khm, khn, kho, khp, khq, khr, kae, kaf, kag, kah, kai, kaj, kak, kal, kam, kan, kao, khe, khf, khg, khh, khi, khj, khk, khl, kap, kaq, kar, kas, kat, kau, kav, kaw, kax, kay, kaz, kba, kbb, kbc, kbd, kbe, kbf, kbg, kbh, kbi, kbj, kbk, kbl, kbm, kbn, kbo, kbp, kbq, kbr, kbs, kbt, kbu, kbv, kbw, kbx, kby, kbz, kca, kcb, kcc, kcd, kce, kcf, kcg, kch, kci, kcj, kck, kcl, kcm, aop, kcn, kco, kcp, kcq, kcr, kcs, kct, kcu, kcv, kcw, resultsL, resultOf, kcx, Nat.reduceEqDiff, kcy, kcz, kda, reduceCtorEq, kdb, kdc, kdd, kde, kdf, kdg, kdh, kdi, kdj, kdk, kdl, kdm, kdn, kdo, eq1, kdp, kdq, kdr, kds, kdt, kdu, kdv, kdw, kdx, kdy, kdz, kea, keb, kec, apartOK, apart2, AObj.live, ked, kee, kef, keg, keh, kei, kej, kek, kel, Int.reduceEq, Int.reduceLT, Int.reduceLE, Int.reduceAdd, Int.reduceSub, Int.reduceMul, Int.reduceToNat, kem, ken, keo, kep, keq, ker, kes, ket, keu, kev, kew, kex, key, kez, kfa, kfb, kfc, kfd, kfe, kff, kfg, kfh, kfi, kfj, kfk, kfl, cutCells, kfm, kfn, kfo, kfp, kfq, kfr, kfs, kft, kfu, kfv, kfw, kfx, kfy, Nat.reduceAdd, Nat.reduceLeDiff, Nat.reduceLT, Nat.reduceMul, Nat.reduceSub, kfz, kga, kgb, kgc, kgd, kge, kgf, kgg, kgh, kgi, kgj, kgk, kgl, kgm, kgn, kgo, kgp, kgq, kgr, kgs, kgt, kgu, kgv, kgw, kgx, kgy, kgz, kha, khb, khc, khd, e3]
        exact fin _ (by simp only [digV, if_neg h1, if_neg h2, if_neg (fun x : 65 ≤ b.toNat ∧ b.toNat ≤ 90 => h3 x.1)]; rfl)

end Go.Proofs.YtedemfmafdilmaaDoor.Ev

/- What a number's text says. -/
namespace Go.Proofs.YtedemfmafdilmaaDoor.Ev
set_option maxRecDepth 100000
set_option linter.unusedSimpArgs false
set_option linter.unusedVariables false
variable {R : FRes → Heap → Prop} {H : Heap}

abbrev W64 : Nat := 18446744073709551616
/-- A value of 128 bits in two cells. -/
def bitsL (a : Nat) : List Value := [.int .u64 ((a / W64 : Nat) : Int), .int .u64 ((a % W64 : Nat) : Int)]
theorem bitsL_zero : bitsL 0 = [.int .u64 0, .int .u64 0] := rfl

def numFold (base : Nat) : Nat → List UInt8 → Option Nat
  | a, [] => some a
  | a, b :: l => if digV b < base ∧ a * base + digV b < W64 * W64 then numFold base (a * base + digV b) l else none

theorem dpos {n : Nat} (h : decide (0 < (n : Int)) = true) : 0 < n := Int.natCast_pos.1 (of_decide_eq_true h)
theorem dneg {n : Nat} (h : decide (0 < (n : Int)) = false) : ¬ 0 < n := fun q => of_decide_eq_false h (Int.natCast_pos.2 q)

/-- The loop of number. -/
abbrev c41 : ACode := g41.body.at [1, 1, 1, 1, 0, 1, 0, 0]

def numI (l : List UInt8) (base : Nat) (H : Heap) : Nat → Env → Heap → Prop := fun n e H' =>
  ∃ (pos a : Nat), pos ≤ l.length ∧ n = l.length - pos ∧ a < W64 * W64 ∧ numFold base 0 l = numFold base a (l.drop pos) ∧
    H' = H ++ [.row [.int .u64 0, .int .u64 0] 0 true, .row (bitsL a) 0 true, .iter (bs l) pos] ∧
    (∃ x : Nat → Value, e = [.string (bs l), x 1, .pointer (some ⟨H.length, 0, none⟩), x 3, .int .u64 (base : Int), .pointer (some ⟨H.length + 1, 0, none⟩), x 6, x 7, x 8, x 9, x 10, x 11, x 12, x 13, x 14, x 15, x 16, x 17, x 18, x 19, x 20, x 21, x 22, x 23, x 24, x 25, x 26, x 27, x 28, x 29, x 30, x 31, x 32, x 33, x 34, x 35, x 36, .pointer (some ⟨H.length + 2, 0, none⟩), x 38, x 39, x 40, x 41, x 42, x 43, x 44, x 45, x 46, x 47, x 48, x 49, x 50, x 51, x 52, x 53, x 54, x 55, x 56, x 57, x 58, x 59, x 60, x 61, x 62, x 63, x 64, x 65, x 66, x 67, x 68, x 69, x 70, x 71, x 72, x 73, x 74, x 75, x 76, x 77, x 78, x 79, x 80, x 81, x 82, x 83, x 84, x 85, x 86, x 87, x 88, x 89])

theorem num_arith {A B base d : Nat} (hA : A < W64) (hB : B < W64) (hb : base < 17) (hd : d < base) :
    (¬ (0 < A * base / W64 ∨ 0 < (A * base % W64 + B * base / W64 + (B * base % W64 + d) / W64) / W64) ↔ (A * W64 + B) * base + d < W64 * W64) ∧
    ((A * W64 + B) * base + d < W64 * W64 → (A * base % W64 + B * base / W64 + (B * base % W64 + d) / W64) % W64 = ((A * W64 + B) * base + d) / W64 ∧ (B * base % W64 + d) % W64 = ((A * W64 + B) * base + d) % W64) := by
  have e : (A * W64 + B) * base = A * base * W64 + B * base := by rw [Nat.add_mul, Nat.mul_right_comm]
  rw [e]
  have h1 : A * base ≤ 18446744073709551615 * 16 := Nat.mul_le_mul (by simp only [W64] at hA; omega) (by omega)
  have h2 : B * base ≤ 18446744073709551615 * 16 := Nat.mul_le_mul (by simp only [W64] at hB; omega) (by omega)
  generalize A * base = p at *
  generalize B * base = q at *
  simp only [W64]
  omega

theorem num_loop {l : List UInt8} (hl : ∀ b ∈ l, b.toNat < 128) {base : Nat} (hb : base < 17) {H : Heap} {Q : Post}
    (h1 : ∀ v, numFold base 0 l = some v → ∀ e, (∃ x : Nat → Value, e = [.string (bs l), x 1, .pointer (some ⟨H.length, 0, none⟩), x 3, x 4, .pointer (some ⟨H.length + 1, 0, none⟩), x 6, x 7, x 8, x 9, x 10, x 11, x 12, x 13, x 14, x 15, x 16, x 17, x 18, x 19, x 20, x 21, x 22, x 23, x 24, x 25, x 26, x 27, x 28, x 29, x 30, x 31, x 32, x 33, x 34, x 35, x 36, x 37, x 38, x 39, x 40, x 41, x 42, x 43, x 44, x 45, x 46, x 47, x 48, x 49, x 50, x 51, x 52, x 53, x 54, x 55, x 56, x 57, x 58, x 59, x 60, x 61, x 62, x 63, x 64, x 65, x 66, x 67, x 68, x 69, x 70, x 71, x 72, x 73, x 74, x 75, x 76, x 77, x 78, x 79, x 80, x 81, x 82, x 83, x 84, x 85, x 86, x 87, x 88, x 89]) →
      Q (.exit 1) e (H ++ [.row [.int .u64 0, .int .u64 0] 0 true, .row (bitsL v) 0 true, .iter (bs l) l.length]))
    (h2 : numFold base 0 l = none → ∀ e o p, (∃ x : Nat → Value, e = [x 0, x 1, .pointer (some ⟨H.length, 0, none⟩), .bool false, x 4, x 5, x 6, x 7, x 8, x 9, x 10, x 11, x 12, x 13, x 14, x 15, x 16, x 17, x 18, x 19, x 20, x 21, x 22, x 23, x 24, x 25, x 26, x 27, x 28, x 29, x 30, x 31, x 32, x 33, x 34, x 35, x 36, x 37, x 38, x 39, x 40, x 41, x 42, x 43, x 44, x 45, x 46, x 47, x 48, x 49, x 50, x 51, x 52, x 53, x 54, x 55, x 56, x 57, x 58, x 59, x 60, x 61, x 62, x 63, x 64, x 65, x 66, x 67, x 68, x 69, x 70, x 71, x 72, x 73, x 74, x 75, x 76, x 77, x 78, x 79, x 80, x 81, x 82, x 83, x 84, x 85, x 86, x 87, x 88, x 89]) → Q .ret e (H ++ [.row [.int .u64 0, .int .u64 0] 0 true, o, p]))
    {e : Env} {H1 : Heap} (hI : numI l base H l.length e H1) : WLoop T c41 e H1 Q := by
  refine WLoop.inv (numI l base H) ?_ _ _ _ hI
  rintro n e H' ⟨pos, a, k1, k2, k3, k4, rfl, ⟨x, rfl⟩⟩
  simp only [c41, AFunc.body, g41, ACode.at]
  simp (disch := omega) only [kaa, kab, kac, kad, khm, khn, kho, khp, khq, khr, kae, kaf, kag, kah, kai, kaj, kak, kal, kam, kan, kao, khe, khf, khg, khh, khi, khj, khk, khl, kap, kaq, kar, kas, kat, kau, kav, kaw, kax, kay, kaz, kba, kbb, kbc, kbd, kbe, kbf, kbg, kbh, kbi, kbj, kbk, kbl, kbm, kbn, kbo, kbp, kbq, kbr, kbs, kbt, kbu, kbv, kbw, kbx, kby, kbz, kca, kcb, kcc, kcd, kce, kcf, kcg, kch, kci, kcj, kck, kcl, kcm, aop, kcn, kco, kcp, kcq, kcr, kcs, kct, kcu, kcv, kcw, resultsL, resultOf, kcx, Nat.reduceEqDiff, kcy, kcz, kda, reduceCtorEq, kdb, kdc, kdd, kde, kdf, kdg, kdh, kdi, kdj, kdk, kdl, kdm, kdn, kdo, eq1, kdp, kdq, kdr, kds, kdt, kdu, kdv, kdw, kdx, kdy, kdz, kea, keb, kec, apartOK, apart2, AObj.live, ked, kee, kef, keg, keh, kei, kej, kek, kel, Int.reduceEq, Int.reduceLT, Int.reduceLE, Int.reduceAdd, Int.reduceSub, Int.reduceMul, Int.reduceToNat, kem, ken, keo, kep, keq, ker, kes, ket, keu, kev, kew, kex, key, kez, kfa, kfb, kfc, kfd, kfe, kff, kfg, kfh, kfi, kfj, kfk, kfl, cutCells, kfm, kfn, kfo, kfp, kfq, kfr, kfs, kft, kfu, kfv, kfw, kfx, kfy, Nat.reduceAdd, Nat.reduceLeDiff, Nat.reduceLT, Nat.reduceMul, Nat.reduceSub, kfz, kga, kgb, kgc, kgd, kge, kgf, kgg, kgh, kgi, kgj, kgk, kgl, kgm, kgn, kgo, kgp, kgq, kgr, kgs, kgt, kgu, kgv, kgw, kgx, kgy, kgz, kha, khb, khc, khd]
  by_cases hlt : pos < l.length
  · simp (disch := omega) only [kaa, kab, kac, kad, khm, khn, kho, khp, khq, khr, kae, kaf, kag, kah, kai, kaj, kak, kal, kam, kan, kao, khe, khf, khg, khh, khi, khj, khk, khl, kap, kaq, kar, kas, kat, kau, kav, kaw, kax, kay, kaz, kba, kbb, kbc, kbd, kbe, kbf, kbg, kbh, kbi, kbj, kbk, kbl, kbm, kbn, kbo, kbp, kbq, kbr, kbs, kbt, kbu, kbv, kbw, kbx, kby, kbz, kca, kcb, kcc, kcd, kce, kcf, kcg, kch, kci, kcj, kck, kcl, kcm, aop, kcn, kco, kcp, kcq, kcr, kcs, kct, kcu, kcv, kcw, resultsL, resultOf, kcx, Nat.reduceEqDiff, kcy, kcz, kda, reduceCtorEq, kdb, kdc, kdd, kde, kdf, kdg, kdh, kdi, kdj, kdk, kdl, kdm, kdn, kdo, eq1, kdp, kdq, kdr, kds, kdt, kdu, kdv, kdw, kdx, kdy, kdz, kea, keb, kec, apartOK, apart2, AObj.live, ked, kee, kef, keg, keh, kei, kej, kek, kel, Int.reduceEq, Int.reduceLT, Int.reduceLE, Int.reduceAdd, Int.reduceSub, Int.reduceMul, Int.reduceToNat, kem, ken, keo, kep, keq, ker, kes, ket, keu, kev, kew, kex, key, kez, kfa, kfb, kfc, kfd, kfe, kff, kfg, kfh, kfi, kfj, kfk, kfl, cutCells, kfm, kfn, kfo, kfp, kfq, kfr, kfs, kft, kfu, kfv, kfw, kfx, kfy, Nat.reduceAdd, Nat.reduceLeDiff, Nat.reduceLT, Nat.reduceMul, Nat.reduceSub, kfz, kga, kgb, kgc, kgd, kge, kgf, kgg, kgh, kgi, kgj, kgk, kgl, kgm, kgn, kgo, kgp, kgq, kgr, kgs, kgt, kgu, kgv, kgw, kgx, kgy, kgz, kha, khb, khc, khd, hlt]
    have hbl : l[pos]? = some l[pos] := by simp [hlt]
    have hlow := hl l[pos] (List.getElem_mem _)
    have hdrop : l.drop pos = l[pos] :: l.drop (pos + 1) := List.drop_eq_getElem_cons hlt
    rw [hdrop] at k4
    rw [decode_low hbl hlow]
    have hA : a / W64 < W64 := Nat.div_lt_of_lt_mul k3
    have hB : a % W64 < W64 := Nat.mod_lt _ (by decide)
    have hbW : base < W64 := by simp only [W64]; omega
    simp (disch := omega) only [kaa, kab, kac, kad, khm, khn, kho, khp, khq, khr, kae, kaf, kag, kah, kai, kaj, kak, kal, kam, kan, kao, khe, khf, khg, khh, khi, khj, khk, khl, kap, kaq, kar, kas, kat, kau, kav, kaw, kax, kay, kaz, kba, kbb, kbc, kbd, kbe, kbf, kbg, kbh, kbi, kbj, kbk, kbl, kbm, kbn, kbo, kbp, kbq, kbr, kbs, kbt, kbu, kbv, kbw, kbx, kby, kbz, kca, kcb, kcc, kcd, kce, kcf, kcg, kch, kci, kcj, kck, kcl, kcm, aop, kcn, kco, kcp, kcq, kcr, kcs, kct, kcu, kcv, kcw, resultsL, resultOf, kcx, Nat.reduceEqDiff, kcy, kcz, kda, reduceCtorEq, kdb, kdc, kdd, kde, kdf, kdg, kdh, kdi, kdj, kdk, kdl, kdm, kdn, kdo, eq1, kdp, kdq, kdr, kds, kdt, kdu, kdv, kdw, kdx, kdy, kdz, kea, keb, kec, apartOK, apart2, AObj.live, ked, kee, kef, keg, keh, kei, kej, kek, kel, Int.reduceEq, Int.reduceLT, Int.reduceLE, Int.reduceAdd, Int.reduceSub, Int.reduceMul, Int.reduceToNat, kem, ken, keo, kep, keq, ker, kes, ket, keu, kev, kew, kex, key, kez, kfa, kfb, kfc, kfd, kfe, kff, kfg, kfh, kfi, kfj, kfk, kfl, cutCells, kfm, kfn, kfo, kfp, kfq, kfr, kfs, kft, kfu, kfv, kfw, kfx, kfy, Nat.reduceAdd, Nat.reduceLeDiff, Nat.reduceLT, Nat.reduceMul, Nat.reduceSub, kfz, kga, kgb, kgc, kgd, kge, kgf, kgg, kgh, kgi, kgj, kgk, kgl, kgm, kgn, kgo, kgp, kgq, kgr, kgs, kgt, kgu, kgv, kgw, kgx, kgy, kgz, kha, khb, khc, khd]
    (repeat ((first | refine digit_s ?_); try simp (disch := omega) only [kaa, kab, kac, kad, khm, khn, kho, khp, khq, khr, kae, kaf, kag, kah, kai, kaj, kak, kal, kam, kan, kao, khe, khf, khg, khh, khi, khj, khk, khl, kap, kaq, kar, kas, kat, kau, kav, kaw, kax, kay, kaz, kba, kbb, kbc, kbd, kbe, kbf, kbg, kbh, kbi, kbj, kbk, kbl, kbm, kbn, kbo, kbp, kbq, kbr, kbs, kbt, kbu, kbv, kbw, kbx, kby, kbz, kca, kcb, kcc, kcd, kce, kcf, kcg, kch, kci, kcj, kck, kcl, kcm, aop, kcn, kco, kcp, kcq, kcr, kcs, kct, kcu, kcv, kcw, resultsL, resultOf, kcx, Nat.reduceEqDiff, kcy, kcz, kda, reduceCtorEq, kdb, kdc, kdd, kde, kdf, kdg, kdh, kdi, kdj, kdk, kdl, kdm, kdn, kdo, eq1, kdp, kdq, kdr, kds, kdt, kdu, kdv, kdw, kdx, kdy, kdz, kea, keb, kec, apartOK, apart2, AObj.live, ked, kee, kef, keg, keh, kei, kej, kek, kel, Int.reduceEq, Int.reduceLT, Int.reduceLE, Int.reduceAdd, Int.reduceSub, Int.reduceMul, Int.reduceToNat, kem, ken, keo, kep, keq, ker, kes, ket, keu, kev, kew, kex, key, kez, kfa, kfb, kfc, kfd, kfe, kff, kfg, kfh, kfi, kfj, kfk, kfl, cutCells, kfm, kfn, kfo, kfp, kfq, kfr, kfs, kft, kfu, kfv, kfw, kfx, kfy, Nat.reduceAdd, Nat.reduceLeDiff, Nat.reduceLT, Nat.reduceMul, Nat.reduceSub, kfz, kga, kgb, kgc, kgd, kge, kgf, kgg, kgh, kgi, kgj, kgk, kgl, kgm, kgn, kgo, kgp, kgq, kgr, kgs, kgt, kgu, kgv, kgw, kgx, kgy, kgz, kha, khb, khc, khd]))
    by_cases hd : digV l[pos] < base
    · have ar := num_arith hA hB hb hd
      rw [Nat.div_add_mod' a W64] at ar
      have hq : a / W64 * base ≤ 18446744073709551615 * 16 := Nat.mul_le_mul (by simp only [W64] at hA ⊢; omega) (by omega)
      have hq2 : a % W64 * base ≤ 18446744073709551615 * 16 := Nat.mul_le_mul (by simp only [W64] at hB ⊢; omega) (by omega)
      simp (disch := omega) only [kaa, kab, kac, kad, khm, khn, kho, khp, khq, khr, kae, kaf, kag, kah, kai, kaj, kak, kal, kam, kan, kao, khe, khf, khg, khh, khi, khj, khk, khl, kap, kaq, kar, kas, kat, kau, kav, kaw, kax, kay, kaz, kba, kbb, kbc, kbd, kbe, kbf, kbg, kbh, kbi, kbj, kbk, kbl, kbm, kbn, kbo, kbp, kbq, kbr, kbs, kbt, kbu, kbv, kbw, kbx, kby, kbz, kca, kcb, kcc, kcd, kce, kcf, kcg, kch, kci, kcj, kck, kcl, kcm, aop, kcn, kco, kcp, kcq, kcr, kcs, kct, kcu, kcv, kcw, resultsL, resultOf, kcx, Nat.reduceEqDiff, kcy, kcz, kda, reduceCtorEq, kdb, kdc, kdd, kde, kdf, kdg, kdh, kdi, kdj, kdk, kdl, kdm, kdn, kdo, eq1, kdp, kdq, kdr, kds, kdt, kdu, kdv, kdw, kdx, kdy, kdz, kea, keb, kec, apartOK, apart2, AObj.live, ked, kee, kef, keg, keh, kei, kej, kek, kel, Int.reduceEq, Int.reduceLT, Int.reduceLE, Int.reduceAdd, Int.reduceSub, Int.reduceMul, Int.reduceToNat, kem, ken, keo, kep, keq, ker, kes, ket, keu, kev, kew, kex, key, kez, kfa, kfb, kfc, kfd, kfe, kff, kfg, kfh, kfi, kfj, kfk, kfl, cutCells, kfm, kfn, kfo, kfp, kfq, kfr, kfs, kft, kfu, kfv, kfw, kfx, kfy, Nat.reduceAdd, Nat.reduceLeDiff, Nat.reduceLT, Nat.reduceMul, Nat.reduceSub, kfz, kga, kgb, kgc, kgd, kge, kgf, kgg, kgh, kgi, kgj, kgk, kgl, kgm, kgn, kgo, kgp, kgq, kgr, kgs, kgt, kgu, kgv, kgw, kgx, kgy, kgz, kha, khb, khc, khd, hd, bitsL, hdrop]
      (repeat ((first | refine mul64_s hA hbW ?_ | refine mul64_s hB hbW ?_ | refine add64_s0 ?_ | refine add64_s (by omega) ?_); try simp (disch := omega) only [kaa, kab, kac, kad, khm, khn, kho, khp, khq, khr, kae, kaf, kag, kah, kai, kaj, kak, kal, kam, kan, kao, khe, khf, khg, khh, khi, khj, khk, khl, kap, kaq, kar, kas, kat, kau, kav, kaw, kax, kay, kaz, kba, kbb, kbc, kbd, kbe, kbf, kbg, kbh, kbi, kbj, kbk, kbl, kbm, kbn, kbo, kbp, kbq, kbr, kbs, kbt, kbu, kbv, kbw, kbx, kby, kbz, kca, kcb, kcc, kcd, kce, kcf, kcg, kch, kci, kcj, kck, kcl, kcm, aop, kcn, kco, kcp, kcq, kcr, kcs, kct, kcu, kcv, kcw, resultsL, resultOf, kcx, Nat.reduceEqDiff, kcy, kcz, kda, reduceCtorEq, kdb, kdc, kdd, kde, kdf, kdg, kdh, kdi, kdj, kdk, kdl, kdm, kdn, kdo, eq1, kdp, kdq, kdr, kds, kdt, kdu, kdv, kdw, kdx, kdy, kdz, kea, keb, kec, apartOK, apart2, AObj.live, ked, kee, kef, keg, keh, kei, kej, kek, kel, Int.reduceEq, Int.reduceLT, Int.reduceLE, Int.reduceAdd, Int.reduceSub, Int.reduceMul, Int.reduceToNat, kem, ken, keo, kep, keq, ker, kes, ket, keu, kev, kew, kex, key, kez, kfa, kfb, kfc, kfd, kfe, kff, kfg, kfh, kfi, kfj, kfk, kfl, cutCells, kfm, kfn, kfo, kfp, kfq, kfr, kfs, kft, kfu, kfv, kfw, kfx, kfy, Nat.reduceAdd, Nat.reduceLeDiff, Nat.reduceLT, Nat.reduceMul, Nat.reduceSub, kfz, kga, kgb, kgc, kgd, kge, kgf, kgg, kgh, kgi, kgj, kgk, kgl, kgm, kgn, kgo, kgp, kgq, kgr, kgs, kgt, kgu, kgv, kgw, kgx, kgy, kgz, kha, khb, khc, khd]))
      by_cases hx : (0 : Int) < ((a / W64 * base / 18446744073709551616 : Nat) : Int) <;> simp (disch := omega) only [kaa, kab, kac, kad, khm, khn, kho, khp, khq, khr, kae, kaf, kag, kah, kai, kaj, kak, kal, kam, kan, kao, khe, khf, khg, khh, khi, khj, khk, khl, kap, kaq, kar, kas, kat, kau, kav, kaw, kax, kay, kaz, kba, kbb, kbc, kbd, kbe, kbf, kbg, kbh, kbi, kbj, kbk, kbl, kbm, kbn, kbo, kbp, kbq, kbr, kbs, kbt, kbu, kbv, kbw, kbx, kby, kbz, kca, kcb, kcc, kcd, kce, kcf, kcg, kch, kci, kcj, kck, kcl, kcm, aop, kcn, kco, kcp, kcq, kcr, kcs, kct, kcu, kcv, kcw, resultsL, resultOf, kcx, Nat.reduceEqDiff, kcy, kcz, kda, reduceCtorEq, kdb, kdc, kdd, kde, kdf, kdg, kdh, kdi, kdj, kdk, kdl, kdm, kdn, kdo, eq1, kdp, kdq, kdr, kds, kdt, kdu, kdv, kdw, kdx, kdy, kdz, kea, keb, kec, apartOK, apart2, AObj.live, ked, kee, kef, keg, keh, kei, kej, kek, kel, Int.reduceEq, Int.reduceLT, Int.reduceLE, Int.reduceAdd, Int.reduceSub, Int.reduceMul, Int.reduceToNat, kem, ken, keo, kep, keq, ker, kes, ket, keu, kev, kew, kex, key, kez, kfa, kfb, kfc, kfd, kfe, kff, kfg, kfh, kfi, kfj, kfk, kfl, cutCells, kfm, kfn, kfo, kfp, kfq, kfr, kfs, kft, kfu, kfv, kfw, kfx, kfy, Nat.reduceAdd, Nat.reduceLeDiff, Nat.reduceLT, Nat.reduceMul, Nat.reduceSub, kfz, kga, kgb, kgc, kgd, kge, kgf, kgg, kgh, kgi, kgj, kgk, kgl, kgm, kgn, kgo, kgp, kgq, kgr, kgs, kgt, kgu, kgv, kgw, kgx, kgy, kgz, kha, khb, khc, khd, hx]
      · have hno : ¬ (a * base + digV l[pos] < W64 * W64) := fun hh => ar.1.2 hh (.inl (Int.natCast_pos.1 hx))
        exact h2 (by rw [k4]; simp only [numFold]; rw [if_neg (fun hh => hno hh.2)]) _ _ _ (by exact ex_env rfl)
      · have hx' : ¬ (0 < a / W64 * base / W64) := fun q => hx (Int.natCast_pos.2 q)
        refine wb_dec (fun hy => ?_) (fun hy => ?_) <;> simp (disch := omega) only [kaa, kab, kac, kad, khm, khn, kho, khp, khq, khr, kae, kaf, kag, kah, kai, kaj, kak, kal, kam, kan, kao, khe, khf, khg, khh, khi, khj, khk, khl, kap, kaq, kar, kas, kat, kau, kav, kaw, kax, kay, kaz, kba, kbb, kbc, kbd, kbe, kbf, kbg, kbh, kbi, kbj, kbk, kbl, kbm, kbn, kbo, kbp, kbq, kbr, kbs, kbt, kbu, kbv, kbw, kbx, kby, kbz, kca, kcb, kcc, kcd, kce, kcf, kcg, kch, kci, kcj, kck, kcl, kcm, aop, kcn, kco, kcp, kcq, kcr, kcs, kct, kcu, kcv, kcw, resultsL, resultOf, kcx, Nat.reduceEqDiff, kcy, kcz, kda, reduceCtorEq, kdb, kdc, kdd, kde, kdf, kdg, kdh, kdi, kdj, kdk, kdl, kdm, kdn, kdo, eq1, kdp, kdq, kdr, kds, kdt, kdu, kdv, kdw, kdx, kdy, kdz, kea, keb, kec, apartOK, apart2, AObj.live, ked, kee, kef, keg, keh, kei, kej, kek, kel, Int.reduceEq, Int.reduceLT, Int.reduceLE, Int.reduceAdd, Int.reduceSub, Int.reduceMul, Int.reduceToNat, kem, ken, keo, kep, keq, ker, kes, ket, keu, kev, kew, kex, key, kez, kfa, kfb, kfc, kfd, kfe, kff, kfg, kfh, kfi, kfj, kfk, kfl, cutCells, kfm, kfn, kfo, kfp, kfq, kfr, kfs, kft, kfu, kfv, kfw, kfx, kfy, Nat.reduceAdd, Nat.reduceLeDiff, Nat.reduceLT, Nat.reduceMul, Nat.reduceSub, kfz, kga, kgb, kgc, kgd, kge, kgf, kgg, kgh, kgi, kgj, kgk, kgl, kgm, kgn, kgo, kgp, kgq, kgr, kgs, kgt, kgu, kgv, kgw, kgx, kgy, kgz, kha, khb, khc, khd]
        · have hno : ¬ (a * base + digV l[pos] < W64 * W64) := fun hh => ar.1.2 hh (.inr (Int.natCast_pos.1 hy))
          exact h2 (by rw [k4]; simp only [numFold]; rw [if_neg (fun hh => hno hh.2)]) _ _ _ (by exact ex_env rfl)
        · have hy' : ¬ (0 < (a / W64 * base % W64 + a % W64 * base / W64 + (a % W64 * base % W64 + digV l[pos]) / W64) / W64) := fun q => hy (Int.natCast_pos.2 q)
          have hlt2 := ar.1.1 (fun hh => hh.elim hx' hy')
          obtain ⟨q1, q2⟩ := ar.2 hlt2
          refine ⟨l.length - (pos + 1), by omega, pos + 1, a * base + digV l[pos], by omega, rfl, hlt2, ?_, ?_, (ex_env rfl)⟩
          · rw [k4]
            simp only [numFold]
            rw [if_pos ⟨hd, hlt2⟩]
          · simp only [bitsL, ← q1, ← q2]
    · simp (disch := omega) only [kaa, kab, kac, kad, khm, khn, kho, khp, khq, khr, kae, kaf, kag, kah, kai, kaj, kak, kal, kam, kan, kao, khe, khf, khg, khh, khi, khj, khk, khl, kap, kaq, kar, kas, kat, kau, kav, kaw, kax, kay, kaz, kba, kbb, kbc, kbd, kbe, kbf, kbg, kbh, kbi, kbj, kbk, kbl, kbm, kbn, kbo, kbp, kbq, kbr, kbs, kbt, kbu, kbv, kbw, kbx, kby, kbz, kca, kcb, kcc, kcd, kce, kcf, kcg, kch, kci, kcj, kck, kcl, kcm, aop, kcn, kco, kcp, kcq, kcr, kcs, kct, kcu, kcv, kcw, resultsL, resultOf, kcx, Nat.reduceEqDiff, kcy, kcz, kda, reduceCtorEq, kdb, kdc, kdd, kde, kdf, kdg, kdh, kdi, kdj, kdk, kdl, kdm, kdn, kdo, eq1, kdp, kdq, kdr, kds, kdt, kdu, kdv, kdw, kdx, kdy, kdz, kea, keb, kec, apartOK, apart2, AObj.live, ked, kee, kef, keg, keh, kei, kej, kek, kel, Int.reduceEq, Int.reduceLT, Int.reduceLE, Int.reduceAdd, Int.reduceSub, Int.reduceMul, Int.reduceToNat, kem, ken, keo, kep, keq, ker, kes, ket, keu, kev, kew, kex, key, kez, kfa, kfb, kfc, kfd, kfe, kff, kfg, kfh, kfi, kfj, kfk, kfl, cutCells, kfm, kfn, kfo, kfp, kfq, kfr, kfs, kft, kfu, kfv, kfw, kfx, kfy, Nat.reduceAdd, Nat.reduceLeDiff, Nat.reduceLT, Nat.reduceMul, Nat.reduceSub, kfz, kga, kgb, kgc, kgd, kge, kgf, kgg, kgh, kgi, kgj, kgk, kgl, kgm, kgn, kgo, kgp, kgq, kgr, kgs, kgt, kgu, kgv, kgw, kgx, kgy, kgz, kha, khb, khc, khd, hd]
      exact h2 (by rw [k4]; simp only [numFold]; rw [if_neg (fun hh => hd hh.1)]) _ _ _ (by exact ex_env rfl)
  · simp (disch := omega) only [kaa, kab, kac, kad, khm, khn, kho, khp, khq, khr, kae, kaf, kag, kah, kai, kaj, kak, kal, kam, kan, kao, khe, khf, khg, khh, khi, khj, khk, khl, kap, kaq, kar, kas, kat, kau, kav, kaw, kax, kay, kaz, kba, kbb, kbc, kbd, kbe, kbf, kbg, kbh, kbi, kbj, kbk, kbl, kbm, kbn, kbo, kbp, kbq, kbr, kbs, kbt, kbu, kbv, kbw, kbx, kby, kbz, kca, kcb, kcc, kcd, kce, kcf, kcg, kch, kci, kcj, kck, kcl, kcm, aop, kcn, kco, kcp, kcq, kcr, kcs, kct, kcu, kcv, kcw, resultsL, resultOf, kcx, Nat.reduceEqDiff, kcy, kcz, kda, reduceCtorEq, kdb, kdc, kdd, kde, kdf, kdg, kdh, kdi, kdj, kdk, kdl, kdm, kdn, kdo, eq1, kdp, kdq, kdr, kds, kdt, kdu, kdv, kdw, kdx, kdy, kdz, kea, keb, kec, apartOK, apart2, AObj.live, ked, kee, kef, keg, keh, kei, kej, kek, kel, Int.reduceEq, Int.reduceLT, Int.reduceLE, Int.reduceAdd, Int.reduceSub, Int.reduceMul, Int.reduceToNat, kem, ken, keo, kep, keq, ker, kes, ket, keu, kev, kew, kex, key, kez, kfa, kfb, kfc, kfd, kfe, kff, kfg, kfh, kfi, kfj, kfk, kfl, cutCells, kfm, kfn, kfo, kfp, kfq, kfr, kfs, kft, kfu, kfv, kfw, kfx, kfy, Nat.reduceAdd, Nat.reduceLeDiff, Nat.reduceLT, Nat.reduceMul, Nat.reduceSub, kfz, kga, kgb, kgc, kgd, kge, kgf, kgg, kgh, kgi, kgj, kgk, kgl, kgm, kgn, kgo, kgp, kgq, kgr, kgs, kgt, kgu, kgv, kgw, kgx, kgy, kgz, kha, khb, khc, khd, hlt]
    obtain rfl : pos = l.length := by omega
    rw [List.drop_length] at k4
    exact h1 a (by rw [k4]; rfl) _ (by exact ex_env rfl)

/-- What a number's text says. -/
def numV (l : List UInt8) : Option Nat :=
  if [48, 120].isPrefixOf l then (if l.length = 2 then none else numFold 16 0 (l.drop 2))
  else if [48, 98].isPrefixOf l then (if l.length = 2 then none else numFold 2 0 (l.drop 2))
  else if 1 < l.length ∧ l.head? = some 48 then none
  else if l = [] then none else numFold 10 0 l

def numR (o : Option Nat) : Value := .tuple #[.agg (bitsL (o.getD 0)).toArray, .bool o.isSome]

theorem number_s {l : List UInt8} (hl : ∀ b ∈ l, b.toNat < 128) (hlen : l.length ≤ 4611686018427387904) (h : R (.ret (numR (numV l))) H) : WD T 41 [.string (bs l)] H R := by
  refine WD.gc0 (WD.of follows t41 (by simp) ?_)
  simp (disch := omega) only [kaa, kab, kac, kad, khm, khn, kho, khp, khq, khr, kae, kaf, kag, kah, kai, kaj, kak, kal, kam, kan, kao, khe, khf, khg, khh, khi, khj, khk, khl, kap, kaq, kar, kas, kat, kau, kav, kaw, kax, kay, kaz, kba, kbb, kbc, kbd, kbe, kbf, kbg, kbh, kbi, kbj, kbk, kbl, kbm, kbn, kbo, kbp, kbq, kbr, kbs, kbt, kbu, kbv, kbw, kbx, kby, kbz, kca, kcb, kcc, kcd, kce, kcf, kcg, kch, kci, kcj, kck, kcl, kcm, aop, kcn, kco, kcp, kcq, kcr, kcs, kct, kcu, kcv, kcw, resultsL, resultOf, kcx, Nat.reduceEqDiff, kcy, kcz, kda, reduceCtorEq, kdb, kdc, kdd, kde, kdf, kdg, kdh, kdi, kdj, kdk, kdl, kdm, kdn, kdo, eq1, kdp, kdq, kdr, kds, kdt, kdu, kdv, kdw, kdx, kdy, kdz, kea, keb, kec, apartOK, apart2, AObj.live, ked, kee, kef, keg, keh, kei, kej, kek, kel, Int.reduceEq, Int.reduceLT, Int.reduceLE, Int.reduceAdd, Int.reduceSub, Int.reduceMul, Int.reduceToNat, kem, ken, keo, kep, keq, ker, kes, ket, keu, kev, kew, kex, key, kez, kfa, kfb, kfc, kfd, kfe, kff, kfg, kfh, kfi, kfj, kfk, kfl, cutCells, kfm, kfn, kfo, kfp, kfq, kfr, kfs, kft, kfu, kfv, kfw, kfx, kfy, Nat.reduceAdd, Nat.reduceLeDiff, Nat.reduceLT, Nat.reduceMul, Nat.reduceSub, kfz, kga, kgb, kgc, kgd, kge, kgf, kgg, kgh, kgi, kgj, kgk, kgl, kgm, kgn, kgo, kgp, kgq, kgr, kgs, kgt, kgu, kgv, kgw, kgx, kgy, kgz, kha, khb, khc, khd]
  (repeat ((first | refine hasPrefix_s (p := [48, 120]) hlen (by decide) ?_); try simp (disch := omega) only [kaa, kab, kac, kad, khm, khn, kho, khp, khq, khr, kae, kaf, kag, kah, kai, kaj, kak, kal, kam, kan, kao, khe, khf, khg, khh, khi, khj, khk, khl, kap, kaq, kar, kas, kat, kau, kav, kaw, kax, kay, kaz, kba, kbb, kbc, kbd, kbe, kbf, kbg, kbh, kbi, kbj, kbk, kbl, kbm, kbn, kbo, kbp, kbq, kbr, kbs, kbt, kbu, kbv, kbw, kbx, kby, kbz, kca, kcb, kcc, kcd, kce, kcf, kcg, kch, kci, kcj, kck, kcl, kcm, aop, kcn, kco, kcp, kcq, kcr, kcs, kct, kcu, kcv, kcw, resultsL, resultOf, kcx, Nat.reduceEqDiff, kcy, kcz, kda, reduceCtorEq, kdb, kdc, kdd, kde, kdf, kdg, kdh, kdi, kdj, kdk, kdl, kdm, kdn, kdo, eq1, kdp, kdq, kdr, kds, kdt, kdu, kdv, kdw, kdx, kdy, kdz, kea, keb, kec, apartOK, apart2, AObj.live, ked, kee, kef, keg, keh, kei, kej, kek, kel, Int.reduceEq, Int.reduceLT, Int.reduceLE, Int.reduceAdd, Int.reduceSub, Int.reduceMul, Int.reduceToNat, kem, ken, keo, kep, keq, ker, kes, ket, keu, kev, kew, kex, key, kez, kfa, kfb, kfc, kfd, kfe, kff, kfg, kfh, kfi, kfj, kfk, kfl, cutCells, kfm, kfn, kfo, kfp, kfq, kfr, kfs, kft, kfu, kfv, kfw, kfx, kfy, Nat.reduceAdd, Nat.reduceLeDiff, Nat.reduceLT, Nat.reduceMul, Nat.reduceSub, kfz, kga, kgb, kgc, kgd, kge, kgf, kgg, kgh, kgi, kgj, kgk, kgl, kgm, kgn, kgo, kgp, kgq, kgr, kgs, kgt, kgu, kgv, kgw, kgx, kgy, kgz, kha, khb, khc, khd]))
  have pre : ∀ p : List UInt8, p.length = 2 → p.isPrefixOf l = true → 2 ≤ l.length := fun p hp h => by
    have := (List.isPrefixOf_iff_prefix.1 h).length_le
    omega
  have asc : ∀ b ∈ l.drop 2, b.toNat < 128 := fun b hb => hl b (List.mem_of_mem_drop hb)
  have dnil : ∀ h2 : 2 ≤ l.length, (l.drop 2 = []) ↔ l.length = 2 := fun h2 => by rw [List.drop_eq_nil_iff]; omega
  have fin0 : ∀ (base : Nat) (m : List UInt8) v (P : Prop) [Decidable P], (m = [] ↔ P) → numFold base 0 m = some v → R (.ret (numR (if P then none else some v))) H →
      R (.ret (.tuple #[.agg #[.int .u64 ((v / W64 : Nat) : Int), .int .u64 ((v % W64 : Nat) : Int)], .bool !(decide (m = []))])) H := by
    intro base m v P _ hP hv h
    by_cases hm : m = []
    · rw [if_pos (hP.1 hm)] at h
      subst hm
      simp only [numFold, Option.some.injEq] at hv
      subst hv
      exact h
    · rw [if_neg (fun q => hm (hP.2 q))] at h
      rw [decide_eq_false hm]
      exact h
  by_cases hx : [48, 120].isPrefixOf l = true
  · have h2 := pre _ rfl hx
    simp only [numV, hx, if_true] at h
    simp (disch := omega) only [kaa, kab, kac, kad, khm, khn, kho, khp, khq, khr, kae, kaf, kag, kah, kai, kaj, kak, kal, kam, kan, kao, khe, khf, khg, khh, khi, khj, khk, khl, kap, kaq, kar, kas, kat, kau, kav, kaw, kax, kay, kaz, kba, kbb, kbc, kbd, kbe, kbf, kbg, kbh, kbi, kbj, kbk, kbl, kbm, kbn, kbo, kbp, kbq, kbr, kbs, kbt, kbu, kbv, kbw, kbx, kby, kbz, kca, kcb, kcc, kcd, kce, kcf, kcg, kch, kci, kcj, kck, kcl, kcm, aop, kcn, kco, kcp, kcq, kcr, kcs, kct, kcu, kcv, kcw, resultsL, resultOf, kcx, Nat.reduceEqDiff, kcy, kcz, kda, reduceCtorEq, kdb, kdc, kdd, kde, kdf, kdg, kdh, kdi, kdj, kdk, kdl, kdm, kdn, kdo, eq1, kdp, kdq, kdr, kds, kdt, kdu, kdv, kdw, kdx, kdy, kdz, kea, keb, kec, apartOK, apart2, AObj.live, ked, kee, kef, keg, keh, kei, kej, kek, kel, Int.reduceEq, Int.reduceLT, Int.reduceLE, Int.reduceAdd, Int.reduceSub, Int.reduceMul, Int.reduceToNat, kem, ken, keo, kep, keq, ker, kes, ket, keu, kev, kew, kex, key, kez, kfa, kfb, kfc, kfd, kfe, kff, kfg, kfh, kfi, kfj, kfk, kfl, cutCells, kfm, kfn, kfo, kfp, kfq, kfr, kfs, kft, kfu, kfv, kfw, kfx, kfy, Nat.reduceAdd, Nat.reduceLeDiff, Nat.reduceLT, Nat.reduceMul, Nat.reduceSub, kfz, kga, kgb, kgc, kgd, kge, kgf, kgg, kgh, kgi, kgj, kgk, kgl, kgm, kgn, kgo, kgp, kgq, kgr, kgs, kgt, kgu, kgv, kgw, kgx, kgy, kgz, kha, khb, khc, khd, hx]
    refine num_loop asc (by omega : 16 < 17) (fun v hv e he => ?_) (fun hv e o p he => ?_) ⟨0, 0, Nat.zero_le _, rfl, by decide, rfl, rfl, ex_env rfl⟩
    · obtain ⟨x, rfl⟩ := he
      simp (disch := omega) only [kaa, kab, kac, kad, khm, khn, kho, khp, khq, khr, kae, kaf, kag, kah, kai, kaj, kak, kal, kam, kan, kao, khe, khf, khg, khh, khi, khj, khk, khl, kap, kaq, kar, kas, kat, kau, kav, kaw, kax, kay, kaz, kba, kbb, kbc, kbd, kbe, kbf, kbg, kbh, kbi, kbj, kbk, kbl, kbm, kbn, kbo, kbp, kbq, kbr, kbs, kbt, kbu, kbv, kbw, kbx, kby, kbz, kca, kcb, kcc, kcd, kce, kcf, kcg, kch, kci, kcj, kck, kcl, kcm, aop, kcn, kco, kcp, kcq, kcr, kcs, kct, kcu, kcv, kcw, resultsL, resultOf, kcx, Nat.reduceEqDiff, kcy, kcz, kda, reduceCtorEq, kdb, kdc, kdd, kde, kdf, kdg, kdh, kdi, kdj, kdk, kdl, kdm, kdn, kdo, eq1, kdp, kdq, kdr, kds, kdt, kdu, kdv, kdw, kdx, kdy, kdz, kea, keb, kec, apartOK, apart2, AObj.live, ked, kee, kef, keg, keh, kei, kej, kek, kel, Int.reduceEq, Int.reduceLT, Int.reduceLE, Int.reduceAdd, Int.reduceSub, Int.reduceMul, Int.reduceToNat, kem, ken, keo, kep, keq, ker, kes, ket, keu, kev, kew, kex, key, kez, kfa, kfb, kfc, kfd, kfe, kff, kfg, kfh, kfi, kfj, kfk, kfl, cutCells, kfm, kfn, kfo, kfp, kfq, kfr, kfs, kft, kfu, kfv, kfw, kfx, kfy, Nat.reduceAdd, Nat.reduceLeDiff, Nat.reduceLT, Nat.reduceMul, Nat.reduceSub, kfz, kga, kgb, kgc, kgd, kge, kgf, kgg, kgh, kgi, kgj, kgk, kgl, kgm, kgn, kgo, kgp, kgq, kgr, kgs, kgt, kgu, kgv, kgw, kgx, kgy, kgz, kha, khb, khc, khd, bitsL]
      refine ⟨_, rfl, ⟨_, rfl⟩, .tup2 (.closed rfl) (.closed rfl), ?_⟩
      rw [hv] at h
      exact fin0 16 _ v _ (dnil h2) hv h
    · obtain ⟨x, rfl⟩ := he
      simp (disch := omega) only [kaa, kab, kac, kad, khm, khn, kho, khp, khq, khr, kae, kaf, kag, kah, kai, kaj, kak, kal, kam, kan, kao, khe, khf, khg, khh, khi, khj, khk, khl, kap, kaq, kar, kas, kat, kau, kav, kaw, kax, kay, kaz, kba, kbb, kbc, kbd, kbe, kbf, kbg, kbh, kbi, kbj, kbk, kbl, kbm, kbn, kbo, kbp, kbq, kbr, kbs, kbt, kbu, kbv, kbw, kbx, kby, kbz, kca, kcb, kcc, kcd, kce, kcf, kcg, kch, kci, kcj, kck, kcl, kcm, aop, kcn, kco, kcp, kcq, kcr, kcs, kct, kcu, kcv, kcw, resultsL, resultOf, kcx, Nat.reduceEqDiff, kcy, kcz, kda, reduceCtorEq, kdb, kdc, kdd, kde, kdf, kdg, kdh, kdi, kdj, kdk, kdl, kdm, kdn, kdo, eq1, kdp, kdq, kdr, kds, kdt, kdu, kdv, kdw, kdx, kdy, kdz, kea, keb, kec, apartOK, apart2, AObj.live, ked, kee, kef, keg, keh, kei, kej, kek, kel, Int.reduceEq, Int.reduceLT, Int.reduceLE, Int.reduceAdd, Int.reduceSub, Int.reduceMul, Int.reduceToNat, kem, ken, keo, kep, keq, ker, kes, ket, keu, kev, kew, kex, key, kez, kfa, kfb, kfc, kfd, kfe, kff, kfg, kfh, kfi, kfj, kfk, kfl, cutCells, kfm, kfn, kfo, kfp, kfq, kfr, kfs, kft, kfu, kfv, kfw, kfx, kfy, Nat.reduceAdd, Nat.reduceLeDiff, Nat.reduceLT, Nat.reduceMul, Nat.reduceSub, kfz, kga, kgb, kgc, kgd, kge, kgf, kgg, kgh, kgi, kgj, kgk, kgl, kgm, kgn, kgo, kgp, kgq, kgr, kgs, kgt, kgu, kgv, kgw, kgx, kgy, kgz, kha, khb, khc, khd]
      refine ⟨_, rfl, ⟨_, rfl⟩, .tup2 (.closed rfl) (.closed rfl), ?_⟩
      simp only [hv, ite_self] at h
      exact h
  · simp (disch := omega) only [kaa, kab, kac, kad, khm, khn, kho, khp, khq, khr, kae, kaf, kag, kah, kai, kaj, kak, kal, kam, kan, kao, khe, khf, khg, khh, khi, khj, khk, khl, kap, kaq, kar, kas, kat, kau, kav, kaw, kax, kay, kaz, kba, kbb, kbc, kbd, kbe, kbf, kbg, kbh, kbi, kbj, kbk, kbl, kbm, kbn, kbo, kbp, kbq, kbr, kbs, kbt, kbu, kbv, kbw, kbx, kby, kbz, kca, kcb, kcc, kcd, kce, kcf, kcg, kch, kci, kcj, kck, kcl, kcm, aop, kcn, kco, kcp, kcq, kcr, kcs, kct, kcu, kcv, kcw, resultsL, resultOf, kcx, Nat.reduceEqDiff, kcy, kcz, kda, reduceCtorEq, kdb, kdc, kdd, kde, kdf, kdg, kdh, kdi, kdj, kdk, kdl, kdm, kdn, kdo, eq1, kdp, kdq, kdr, kds, kdt, kdu, kdv, kdw, kdx, kdy, kdz, kea, keb, kec, apartOK, apart2, AObj.live, ked, kee, kef, keg, keh, kei, kej, kek, kel, Int.reduceEq, Int.reduceLT, Int.reduceLE, Int.reduceAdd, Int.reduceSub, Int.reduceMul, Int.reduceToNat, kem, ken, keo, kep, keq, ker, kes, ket, keu, kev, kew, kex, key, kez, kfa, kfb, kfc, kfd, kfe, kff, kfg, kfh, kfi, kfj, kfk, kfl, cutCells, kfm, kfn, kfo, kfp, kfq, kfr, kfs, kft, kfu, kfv, kfw, kfx, kfy, Nat.reduceAdd, Nat.reduceLeDiff, Nat.reduceLT, Nat.reduceMul, Nat.reduceSub, kfz, kga, kgb, kgc, kgd, kge, kgf, kgg, kgh, kgi, kgj, kgk, kgl, kgm, kgn, kgo, kgp, kgq, kgr, kgs, kgt, kgu, kgv, kgw, kgx, kgy, kgz, kha, khb, khc, khd, hx]
    (repeat ((first | refine hasPrefix_s (p := [48, 98]) hlen (by decide) ?_); try simp (disch := omega) only [kaa, kab, kac, kad, khm, khn, kho, khp, khq, khr, kae, kaf, kag, kah, kai, kaj, kak, kal, kam, kan, kao, khe, khf, khg, khh, khi, khj, khk, khl, kap, kaq, kar, kas, kat, kau, kav, kaw, kax, kay, kaz, kba, kbb, kbc, kbd, kbe, kbf, kbg, kbh, kbi, kbj, kbk, kbl, kbm, kbn, kbo, kbp, kbq, kbr, kbs, kbt, kbu, kbv, kbw, kbx, kby, kbz, kca, kcb, kcc, kcd, kce, kcf, kcg, kch, kci, kcj, kck, kcl, kcm, aop, kcn, kco, kcp, kcq, kcr, kcs, kct, kcu, kcv, kcw, resultsL, resultOf, kcx, Nat.reduceEqDiff, kcy, kcz, kda, reduceCtorEq, kdb, kdc, kdd, kde, kdf, kdg, kdh, kdi, kdj, kdk, kdl, kdm, kdn, kdo, eq1, kdp, kdq, kdr, kds, kdt, kdu, kdv, kdw, kdx, kdy, kdz, kea, keb, kec, apartOK, apart2, AObj.live, ked, kee, kef, keg, keh, kei, kej, kek, kel, Int.reduceEq, Int.reduceLT, Int.reduceLE, Int.reduceAdd, Int.reduceSub, Int.reduceMul, Int.reduceToNat, kem, ken, keo, kep, keq, ker, kes, ket, keu, kev, kew, kex, key, kez, kfa, kfb, kfc, kfd, kfe, kff, kfg, kfh, kfi, kfj, kfk, kfl, cutCells, kfm, kfn, kfo, kfp, kfq, kfr, kfs, kft, kfu, kfv, kfw, kfx, kfy, Nat.reduceAdd, Nat.reduceLeDiff, Nat.reduceLT, Nat.reduceMul, Nat.reduceSub, kfz, kga, kgb, kgc, kgd, kge, kgf, kgg, kgh, kgi, kgj, kgk, kgl, kgm, kgn, kgo, kgp, kgq, kgr, kgs, kgt, kgu, kgv, kgw, kgx, kgy, kgz, kha, khb, khc, khd]))
    by_cases hy : [48, 98].isPrefixOf l = true
    · have h2 := pre _ rfl hy
      simp only [numV, hx, hy, if_true, if_false, Bool.false_eq_true] at h
      simp (disch := omega) only [kaa, kab, kac, kad, khm, khn, kho, khp, khq, khr, kae, kaf, kag, kah, kai, kaj, kak, kal, kam, kan, kao, khe, khf, khg, khh, khi, khj, khk, khl, kap, kaq, kar, kas, kat, kau, kav, kaw, kax, kay, kaz, kba, kbb, kbc, kbd, kbe, kbf, kbg, kbh, kbi, kbj, kbk, kbl, kbm, kbn, kbo, kbp, kbq, kbr, kbs, kbt, kbu, kbv, kbw, kbx, kby, kbz, kca, kcb, kcc, kcd, kce, kcf, kcg, kch, kci, kcj, kck, kcl, kcm, aop, kcn, kco, kcp, kcq, kcr, kcs, kct, kcu, kcv, kcw, resultsL, resultOf, kcx, Nat.reduceEqDiff, kcy, kcz, kda, reduceCtorEq, kdb, kdc, kdd, kde, kdf, kdg, kdh, kdi, kdj, kdk, kdl, kdm, kdn, kdo, eq1, kdp, kdq, kdr, kds, kdt, kdu, kdv, kdw, kdx, kdy, kdz, kea, keb, kec, apartOK, apart2, AObj.live, ked, kee, kef, keg, keh, kei, kej, kek, kel, Int.reduceEq, Int.reduceLT, Int.reduceLE, Int.reduceAdd, Int.reduceSub, Int.reduceMul, Int.reduceToNat, kem, ken, keo, kep, keq, ker, kes, ket, keu, kev, kew, kex, key, kez, kfa, kfb, kfc, kfd, kfe, kff, kfg, kfh, kfi, kfj, kfk, kfl, cutCells, kfm, kfn, kfo, kfp, kfq, kfr, kfs, kft, kfu, kfv, kfw, kfx, kfy, Nat.reduceAdd, Nat.reduceLeDiff, Nat.reduceLT, Nat.reduceMul, Nat.reduceSub, kfz, kga, kgb, kgc, kgd, kge, kgf, kgg, kgh, kgi, kgj, kgk, kgl, kgm, kgn, kgo, kgp, kgq, kgr, kgs, kgt, kgu, kgv, kgw, kgx, kgy, kgz, kha, khb, khc, khd, hy]
      refine num_loop asc (by omega : 2 < 17) (fun v hv e he => ?_) (fun hv e o p he => ?_) ⟨0, 0, Nat.zero_le _, rfl, by decide, rfl, rfl, ex_env rfl⟩
      · obtain ⟨x, rfl⟩ := he
        simp (disch := omega) only [kaa, kab, kac, kad, khm, khn, kho, khp, khq, khr, kae, kaf, kag, kah, kai, kaj, kak, kal, kam, kan, kao, khe, khf, khg, khh, khi, khj, khk, khl, kap, kaq, kar, kas, kat, kau, kav, kaw, kax, kay, kaz, kba, kbb, kbc, kbd, kbe, kbf, kbg, kbh, kbi, kbj, kbk, kbl, kbm, kbn, kbo, kbp, kbq, kbr, kbs, kbt, kbu, kbv, kbw, kbx, kby, kbz, kca, kcb, kcc, kcd, kce, kcf, kcg, kch, kci, kcj, kck, kcl, kcm, aop, kcn, kco, kcp, kcq, kcr, kcs, kct, kcu, kcv, kcw, resultsL, resultOf, kcx, Nat.reduceEqDiff, kcy, kcz, kda, reduceCtorEq, kdb, kdc, kdd, kde, kdf, kdg, kdh, kdi, kdj, kdk, kdl, kdm, kdn, kdo, eq1, kdp, kdq, kdr, kds, kdt, kdu, kdv, kdw, kdx, kdy, kdz, kea, keb, kec, apartOK, apart2, AObj.live, ked, kee, kef, keg, keh, kei, kej, kek, kel, Int.reduceEq, Int.reduceLT, Int.reduceLE, Int.reduceAdd, Int.reduceSub, Int.reduceMul, Int.reduceToNat, kem, ken, keo, kep, keq, ker, kes, ket, keu, kev, kew, kex, key, kez, kfa, kfb, kfc, kfd, kfe, kff, kfg, kfh, kfi, kfj, kfk, kfl, cutCells, kfm, kfn, kfo, kfp, kfq, kfr, kfs, kft, kfu, kfv, kfw, kfx, kfy, Nat.reduceAdd, Nat.reduceLeDiff, Nat.reduceLT, Nat.reduceMul, Nat.reduceSub, kfz, kga, kgb, kgc, kgd, kge, kgf, kgg, kgh, kgi, kgj, kgk, kgl, kgm, kgn, kgo, kgp, kgq, kgr, kgs, kgt, kgu, kgv, kgw, kgx, kgy, kgz, kha, khb, khc, khd, bitsL]
        refine ⟨_, rfl, ⟨_, rfl⟩, .tup2 (.closed rfl) (.closed rfl), ?_⟩
        rw [hv] at h
        exact fin0 2 _ v _ (dnil h2) hv h
      · obtain ⟨x, rfl⟩ := he
        simp (disch := omega) only [kaa, kab, kac, kad, khm, khn, kho, khp, khq, khr, kae, kaf, kag, kah, kai, kaj, kak, kal, kam, kan, kao, khe, khf, khg, khh, khi, khj, khk, khl, kap, kaq, kar, kas, kat, kau, kav, kaw, kax, kay, kaz, kba, kbb, kbc, kbd, kbe, kbf, kbg, kbh, kbi, kbj, kbk, kbl, kbm, kbn, kbo, kbp, kbq, kbr, kbs, kbt, kbu, kbv, kbw, kbx, kby, kbz, kca, kcb, kcc, kcd, kce, kcf, kcg, kch, kci, kcj, kck, kcl, kcm, aop, kcn, kco, kcp, kcq, kcr, kcs, kct, kcu, kcv, kcw, resultsL, resultOf, kcx, Nat.reduceEqDiff, kcy, kcz, kda, reduceCtorEq, kdb, kdc, kdd, kde, kdf, kdg, kdh, kdi, kdj, kdk, kdl, kdm, kdn, kdo, eq1, kdp, kdq, kdr, kds, kdt, kdu, kdv, kdw, kdx, kdy, kdz, kea, keb, kec, apartOK, apart2, AObj.live, ked, kee, kef, keg, keh, kei, kej, kek, kel, Int.reduceEq, Int.reduceLT, Int.reduceLE, Int.reduceAdd, Int.reduceSub, Int.reduceMul, Int.reduceToNat, kem, ken, keo, kep, keq, ker, kes, ket, keu, kev, kew, kex, key, kez, kfa, kfb, kfc, kfd, kfe, kff, kfg, kfh, kfi, kfj, kfk, kfl, cutCells, kfm, kfn, kfo, kfp, kfq, kfr, kfs, kft, kfu, kfv, kfw, kfx, kfy, Nat.reduceAdd, Nat.reduceLeDiff, Nat.reduceLT, Nat.reduceMul, Nat.reduceSub, kfz, kga, kgb, kgc, kgd, kge, kgf, kgg, kgh, kgi, kgj, kgk, kgl, kgm, kgn, kgo, kgp, kgq, kgr, kgs, kgt, kgu, kgv, kgw, kgx, kgy, kgz, kha, khb, khc, khd]
        refine ⟨_, rfl, ⟨_, rfl⟩, .tup2 (.closed rfl) (.closed rfl), ?_⟩
        simp only [hv, ite_self] at h
        exact h
    · by_cases hz : 1 < l.length ∧ l.head? = some 48
      · have hz1 : (1 : Int) < l.length := by omega
        have hg : l[0]? = some 48 := by rw [← List.head?_eq_getElem?]; exact hz.2
        simp only [numV, hx, hy, hz, if_true, if_false, Bool.false_eq_true, and_self] at h
        simp (disch := omega) only [kaa, kab, kac, kad, khm, khn, kho, khp, khq, khr, kae, kaf, kag, kah, kai, kaj, kak, kal, kam, kan, kao, khe, khf, khg, khh, khi, khj, khk, khl, kap, kaq, kar, kas, kat, kau, kav, kaw, kax, kay, kaz, kba, kbb, kbc, kbd, kbe, kbf, kbg, kbh, kbi, kbj, kbk, kbl, kbm, kbn, kbo, kbp, kbq, kbr, kbs, kbt, kbu, kbv, kbw, kbx, kby, kbz, kca, kcb, kcc, kcd, kce, kcf, kcg, kch, kci, kcj, kck, kcl, kcm, aop, kcn, kco, kcp, kcq, kcr, kcs, kct, kcu, kcv, kcw, resultsL, resultOf, kcx, Nat.reduceEqDiff, kcy, kcz, kda, reduceCtorEq, kdb, kdc, kdd, kde, kdf, kdg, kdh, kdi, kdj, kdk, kdl, kdm, kdn, kdo, eq1, kdp, kdq, kdr, kds, kdt, kdu, kdv, kdw, kdx, kdy, kdz, kea, keb, kec, apartOK, apart2, AObj.live, ked, kee, kef, keg, keh, kei, kej, kek, kel, Int.reduceEq, Int.reduceLT, Int.reduceLE, Int.reduceAdd, Int.reduceSub, Int.reduceMul, Int.reduceToNat, kem, ken, keo, kep, keq, ker, kes, ket, keu, kev, kew, kex, key, kez, kfa, kfb, kfc, kfd, kfe, kff, kfg, kfh, kfi, kfj, kfk, kfl, cutCells, kfm, kfn, kfo, kfp, kfq, kfr, kfs, kft, kfu, kfv, kfw, kfx, kfy, Nat.reduceAdd, Nat.reduceLeDiff, Nat.reduceLT, Nat.reduceMul, Nat.reduceSub, kfz, kga, kgb, kgc, kgd, kge, kgf, kgg, kgh, kgi, kgj, kgk, kgl, kgm, kgn, kgo, kgp, kgq, kgr, kgs, kgt, kgu, kgv, kgw, kgx, kgy, kgz, kha, khb, khc, khd, hy, hz1, bs_list, Int.toNat_zero, hg, Option.map_some, show (((48 : UInt8).toNat : Nat) : Int) = 48 from rfl]
        refine ⟨_, rfl, ⟨_, rfl⟩, .tup2 (.closed rfl) (.closed rfl), ?_⟩
        exact h
      · simp only [numV, hx, hy, if_neg hz, if_true, if_false, Bool.false_eq_true] at h
        have goal : ∀ e H1, numI l 10 H l.length e H1 → WLoop T c41 e H1 (blockK 1 (seqK (WC T (g41.body.at [1, 1, 1, 1, 1])) (retK [.cellN 2 2, .tmp 3] fun r H1 =>
            ∃ v, r = FRes.ret v ∧ (∃ g, H1 = H ++ g) ∧ Scoped (List.length H) v ∧ R (FRes.ret v) H))) := by
          intro e H1 hI
          refine num_loop hl (by omega : 10 < 17) (fun v hv e he => ?_) (fun hv e o p he => ?_) hI
          · obtain ⟨x, rfl⟩ := he
            simp only [AFunc.body, g41, ACode.at]
            simp (disch := omega) only [kaa, kab, kac, kad, khm, khn, kho, khp, khq, khr, kae, kaf, kag, kah, kai, kaj, kak, kal, kam, kan, kao, khe, khf, khg, khh, khi, khj, khk, khl, kap, kaq, kar, kas, kat, kau, kav, kaw, kax, kay, kaz, kba, kbb, kbc, kbd, kbe, kbf, kbg, kbh, kbi, kbj, kbk, kbl, kbm, kbn, kbo, kbp, kbq, kbr, kbs, kbt, kbu, kbv, kbw, kbx, kby, kbz, kca, kcb, kcc, kcd, kce, kcf, kcg, kch, kci, kcj, kck, kcl, kcm, aop, kcn, kco, kcp, kcq, kcr, kcs, kct, kcu, kcv, kcw, resultsL, resultOf, kcx, Nat.reduceEqDiff, kcy, kcz, kda, reduceCtorEq, kdb, kdc, kdd, kde, kdf, kdg, kdh, kdi, kdj, kdk, kdl, kdm, kdn, kdo, eq1, kdp, kdq, kdr, kds, kdt, kdu, kdv, kdw, kdx, kdy, kdz, kea, keb, kec, apartOK, apart2, AObj.live, ked, kee, kef, keg, keh, kei, kej, kek, kel, Int.reduceEq, Int.reduceLT, Int.reduceLE, Int.reduceAdd, Int.reduceSub, Int.reduceMul, Int.reduceToNat, kem, ken, keo, kep, keq, ker, kes, ket, keu, kev, kew, kex, key, kez, kfa, kfb, kfc, kfd, kfe, kff, kfg, kfh, kfi, kfj, kfk, kfl, cutCells, kfm, kfn, kfo, kfp, kfq, kfr, kfs, kft, kfu, kfv, kfw, kfx, kfy, Nat.reduceAdd, Nat.reduceLeDiff, Nat.reduceLT, Nat.reduceMul, Nat.reduceSub, kfz, kga, kgb, kgc, kgd, kge, kgf, kgg, kgh, kgi, kgj, kgk, kgl, kgm, kgn, kgo, kgp, kgq, kgr, kgs, kgt, kgu, kgv, kgw, kgx, kgy, kgz, kha, khb, khc, khd, bitsL]
            refine ⟨_, rfl, ⟨_, rfl⟩, .tup2 (.closed rfl) (.closed rfl), ?_⟩
            rw [hv] at h
            exact fin0 10 _ v _ Iff.rfl hv h
          · obtain ⟨x, rfl⟩ := he
            simp only [AFunc.body, g41, ACode.at]
            simp (disch := omega) only [kaa, kab, kac, kad, khm, khn, kho, khp, khq, khr, kae, kaf, kag, kah, kai, kaj, kak, kal, kam, kan, kao, khe, khf, khg, khh, khi, khj, khk, khl, kap, kaq, kar, kas, kat, kau, kav, kaw, kax, kay, kaz, kba, kbb, kbc, kbd, kbe, kbf, kbg, kbh, kbi, kbj, kbk, kbl, kbm, kbn, kbo, kbp, kbq, kbr, kbs, kbt, kbu, kbv, kbw, kbx, kby, kbz, kca, kcb, kcc, kcd, kce, kcf, kcg, kch, kci, kcj, kck, kcl, kcm, aop, kcn, kco, kcp, kcq, kcr, kcs, kct, kcu, kcv, kcw, resultsL, resultOf, kcx, Nat.reduceEqDiff, kcy, kcz, kda, reduceCtorEq, kdb, kdc, kdd, kde, kdf, kdg, kdh, kdi, kdj, kdk, kdl, kdm, kdn, kdo, eq1, kdp, kdq, kdr, kds, kdt, kdu, kdv, kdw, kdx, kdy, kdz, kea, keb, kec, apartOK, apart2, AObj.live, ked, kee, kef, keg, keh, kei, kej, kek, kel, Int.reduceEq, Int.reduceLT, Int.reduceLE, Int.reduceAdd, Int.reduceSub, Int.reduceMul, Int.reduceToNat, kem, ken, keo, kep, keq, ker, kes, ket, keu, kev, kew, kex, key, kez, kfa, kfb, kfc, kfd, kfe, kff, kfg, kfh, kfi, kfj, kfk, kfl, cutCells, kfm, kfn, kfo, kfp, kfq, kfr, kfs, kft, kfu, kfv, kfw, kfx, kfy, Nat.reduceAdd, Nat.reduceLeDiff, Nat.reduceLT, Nat.reduceMul, Nat.reduceSub, kfz, kga, kgb, kgc, kgd, kge, kgf, kgg, kgh, kgi, kgj, kgk, kgl, kgm, kgn, kgo, kgp, kgq, kgr, kgs, kgt, kgu, kgv, kgw, kgx, kgy, kgz, kha, khb, khc, khd]
            refine ⟨_, rfl, ⟨_, rfl⟩, .tup2 (.closed rfl) (.closed rfl), ?_⟩
            simp only [hv, ite_self] at h
            exact h
        by_cases hz1 : (1 : Int) < l.length
        · have hl0 : 0 < l.length := by omega
          have hne : ¬ ((l[0].toNat : Int) = 48) := fun q => hz ⟨by omega, by
            rw [List.head?_eq_getElem?, List.getElem?_eq_getElem hl0]
            congr 1
            apply UInt8.toNat_inj.1
            have : (48 : UInt8).toNat = 48 := rfl
            omega⟩
          have hg : l[0]? = some l[0] := List.getElem?_eq_getElem hl0
          simp (disch := omega) only [kaa, kab, kac, kad, khm, khn, kho, khp, khq, khr, kae, kaf, kag, kah, kai, kaj, kak, kal, kam, kan, kao, khe, khf, khg, khh, khi, khj, khk, khl, kap, kaq, kar, kas, kat, kau, kav, kaw, kax, kay, kaz, kba, kbb, kbc, kbd, kbe, kbf, kbg, kbh, kbi, kbj, kbk, kbl, kbm, kbn, kbo, kbp, kbq, kbr, kbs, kbt, kbu, kbv, kbw, kbx, kby, kbz, kca, kcb, kcc, kcd, kce, kcf, kcg, kch, kci, kcj, kck, kcl, kcm, aop, kcn, kco, kcp, kcq, kcr, kcs, kct, kcu, kcv, kcw, resultsL, resultOf, kcx, Nat.reduceEqDiff, kcy, kcz, kda, reduceCtorEq, kdb, kdc, kdd, kde, kdf, kdg, kdh, kdi, kdj, kdk, kdl, kdm, kdn, kdo, eq1, kdp, kdq, kdr, kds, kdt, kdu, kdv, kdw, kdx, kdy, kdz, kea, keb, kec, apartOK, apart2, AObj.live, ked, kee, kef, keg, keh, kei, kej, kek, kel, Int.reduceEq, Int.reduceLT, Int.reduceLE, Int.reduceAdd, Int.reduceSub, Int.reduceMul, Int.reduceToNat, kem, ken, keo, kep, keq, ker, kes, ket, keu, kev, kew, kex, key, kez, kfa, kfb, kfc, kfd, kfe, kff, kfg, kfh, kfi, kfj, kfk, kfl, cutCells, kfm, kfn, kfo, kfp, kfq, kfr, kfs, kft, kfu, kfv, kfw, kfx, kfy, Nat.reduceAdd, Nat.reduceLeDiff, Nat.reduceLT, Nat.reduceMul, Nat.reduceSub, kfz, kga, kgb, kgc, kgd, kge, kgf, kgg, kgh, kgi, kgj, kgk, kgl, kgm, kgn, kgo, kgp, kgq, kgr, kgs, kgt, kgu, kgv, kgw, kgx, kgy, kgz, kha, khb, khc, khd, hy, hz1, bs_list, Int.toNat_zero, hg, Option.map_some, hne]
          exact goal _ _ ⟨0, 0, Nat.zero_le _, rfl, by decide, rfl, rfl, ex_env rfl⟩
        · simp (disch := omega) only [kaa, kab, kac, kad, khm, khn, kho, khp, khq, khr, kae, kaf, kag, kah, kai, kaj, kak, kal, kam, kan, kao, khe, khf, khg, khh, khi, khj, khk, khl, kap, kaq, kar, kas, kat, kau, kav, kaw, kax, kay, kaz, kba, kbb, kbc, kbd, kbe, kbf, kbg, kbh, kbi, kbj, kbk, kbl, kbm, kbn, kbo, kbp, kbq, kbr, kbs, kbt, kbu, kbv, kbw, kbx, kby, kbz, kca, kcb, kcc, kcd, kce, kcf, kcg, kch, kci, kcj, kck, kcl, kcm, aop, kcn, kco, kcp, kcq, kcr, kcs, kct, kcu, kcv, kcw, resultsL, resultOf, kcx, Nat.reduceEqDiff, kcy, kcz, kda, reduceCtorEq, kdb, kdc, kdd, kde, kdf, kdg, kdh, kdi, kdj, kdk, kdl, kdm, kdn, kdo, eq1, kdp, kdq, kdr, kds, kdt, kdu, kdv, kdw, kdx, kdy, kdz, kea, keb, kec, apartOK, apart2, AObj.live, ked, kee, kef, keg, keh, kei, kej, kek, kel, Int.reduceEq, Int.reduceLT, Int.reduceLE, Int.reduceAdd, Int.reduceSub, Int.reduceMul, Int.reduceToNat, kem, ken, keo, kep, keq, ker, kes, ket, keu, kev, kew, kex, key, kez, kfa, kfb, kfc, kfd, kfe, kff, kfg, kfh, kfi, kfj, kfk, kfl, cutCells, kfm, kfn, kfo, kfp, kfq, kfr, kfs, kft, kfu, kfv, kfw, kfx, kfy, Nat.reduceAdd, Nat.reduceLeDiff, Nat.reduceLT, Nat.reduceMul, Nat.reduceSub, kfz, kga, kgb, kgc, kgd, kge, kgf, kgg, kgh, kgi, kgj, kgk, kgl, kgm, kgn, kgo, kgp, kgq, kgr, kgs, kgt, kgu, kgv, kgw, kgx, kgy, kgz, kha, khb, khc, khd, hy, hz1]
          exact goal _ _ ⟨0, 0, Nat.zero_le _, rfl, by decide, rfl, rfl, ex_env rfl⟩

end Go.Proofs.YtedemfmafdilmaaDoor.Ev

/- Names, and the scanner's way. -/
namespace Go.Proofs.YtedemfmafdilmaaDoor.Ev
set_option maxRecDepth 100000
set_option linter.unusedSimpArgs false
set_option linter.unusedVariables false
variable {R : FRes → Heap → Prop} {H : Heap}

/-- Is a text a name? -/
def nameB (l : List UInt8) : Bool :=
  if 0 < l.length ∧ l.length ≤ 32 ∧ ((l.take 1).takeWhile firstQ).length = 1 ∧ (l.takeWhile restQ).length = l.length then !(wordsL.contains l) else false

theorem isName_s {l : List UInt8} (hH : GH H) (h : R (.ret (.bool (nameB l))) H) : WD T 18 [.string (bs l)] H R := by
  refine WD.of follows t18 (by simp) ?_
  simp (disch := omega) only [kaa, kab, kac, kad, khm, khn, kho, khp, khq, khr, kae, kaf, kag, kah, kai, kaj, kak, kal, kam, kan, kao, khe, khf, khg, khh, khi, khj, khk, khl, kap, kaq, kar, kas, kat, kau, kav, kaw, kax, kay, kaz, kba, kbb, kbc, kbd, kbe, kbf, kbg, kbh, kbi, kbj, kbk, kbl, kbm, kbn, kbo, kbp, kbq, kbr, kbs, kbt, kbu, kbv, kbw, kbx, kby, kbz, kca, kcb, kcc, kcd, kce, kcf, kcg, kch, kci, kcj, kck, kcl, kcm, aop, kcn, kco, kcp, kcq, kcr, kcs, kct, kcu, kcv, kcw, resultsL, resultOf, kcx, Nat.reduceEqDiff, kcy, kcz, kda, reduceCtorEq, kdb, kdc, kdd, kde, kdf, kdg, kdh, kdi, kdj, kdk, kdl, kdm, kdn, kdo, eq1, kdp, kdq, kdr, kds, kdt, kdu, kdv, kdw, kdx, kdy, kdz, kea, keb, kec, apartOK, apart2, AObj.live, ked, kee, kef, keg, keh, kei, kej, kek, kel, Int.reduceEq, Int.reduceLT, Int.reduceLE, Int.reduceAdd, Int.reduceSub, Int.reduceMul, Int.reduceToNat, kem, ken, keo, kep, keq, ker, kes, ket, keu, kev, kew, kex, key, kez, kfa, kfb, kfc, kfd, kfe, kff, kfg, kfh, kfi, kfj, kfk, kfl, cutCells, kfm, kfn, kfo, kfp, kfq, kfr, kfs, kft, kfu, kfv, kfw, kfx, kfy, Nat.reduceAdd, Nat.reduceLeDiff, Nat.reduceLT, Nat.reduceMul, Nat.reduceSub, kfz, kga, kgb, kgc, kgd, kge, kgf, kgg, kgh, kgi, kgj, kgk, kgl, kgm, kgn, kgo, kgp, kgq, kgr, kgs, kgt, kgu, kgv, kgw, kgx, kgy, kgz, kha, khb, khc, khd]
  by_cases h1 : (0 : Int) < l.length
  · simp (disch := omega) only [kaa, kab, kac, kad, khm, khn, kho, khp, khq, khr, kae, kaf, kag, kah, kai, kaj, kak, kal, kam, kan, kao, khe, khf, khg, khh, khi, khj, khk, khl, kap, kaq, kar, kas, kat, kau, kav, kaw, kax, kay, kaz, kba, kbb, kbc, kbd, kbe, kbf, kbg, kbh, kbi, kbj, kbk, kbl, kbm, kbn, kbo, kbp, kbq, kbr, kbs, kbt, kbu, kbv, kbw, kbx, kby, kbz, kca, kcb, kcc, kcd, kce, kcf, kcg, kch, kci, kcj, kck, kcl, kcm, aop, kcn, kco, kcp, kcq, kcr, kcs, kct, kcu, kcv, kcw, resultsL, resultOf, kcx, Nat.reduceEqDiff, kcy, kcz, kda, reduceCtorEq, kdb, kdc, kdd, kde, kdf, kdg, kdh, kdi, kdj, kdk, kdl, kdm, kdn, kdo, eq1, kdp, kdq, kdr, kds, kdt, kdu, kdv, kdw, kdx, kdy, kdz, kea, keb, kec, apartOK, apart2, AObj.live, ked, kee, kef, keg, keh, kei, kej, kek, kel, Int.reduceEq, Int.reduceLT, Int.reduceLE, Int.reduceAdd, Int.reduceSub, Int.reduceMul, Int.reduceToNat, kem, ken, keo, kep, keq, ker, kes, ket, keu, kev, kew, kex, key, kez, kfa, kfb, kfc, kfd, kfe, kff, kfg, kfh, kfi, kfj, kfk, kfl, cutCells, kfm, kfn, kfo, kfp, kfq, kfr, kfs, kft, kfu, kfv, kfw, kfx, kfy, Nat.reduceAdd, Nat.reduceLeDiff, Nat.reduceLT, Nat.reduceMul, Nat.reduceSub, kfz, kga, kgb, kgc, kgd, kge, kgf, kgg, kgh, kgi, kgj, kgk, kgl, kgm, kgn, kgo, kgp, kgq, kgr, kgs, kgt, kgu, kgv, kgw, kgx, kgy, kgz, kha, khb, khc, khd, h1]
    by_cases h2 : (l.length : Int) ≤ 32
    · simp (disch := omega) only [kaa, kab, kac, kad, khm, khn, kho, khp, khq, khr, kae, kaf, kag, kah, kai, kaj, kak, kal, kam, kan, kao, khe, khf, khg, khh, khi, khj, khk, khl, kap, kaq, kar, kas, kat, kau, kav, kaw, kax, kay, kaz, kba, kbb, kbc, kbd, kbe, kbf, kbg, kbh, kbi, kbj, kbk, kbl, kbm, kbn, kbo, kbp, kbq, kbr, kbs, kbt, kbu, kbv, kbw, kbx, kby, kbz, kca, kcb, kcc, kcd, kce, kcf, kcg, kch, kci, kcj, kck, kcl, kcm, aop, kcn, kco, kcp, kcq, kcr, kcs, kct, kcu, kcv, kcw, resultsL, resultOf, kcx, Nat.reduceEqDiff, kcy, kcz, kda, reduceCtorEq, kdb, kdc, kdd, kde, kdf, kdg, kdh, kdi, kdj, kdk, kdl, kdm, kdn, kdo, eq1, kdp, kdq, kdr, kds, kdt, kdu, kdv, kdw, kdx, kdy, kdz, kea, keb, kec, apartOK, apart2, AObj.live, ked, kee, kef, keg, keh, kei, kej, kek, kel, Int.reduceEq, Int.reduceLT, Int.reduceLE, Int.reduceAdd, Int.reduceSub, Int.reduceMul, Int.reduceToNat, kem, ken, keo, kep, keq, ker, kes, ket, keu, kev, kew, kex, key, kez, kfa, kfb, kfc, kfd, kfe, kff, kfg, kfh, kfi, kfj, kfk, kfl, cutCells, kfm, kfn, kfo, kfp, kfq, kfr, kfs, kft, kfu, kfv, kfw, kfx, kfy, Nat.reduceAdd, Nat.reduceLeDiff, Nat.reduceLT, Nat.reduceMul, Nat.reduceSub, kfz, kga, kgb, kgc, kgd, kge, kgf, kgg, kgh, kgi, kgj, kgk, kgl, kgm, kgn, kgo, kgp, kgq, kgr, kgs, kgt, kgu, kgv, kgw, kgx, kgy, kgz, kha, khb, khc, khd, h2]
      (repeat ((first | refine goes_s sort_first ?_); try simp (disch := omega) only [kaa, kab, kac, kad, khm, khn, kho, khp, khq, khr, kae, kaf, kag, kah, kai, kaj, kak, kal, kam, kan, kao, khe, khf, khg, khh, khi, khj, khk, khl, kap, kaq, kar, kas, kat, kau, kav, kaw, kax, kay, kaz, kba, kbb, kbc, kbd, kbe, kbf, kbg, kbh, kbi, kbj, kbk, kbl, kbm, kbn, kbo, kbp, kbq, kbr, kbs, kbt, kbu, kbv, kbw, kbx, kby, kbz, kca, kcb, kcc, kcd, kce, kcf, kcg, kch, kci, kcj, kck, kcl, kcm, aop, kcn, kco, kcp, kcq, kcr, kcs, kct, kcu, kcv, kcw, resultsL, resultOf, kcx, Nat.reduceEqDiff, kcy, kcz, kda, reduceCtorEq, kdb, kdc, kdd, kde, kdf, kdg, kdh, kdi, kdj, kdk, kdl, kdm, kdn, kdo, eq1, kdp, kdq, kdr, kds, kdt, kdu, kdv, kdw, kdx, kdy, kdz, kea, keb, kec, apartOK, apart2, AObj.live, ked, kee, kef, keg, keh, kei, kej, kek, kel, Int.reduceEq, Int.reduceLT, Int.reduceLE, Int.reduceAdd, Int.reduceSub, Int.reduceMul, Int.reduceToNat, kem, ken, keo, kep, keq, ker, kes, ket, keu, kev, kew, kex, key, kez, kfa, kfb, kfc, kfd, kfe, kff, kfg, kfh, kfi, kfj, kfk, kfl, cutCells, kfm, kfn, kfo, kfp, kfq, kfr, kfs, kft, kfu, kfv, kfw, kfx, kfy, Nat.reduceAdd, Nat.reduceLeDiff, Nat.reduceLT, Nat.reduceMul, Nat.reduceSub, kfz, kga, kgb, kgc, kgd, kge, kgf, kgg, kgh, kgi, kgj, kgk, kgl, kgm, kgn, kgo, kgp, kgq, kgr, kgs, kgt, kgu, kgv, kgw, kgx, kgy, kgz, kha, khb, khc, khd]))
      by_cases h3 : ((((l.take 1).takeWhile firstQ).length : Nat) : Int) = 1
      · simp (disch := omega) only [kaa, kab, kac, kad, khm, khn, kho, khp, khq, khr, kae, kaf, kag, kah, kai, kaj, kak, kal, kam, kan, kao, khe, khf, khg, khh, khi, khj, khk, khl, kap, kaq, kar, kas, kat, kau, kav, kaw, kax, kay, kaz, kba, kbb, kbc, kbd, kbe, kbf, kbg, kbh, kbi, kbj, kbk, kbl, kbm, kbn, kbo, kbp, kbq, kbr, kbs, kbt, kbu, kbv, kbw, kbx, kby, kbz, kca, kcb, kcc, kcd, kce, kcf, kcg, kch, kci, kcj, kck, kcl, kcm, aop, kcn, kco, kcp, kcq, kcr, kcs, kct, kcu, kcv, kcw, resultsL, resultOf, kcx, Nat.reduceEqDiff, kcy, kcz, kda, reduceCtorEq, kdb, kdc, kdd, kde, kdf, kdg, kdh, kdi, kdj, kdk, kdl, kdm, kdn, kdo, eq1, kdp, kdq, kdr, kds, kdt, kdu, kdv, kdw, kdx, kdy, kdz, kea, keb, kec, apartOK, apart2, AObj.live, ked, kee, kef, keg, keh, kei, kej, kek, kel, Int.reduceEq, Int.reduceLT, Int.reduceLE, Int.reduceAdd, Int.reduceSub, Int.reduceMul, Int.reduceToNat, kem, ken, keo, kep, keq, ker, kes, ket, keu, kev, kew, kex, key, kez, kfa, kfb, kfc, kfd, kfe, kff, kfg, kfh, kfi, kfj, kfk, kfl, cutCells, kfm, kfn, kfo, kfp, kfq, kfr, kfs, kft, kfu, kfv, kfw, kfx, kfy, Nat.reduceAdd, Nat.reduceLeDiff, Nat.reduceLT, Nat.reduceMul, Nat.reduceSub, kfz, kga, kgb, kgc, kgd, kge, kgf, kgg, kgh, kgi, kgj, kgk, kgl, kgm, kgn, kgo, kgp, kgq, kgr, kgs, kgt, kgu, kgv, kgw, kgx, kgy, kgz, kha, khb, khc, khd, h3]
        (repeat ((first | refine goes_s sort_rest ?_); try simp (disch := omega) only [kaa, kab, kac, kad, khm, khn, kho, khp, khq, khr, kae, kaf, kag, kah, kai, kaj, kak, kal, kam, kan, kao, khe, khf, khg, khh, khi, khj, khk, khl, kap, kaq, kar, kas, kat, kau, kav, kaw, kax, kay, kaz, kba, kbb, kbc, kbd, kbe, kbf, kbg, kbh, kbi, kbj, kbk, kbl, kbm, kbn, kbo, kbp, kbq, kbr, kbs, kbt, kbu, kbv, kbw, kbx, kby, kbz, kca, kcb, kcc, kcd, kce, kcf, kcg, kch, kci, kcj, kck, kcl, kcm, aop, kcn, kco, kcp, kcq, kcr, kcs, kct, kcu, kcv, kcw, resultsL, resultOf, kcx, Nat.reduceEqDiff, kcy, kcz, kda, reduceCtorEq, kdb, kdc, kdd, kde, kdf, kdg, kdh, kdi, kdj, kdk, kdl, kdm, kdn, kdo, eq1, kdp, kdq, kdr, kds, kdt, kdu, kdv, kdw, kdx, kdy, kdz, kea, keb, kec, apartOK, apart2, AObj.live, ked, kee, kef, keg, keh, kei, kej, kek, kel, Int.reduceEq, Int.reduceLT, Int.reduceLE, Int.reduceAdd, Int.reduceSub, Int.reduceMul, Int.reduceToNat, kem, ken, keo, kep, keq, ker, kes, ket, keu, kev, kew, kex, key, kez, kfa, kfb, kfc, kfd, kfe, kff, kfg, kfh, kfi, kfj, kfk, kfl, cutCells, kfm, kfn, kfo, kfp, kfq, kfr, kfs, kft, kfu, kfv, kfw, kfx, kfy, Nat.reduceAdd, Nat.reduceLeDiff, Nat.reduceLT, Nat.reduceMul, Nat.reduceSub, kfz, kga, kgb, kgc, kgd, kge, kgf, kgg, kgh, kgi, kgj, kgk, kgl, kgm, kgn, kgo, kgp, kgq, kgr, kgs, kgt, kgu, kgv, kgw, kgx, kgy, kgz, kha, khb, khc, khd]))
        by_cases h4 : (((l.takeWhile restQ).length : Nat) : Int) = (l.length : Int)
        · simp (disch := omega) only [kaa, kab, kac, kad, khm, khn, kho, khp, khq, khr, kae, kaf, kag, kah, kai, kaj, kak, kal, kam, kan, kao, khe, khf, khg, khh, khi, khj, khk, khl, kap, kaq, kar, kas, kat, kau, kav, kaw, kax, kay, kaz, kba, kbb, kbc, kbd, kbe, kbf, kbg, kbh, kbi, kbj, kbk, kbl, kbm, kbn, kbo, kbp, kbq, kbr, kbs, kbt, kbu, kbv, kbw, kbx, kby, kbz, kca, kcb, kcc, kcd, kce, kcf, kcg, kch, kci, kcj, kck, kcl, kcm, aop, kcn, kco, kcp, kcq, kcr, kcs, kct, kcu, kcv, kcw, resultsL, resultOf, kcx, Nat.reduceEqDiff, kcy, kcz, kda, reduceCtorEq, kdb, kdc, kdd, kde, kdf, kdg, kdh, kdi, kdj, kdk, kdl, kdm, kdn, kdo, eq1, kdp, kdq, kdr, kds, kdt, kdu, kdv, kdw, kdx, kdy, kdz, kea, keb, kec, apartOK, apart2, AObj.live, ked, kee, kef, keg, keh, kei, kej, kek, kel, Int.reduceEq, Int.reduceLT, Int.reduceLE, Int.reduceAdd, Int.reduceSub, Int.reduceMul, Int.reduceToNat, kem, ken, keo, kep, keq, ker, kes, ket, keu, kev, kew, kex, key, kez, kfa, kfb, kfc, kfd, kfe, kff, kfg, kfh, kfi, kfj, kfk, kfl, cutCells, kfm, kfn, kfo, kfp, kfq, kfr, kfs, kft, kfu, kfv, kfw, kfx, kfy, Nat.reduceAdd, Nat.reduceLeDiff, Nat.reduceLT, Nat.reduceMul, Nat.reduceSub, kfz, kga, kgb, kgc, kgd, kge, kgf, kgg, kgh, kgi, kgj, kgk, kgl, kgm, kgn, kgo, kgp, kgq, kgr, kgs, kgt, kgu, kgv, kgw, kgx, kgy, kgz, kha, khb, khc, khd, h4]
          (repeat ((first | refine isReserved_s hH ?_); try simp (disch := omega) only [kaa, kab, kac, kad, khm, khn, kho, khp, khq, khr, kae, kaf, kag, kah, kai, kaj, kak, kal, kam, kan, kao, khe, khf, khg, khh, khi, khj, khk, khl, kap, kaq, kar, kas, kat, kau, kav, kaw, kax, kay, kaz, kba, kbb, kbc, kbd, kbe, kbf, kbg, kbh, kbi, kbj, kbk, kbl, kbm, kbn, kbo, kbp, kbq, kbr, kbs, kbt, kbu, kbv, kbw, kbx, kby, kbz, kca, kcb, kcc, kcd, kce, kcf, kcg, kch, kci, kcj, kck, kcl, kcm, aop, kcn, kco, kcp, kcq, kcr, kcs, kct, kcu, kcv, kcw, resultsL, resultOf, kcx, Nat.reduceEqDiff, kcy, kcz, kda, reduceCtorEq, kdb, kdc, kdd, kde, kdf, kdg, kdh, kdi, kdj, kdk, kdl, kdm, kdn, kdo, eq1, kdp, kdq, kdr, kds, kdt, kdu, kdv, kdw, kdx, kdy, kdz, kea, keb, kec, apartOK, apart2, AObj.live, ked, kee, kef, keg, keh, kei, kej, kek, kel, Int.reduceEq, Int.reduceLT, Int.reduceLE, Int.reduceAdd, Int.reduceSub, Int.reduceMul, Int.reduceToNat, kem, ken, keo, kep, keq, ker, kes, ket, keu, kev, kew, kex, key, kez, kfa, kfb, kfc, kfd, kfe, kff, kfg, kfh, kfi, kfj, kfk, kfl, cutCells, kfm, kfn, kfo, kfp, kfq, kfr, kfs, kft, kfu, kfv, kfw, kfx, kfy, Nat.reduceAdd, Nat.reduceLeDiff, Nat.reduceLT, Nat.reduceMul, Nat.reduceSub, kfz, kga, kgb, kgc, kgd, kge, kgf, kgg, kgh, kgi, kgj, kgk, kgl, kgm, kgn, kgo, kgp, kgq, kgr, kgs, kgt, kgu, kgv, kgw, kgx, kgy, kgz, kha, khb, khc, khd]))
          rw [nameB, if_pos ⟨by omega, by omega, by omega, by omega⟩] at h
          exact h
        · simp (disch := omega) only [kaa, kab, kac, kad, khm, khn, kho, khp, khq, khr, kae, kaf, kag, kah, kai, kaj, kak, kal, kam, kan, kao, khe, khf, khg, khh, khi, khj, khk, khl, kap, kaq, kar, kas, kat, kau, kav, kaw, kax, kay, kaz, kba, kbb, kbc, kbd, kbe, kbf, kbg, kbh, kbi, kbj, kbk, kbl, kbm, kbn, kbo, kbp, kbq, kbr, kbs, kbt, kbu, kbv, kbw, kbx, kby, kbz, kca, kcb, kcc, kcd, kce, kcf, kcg, kch, kci, kcj, kck, kcl, kcm, aop, kcn, kco, kcp, kcq, kcr, kcs, kct, kcu, kcv, kcw, resultsL, resultOf, kcx, Nat.reduceEqDiff, kcy, kcz, kda, reduceCtorEq, kdb, kdc, kdd, kde, kdf, kdg, kdh, kdi, kdj, kdk, kdl, kdm, kdn, kdo, eq1, kdp, kdq, kdr, kds, kdt, kdu, kdv, kdw, kdx, kdy, kdz, kea, keb, kec, apartOK, apart2, AObj.live, ked, kee, kef, keg, keh, kei, kej, kek, kel, Int.reduceEq, Int.reduceLT, Int.reduceLE, Int.reduceAdd, Int.reduceSub, Int.reduceMul, Int.reduceToNat, kem, ken, keo, kep, keq, ker, kes, ket, keu, kev, kew, kex, key, kez, kfa, kfb, kfc, kfd, kfe, kff, kfg, kfh, kfi, kfj, kfk, kfl, cutCells, kfm, kfn, kfo, kfp, kfq, kfr, kfs, kft, kfu, kfv, kfw, kfx, kfy, Nat.reduceAdd, Nat.reduceLeDiff, Nat.reduceLT, Nat.reduceMul, Nat.reduceSub, kfz, kga, kgb, kgc, kgd, kge, kgf, kgg, kgh, kgi, kgj, kgk, kgl, kgm, kgn, kgo, kgp, kgq, kgr, kgs, kgt, kgu, kgv, kgw, kgx, kgy, kgz, kha, khb, khc, khd, h4]
          rw [nameB, if_neg (by omega)] at h
          exact h
      · simp (disch := omega) only [kaa, kab, kac, kad, khm, khn, kho, khp, khq, khr, kae, kaf, kag, kah, kai, kaj, kak, kal, kam, kan, kao, khe, khf, khg, khh, khi, khj, khk, khl, kap, kaq, kar, kas, kat, kau, kav, kaw, kax, kay, kaz, kba, kbb, kbc, kbd, kbe, kbf, kbg, kbh, kbi, kbj, kbk, kbl, kbm, kbn, kbo, kbp, kbq, kbr, kbs, kbt, kbu, kbv, kbw, kbx, kby, kbz, kca, kcb, kcc, kcd, kce, kcf, kcg, kch, kci, kcj, kck, kcl, kcm, aop, kcn, kco, kcp, kcq, kcr, kcs, kct, kcu, kcv, kcw, resultsL, resultOf, kcx, Nat.reduceEqDiff, kcy, kcz, kda, reduceCtorEq, kdb, kdc, kdd, kde, kdf, kdg, kdh, kdi, kdj, kdk, kdl, kdm, kdn, kdo, eq1, kdp, kdq, kdr, kds, kdt, kdu, kdv, kdw, kdx, kdy, kdz, kea, keb, kec, apartOK, apart2, AObj.live, ked, kee, kef, keg, keh, kei, kej, kek, kel, Int.reduceEq, Int.reduceLT, Int.reduceLE, Int.reduceAdd, Int.reduceSub, Int.reduceMul, Int.reduceToNat, kem, ken, keo, kep, keq, ker, kes, ket, keu, kev, kew, kex, key, kez, kfa, kfb, kfc, kfd, kfe, kff, kfg, kfh, kfi, kfj, kfk, kfl, cutCells, kfm, kfn, kfo, kfp, kfq, kfr, kfs, kft, kfu, kfv, kfw, kfx, kfy, Nat.reduceAdd, Nat.reduceLeDiff, Nat.reduceLT, Nat.reduceMul, Nat.reduceSub, kfz, kga, kgb, kgc, kgd, kge, kgf, kgg, kgh, kgi, kgj, kgk, kgl, kgm, kgn, kgo, kgp, kgq, kgr, kgs, kgt, kgu, kgv, kgw, kgx, kgy, kgz, kha, khb, khc, khd, h3]
        rw [nameB, if_neg (by omega)] at h
        exact h
    · simp (disch := omega) only [kaa, kab, kac, kad, khm, khn, kho, khp, khq, khr, kae, kaf, kag, kah, kai, kaj, kak, kal, kam, kan, kao, khe, khf, khg, khh, khi, khj, khk, khl, kap, kaq, kar, kas, kat, kau, kav, kaw, kax, kay, kaz, kba, kbb, kbc, kbd, kbe, kbf, kbg, kbh, kbi, kbj, kbk, kbl, kbm, kbn, kbo, kbp, kbq, kbr, kbs, kbt, kbu, kbv, kbw, kbx, kby, kbz, kca, kcb, kcc, kcd, kce, kcf, kcg, kch, kci, kcj, kck, kcl, kcm, aop, kcn, kco, kcp, kcq, kcr, kcs, kct, kcu, kcv, kcw, resultsL, resultOf, kcx, Nat.reduceEqDiff, kcy, kcz, kda, reduceCtorEq, kdb, kdc, kdd, kde, kdf, kdg, kdh, kdi, kdj, kdk, kdl, kdm, kdn, kdo, eq1, kdp, kdq, kdr, kds, kdt, kdu, kdv, kdw, kdx, kdy, kdz, kea, keb, kec, apartOK, apart2, AObj.live, ked, kee, kef, keg, keh, kei, kej, kek, kel, Int.reduceEq, Int.reduceLT, Int.reduceLE, Int.reduceAdd, Int.reduceSub, Int.reduceMul, Int.reduceToNat, kem, ken, keo, kep, keq, ker, kes, ket, keu, kev, kew, kex, key, kez, kfa, kfb, kfc, kfd, kfe, kff, kfg, kfh, kfi, kfj, kfk, kfl, cutCells, kfm, kfn, kfo, kfp, kfq, kfr, kfs, kft, kfu, kfv, kfw, kfx, kfy, Nat.reduceAdd, Nat.reduceLeDiff, Nat.reduceLT, Nat.reduceMul, Nat.reduceSub, kfz, kga, kgb, kgc, kgd, kge, kgf, kgg, kgh, kgi, kgj, kgk, kgl, kgm, kgn, kgo, kgp, kgq, kgr, kgs, kgt, kgu, kgv, kgw, kgx, kgy, kgz, kha, khb, khc, khd, h2]
      rw [nameB, if_neg (by omega)] at h
      exact h
  · simp (disch := omega) only [kaa, kab, kac, kad, khm, khn, kho, khp, khq, khr, kae, kaf, kag, kah, kai, kaj, kak, kal, kam, kan, kao, khe, khf, khg, khh, khi, khj, khk, khl, kap, kaq, kar, kas, kat, kau, kav, kaw, kax, kay, kaz, kba, kbb, kbc, kbd, kbe, kbf, kbg, kbh, kbi, kbj, kbk, kbl, kbm, kbn, kbo, kbp, kbq, kbr, kbs, kbt, kbu, kbv, kbw, kbx, kby, kbz, kca, kcb, kcc, kcd, kce, kcf, kcg, kch, kci, kcj, kck, kcl, kcm, aop, kcn, kco, kcp, kcq, kcr, kcs, kct, kcu, kcv, kcw, resultsL, resultOf, kcx, Nat.reduceEqDiff, kcy, kcz, kda, reduceCtorEq, kdb, kdc, kdd, kde, kdf, kdg, kdh, kdi, kdj, kdk, kdl, kdm, kdn, kdo, eq1, kdp, kdq, kdr, kds, kdt, kdu, kdv, kdw, kdx, kdy, kdz, kea, keb, kec, apartOK, apart2, AObj.live, ked, kee, kef, keg, keh, kei, kej, kek, kel, Int.reduceEq, Int.reduceLT, Int.reduceLE, Int.reduceAdd, Int.reduceSub, Int.reduceMul, Int.reduceToNat, kem, ken, keo, kep, keq, ker, kes, ket, keu, kev, kew, kex, key, kez, kfa, kfb, kfc, kfd, kfe, kff, kfg, kfh, kfi, kfj, kfk, kfl, cutCells, kfm, kfn, kfo, kfp, kfq, kfr, kfs, kft, kfu, kfv, kfw, kfx, kfy, Nat.reduceAdd, Nat.reduceLeDiff, Nat.reduceLT, Nat.reduceMul, Nat.reduceSub, kfz, kga, kgb, kgc, kgd, kge, kgf, kgg, kgh, kgi, kgj, kgk, kgl, kgm, kgn, kgo, kgp, kgq, kgr, kgs, kgt, kgu, kgv, kgw, kgx, kgy, kgz, kha, khb, khc, khd, h1]
    rw [nameB, if_neg (by omega)] at h
    exact h

/-- The place behind some bytes. -/
def adv : Nat × Nat → List UInt8 → Nat × Nat
  | p, [] => p
  | p, b :: l => adv (if b.toNat = 10 then (p.1 + 1, 1) else (p.1, p.2 + 1)) l

theorem adv_append (l m : List UInt8) : ∀ p, adv p (l ++ m) = adv (adv p l) m := by
  induction l with
  | nil => intro p; rfl
  | cons b l ih => intro p; exact ih _

theorem adv_le (l : List UInt8) : ∀ p, (adv p l).1 ≤ p.1 + l.length ∧ (adv p l).2 ≤ p.2 + 1 + l.length := by
  induction l with
  | nil => intro p; simp only [adv]; omega
  | cons b l ih =>
    intro p
    by_cases hb : b.toNat = 10
    · have := ih (p.1 + 1, 1)
      simp only [adv, hb, if_true, List.length_cons] at this ⊢
      omega
    · have := ih (p.1, p.2 + 1)
      simp only [adv, hb, if_false, List.length_cons] at this ⊢
      omega

/-- A scanner's cells. -/
def sc (text : List UInt8) (pos : Nat) (p : Nat × Nat) (f : Int × Int × Int) : List Value :=
  [.string (bs text), .int .i64 pos, .int .i64 p.1, .int .i64 p.2, .int .i64 f.1, .int .i64 f.2.1, .int .i64 f.2.2]

def skipI (text : List UInt8) (pos n b : Nat) (p : Nat × Nat) (f : Int × Int × Int) (m : List UInt8) (H : Heap) : Nat → Env → Heap → Prop := fun k e H' =>
  ∃ i : Nat, i ≤ n ∧ k = n - i ∧ H' = H.set b (.row (sc text pos (adv p (m.take i)) f) 0 true) ++ [.row (m.map fun b => .int .u8 b.toNat) 1 true] ∧
    (∃ x : Nat → Value, e = [.pointer (some ⟨b, 0, none⟩), .int .i64 n, x 2, x 3, x 4, x 5, x 6, x 7, x 8, x 9, x 10, x 11, x 12, x 13, x 14, x 15, x 16, x 17, x 18, x 19, x 20, .slice (some ⟨H.length, 0, none⟩) n n, .int .i64 n, .int .i64 i, x 24, x 25, x 26, x 27, x 28, x 29, x 30, x 31, x 32, x 33, x 34, x 35, x 36, x 37, x 38, x 39, x 40, x 41, x 42, x 43, x 44, x 45, x 46, x 47, x 48, x 49, x 50, x 51, x 52, x 53, x 54, x 55, x 56])

theorem skip_s {text : List UInt8} {pos n b : Nat} {p : Nat × Nat} {f : Int × Int × Int} (hb : hget H b = .row (sc text pos p f) 0 true) (hn : pos + n ≤ text.length) (hlen : text.length ≤ 65536) (h1 : p.1 ≤ 1000000) (h2 : p.2 ≤ 1000000)
    (h : R (.ret (.tuple #[])) (H.set b (.row (sc text (pos + n) (adv p ((text.take (pos + n)).drop pos)) f) 0 true))) : WD T 43 [.pointer (some ⟨b, 0, none⟩), .int .i64 n] H R := by
  have hlt : b < H.length := hget_lt hb rfl
  refine WD.gcU b (WD.of follows t43 (by simp) ?_)
  generalize hm : (text.take (pos + n)).drop pos = m at h
  have hml : m.length = n := by rw [← hm]; simp; omega
  simp (disch := omega) only [kaa, kab, kac, kad, khm, khn, kho, khp, khq, khr, kae, kaf, kag, kah, kai, kaj, kak, kal, kam, kan, kao, khe, khf, khg, khh, khi, khj, khk, khl, kap, kaq, kar, kas, kat, kau, kav, kaw, kax, kay, kaz, kba, kbb, kbc, kbd, kbe, kbf, kbg, kbh, kbi, kbj, kbk, kbl, kbm, kbn, kbo, kbp, kbq, kbr, kbs, kbt, kbu, kbv, kbw, kbx, kby, kbz, kca, kcb, kcc, kcd, kce, kcf, kcg, kch, kci, kcj, kck, kcl, kcm, aop, kcn, kco, kcp, kcq, kcr, kcs, kct, kcu, kcv, kcw, resultsL, resultOf, kcx, Nat.reduceEqDiff, kcy, kcz, kda, reduceCtorEq, kdb, kdc, kdd, kde, kdf, kdg, kdh, kdi, kdj, kdk, kdl, kdm, kdn, kdo, eq1, kdp, kdq, kdr, kds, kdt, kdu, kdv, kdw, kdx, kdy, kdz, kea, keb, kec, apartOK, apart2, AObj.live, ked, kee, kef, keg, keh, kei, kej, kek, kel, Int.reduceEq, Int.reduceLT, Int.reduceLE, Int.reduceAdd, Int.reduceSub, Int.reduceMul, Int.reduceToNat, kem, ken, keo, kep, keq, ker, kes, ket, keu, kev, kew, kex, key, kez, kfa, kfb, kfc, kfd, kfe, kff, kfg, kfh, kfi, kfj, kfk, kfl, cutCells, kfm, kfn, kfo, kfp, kfq, kfr, kfs, kft, kfu, kfv, kfw, kfx, kfy, Nat.reduceAdd, Nat.reduceLeDiff, Nat.reduceLT, Nat.reduceMul, Nat.reduceSub, kfz, kga, kgb, kgc, kgd, kge, kgf, kgg, kgh, kgi, kgj, kgk, kgl, kgm, kgn, kgo, kgp, kgq, kgr, kgs, kgt, kgu, kgv, kgw, kgx, kgy, kgz, kha, khb, khc, khd, hb, sc, wr_i64, nadd, hm, hml]
  refine WLoop.inv (skipI text pos n b p f m H) ?_ n _ _ ⟨0, by omega, by omega, ?_, (ex_env rfl)⟩
  · rintro k e H' ⟨i, k1, k2, rfl, ⟨x, rfl⟩⟩
    by_cases hi : i < n
    · have hi' : (i : Int) < n := by omega
      have hmi : m[i]? = some m[i] := List.getElem?_eq_getElem (by omega)
      have hb := adv_le (m.take i) p
      rw [List.length_take] at hb
      have htake : m.take (i + 1) = m.take i ++ [m[i]] := by rw [List.take_add_one, hmi]; rfl
      simp (disch := omega) only [kaa, kab, kac, kad, khm, khn, kho, khp, khq, khr, kae, kaf, kag, kah, kai, kaj, kak, kal, kam, kan, kao, khe, khf, khg, khh, khi, khj, khk, khl, kap, kaq, kar, kas, kat, kau, kav, kaw, kax, kay, kaz, kba, kbb, kbc, kbd, kbe, kbf, kbg, kbh, kbi, kbj, kbk, kbl, kbm, kbn, kbo, kbp, kbq, kbr, kbs, kbt, kbu, kbv, kbw, kbx, kby, kbz, kca, kcb, kcc, kcd, kce, kcf, kcg, kch, kci, kcj, kck, kcl, kcm, aop, kcn, kco, kcp, kcq, kcr, kcs, kct, kcu, kcv, kcw, resultsL, resultOf, kcx, Nat.reduceEqDiff, kcy, kcz, kda, reduceCtorEq, kdb, kdc, kdd, kde, kdf, kdg, kdh, kdi, kdj, kdk, kdl, kdm, kdn, kdo, eq1, kdp, kdq, kdr, kds, kdt, kdu, kdv, kdw, kdx, kdy, kdz, kea, keb, kec, apartOK, apart2, AObj.live, ked, kee, kef, keg, keh, kei, kej, kek, kel, Int.reduceEq, Int.reduceLT, Int.reduceLE, Int.reduceAdd, Int.reduceSub, Int.reduceMul, Int.reduceToNat, kem, ken, keo, kep, keq, ker, kes, ket, keu, kev, kew, kex, key, kez, kfa, kfb, kfc, kfd, kfe, kff, kfg, kfh, kfi, kfj, kfk, kfl, cutCells, kfm, kfn, kfo, kfp, kfq, kfr, kfs, kft, kfu, kfv, kfw, kfx, kfy, Nat.reduceAdd, Nat.reduceLeDiff, Nat.reduceLT, Nat.reduceMul, Nat.reduceSub, kfz, kga, kgb, kgc, kgd, kge, kgf, kgg, kgh, kgi, kgj, kgk, kgl, kgm, kgn, kgo, kgp, kgq, kgr, kgs, kgt, kgu, kgv, kgw, kgx, kgy, kgz, kha, khb, khc, khd, hi', if_pos, List.getElem?_map, hmi, Option.map_some, hget_oldS, hget_set', set_oldS, sc, wr_i64, nadd1]
      by_cases hc : (m[i].toNat : Int) = 10
      · have hc' : m[i].toNat = 10 := by omega
        simp (disch := omega) only [kaa, kab, kac, kad, khm, khn, kho, khp, khq, khr, kae, kaf, kag, kah, kai, kaj, kak, kal, kam, kan, kao, khe, khf, khg, khh, khi, khj, khk, khl, kap, kaq, kar, kas, kat, kau, kav, kaw, kax, kay, kaz, kba, kbb, kbc, kbd, kbe, kbf, kbg, kbh, kbi, kbj, kbk, kbl, kbm, kbn, kbo, kbp, kbq, kbr, kbs, kbt, kbu, kbv, kbw, kbx, kby, kbz, kca, kcb, kcc, kcd, kce, kcf, kcg, kch, kci, kcj, kck, kcl, kcm, aop, kcn, kco, kcp, kcq, kcr, kcs, kct, kcu, kcv, kcw, resultsL, resultOf, kcx, Nat.reduceEqDiff, kcy, kcz, kda, reduceCtorEq, kdb, kdc, kdd, kde, kdf, kdg, kdh, kdi, kdj, kdk, kdl, kdm, kdn, kdo, eq1, kdp, kdq, kdr, kds, kdt, kdu, kdv, kdw, kdx, kdy, kdz, kea, keb, kec, apartOK, apart2, AObj.live, ked, kee, kef, keg, keh, kei, kej, kek, kel, Int.reduceEq, Int.reduceLT, Int.reduceLE, Int.reduceAdd, Int.reduceSub, Int.reduceMul, Int.reduceToNat, kem, ken, keo, kep, keq, ker, kes, ket, keu, kev, kew, kex, key, kez, kfa, kfb, kfc, kfd, kfe, kff, kfg, kfh, kfi, kfj, kfk, kfl, cutCells, kfm, kfn, kfo, kfp, kfq, kfr, kfs, kft, kfu, kfv, kfw, kfx, kfy, Nat.reduceAdd, Nat.reduceLeDiff, Nat.reduceLT, Nat.reduceMul, Nat.reduceSub, kfz, kga, kgb, kgc, kgd, kge, kgf, kgg, kgh, kgi, kgj, kgk, kgl, kgm, kgn, kgo, kgp, kgq, kgr, kgs, kgt, kgu, kgv, kgw, kgx, kgy, kgz, kha, khb, khc, khd, hc, hget_oldS, hget_set', set_oldS, sc, wr_i64, nadd1]
        refine ⟨n - (i + 1), by omega, i + 1, by omega, rfl, ?_, (ex_env rfl)⟩
        rw [htake, adv_append]
        simp only [adv, hc', if_true, sc]
        rfl
      · have hc' : ¬ m[i].toNat = 10 := by omega
        simp (disch := omega) only [kaa, kab, kac, kad, khm, khn, kho, khp, khq, khr, kae, kaf, kag, kah, kai, kaj, kak, kal, kam, kan, kao, khe, khf, khg, khh, khi, khj, khk, khl, kap, kaq, kar, kas, kat, kau, kav, kaw, kax, kay, kaz, kba, kbb, kbc, kbd, kbe, kbf, kbg, kbh, kbi, kbj, kbk, kbl, kbm, kbn, kbo, kbp, kbq, kbr, kbs, kbt, kbu, kbv, kbw, kbx, kby, kbz, kca, kcb, kcc, kcd, kce, kcf, kcg, kch, kci, kcj, kck, kcl, kcm, aop, kcn, kco, kcp, kcq, kcr, kcs, kct, kcu, kcv, kcw, resultsL, resultOf, kcx, Nat.reduceEqDiff, kcy, kcz, kda, reduceCtorEq, kdb, kdc, kdd, kde, kdf, kdg, kdh, kdi, kdj, kdk, kdl, kdm, kdn, kdo, eq1, kdp, kdq, kdr, kds, kdt, kdu, kdv, kdw, kdx, kdy, kdz, kea, keb, kec, apartOK, apart2, AObj.live, ked, kee, kef, keg, keh, kei, kej, kek, kel, Int.reduceEq, Int.reduceLT, Int.reduceLE, Int.reduceAdd, Int.reduceSub, Int.reduceMul, Int.reduceToNat, kem, ken, keo, kep, keq, ker, kes, ket, keu, kev, kew, kex, key, kez, kfa, kfb, kfc, kfd, kfe, kff, kfg, kfh, kfi, kfj, kfk, kfl, cutCells, kfm, kfn, kfo, kfp, kfq, kfr, kfs, kft, kfu, kfv, kfw, kfx, kfy, Nat.reduceAdd, Nat.reduceLeDiff, Nat.reduceLT, Nat.reduceMul, Nat.reduceSub, kfz, kga, kgb, kgc, kgd, kge, kgf, kgg, kgh, kgi, kgj, kgk, kgl, kgm, kgn, kgo, kgp, kgq, kgr, kgs, kgt, kgu, kgv, kgw, kgx, kgy, kgz, kha, khb, khc, khd, hc, hget_oldS, hget_set', set_oldS, sc, wr_i64, nadd1]
        refine ⟨n - (i + 1), by omega, i + 1, by omega, rfl, ?_, (ex_env rfl)⟩
        rw [htake, adv_append]
        simp only [adv, hc', if_false, sc]
    · have hi' : ¬ (i : Int) < n := by omega
      simp (disch := omega) only [kaa, kab, kac, kad, khm, khn, kho, khp, khq, khr, kae, kaf, kag, kah, kai, kaj, kak, kal, kam, kan, kao, khe, khf, khg, khh, khi, khj, khk, khl, kap, kaq, kar, kas, kat, kau, kav, kaw, kax, kay, kaz, kba, kbb, kbc, kbd, kbe, kbf, kbg, kbh, kbi, kbj, kbk, kbl, kbm, kbn, kbo, kbp, kbq, kbr, kbs, kbt, kbu, kbv, kbw, kbx, kby, kbz, kca, kcb, kcc, kcd, kce, kcf, kcg, kch, kci, kcj, kck, kcl, kcm, aop, kcn, kco, kcp, kcq, kcr, kcs, kct, kcu, kcv, kcw, resultsL, resultOf, kcx, Nat.reduceEqDiff, kcy, kcz, kda, reduceCtorEq, kdb, kdc, kdd, kde, kdf, kdg, kdh, kdi, kdj, kdk, kdl, kdm, kdn, kdo, eq1, kdp, kdq, kdr, kds, kdt, kdu, kdv, kdw, kdx, kdy, kdz, kea, keb, kec, apartOK, apart2, AObj.live, ked, kee, kef, keg, keh, kei, kej, kek, kel, Int.reduceEq, Int.reduceLT, Int.reduceLE, Int.reduceAdd, Int.reduceSub, Int.reduceMul, Int.reduceToNat, kem, ken, keo, kep, keq, ker, kes, ket, keu, kev, kew, kex, key, kez, kfa, kfb, kfc, kfd, kfe, kff, kfg, kfh, kfi, kfj, kfk, kfl, cutCells, kfm, kfn, kfo, kfp, kfq, kfr, kfs, kft, kfu, kfv, kfw, kfx, kfy, Nat.reduceAdd, Nat.reduceLeDiff, Nat.reduceLT, Nat.reduceMul, Nat.reduceSub, kfz, kga, kgb, kgc, kgd, kge, kgf, kgg, kgh, kgi, kgj, kgk, kgl, kgm, kgn, kgo, kgp, kgq, kgr, kgs, kgt, kgu, kgv, kgw, kgx, kgy, kgz, kha, khb, khc, khd, hi', hget_oldS, hget_set', set_oldS, sc, wr_i64, nadd]
      obtain rfl : i = n := by omega
      have : m.take i = m := List.take_of_length_le (by omega)
      rw [this]
      exact ⟨_, _, _, _, rfl, ⟨_, rfl⟩, by intro v hv; simp at hv; rcases hv with rfl | rfl | rfl | rfl | rfl | rfl | rfl <;> exact .closed rfl, .closed rfl, h⟩
  · simp only [List.take_zero, adv]
    rw [set_self hb]

/-- How many bytes of blanks and remarks stand ahead. -/
def skN : Bool → List UInt8 → Nat
  | _, [] => 0
  | true, b :: l => 1 + skN (!(b.toNat == 10)) l
  | false, b :: l => if b.toNat = 35 then 1 + skN true l else if blankQ b = true then 1 + skN false l else 0

theorem blank_not {b : UInt8} (h : blankQ b = true) : ¬ b.toNat = 35 := by
  intro hb
  simp [blankQ, isBlankB, hb] at h

theorem sk_blank : ∀ l : List UInt8, skN false l = (l.takeWhile blankQ).length + skN false (l.drop (l.takeWhile blankQ).length)
  | [] => rfl
  | b :: l => by
    by_cases h : blankQ b = true
    · have := sk_blank l
      simp only [skN, blank_not h, if_false, h, if_true, List.takeWhile_cons, List.length_cons, List.drop_succ_cons]
      omega
    · simp [List.takeWhile_cons, h]

theorem sk_line : ∀ l : List UInt8, skN true l = (l.takeWhile lineQ).length + skN false (l.drop (l.takeWhile lineQ).length)
  | [] => rfl
  | b :: l => by
    by_cases h : b.toNat = 10
    · have e : lineQ b = false := by simp [lineQ, h]
      have e2 : blankQ b = true := by simp [blankQ, isBlankB, h]
      simp [skN, List.takeWhile_cons, e, e2, h]
    · have e : lineQ b = true := by simp [lineQ]; omega
      have := sk_line l
      simp only [skN, List.takeWhile_cons, e, if_true, List.length_cons, List.drop_succ_cons]
      have h2 : (b.toNat == 10) = false := by simpa using h
      rw [h2, Bool.not_false]
      omega

theorem sk_le : ∀ (r : Bool) (l : List UInt8), skN r l ≤ l.length
  | _, [] => by simp [skN]
  | true, b :: l => by have := sk_le (!(b.toNat == 10)) l; simp only [skN, List.length_cons]; omega
  | false, b :: l => by
    have h1 := sk_le true l
    have h2 := sk_le false l
    simp only [skN, List.length_cons]
    split
    · omega
    · split <;> omega

theorem take_drop_eq (l : List UInt8) (a n : Nat) : (l.take (a + n)).drop a = (l.drop a).take n := by
  rw [List.drop_take, Nat.add_sub_cancel_left]

theorem adv_take' (l : List UInt8) (p : Nat × Nat) (s a n : Nat) : adv (adv p ((l.drop s).take a)) ((l.drop (s + a)).take n) = adv p ((l.drop s).take (a + n)) := by
  rw [← adv_append, List.take_add, List.drop_drop]

theorem drop_takeWhile {α : Type} (q : α → Bool) : ∀ (l : List α) (a : α), (l.drop (l.takeWhile q).length).head? = some a → q a = false
  | [], a, h => by simp at h
  | b :: l, a, h => by
    by_cases hb : q b = true
    · simp only [List.takeWhile_cons, hb, if_true, List.length_cons, List.drop_succ_cons] at h
      exact drop_takeWhile q l a h
    · have hb : q b = false := by simpa using hb
      simp only [List.takeWhile_cons, hb, List.length_nil, List.drop_zero, List.head?_cons, Bool.false_eq_true, if_false, Option.some.injEq] at h
      rw [← h]; exact hb

theorem takeWhile_le {α : Type} (q : α → Bool) (l : List α) : (l.takeWhile q).length ≤ l.length := (List.takeWhile_prefix q).length_le

theorem adv_take (l : List UInt8) (p : Nat × Nat) (a n : Nat) : adv (adv p (l.take a)) ((l.drop a).take n) = adv p (l.take (a + n)) := by
  rw [← adv_append, List.take_add]

theorem scoped_sc {n : Nat} {text : List UInt8} {pos : Nat} {p : Nat × Nat} {f : Int × Int × Int} : ∀ v ∈ sc text pos p f, Scoped n v := by
  intro v hv
  simp [sc] at hv
  rcases hv with rfl | rfl | rfl | rfl | rfl | rfl | rfl <;> exact .closed rfl

def blanksI (text : List UInt8) (pos b : Nat) (p : Nat × Nat) (f : Int × Int × Int) (H : Heap) : Nat → Env → Heap → Prop := fun k e H' =>
  ∃ c : Nat, pos + c ≤ text.length ∧ k = text.length - (pos + c) ∧ skN false (text.drop pos) = c + skN false (text.drop (pos + c)) ∧
    H' = H.set b (.row (sc text (pos + c) (adv p ((text.drop pos).take c)) f) 0 true) ∧ (∃ x : Nat → Value, e = [.pointer (some ⟨b, 0, none⟩), x 1, x 2, x 3, x 4, x 5, x 6, x 7, x 8, x 9, x 10, x 11, x 12, x 13, x 14, x 15, x 16, x 17, x 18, x 19, x 20, x 21, x 22, x 23, x 24, x 25, x 26, x 27, x 28, x 29, x 30, x 31, x 32, x 33, x 34, x 35, x 36])

theorem blanks_s {text : List UInt8} {pos b : Nat} {p : Nat × Nat} {f : Int × Int × Int} (hb : hget H b = .row (sc text pos p f) 0 true) (hpos : pos ≤ text.length) (hlen : text.length ≤ 65536) (h1 : p.1 ≤ 500000) (h2 : p.2 ≤ 500000)
    (h : R (.ret (.tuple #[])) (H.set b (.row (sc text (pos + skN false (text.drop pos)) (adv p ((text.drop pos).take (skN false (text.drop pos)))) f) 0 true))) : WD T 39 [.pointer (some ⟨b, 0, none⟩)] H R := by
  have hlt : b < H.length := hget_lt hb rfl
  refine WD.of follows t39 (by simp) ?_
  simp (disch := omega) only [kaa, kab, kac, kad, khm, khn, kho, khp, khq, khr, kae, kaf, kag, kah, kai, kaj, kak, kal, kam, kan, kao, khe, khf, khg, khh, khi, khj, khk, khl, kap, kaq, kar, kas, kat, kau, kav, kaw, kax, kay, kaz, kba, kbb, kbc, kbd, kbe, kbf, kbg, kbh, kbi, kbj, kbk, kbl, kbm, kbn, kbo, kbp, kbq, kbr, kbs, kbt, kbu, kbv, kbw, kbx, kby, kbz, kca, kcb, kcc, kcd, kce, kcf, kcg, kch, kci, kcj, kck, kcl, kcm, aop, kcn, kco, kcp, kcq, kcr, kcs, kct, kcu, kcv, kcw, resultsL, resultOf, kcx, Nat.reduceEqDiff, kcy, kcz, kda, reduceCtorEq, kdb, kdc, kdd, kde, kdf, kdg, kdh, kdi, kdj, kdk, kdl, kdm, kdn, kdo, eq1, kdp, kdq, kdr, kds, kdt, kdu, kdv, kdw, kdx, kdy, kdz, kea, keb, kec, apartOK, apart2, AObj.live, ked, kee, kef, keg, keh, kei, kej, kek, kel, Int.reduceEq, Int.reduceLT, Int.reduceLE, Int.reduceAdd, Int.reduceSub, Int.reduceMul, Int.reduceToNat, kem, ken, keo, kep, keq, ker, kes, ket, keu, kev, kew, kex, key, kez, kfa, kfb, kfc, kfd, kfe, kff, kfg, kfh, kfi, kfj, kfk, kfl, cutCells, kfm, kfn, kfo, kfp, kfq, kfr, kfs, kft, kfu, kfv, kfw, kfx, kfy, Nat.reduceAdd, Nat.reduceLeDiff, Nat.reduceLT, Nat.reduceMul, Nat.reduceSub, kfz, kga, kgb, kgc, kgd, kge, kgf, kgg, kgh, kgi, kgj, kgk, kgl, kgm, kgn, kgo, kgp, kgq, kgr, kgs, kgt, kgu, kgv, kgw, kgx, kgy, kgz, kha, khb, khc, khd]
  refine WLoop.inv (blanksI text pos b p f H) ?_ _ _ _ ⟨0, by omega, rfl, by simp, by simp only [List.take_zero, adv, Nat.add_zero]; exact (set_self hb).symm, (ex_env rfl)⟩
  rintro k e H' ⟨c, k1, k2, k3, rfl, ⟨x, rfl⟩⟩
  have hrow := hget_set' (H := H) (o := .row (sc text (pos + c) (adv p ((text.drop pos).take c)) f) 0 true) hlt
  have hb1 := adv_le ((text.drop pos).take c) p
  have hl1 : ((text.drop pos).take c).length ≤ 65536 := by rw [List.length_take, List.length_drop]; omega
  simp (disch := omega) only [kaa, kab, kac, kad, khm, khn, kho, khp, khq, khr, kae, kaf, kag, kah, kai, kaj, kak, kal, kam, kan, kao, khe, khf, khg, khh, khi, khj, khk, khl, kap, kaq, kar, kas, kat, kau, kav, kaw, kax, kay, kaz, kba, kbb, kbc, kbd, kbe, kbf, kbg, kbh, kbi, kbj, kbk, kbl, kbm, kbn, kbo, kbp, kbq, kbr, kbs, kbt, kbu, kbv, kbw, kbx, kby, kbz, kca, kcb, kcc, kcd, kce, kcf, kcg, kch, kci, kcj, kck, kcl, kcm, aop, kcn, kco, kcp, kcq, kcr, kcs, kct, kcu, kcv, kcw, resultsL, resultOf, kcx, Nat.reduceEqDiff, kcy, kcz, kda, reduceCtorEq, kdb, kdc, kdd, kde, kdf, kdg, kdh, kdi, kdj, kdk, kdl, kdm, kdn, kdo, eq1, kdp, kdq, kdr, kds, kdt, kdu, kdv, kdw, kdx, kdy, kdz, kea, keb, kec, apartOK, apart2, AObj.live, ked, kee, kef, keg, keh, kei, kej, kek, kel, Int.reduceEq, Int.reduceLT, Int.reduceLE, Int.reduceAdd, Int.reduceSub, Int.reduceMul, Int.reduceToNat, kem, ken, keo, kep, keq, ker, kes, ket, keu, kev, kew, kex, key, kez, kfa, kfb, kfc, kfd, kfe, kff, kfg, kfh, kfi, kfj, kfk, kfl, cutCells, kfm, kfn, kfo, kfp, kfq, kfr, kfs, kft, kfu, kfv, kfw, kfx, kfy, Nat.reduceAdd, Nat.reduceLeDiff, Nat.reduceLT, Nat.reduceMul, Nat.reduceSub, kfz, kga, kgb, kgc, kgd, kge, kgf, kgg, kgh, kgi, kgj, kgk, kgl, kgm, kgn, kgo, kgp, kgq, kgr, kgs, kgt, kgu, kgv, kgw, kgx, kgy, kgz, kha, khb, khc, khd, hget_set', sc]
  (repeat ((first | refine goes_s sort_blank ?_); try simp (disch := omega) only [kaa, kab, kac, kad, khm, khn, kho, khp, khq, khr, kae, kaf, kag, kah, kai, kaj, kak, kal, kam, kan, kao, khe, khf, khg, khh, khi, khj, khk, khl, kap, kaq, kar, kas, kat, kau, kav, kaw, kax, kay, kaz, kba, kbb, kbc, kbd, kbe, kbf, kbg, kbh, kbi, kbj, kbk, kbl, kbm, kbn, kbo, kbp, kbq, kbr, kbs, kbt, kbu, kbv, kbw, kbx, kby, kbz, kca, kcb, kcc, kcd, kce, kcf, kcg, kch, kci, kcj, kck, kcl, kcm, aop, kcn, kco, kcp, kcq, kcr, kcs, kct, kcu, kcv, kcw, resultsL, resultOf, kcx, Nat.reduceEqDiff, kcy, kcz, kda, reduceCtorEq, kdb, kdc, kdd, kde, kdf, kdg, kdh, kdi, kdj, kdk, kdl, kdm, kdn, kdo, eq1, kdp, kdq, kdr, kds, kdt, kdu, kdv, kdw, kdx, kdy, kdz, kea, keb, kec, apartOK, apart2, AObj.live, ked, kee, kef, keg, keh, kei, kej, kek, kel, Int.reduceEq, Int.reduceLT, Int.reduceLE, Int.reduceAdd, Int.reduceSub, Int.reduceMul, Int.reduceToNat, kem, ken, keo, kep, keq, ker, kes, ket, keu, kev, kew, kex, key, kez, kfa, kfb, kfc, kfd, kfe, kff, kfg, kfh, kfi, kfj, kfk, kfl, cutCells, kfm, kfn, kfo, kfp, kfq, kfr, kfs, kft, kfu, kfv, kfw, kfx, kfy, Nat.reduceAdd, Nat.reduceLeDiff, Nat.reduceLT, Nat.reduceMul, Nat.reduceSub, kfz, kga, kgb, kgc, kgd, kge, kgf, kgg, kgh, kgi, kgj, kgk, kgl, kgm, kgn, kgo, kgp, kgq, kgr, kgs, kgt, kgu, kgv, kgw, kgx, kgy, kgz, kha, khb, khc, khd]))
  have hn1 := takeWhile_le blankQ (text.drop (pos + c))
  rw [List.length_drop] at hn1
  have hsk := sk_blank (text.drop (pos + c))
  rw [List.drop_drop] at hsk
  generalize hn : ((text.drop (pos + c)).takeWhile blankQ).length = n1 at hn1 hsk ⊢
  refine skip_s hrow (by omega) hlen (by omega) (by omega) ?_
  rw [take_drop_eq, adv_take']
  rw [Nat.add_assoc] at hsk ⊢
  have hrow := hget_set' (H := H) (o := .row (sc text (pos + (c + n1)) (adv p ((text.drop pos).take (c + n1))) f) 0 true) hlt
  have hb2 := adv_le ((text.drop pos).take (c + n1)) p
  have hl2 : ((text.drop pos).take (c + n1)).length ≤ 65536 := by rw [List.length_take, List.length_drop]; omega
  simp (disch := omega) only [kaa, kab, kac, kad, khm, khn, kho, khp, khq, khr, kae, kaf, kag, kah, kai, kaj, kak, kal, kam, kan, kao, khe, khf, khg, khh, khi, khj, khk, khl, kap, kaq, kar, kas, kat, kau, kav, kaw, kax, kay, kaz, kba, kbb, kbc, kbd, kbe, kbf, kbg, kbh, kbi, kbj, kbk, kbl, kbm, kbn, kbo, kbp, kbq, kbr, kbs, kbt, kbu, kbv, kbw, kbx, kby, kbz, kca, kcb, kcc, kcd, kce, kcf, kcg, kch, kci, kcj, kck, kcl, kcm, aop, kcn, kco, kcp, kcq, kcr, kcs, kct, kcu, kcv, kcw, resultsL, resultOf, kcx, Nat.reduceEqDiff, kcy, kcz, kda, reduceCtorEq, kdb, kdc, kdd, kde, kdf, kdg, kdh, kdi, kdj, kdk, kdl, kdm, kdn, kdo, eq1, kdp, kdq, kdr, kds, kdt, kdu, kdv, kdw, kdx, kdy, kdz, kea, keb, kec, apartOK, apart2, AObj.live, ked, kee, kef, keg, keh, kei, kej, kek, kel, Int.reduceEq, Int.reduceLT, Int.reduceLE, Int.reduceAdd, Int.reduceSub, Int.reduceMul, Int.reduceToNat, kem, ken, keo, kep, keq, ker, kes, ket, keu, kev, kew, kex, key, kez, kfa, kfb, kfc, kfd, kfe, kff, kfg, kfh, kfi, kfj, kfk, kfl, cutCells, kfm, kfn, kfo, kfp, kfq, kfr, kfs, kft, kfu, kfv, kfw, kfx, kfy, Nat.reduceAdd, Nat.reduceLeDiff, Nat.reduceLT, Nat.reduceMul, Nat.reduceSub, kfz, kga, kgb, kgc, kgd, kge, kgf, kgg, kgh, kgi, kgj, kgk, kgl, kgm, kgn, kgo, kgp, kgq, kgr, kgs, kgt, kgu, kgv, kgw, kgx, kgy, kgz, kha, khb, khc, khd, hget_set', sc]
  have hpl : (text.drop (pos + (c + n1))).length ≤ 4611686018427387904 := by rw [List.length_drop]; omega
  (repeat ((first | refine hasPrefix_s (p := [35]) hpl (by decide) ?_); try simp (disch := omega) only [kaa, kab, kac, kad, khm, khn, kho, khp, khq, khr, kae, kaf, kag, kah, kai, kaj, kak, kal, kam, kan, kao, khe, khf, khg, khh, khi, khj, khk, khl, kap, kaq, kar, kas, kat, kau, kav, kaw, kax, kay, kaz, kba, kbb, kbc, kbd, kbe, kbf, kbg, kbh, kbi, kbj, kbk, kbl, kbm, kbn, kbo, kbp, kbq, kbr, kbs, kbt, kbu, kbv, kbw, kbx, kby, kbz, kca, kcb, kcc, kcd, kce, kcf, kcg, kch, kci, kcj, kck, kcl, kcm, aop, kcn, kco, kcp, kcq, kcr, kcs, kct, kcu, kcv, kcw, resultsL, resultOf, kcx, Nat.reduceEqDiff, kcy, kcz, kda, reduceCtorEq, kdb, kdc, kdd, kde, kdf, kdg, kdh, kdi, kdj, kdk, kdl, kdm, kdn, kdo, eq1, kdp, kdq, kdr, kds, kdt, kdu, kdv, kdw, kdx, kdy, kdz, kea, keb, kec, apartOK, apart2, AObj.live, ked, kee, kef, keg, keh, kei, kej, kek, kel, Int.reduceEq, Int.reduceLT, Int.reduceLE, Int.reduceAdd, Int.reduceSub, Int.reduceMul, Int.reduceToNat, kem, ken, keo, kep, keq, ker, kes, ket, keu, kev, kew, kex, key, kez, kfa, kfb, kfc, kfd, kfe, kff, kfg, kfh, kfi, kfj, kfk, kfl, cutCells, kfm, kfn, kfo, kfp, kfq, kfr, kfs, kft, kfu, kfv, kfw, kfx, kfy, Nat.reduceAdd, Nat.reduceLeDiff, Nat.reduceLT, Nat.reduceMul, Nat.reduceSub, kfz, kga, kgb, kgc, kgd, kge, kgf, kgg, kgh, kgi, kgj, kgk, kgl, kgm, kgn, kgo, kgp, kgq, kgr, kgs, kgt, kgu, kgv, kgw, kgx, kgy, kgz, kha, khb, khc, khd, hget_set', sc]))
  by_cases hx : [35].isPrefixOf (text.drop (pos + (c + n1))) = true
  · simp (disch := omega) only [kaa, kab, kac, kad, khm, khn, kho, khp, khq, khr, kae, kaf, kag, kah, kai, kaj, kak, kal, kam, kan, kao, khe, khf, khg, khh, khi, khj, khk, khl, kap, kaq, kar, kas, kat, kau, kav, kaw, kax, kay, kaz, kba, kbb, kbc, kbd, kbe, kbf, kbg, kbh, kbi, kbj, kbk, kbl, kbm, kbn, kbo, kbp, kbq, kbr, kbs, kbt, kbu, kbv, kbw, kbx, kby, kbz, kca, kcb, kcc, kcd, kce, kcf, kcg, kch, kci, kcj, kck, kcl, kcm, aop, kcn, kco, kcp, kcq, kcr, kcs, kct, kcu, kcv, kcw, resultsL, resultOf, kcx, Nat.reduceEqDiff, kcy, kcz, kda, reduceCtorEq, kdb, kdc, kdd, kde, kdf, kdg, kdh, kdi, kdj, kdk, kdl, kdm, kdn, kdo, eq1, kdp, kdq, kdr, kds, kdt, kdu, kdv, kdw, kdx, kdy, kdz, kea, keb, kec, apartOK, apart2, AObj.live, ked, kee, kef, keg, keh, kei, kej, kek, kel, Int.reduceEq, Int.reduceLT, Int.reduceLE, Int.reduceAdd, Int.reduceSub, Int.reduceMul, Int.reduceToNat, kem, ken, keo, kep, keq, ker, kes, ket, keu, kev, kew, kex, key, kez, kfa, kfb, kfc, kfd, kfe, kff, kfg, kfh, kfi, kfj, kfk, kfl, cutCells, kfm, kfn, kfo, kfp, kfq, kfr, kfs, kft, kfu, kfv, kfw, kfx, kfy, Nat.reduceAdd, Nat.reduceLeDiff, Nat.reduceLT, Nat.reduceMul, Nat.reduceSub, kfz, kga, kgb, kgc, kgd, kge, kgf, kgg, kgh, kgi, kgj, kgk, kgl, kgm, kgn, kgo, kgp, kgq, kgr, kgs, kgt, kgu, kgv, kgw, kgx, kgy, kgz, kha, khb, khc, khd, hx, hget_set', sc]
    (repeat ((first | refine goes_s sort_line ?_); try simp (disch := omega) only [kaa, kab, kac, kad, khm, khn, kho, khp, khq, khr, kae, kaf, kag, kah, kai, kaj, kak, kal, kam, kan, kao, khe, khf, khg, khh, khi, khj, khk, khl, kap, kaq, kar, kas, kat, kau, kav, kaw, kax, kay, kaz, kba, kbb, kbc, kbd, kbe, kbf, kbg, kbh, kbi, kbj, kbk, kbl, kbm, kbn, kbo, kbp, kbq, kbr, kbs, kbt, kbu, kbv, kbw, kbx, kby, kbz, kca, kcb, kcc, kcd, kce, kcf, kcg, kch, kci, kcj, kck, kcl, kcm, aop, kcn, kco, kcp, kcq, kcr, kcs, kct, kcu, kcv, kcw, resultsL, resultOf, kcx, Nat.reduceEqDiff, kcy, kcz, kda, reduceCtorEq, kdb, kdc, kdd, kde, kdf, kdg, kdh, kdi, kdj, kdk, kdl, kdm, kdn, kdo, eq1, kdp, kdq, kdr, kds, kdt, kdu, kdv, kdw, kdx, kdy, kdz, kea, keb, kec, apartOK, apart2, AObj.live, ked, kee, kef, keg, keh, kei, kej, kek, kel, Int.reduceEq, Int.reduceLT, Int.reduceLE, Int.reduceAdd, Int.reduceSub, Int.reduceMul, Int.reduceToNat, kem, ken, keo, kep, keq, ker, kes, ket, keu, kev, kew, kex, key, kez, kfa, kfb, kfc, kfd, kfe, kff, kfg, kfh, kfi, kfj, kfk, kfl, cutCells, kfm, kfn, kfo, kfp, kfq, kfr, kfs, kft, kfu, kfv, kfw, kfx, kfy, Nat.reduceAdd, Nat.reduceLeDiff, Nat.reduceLT, Nat.reduceMul, Nat.reduceSub, kfz, kga, kgb, kgc, kgd, kge, kgf, kgg, kgh, kgi, kgj, kgk, kgl, kgm, kgn, kgo, kgp, kgq, kgr, kgs, kgt, kgu, kgv, kgw, kgx, kgy, kgz, kha, khb, khc, khd]))
    have hn2 := takeWhile_le lineQ (text.drop (pos + (c + n1)))
    rw [List.length_drop] at hn2
    obtain ⟨r, hr⟩ := List.isPrefixOf_iff_prefix.1 hx
    have hr2 : text.drop (pos + (c + n1)) = 35 :: r := hr.symm
    have hsk2 : skN false (text.drop (pos + (c + n1))) = ((text.drop (pos + (c + n1))).takeWhile lineQ).length + skN false (text.drop (pos + (c + n1) + ((text.drop (pos + (c + n1))).takeWhile lineQ).length)) := by
      rw [← List.drop_drop (i := ((text.drop (pos + (c + n1))).takeWhile lineQ).length), hr2]
      have hl35 : lineQ 35 = true := by decide
      have := sk_line r
      simp only [skN, show (35 : UInt8).toNat = 35 from rfl, if_true, List.takeWhile_cons, hl35, List.length_cons, List.drop_succ_cons]
      omega
    have hpos2 : 1 ≤ ((text.drop (pos + (c + n1))).takeWhile lineQ).length := by
      rw [hr2]
      have hl35 : lineQ 35 = true := by decide
      simp [List.takeWhile_cons, hl35]
    generalize hnn : ((text.drop (pos + (c + n1))).takeWhile lineQ).length = n2 at hn2 hsk2 hpos2 ⊢
    refine skip_s hrow (by omega) hlen (by omega) (by omega) ?_
    rw [take_drop_eq, adv_take']
    rw [Nat.add_assoc] at hsk2 ⊢
    simp (disch := omega) only [kaa, kab, kac, kad, khm, khn, kho, khp, khq, khr, kae, kaf, kag, kah, kai, kaj, kak, kal, kam, kan, kao, khe, khf, khg, khh, khi, khj, khk, khl, kap, kaq, kar, kas, kat, kau, kav, kaw, kax, kay, kaz, kba, kbb, kbc, kbd, kbe, kbf, kbg, kbh, kbi, kbj, kbk, kbl, kbm, kbn, kbo, kbp, kbq, kbr, kbs, kbt, kbu, kbv, kbw, kbx, kby, kbz, kca, kcb, kcc, kcd, kce, kcf, kcg, kch, kci, kcj, kck, kcl, kcm, aop, kcn, kco, kcp, kcq, kcr, kcs, kct, kcu, kcv, kcw, resultsL, resultOf, kcx, Nat.reduceEqDiff, kcy, kcz, kda, reduceCtorEq, kdb, kdc, kdd, kde, kdf, kdg, kdh, kdi, kdj, kdk, kdl, kdm, kdn, kdo, eq1, kdp, kdq, kdr, kds, kdt, kdu, kdv, kdw, kdx, kdy, kdz, kea, keb, kec, apartOK, apart2, AObj.live, ked, kee, kef, keg, keh, kei, kej, kek, kel, Int.reduceEq, Int.reduceLT, Int.reduceLE, Int.reduceAdd, Int.reduceSub, Int.reduceMul, Int.reduceToNat, kem, ken, keo, kep, keq, ker, kes, ket, keu, kev, kew, kex, key, kez, kfa, kfb, kfc, kfd, kfe, kff, kfg, kfh, kfi, kfj, kfk, kfl, cutCells, kfm, kfn, kfo, kfp, kfq, kfr, kfs, kft, kfu, kfv, kfw, kfx, kfy, Nat.reduceAdd, Nat.reduceLeDiff, Nat.reduceLT, Nat.reduceMul, Nat.reduceSub, kfz, kga, kgb, kgc, kgd, kge, kgf, kgg, kgh, kgi, kgj, kgk, kgl, kgm, kgn, kgo, kgp, kgq, kgr, kgs, kgt, kgu, kgv, kgw, kgx, kgy, kgz, kha, khb, khc, khd]
    exact ⟨text.length - (pos + (c + n1 + n2)), by omega, c + n1 + n2, by omega, rfl, by omega, rfl, (ex_env rfl)⟩
  · simp (disch := omega) only [kaa, kab, kac, kad, khm, khn, kho, khp, khq, khr, kae, kaf, kag, kah, kai, kaj, kak, kal, kam, kan, kao, khe, khf, khg, khh, khi, khj, khk, khl, kap, kaq, kar, kas, kat, kau, kav, kaw, kax, kay, kaz, kba, kbb, kbc, kbd, kbe, kbf, kbg, kbh, kbi, kbj, kbk, kbl, kbm, kbn, kbo, kbp, kbq, kbr, kbs, kbt, kbu, kbv, kbw, kbx, kby, kbz, kca, kcb, kcc, kcd, kce, kcf, kcg, kch, kci, kcj, kck, kcl, kcm, aop, kcn, kco, kcp, kcq, kcr, kcs, kct, kcu, kcv, kcw, resultsL, resultOf, kcx, Nat.reduceEqDiff, kcy, kcz, kda, reduceCtorEq, kdb, kdc, kdd, kde, kdf, kdg, kdh, kdi, kdj, kdk, kdl, kdm, kdn, kdo, eq1, kdp, kdq, kdr, kds, kdt, kdu, kdv, kdw, kdx, kdy, kdz, kea, keb, kec, apartOK, apart2, AObj.live, ked, kee, kef, keg, keh, kei, kej, kek, kel, Int.reduceEq, Int.reduceLT, Int.reduceLE, Int.reduceAdd, Int.reduceSub, Int.reduceMul, Int.reduceToNat, kem, ken, keo, kep, keq, ker, kes, ket, keu, kev, kew, kex, key, kez, kfa, kfb, kfc, kfd, kfe, kff, kfg, kfh, kfi, kfj, kfk, kfl, cutCells, kfm, kfn, kfo, kfp, kfq, kfr, kfs, kft, kfu, kfv, kfw, kfx, kfy, Nat.reduceAdd, Nat.reduceLeDiff, Nat.reduceLT, Nat.reduceMul, Nat.reduceSub, kfz, kga, kgb, kgc, kgd, kge, kgf, kgg, kgh, kgi, kgj, kgk, kgl, kgm, kgn, kgo, kgp, kgq, kgr, kgs, kgt, kgu, kgv, kgw, kgx, kgy, kgz, kha, khb, khc, khd, hx]
    have hz : skN false (text.drop (pos + (c + n1))) = 0 := by
      rw [← Nat.add_assoc, ← List.drop_drop, ← hn]
      have hnb := drop_takeWhile blankQ (text.drop (pos + c))
      rw [← Nat.add_assoc, ← List.drop_drop, ← hn] at hx
      revert hx hnb
      generalize (text.drop (pos + c)).drop ((text.drop (pos + c)).takeWhile blankQ).length = m
      intro hx hnb
      cases m with
      | nil => rfl
      | cons a m =>
        have h35 : ¬ a.toNat = 35 := by
          intro q
          have : a = 35 := UInt8.toNat_inj.1 q
          subst this
          simp at hx
        simp only [skN, h35, if_false, hnb a rfl, Bool.false_eq_true]
    have hc : c + n1 = skN false (text.drop pos) := by omega
    rw [hc]
    exact h

end Go.Proofs.YtedemfmafdilmaaDoor.Ev

/- The next word. -/
namespace Go.Proofs.YtedemfmafdilmaaDoor.Ev
set_option maxRecDepth 100000
set_option linter.unusedSimpArgs false
set_option linter.unusedVariables false
variable {R : FRes → Heap → Prop} {H : Heap}

theorem part_low {b : UInt8} (h : partQ b = true) : b.toNat < 128 := by
  simp [partQ, isPartB] at h
  omega

def digQ (b : UInt8) : Bool := decide (48 ≤ (b.toNat : Int)) && decide ((b.toNat : Int) ≤ 57)

/-- What stands at a text's front: a word's kind, its length, its value; or a fault. -/
def tok (l : List UInt8) : Except Int (Int × Nat × Nat) :=
  let n := (l.takeWhile partQ).length
  if 0 < n then
    if digQ (l.headD 0) = true then
      match numV (l.take n) with
      | some v => .ok (3, n, v)
      | none => .error 61
    else if wordsL.contains (l.take n) = true then .ok (2, n, 0)
    else if nameB (l.take n) = true then .ok (1, n, 0) else .error 60
  else if signN l = 0 then .error 60 else .ok (4, signN l, 0)

/-- A word's cells. -/
def tk (kind : Int) (l : List UInt8) (v : Nat) (p : Nat × Nat) : List Value :=
  [.int .i64 kind, .string (bs l), .int .u64 ((v / W64 : Nat) : Int), .int .u64 ((v % W64 : Nat) : Int), .int .i64 p.1, .int .i64 p.2]
def tk0 : List Value := [.int .i64 0, .string (bs []), .int .u64 0, .int .u64 0, .int .i64 0, .int .i64 0]

/-- The answer of next, and the scanner behind it. -/
def nextR (text : List UInt8) (pos : Nat) (p : Nat × Nat) (f : Int × Int × Int) : Value × List Value :=
  let n := skN false (text.drop pos)
  let p1 := adv p ((text.drop pos).take n)
  let rest := text.drop (pos + n)
  if rest = [] then (.tuple #[.agg tk0.toArray, .bool false], sc text (pos + n) p1 f)
  else match tok rest with
    | .error c => (.tuple #[.agg tk0.toArray, .bool false], sc text (pos + n) p1 (c, p1.1, p1.2))
    | .ok (k, m, v) => (.tuple #[.agg (tk k (rest.take m) v p1).toArray, .bool true], sc text (pos + n + m) (adv p1 (rest.take m)) f)

theorem all_takeWhile {α : Type} (q : α → Bool) : ∀ (l : List α), ∀ b ∈ l.takeWhile q, q b = true
  | [], b, h => by simp at h
  | a :: l, b, h => by
    by_cases ha : q a = true
    · simp only [List.takeWhile_cons, ha, if_true, List.mem_cons] at h
      rcases h with rfl | h
      · exact ha
      · exact all_takeWhile q l b h
    · simp [List.takeWhile_cons, ha] at h
theorem take_takeWhile {α : Type} (q : α → Bool) : ∀ (l : List α), l.take (l.takeWhile q).length = l.takeWhile q
  | [] => rfl
  | a :: l => by
    by_cases ha : q a = true
    · simp only [List.takeWhile_cons, ha, if_true, List.length_cons, List.take_succ_cons, take_takeWhile q l]
    · simp [List.takeWhile_cons, ha]
theorem scoped_tk {n : Nat} {kind : Int} {l : List UInt8} {v : Nat} {p : Nat × Nat} : ∀ u ∈ tk kind l v p, Scoped n u := by
  intro u hu
  simp [tk] at hu
  rcases hu with rfl | rfl | rfl | rfl | rfl | rfl <;> exact .closed rfl
theorem signN_le (l : List UInt8) : signN l ≤ l.length := by
  unfold signN
  split
  · rename_i s hs
    have := List.find?_some hs
    exact (List.isPrefixOf_iff_prefix.1 this).length_le
  · exact Nat.zero_le _

theorem GH.setapp {H G : Heap} {b : Nat} {o : AObj} (h : GH H) (hb : 2 ≤ b) : GH (H.set b o ++ G) := by
  have := h.two
  exact ⟨by rw [hget_oldS (by omega), hget_set_ne _ _ (by omega)]; exact h.words, by rw [hget_oldS (by omega), hget_set_ne _ _ (by omega)]; exact h.signs, by simp; omega⟩

theorem head_drop {l : List UInt8} {a : Nat} (h : a < l.length) : (l.drop a).headD 0 = l[a] := by
  rw [List.headD_eq_head?_getD, List.head?_drop, List.getElem?_eq_getElem h]; rfl

theorem next_s {text : List UInt8} {pos b : Nat} {p : Nat × Nat} {f : Int × Int × Int} (hH : GH H) (hb2 : 2 ≤ b) (hb : hget H b = .row (sc text pos p f) 0 true) (hpos : pos ≤ text.length) (hlen : text.length ≤ 65536) (h1 : p.1 ≤ 400000) (h2 : p.2 ≤ 400000)
    (h : R (.ret (nextR text pos p f).1) (H.set b (.row (nextR text pos p f).2 0 true))) : WD T 23 [.pointer (some ⟨b, 0, none⟩)] H R := by
  have hlt : b < H.length := hget_lt hb rfl
  refine WD.gcU b (WD.of follows t23 (by simp) ?_)
  simp (disch := omega) only [kaa, kab, kac, kad, khm, khn, kho, khp, khq, khr, kae, kaf, kag, kah, kai, kaj, kak, kal, kam, kan, kao, khe, khf, khg, khh, khi, khj, khk, khl, kap, kaq, kar, kas, kat, kau, kav, kaw, kax, kay, kaz, kba, kbb, kbc, kbd, kbe, kbf, kbg, kbh, kbi, kbj, kbk, kbl, kbm, kbn, kbo, kbp, kbq, kbr, kbs, kbt, kbu, kbv, kbw, kbx, kby, kbz, kca, kcb, kcc, kcd, kce, kcf, kcg, kch, kci, kcj, kck, kcl, kcm, aop, kcn, kco, kcp, kcq, kcr, kcs, kct, kcu, kcv, kcw, resultsL, resultOf, kcx, Nat.reduceEqDiff, kcy, kcz, kda, reduceCtorEq, kdb, kdc, kdd, kde, kdf, kdg, kdh, kdi, kdj, kdk, kdl, kdm, kdn, kdo, eq1, kdp, kdq, kdr, kds, kdt, kdu, kdv, kdw, kdx, kdy, kdz, kea, keb, kec, apartOK, apart2, AObj.live, ked, kee, kef, keg, keh, kei, kej, kek, kel, Int.reduceEq, Int.reduceLT, Int.reduceLE, Int.reduceAdd, Int.reduceSub, Int.reduceMul, Int.reduceToNat, kem, ken, keo, kep, keq, ker, kes, ket, keu, kev, kew, kex, key, kez, kfa, kfb, kfc, kfd, kfe, kff, kfg, kfh, kfi, kfj, kfk, kfl, cutCells, kfm, kfn, kfo, kfp, kfq, kfr, kfs, kft, kfu, kfv, kfw, kfx, kfy, Nat.reduceAdd, Nat.reduceLeDiff, Nat.reduceLT, Nat.reduceMul, Nat.reduceSub, kfz, kga, kgb, kgc, kgd, kge, kgf, kgg, kgh, kgi, kgj, kgk, kgl, kgm, kgn, kgo, kgp, kgq, kgr, kgs, kgt, kgu, kgv, kgw, kgx, kgy, kgz, kha, khb, khc, khd]
  refine blanks_s (by rw [hget_old hlt]; exact hb) hpos hlen (by omega) (by omega) ?_
  generalize hn : skN false (text.drop pos) = n at h ⊢
  have hn1 := sk_le false (text.drop pos)
  rw [List.length_drop, hn] at hn1
  have hb1 := adv_le ((text.drop pos).take n) p
  have hl1 : ((text.drop pos).take n).length ≤ 65536 := by rw [List.length_take, List.length_drop]; omega
  generalize hp1 : adv p ((text.drop pos).take n) = p1 at h hb1 ⊢
  simp only [nextR, hn, hp1] at h
  simp (disch := omega) only [kaa, kab, kac, kad, khm, khn, kho, khp, khq, khr, kae, kaf, kag, kah, kai, kaj, kak, kal, kam, kan, kao, khe, khf, khg, khh, khi, khj, khk, khl, kap, kaq, kar, kas, kat, kau, kav, kaw, kax, kay, kaz, kba, kbb, kbc, kbd, kbe, kbf, kbg, kbh, kbi, kbj, kbk, kbl, kbm, kbn, kbo, kbp, kbq, kbr, kbs, kbt, kbu, kbv, kbw, kbx, kby, kbz, kca, kcb, kcc, kcd, kce, kcf, kcg, kch, kci, kcj, kck, kcl, kcm, aop, kcn, kco, kcp, kcq, kcr, kcs, kct, kcu, kcv, kcw, resultsL, resultOf, kcx, Nat.reduceEqDiff, kcy, kcz, kda, reduceCtorEq, kdb, kdc, kdd, kde, kdf, kdg, kdh, kdi, kdj, kdk, kdl, kdm, kdn, kdo, eq1, kdp, kdq, kdr, kds, kdt, kdu, kdv, kdw, kdx, kdy, kdz, kea, keb, kec, apartOK, apart2, AObj.live, ked, kee, kef, keg, keh, kei, kej, kek, kel, Int.reduceEq, Int.reduceLT, Int.reduceLE, Int.reduceAdd, Int.reduceSub, Int.reduceMul, Int.reduceToNat, kem, ken, keo, kep, keq, ker, kes, ket, keu, kev, kew, kex, key, kez, kfa, kfb, kfc, kfd, kfe, kff, kfg, kfh, kfi, kfj, kfk, kfl, cutCells, kfm, kfn, kfo, kfp, kfq, kfr, kfs, kft, kfu, kfv, kfw, kfx, kfy, Nat.reduceAdd, Nat.reduceLeDiff, Nat.reduceLT, Nat.reduceMul, Nat.reduceSub, kfz, kga, kgb, kgc, kgd, kge, kgf, kgg, kgh, kgi, kgj, kgk, kgl, kgm, kgn, kgo, kgp, kgq, kgr, kgs, kgt, kgu, kgv, kgw, kgx, kgy, kgz, kha, khb, khc, khd, set_old, hget_oldS, hget_set', sc]
  by_cases hr : text.drop (pos + n) = []
  · rw [if_pos hr] at h
    simp (disch := omega) only [kaa, kab, kac, kad, khm, khn, kho, khp, khq, khr, kae, kaf, kag, kah, kai, kaj, kak, kal, kam, kan, kao, khe, khf, khg, khh, khi, khj, khk, khl, kap, kaq, kar, kas, kat, kau, kav, kaw, kax, kay, kaz, kba, kbb, kbc, kbd, kbe, kbf, kbg, kbh, kbi, kbj, kbk, kbl, kbm, kbn, kbo, kbp, kbq, kbr, kbs, kbt, kbu, kbv, kbw, kbx, kby, kbz, kca, kcb, kcc, kcd, kce, kcf, kcg, kch, kci, kcj, kck, kcl, kcm, aop, kcn, kco, kcp, kcq, kcr, kcs, kct, kcu, kcv, kcw, resultsL, resultOf, kcx, Nat.reduceEqDiff, kcy, kcz, kda, reduceCtorEq, kdb, kdc, kdd, kde, kdf, kdg, kdh, kdi, kdj, kdk, kdl, kdm, kdn, kdo, eq1, kdp, kdq, kdr, kds, kdt, kdu, kdv, kdw, kdx, kdy, kdz, kea, keb, kec, apartOK, apart2, AObj.live, ked, kee, kef, keg, keh, kei, kej, kek, kel, Int.reduceEq, Int.reduceLT, Int.reduceLE, Int.reduceAdd, Int.reduceSub, Int.reduceMul, Int.reduceToNat, kem, ken, keo, kep, keq, ker, kes, ket, keu, kev, kew, kex, key, kez, kfa, kfb, kfc, kfd, kfe, kff, kfg, kfh, kfi, kfj, kfk, kfl, cutCells, kfm, kfn, kfo, kfp, kfq, kfr, kfs, kft, kfu, kfv, kfw, kfx, kfy, Nat.reduceAdd, Nat.reduceLeDiff, Nat.reduceLT, Nat.reduceMul, Nat.reduceSub, kfz, kga, kgb, kgc, kgd, kge, kgf, kgg, kgh, kgi, kgj, kgk, kgl, kgm, kgn, kgo, kgp, kgq, kgr, kgs, kgt, kgu, kgv, kgw, kgx, kgy, kgz, kha, khb, khc, khd, hr]
    exact ⟨_, _, _, _, rfl, ⟨_, rfl⟩, scoped_sc, .tup2 (.closed rfl) (.closed rfl), h⟩
  · rw [if_neg hr] at h
    have hlt2 : pos + n < text.length := by
      rw [List.drop_eq_nil_iff] at hr
      omega
    simp (disch := omega) only [kaa, kab, kac, kad, khm, khn, kho, khp, khq, khr, kae, kaf, kag, kah, kai, kaj, kak, kal, kam, kan, kao, khe, khf, khg, khh, khi, khj, khk, khl, kap, kaq, kar, kas, kat, kau, kav, kaw, kax, kay, kaz, kba, kbb, kbc, kbd, kbe, kbf, kbg, kbh, kbi, kbj, kbk, kbl, kbm, kbn, kbo, kbp, kbq, kbr, kbs, kbt, kbu, kbv, kbw, kbx, kby, kbz, kca, kcb, kcc, kcd, kce, kcf, kcg, kch, kci, kcj, kck, kcl, kcm, aop, kcn, kco, kcp, kcq, kcr, kcs, kct, kcu, kcv, kcw, resultsL, resultOf, kcx, Nat.reduceEqDiff, kcy, kcz, kda, reduceCtorEq, kdb, kdc, kdd, kde, kdf, kdg, kdh, kdi, kdj, kdk, kdl, kdm, kdn, kdo, eq1, kdp, kdq, kdr, kds, kdt, kdu, kdv, kdw, kdx, kdy, kdz, kea, keb, kec, apartOK, apart2, AObj.live, ked, kee, kef, keg, keh, kei, kej, kek, kel, Int.reduceEq, Int.reduceLT, Int.reduceLE, Int.reduceAdd, Int.reduceSub, Int.reduceMul, Int.reduceToNat, kem, ken, keo, kep, keq, ker, kes, ket, keu, kev, kew, kex, key, kez, kfa, kfb, kfc, kfd, kfe, kff, kfg, kfh, kfi, kfj, kfk, kfl, cutCells, kfm, kfn, kfo, kfp, kfq, kfr, kfs, kft, kfu, kfv, kfw, kfx, kfy, Nat.reduceAdd, Nat.reduceLeDiff, Nat.reduceLT, Nat.reduceMul, Nat.reduceSub, kfz, kga, kgb, kgc, kgd, kge, kgf, kgg, kgh, kgi, kgj, kgk, kgl, kgm, kgn, kgo, kgp, kgq, kgr, kgs, kgt, kgu, kgv, kgw, kgx, kgy, kgz, kha, khb, khc, khd, hr]
    (repeat ((first | refine goes_s sort_part ?_); try simp (disch := omega) only [kaa, kab, kac, kad, khm, khn, kho, khp, khq, khr, kae, kaf, kag, kah, kai, kaj, kak, kal, kam, kan, kao, khe, khf, khg, khh, khi, khj, khk, khl, kap, kaq, kar, kas, kat, kau, kav, kaw, kax, kay, kaz, kba, kbb, kbc, kbd, kbe, kbf, kbg, kbh, kbi, kbj, kbk, kbl, kbm, kbn, kbo, kbp, kbq, kbr, kbs, kbt, kbu, kbv, kbw, kbx, kby, kbz, kca, kcb, kcc, kcd, kce, kcf, kcg, kch, kci, kcj, kck, kcl, kcm, aop, kcn, kco, kcp, kcq, kcr, kcs, kct, kcu, kcv, kcw, resultsL, resultOf, kcx, Nat.reduceEqDiff, kcy, kcz, kda, reduceCtorEq, kdb, kdc, kdd, kde, kdf, kdg, kdh, kdi, kdj, kdk, kdl, kdm, kdn, kdo, eq1, kdp, kdq, kdr, kds, kdt, kdu, kdv, kdw, kdx, kdy, kdz, kea, keb, kec, apartOK, apart2, AObj.live, ked, kee, kef, keg, keh, kei, kej, kek, kel, Int.reduceEq, Int.reduceLT, Int.reduceLE, Int.reduceAdd, Int.reduceSub, Int.reduceMul, Int.reduceToNat, kem, ken, keo, kep, keq, ker, kes, ket, keu, kev, kew, kex, key, kez, kfa, kfb, kfc, kfd, kfe, kff, kfg, kfh, kfi, kfj, kfk, kfl, cutCells, kfm, kfn, kfo, kfp, kfq, kfr, kfs, kft, kfu, kfv, kfw, kfx, kfy, Nat.reduceAdd, Nat.reduceLeDiff, Nat.reduceLT, Nat.reduceMul, Nat.reduceSub, kfz, kga, kgb, kgc, kgd, kge, kgf, kgg, kgh, kgi, kgj, kgk, kgl, kgm, kgn, kgo, kgp, kgq, kgr, kgs, kgt, kgu, kgv, kgw, kgx, kgy, kgz, kha, khb, khc, khd]))
    have hrl : (text.drop (pos + n)).length = text.length - (pos + n) := List.length_drop
    generalize hrest : text.drop (pos + n) = rest at *
    have hw := takeWhile_le partQ rest
    have hall : ∀ b ∈ rest.takeWhile partQ, partQ b = true := fun b hb => all_takeWhile partQ rest b hb
    have htw := take_takeWhile partQ rest
    have h0 : rest[0]? = some (rest.headD 0) := by cases rest with | nil => exact absurd rfl hr | cons a l => rfl
    have hd : (decide (48 ≤ ((rest.headD 0).toNat : Int)) && decide (((rest.headD 0).toNat : Int) ≤ 57)) = digQ (rest.headD 0) := rfl
    have h256 := (rest.headD 0).toNat_lt
    generalize hc0 : rest.headD 0 = c0 at *
    generalize hmm : (rest.takeWhile partQ).length = m at *
    have hbd : ∀ l : List UInt8, l.length ≤ m → l.length ≤ 4611686018427387904 := fun l hl => by omega
    simp only [tok, hmm, hc0] at h
    by_cases hm : (0 : Int) < (m : Int)
    · have hm' : 0 < m := by omega
      simp only [hm', if_true] at h
      simp (disch := omega) only [kaa, kab, kac, kad, khm, khn, kho, khp, khq, khr, kae, kaf, kag, kah, kai, kaj, kak, kal, kam, kan, kao, khe, khf, khg, khh, khi, khj, khk, khl, kap, kaq, kar, kas, kat, kau, kav, kaw, kax, kay, kaz, kba, kbb, kbc, kbd, kbe, kbf, kbg, kbh, kbi, kbj, kbk, kbl, kbm, kbn, kbo, kbp, kbq, kbr, kbs, kbt, kbu, kbv, kbw, kbx, kby, kbz, kca, kcb, kcc, kcd, kce, kcf, kcg, kch, kci, kcj, kck, kcl, kcm, aop, kcn, kco, kcp, kcq, kcr, kcs, kct, kcu, kcv, kcw, resultsL, resultOf, kcx, Nat.reduceEqDiff, kcy, kcz, kda, reduceCtorEq, kdb, kdc, kdd, kde, kdf, kdg, kdh, kdi, kdj, kdk, kdl, kdm, kdn, kdo, eq1, kdp, kdq, kdr, kds, kdt, kdu, kdv, kdw, kdx, kdy, kdz, kea, keb, kec, apartOK, apart2, AObj.live, ked, kee, kef, keg, keh, kei, kej, kek, kel, Int.reduceEq, Int.reduceLT, Int.reduceLE, Int.reduceAdd, Int.reduceSub, Int.reduceMul, Int.reduceToNat, kem, ken, keo, kep, keq, ker, kes, ket, keu, kev, kew, kex, key, kez, kfa, kfb, kfc, kfd, kfe, kff, kfg, kfh, kfi, kfj, kfk, kfl, cutCells, kfm, kfn, kfo, kfp, kfq, kfr, kfs, kft, kfu, kfv, kfw, kfx, kfy, Nat.reduceAdd, Nat.reduceLeDiff, Nat.reduceLT, Nat.reduceMul, Nat.reduceSub, kfz, kga, kgb, kgc, kgd, kge, kgf, kgg, kgh, kgi, kgj, kgk, kgl, kgm, kgn, kgo, kgp, kgq, kgr, kgs, kgt, kgu, kgv, kgw, kgx, kgy, kgz, kha, khb, khc, khd, hm, h0, Option.map_some, wr_i32]
      (repeat ((first | refine isDigit_s ?_); try simp (disch := omega) only [kaa, kab, kac, kad, khm, khn, kho, khp, khq, khr, kae, kaf, kag, kah, kai, kaj, kak, kal, kam, kan, kao, khe, khf, khg, khh, khi, khj, khk, khl, kap, kaq, kar, kas, kat, kau, kav, kaw, kax, kay, kaz, kba, kbb, kbc, kbd, kbe, kbf, kbg, kbh, kbi, kbj, kbk, kbl, kbm, kbn, kbo, kbp, kbq, kbr, kbs, kbt, kbu, kbv, kbw, kbx, kby, kbz, kca, kcb, kcc, kcd, kce, kcf, kcg, kch, kci, kcj, kck, kcl, kcm, aop, kcn, kco, kcp, kcq, kcr, kcs, kct, kcu, kcv, kcw, resultsL, resultOf, kcx, Nat.reduceEqDiff, kcy, kcz, kda, reduceCtorEq, kdb, kdc, kdd, kde, kdf, kdg, kdh, kdi, kdj, kdk, kdl, kdm, kdn, kdo, eq1, kdp, kdq, kdr, kds, kdt, kdu, kdv, kdw, kdx, kdy, kdz, kea, keb, kec, apartOK, apart2, AObj.live, ked, kee, kef, keg, keh, kei, kej, kek, kel, Int.reduceEq, Int.reduceLT, Int.reduceLE, Int.reduceAdd, Int.reduceSub, Int.reduceMul, Int.reduceToNat, kem, ken, keo, kep, keq, ker, kes, ket, keu, kev, kew, kex, key, kez, kfa, kfb, kfc, kfd, kfe, kff, kfg, kfh, kfi, kfj, kfk, kfl, cutCells, kfm, kfn, kfo, kfp, kfq, kfr, kfs, kft, kfu, kfv, kfw, kfx, kfy, Nat.reduceAdd, Nat.reduceLeDiff, Nat.reduceLT, Nat.reduceMul, Nat.reduceSub, kfz, kga, kgb, kgc, kgd, kge, kgf, kgg, kgh, kgi, kgj, kgk, kgl, kgm, kgn, kgo, kgp, kgq, kgr, kgs, kgt, kgu, kgv, kgw, kgx, kgy, kgz, kha, khb, khc, khd, hm, hd]))
      by_cases hq : digQ c0 = true
      · simp only [hq, if_true] at h
        simp (disch := omega) only [kaa, kab, kac, kad, khm, khn, kho, khp, khq, khr, kae, kaf, kag, kah, kai, kaj, kak, kal, kam, kan, kao, khe, khf, khg, khh, khi, khj, khk, khl, kap, kaq, kar, kas, kat, kau, kav, kaw, kax, kay, kaz, kba, kbb, kbc, kbd, kbe, kbf, kbg, kbh, kbi, kbj, kbk, kbl, kbm, kbn, kbo, kbp, kbq, kbr, kbs, kbt, kbu, kbv, kbw, kbx, kby, kbz, kca, kcb, kcc, kcd, kce, kcf, kcg, kch, kci, kcj, kck, kcl, kcm, aop, kcn, kco, kcp, kcq, kcr, kcs, kct, kcu, kcv, kcw, resultsL, resultOf, kcx, Nat.reduceEqDiff, kcy, kcz, kda, reduceCtorEq, kdb, kdc, kdd, kde, kdf, kdg, kdh, kdi, kdj, kdk, kdl, kdm, kdn, kdo, eq1, kdp, kdq, kdr, kds, kdt, kdu, kdv, kdw, kdx, kdy, kdz, kea, keb, kec, apartOK, apart2, AObj.live, ked, kee, kef, keg, keh, kei, kej, kek, kel, Int.reduceEq, Int.reduceLT, Int.reduceLE, Int.reduceAdd, Int.reduceSub, Int.reduceMul, Int.reduceToNat, kem, ken, keo, kep, keq, ker, kes, ket, keu, kev, kew, kex, key, kez, kfa, kfb, kfc, kfd, kfe, kff, kfg, kfh, kfi, kfj, kfk, kfl, cutCells, kfm, kfn, kfo, kfp, kfq, kfr, kfs, kft, kfu, kfv, kfw, kfx, kfy, Nat.reduceAdd, Nat.reduceLeDiff, Nat.reduceLT, Nat.reduceMul, Nat.reduceSub, kfz, kga, kgb, kgc, kgd, kge, kgf, kgg, kgh, kgi, kgj, kgk, kgl, kgm, kgn, kgo, kgp, kgq, kgr, kgs, kgt, kgu, kgv, kgw, kgx, kgy, kgz, kha, khb, khc, khd, hq]
        have hlow : ∀ b ∈ rest.take m, b.toNat < 128 := fun b hb => part_low (hall b (by rw [← htw]; exact hb))
        (repeat ((first | refine number_s hlow (hbd _ (List.length_take_le _ _)) ?_); try simp (disch := omega) only [kaa, kab, kac, kad, khm, khn, kho, khp, khq, khr, kae, kaf, kag, kah, kai, kaj, kak, kal, kam, kan, kao, khe, khf, khg, khh, khi, khj, khk, khl, kap, kaq, kar, kas, kat, kau, kav, kaw, kax, kay, kaz, kba, kbb, kbc, kbd, kbe, kbf, kbg, kbh, kbi, kbj, kbk, kbl, kbm, kbn, kbo, kbp, kbq, kbr, kbs, kbt, kbu, kbv, kbw, kbx, kby, kbz, kca, kcb, kcc, kcd, kce, kcf, kcg, kch, kci, kcj, kck, kcl, kcm, aop, kcn, kco, kcp, kcq, kcr, kcs, kct, kcu, kcv, kcw, resultsL, resultOf, kcx, Nat.reduceEqDiff, kcy, kcz, kda, reduceCtorEq, kdb, kdc, kdd, kde, kdf, kdg, kdh, kdi, kdj, kdk, kdl, kdm, kdn, kdo, eq1, kdp, kdq, kdr, kds, kdt, kdu, kdv, kdw, kdx, kdy, kdz, kea, keb, kec, apartOK, apart2, AObj.live, ked, kee, kef, keg, keh, kei, kej, kek, kel, Int.reduceEq, Int.reduceLT, Int.reduceLE, Int.reduceAdd, Int.reduceSub, Int.reduceMul, Int.reduceToNat, kem, ken, keo, kep, keq, ker, kes, ket, keu, kev, kew, kex, key, kez, kfa, kfb, kfc, kfd, kfe, kff, kfg, kfh, kfi, kfj, kfk, kfl, cutCells, kfm, kfn, kfo, kfp, kfq, kfr, kfs, kft, kfu, kfv, kfw, kfx, kfy, Nat.reduceAdd, Nat.reduceLeDiff, Nat.reduceLT, Nat.reduceMul, Nat.reduceSub, kfz, kga, kgb, kgc, kgd, kge, kgf, kgg, kgh, kgi, kgj, kgk, kgl, kgm, kgn, kgo, kgp, kgq, kgr, kgs, kgt, kgu, kgv, kgw, kgx, kgy, kgz, kha, khb, khc, khd, numR]))
        cases hv : numV (rest.take m) with
        | none =>
          rw [hv] at h
          simp (disch := omega) only [kaa, kab, kac, kad, khm, khn, kho, khp, khq, khr, kae, kaf, kag, kah, kai, kaj, kak, kal, kam, kan, kao, khe, khf, khg, khh, khi, khj, khk, khl, kap, kaq, kar, kas, kat, kau, kav, kaw, kax, kay, kaz, kba, kbb, kbc, kbd, kbe, kbf, kbg, kbh, kbi, kbj, kbk, kbl, kbm, kbn, kbo, kbp, kbq, kbr, kbs, kbt, kbu, kbv, kbw, kbx, kby, kbz, kca, kcb, kcc, kcd, kce, kcf, kcg, kch, kci, kcj, kck, kcl, kcm, aop, kcn, kco, kcp, kcq, kcr, kcs, kct, kcu, kcv, kcw, resultsL, resultOf, kcx, Nat.reduceEqDiff, kcy, kcz, kda, reduceCtorEq, kdb, kdc, kdd, kde, kdf, kdg, kdh, kdi, kdj, kdk, kdl, kdm, kdn, kdo, eq1, kdp, kdq, kdr, kds, kdt, kdu, kdv, kdw, kdx, kdy, kdz, kea, keb, kec, apartOK, apart2, AObj.live, ked, kee, kef, keg, keh, kei, kej, kek, kel, Int.reduceEq, Int.reduceLT, Int.reduceLE, Int.reduceAdd, Int.reduceSub, Int.reduceMul, Int.reduceToNat, kem, ken, keo, kep, keq, ker, kes, ket, keu, kev, kew, kex, key, kez, kfa, kfb, kfc, kfd, kfe, kff, kfg, kfh, kfi, kfj, kfk, kfl, cutCells, kfm, kfn, kfo, kfp, kfq, kfr, kfs, kft, kfu, kfv, kfw, kfx, kfy, Nat.reduceAdd, Nat.reduceLeDiff, Nat.reduceLT, Nat.reduceMul, Nat.reduceSub, kfz, kga, kgb, kgc, kgd, kge, kgf, kgg, kgh, kgi, kgj, kgk, kgl, kgm, kgn, kgo, kgp, kgq, kgr, kgs, kgt, kgu, kgv, kgw, kgx, kgy, kgz, kha, khb, khc, khd, hv, Option.isSome_none, Option.getD_none, bitsL]
          exact ⟨_, _, _, _, rfl, ⟨_, rfl⟩, scoped_sc (f := (61, ((p1.1 : Nat) : Int), ((p1.2 : Nat) : Int))), .tup2 (.closed rfl) (.closed rfl), h⟩
        | some v =>
          rw [hv] at h
          simp (disch := omega) only [kaa, kab, kac, kad, khm, khn, kho, khp, khq, khr, kae, kaf, kag, kah, kai, kaj, kak, kal, kam, kan, kao, khe, khf, khg, khh, khi, khj, khk, khl, kap, kaq, kar, kas, kat, kau, kav, kaw, kax, kay, kaz, kba, kbb, kbc, kbd, kbe, kbf, kbg, kbh, kbi, kbj, kbk, kbl, kbm, kbn, kbo, kbp, kbq, kbr, kbs, kbt, kbu, kbv, kbw, kbx, kby, kbz, kca, kcb, kcc, kcd, kce, kcf, kcg, kch, kci, kcj, kck, kcl, kcm, aop, kcn, kco, kcp, kcq, kcr, kcs, kct, kcu, kcv, kcw, resultsL, resultOf, kcx, Nat.reduceEqDiff, kcy, kcz, kda, reduceCtorEq, kdb, kdc, kdd, kde, kdf, kdg, kdh, kdi, kdj, kdk, kdl, kdm, kdn, kdo, eq1, kdp, kdq, kdr, kds, kdt, kdu, kdv, kdw, kdx, kdy, kdz, kea, keb, kec, apartOK, apart2, AObj.live, ked, kee, kef, keg, keh, kei, kej, kek, kel, Int.reduceEq, Int.reduceLT, Int.reduceLE, Int.reduceAdd, Int.reduceSub, Int.reduceMul, Int.reduceToNat, kem, ken, keo, kep, keq, ker, kes, ket, keu, kev, kew, kex, key, kez, kfa, kfb, kfc, kfd, kfe, kff, kfg, kfh, kfi, kfj, kfk, kfl, cutCells, kfm, kfn, kfo, kfp, kfq, kfr, kfs, kft, kfu, kfv, kfw, kfx, kfy, Nat.reduceAdd, Nat.reduceLeDiff, Nat.reduceLT, Nat.reduceMul, Nat.reduceSub, kfz, kga, kgb, kgc, kgd, kge, kgf, kgg, kgh, kgi, kgj, kgk, kgl, kgm, kgn, kgo, kgp, kgq, kgr, kgs, kgt, kgu, kgv, kgw, kgx, kgy, kgz, kha, khb, khc, khd, hv, Option.isSome_some, Option.getD_some, bitsL]
          refine skip_s (text := text) (pos := pos + n) (p := p1) (f := f) (by simp (disch := omega) only [kaa, kab, kac, kad, khm, khn, kho, khp, khq, khr, kae, kaf, kag, kah, kai, kaj, kak, kal, kam, kan, kao, khe, khf, khg, khh, khi, khj, khk, khl, kap, kaq, kar, kas, kat, kau, kav, kaw, kax, kay, kaz, kba, kbb, kbc, kbd, kbe, kbf, kbg, kbh, kbi, kbj, kbk, kbl, kbm, kbn, kbo, kbp, kbq, kbr, kbs, kbt, kbu, kbv, kbw, kbx, kby, kbz, kca, kcb, kcc, kcd, kce, kcf, kcg, kch, kci, kcj, kck, kcl, kcm, aop, kcn, kco, kcp, kcq, kcr, kcs, kct, kcu, kcv, kcw, resultsL, resultOf, kcx, Nat.reduceEqDiff, kcy, kcz, kda, reduceCtorEq, kdb, kdc, kdd, kde, kdf, kdg, kdh, kdi, kdj, kdk, kdl, kdm, kdn, kdo, eq1, kdp, kdq, kdr, kds, kdt, kdu, kdv, kdw, kdx, kdy, kdz, kea, keb, kec, apartOK, apart2, AObj.live, ked, kee, kef, keg, keh, kei, kej, kek, kel, Int.reduceEq, Int.reduceLT, Int.reduceLE, Int.reduceAdd, Int.reduceSub, Int.reduceMul, Int.reduceToNat, kem, ken, keo, kep, keq, ker, kes, ket, keu, kev, kew, kex, key, kez, kfa, kfb, kfc, kfd, kfe, kff, kfg, kfh, kfi, kfj, kfk, kfl, cutCells, kfm, kfn, kfo, kfp, kfq, kfr, kfs, kft, kfu, kfv, kfw, kfx, kfy, Nat.reduceAdd, Nat.reduceLeDiff, Nat.reduceLT, Nat.reduceMul, Nat.reduceSub, kfz, kga, kgb, kgc, kgd, kge, kgf, kgg, kgh, kgi, kgj, kgk, kgl, kgm, kgn, kgo, kgp, kgq, kgr, kgs, kgt, kgu, kgv, kgw, kgx, kgy, kgz, kha, khb, khc, khd, sc]) (by omega) hlen (by omega) (by omega) ?_
          rw [take_drop_eq, hrest]
          simp (disch := omega) only [kaa, kab, kac, kad, khm, khn, kho, khp, khq, khr, kae, kaf, kag, kah, kai, kaj, kak, kal, kam, kan, kao, khe, khf, khg, khh, khi, khj, khk, khl, kap, kaq, kar, kas, kat, kau, kav, kaw, kax, kay, kaz, kba, kbb, kbc, kbd, kbe, kbf, kbg, kbh, kbi, kbj, kbk, kbl, kbm, kbn, kbo, kbp, kbq, kbr, kbs, kbt, kbu, kbv, kbw, kbx, kby, kbz, kca, kcb, kcc, kcd, kce, kcf, kcg, kch, kci, kcj, kck, kcl, kcm, aop, kcn, kco, kcp, kcq, kcr, kcs, kct, kcu, kcv, kcw, resultsL, resultOf, kcx, Nat.reduceEqDiff, kcy, kcz, kda, reduceCtorEq, kdb, kdc, kdd, kde, kdf, kdg, kdh, kdi, kdj, kdk, kdl, kdm, kdn, kdo, eq1, kdp, kdq, kdr, kds, kdt, kdu, kdv, kdw, kdx, kdy, kdz, kea, keb, kec, apartOK, apart2, AObj.live, ked, kee, kef, keg, keh, kei, kej, kek, kel, Int.reduceEq, Int.reduceLT, Int.reduceLE, Int.reduceAdd, Int.reduceSub, Int.reduceMul, Int.reduceToNat, kem, ken, keo, kep, keq, ker, kes, ket, keu, kev, kew, kex, key, kez, kfa, kfb, kfc, kfd, kfe, kff, kfg, kfh, kfi, kfj, kfk, kfl, cutCells, kfm, kfn, kfo, kfp, kfq, kfr, kfs, kft, kfu, kfv, kfw, kfx, kfy, Nat.reduceAdd, Nat.reduceLeDiff, Nat.reduceLT, Nat.reduceMul, Nat.reduceSub, kfz, kga, kgb, kgc, kgd, kge, kgf, kgg, kgh, kgi, kgj, kgk, kgl, kgm, kgn, kgo, kgp, kgq, kgr, kgs, kgt, kgu, kgv, kgw, kgx, kgy, kgz, kha, khb, khc, khd]
          exact ⟨_, _, _, _, rfl, ⟨_, rfl⟩, scoped_sc, .tup2 (.agg (show ∀ u ∈ tk 3 (rest.take m) v p1, Scoped _ u from scoped_tk)) (.closed rfl), h⟩
      · simp only [hq, if_false, Bool.false_eq_true] at h
        simp (disch := omega) only [kaa, kab, kac, kad, khm, khn, kho, khp, khq, khr, kae, kaf, kag, kah, kai, kaj, kak, kal, kam, kan, kao, khe, khf, khg, khh, khi, khj, khk, khl, kap, kaq, kar, kas, kat, kau, kav, kaw, kax, kay, kaz, kba, kbb, kbc, kbd, kbe, kbf, kbg, kbh, kbi, kbj, kbk, kbl, kbm, kbn, kbo, kbp, kbq, kbr, kbs, kbt, kbu, kbv, kbw, kbx, kby, kbz, kca, kcb, kcc, kcd, kce, kcf, kcg, kch, kci, kcj, kck, kcl, kcm, aop, kcn, kco, kcp, kcq, kcr, kcs, kct, kcu, kcv, kcw, resultsL, resultOf, kcx, Nat.reduceEqDiff, kcy, kcz, kda, reduceCtorEq, kdb, kdc, kdd, kde, kdf, kdg, kdh, kdi, kdj, kdk, kdl, kdm, kdn, kdo, eq1, kdp, kdq, kdr, kds, kdt, kdu, kdv, kdw, kdx, kdy, kdz, kea, keb, kec, apartOK, apart2, AObj.live, ked, kee, kef, keg, keh, kei, kej, kek, kel, Int.reduceEq, Int.reduceLT, Int.reduceLE, Int.reduceAdd, Int.reduceSub, Int.reduceMul, Int.reduceToNat, kem, ken, keo, kep, keq, ker, kes, ket, keu, kev, kew, kex, key, kez, kfa, kfb, kfc, kfd, kfe, kff, kfg, kfh, kfi, kfj, kfk, kfl, cutCells, kfm, kfn, kfo, kfp, kfq, kfr, kfs, kft, kfu, kfv, kfw, kfx, kfy, Nat.reduceAdd, Nat.reduceLeDiff, Nat.reduceLT, Nat.reduceMul, Nat.reduceSub, kfz, kga, kgb, kgc, kgd, kge, kgf, kgg, kgh, kgi, kgj, kgk, kgl, kgm, kgn, kgo, kgp, kgq, kgr, kgs, kgt, kgu, kgv, kgw, kgx, kgy, kgz, kha, khb, khc, khd, hq, hm]
        (repeat ((first | refine isReserved_s (GH.setapp hH hb2) ?_); try simp (disch := omega) only [kaa, kab, kac, kad, khm, khn, kho, khp, khq, khr, kae, kaf, kag, kah, kai, kaj, kak, kal, kam, kan, kao, khe, khf, khg, khh, khi, khj, khk, khl, kap, kaq, kar, kas, kat, kau, kav, kaw, kax, kay, kaz, kba, kbb, kbc, kbd, kbe, kbf, kbg, kbh, kbi, kbj, kbk, kbl, kbm, kbn, kbo, kbp, kbq, kbr, kbs, kbt, kbu, kbv, kbw, kbx, kby, kbz, kca, kcb, kcc, kcd, kce, kcf, kcg, kch, kci, kcj, kck, kcl, kcm, aop, kcn, kco, kcp, kcq, kcr, kcs, kct, kcu, kcv, kcw, resultsL, resultOf, kcx, Nat.reduceEqDiff, kcy, kcz, kda, reduceCtorEq, kdb, kdc, kdd, kde, kdf, kdg, kdh, kdi, kdj, kdk, kdl, kdm, kdn, kdo, eq1, kdp, kdq, kdr, kds, kdt, kdu, kdv, kdw, kdx, kdy, kdz, kea, keb, kec, apartOK, apart2, AObj.live, ked, kee, kef, keg, keh, kei, kej, kek, kel, Int.reduceEq, Int.reduceLT, Int.reduceLE, Int.reduceAdd, Int.reduceSub, Int.reduceMul, Int.reduceToNat, kem, ken, keo, kep, keq, ker, kes, ket, keu, kev, kew, kex, key, kez, kfa, kfb, kfc, kfd, kfe, kff, kfg, kfh, kfi, kfj, kfk, kfl, cutCells, kfm, kfn, kfo, kfp, kfq, kfr, kfs, kft, kfu, kfv, kfw, kfx, kfy, Nat.reduceAdd, Nat.reduceLeDiff, Nat.reduceLT, Nat.reduceMul, Nat.reduceSub, kfz, kga, kgb, kgc, kgd, kge, kgf, kgg, kgh, kgi, kgj, kgk, kgl, kgm, kgn, kgo, kgp, kgq, kgr, kgs, kgt, kgu, kgv, kgw, kgx, kgy, kgz, kha, khb, khc, khd]))
        by_cases hwd : wordsL.contains (rest.take m) = true
        · simp only [hwd, if_true] at h
          simp (disch := omega) only [kaa, kab, kac, kad, khm, khn, kho, khp, khq, khr, kae, kaf, kag, kah, kai, kaj, kak, kal, kam, kan, kao, khe, khf, khg, khh, khi, khj, khk, khl, kap, kaq, kar, kas, kat, kau, kav, kaw, kax, kay, kaz, kba, kbb, kbc, kbd, kbe, kbf, kbg, kbh, kbi, kbj, kbk, kbl, kbm, kbn, kbo, kbp, kbq, kbr, kbs, kbt, kbu, kbv, kbw, kbx, kby, kbz, kca, kcb, kcc, kcd, kce, kcf, kcg, kch, kci, kcj, kck, kcl, kcm, aop, kcn, kco, kcp, kcq, kcr, kcs, kct, kcu, kcv, kcw, resultsL, resultOf, kcx, Nat.reduceEqDiff, kcy, kcz, kda, reduceCtorEq, kdb, kdc, kdd, kde, kdf, kdg, kdh, kdi, kdj, kdk, kdl, kdm, kdn, kdo, eq1, kdp, kdq, kdr, kds, kdt, kdu, kdv, kdw, kdx, kdy, kdz, kea, keb, kec, apartOK, apart2, AObj.live, ked, kee, kef, keg, keh, kei, kej, kek, kel, Int.reduceEq, Int.reduceLT, Int.reduceLE, Int.reduceAdd, Int.reduceSub, Int.reduceMul, Int.reduceToNat, kem, ken, keo, kep, keq, ker, kes, ket, keu, kev, kew, kex, key, kez, kfa, kfb, kfc, kfd, kfe, kff, kfg, kfh, kfi, kfj, kfk, kfl, cutCells, kfm, kfn, kfo, kfp, kfq, kfr, kfs, kft, kfu, kfv, kfw, kfx, kfy, Nat.reduceAdd, Nat.reduceLeDiff, Nat.reduceLT, Nat.reduceMul, Nat.reduceSub, kfz, kga, kgb, kgc, kgd, kge, kgf, kgg, kgh, kgi, kgj, kgk, kgl, kgm, kgn, kgo, kgp, kgq, kgr, kgs, kgt, kgu, kgv, kgw, kgx, kgy, kgz, kha, khb, khc, khd, hwd]
          refine skip_s (text := text) (pos := pos + n) (p := p1) (f := f) (by simp (disch := omega) only [kaa, kab, kac, kad, khm, khn, kho, khp, khq, khr, kae, kaf, kag, kah, kai, kaj, kak, kal, kam, kan, kao, khe, khf, khg, khh, khi, khj, khk, khl, kap, kaq, kar, kas, kat, kau, kav, kaw, kax, kay, kaz, kba, kbb, kbc, kbd, kbe, kbf, kbg, kbh, kbi, kbj, kbk, kbl, kbm, kbn, kbo, kbp, kbq, kbr, kbs, kbt, kbu, kbv, kbw, kbx, kby, kbz, kca, kcb, kcc, kcd, kce, kcf, kcg, kch, kci, kcj, kck, kcl, kcm, aop, kcn, kco, kcp, kcq, kcr, kcs, kct, kcu, kcv, kcw, resultsL, resultOf, kcx, Nat.reduceEqDiff, kcy, kcz, kda, reduceCtorEq, kdb, kdc, kdd, kde, kdf, kdg, kdh, kdi, kdj, kdk, kdl, kdm, kdn, kdo, eq1, kdp, kdq, kdr, kds, kdt, kdu, kdv, kdw, kdx, kdy, kdz, kea, keb, kec, apartOK, apart2, AObj.live, ked, kee, kef, keg, keh, kei, kej, kek, kel, Int.reduceEq, Int.reduceLT, Int.reduceLE, Int.reduceAdd, Int.reduceSub, Int.reduceMul, Int.reduceToNat, kem, ken, keo, kep, keq, ker, kes, ket, keu, kev, kew, kex, key, kez, kfa, kfb, kfc, kfd, kfe, kff, kfg, kfh, kfi, kfj, kfk, kfl, cutCells, kfm, kfn, kfo, kfp, kfq, kfr, kfs, kft, kfu, kfv, kfw, kfx, kfy, Nat.reduceAdd, Nat.reduceLeDiff, Nat.reduceLT, Nat.reduceMul, Nat.reduceSub, kfz, kga, kgb, kgc, kgd, kge, kgf, kgg, kgh, kgi, kgj, kgk, kgl, kgm, kgn, kgo, kgp, kgq, kgr, kgs, kgt, kgu, kgv, kgw, kgx, kgy, kgz, kha, khb, khc, khd, sc]) (by omega) hlen (by omega) (by omega) ?_
          rw [take_drop_eq, hrest]
          simp (disch := omega) only [kaa, kab, kac, kad, khm, khn, kho, khp, khq, khr, kae, kaf, kag, kah, kai, kaj, kak, kal, kam, kan, kao, khe, khf, khg, khh, khi, khj, khk, khl, kap, kaq, kar, kas, kat, kau, kav, kaw, kax, kay, kaz, kba, kbb, kbc, kbd, kbe, kbf, kbg, kbh, kbi, kbj, kbk, kbl, kbm, kbn, kbo, kbp, kbq, kbr, kbs, kbt, kbu, kbv, kbw, kbx, kby, kbz, kca, kcb, kcc, kcd, kce, kcf, kcg, kch, kci, kcj, kck, kcl, kcm, aop, kcn, kco, kcp, kcq, kcr, kcs, kct, kcu, kcv, kcw, resultsL, resultOf, kcx, Nat.reduceEqDiff, kcy, kcz, kda, reduceCtorEq, kdb, kdc, kdd, kde, kdf, kdg, kdh, kdi, kdj, kdk, kdl, kdm, kdn, kdo, eq1, kdp, kdq, kdr, kds, kdt, kdu, kdv, kdw, kdx, kdy, kdz, kea, keb, kec, apartOK, apart2, AObj.live, ked, kee, kef, keg, keh, kei, kej, kek, kel, Int.reduceEq, Int.reduceLT, Int.reduceLE, Int.reduceAdd, Int.reduceSub, Int.reduceMul, Int.reduceToNat, kem, ken, keo, kep, keq, ker, kes, ket, keu, kev, kew, kex, key, kez, kfa, kfb, kfc, kfd, kfe, kff, kfg, kfh, kfi, kfj, kfk, kfl, cutCells, kfm, kfn, kfo, kfp, kfq, kfr, kfs, kft, kfu, kfv, kfw, kfx, kfy, Nat.reduceAdd, Nat.reduceLeDiff, Nat.reduceLT, Nat.reduceMul, Nat.reduceSub, kfz, kga, kgb, kgc, kgd, kge, kgf, kgg, kgh, kgi, kgj, kgk, kgl, kgm, kgn, kgo, kgp, kgq, kgr, kgs, kgt, kgu, kgv, kgw, kgx, kgy, kgz, kha, khb, khc, khd]
          exact ⟨_, _, _, _, rfl, ⟨_, rfl⟩, scoped_sc, .tup2 (.agg (show ∀ u ∈ tk 2 (rest.take m) 0 p1, Scoped _ u from scoped_tk)) (.closed rfl), h⟩
        · simp only [hwd, if_false, Bool.false_eq_true] at h
          simp (disch := omega) only [kaa, kab, kac, kad, khm, khn, kho, khp, khq, khr, kae, kaf, kag, kah, kai, kaj, kak, kal, kam, kan, kao, khe, khf, khg, khh, khi, khj, khk, khl, kap, kaq, kar, kas, kat, kau, kav, kaw, kax, kay, kaz, kba, kbb, kbc, kbd, kbe, kbf, kbg, kbh, kbi, kbj, kbk, kbl, kbm, kbn, kbo, kbp, kbq, kbr, kbs, kbt, kbu, kbv, kbw, kbx, kby, kbz, kca, kcb, kcc, kcd, kce, kcf, kcg, kch, kci, kcj, kck, kcl, kcm, aop, kcn, kco, kcp, kcq, kcr, kcs, kct, kcu, kcv, kcw, resultsL, resultOf, kcx, Nat.reduceEqDiff, kcy, kcz, kda, reduceCtorEq, kdb, kdc, kdd, kde, kdf, kdg, kdh, kdi, kdj, kdk, kdl, kdm, kdn, kdo, eq1, kdp, kdq, kdr, kds, kdt, kdu, kdv, kdw, kdx, kdy, kdz, kea, keb, kec, apartOK, apart2, AObj.live, ked, kee, kef, keg, keh, kei, kej, kek, kel, Int.reduceEq, Int.reduceLT, Int.reduceLE, Int.reduceAdd, Int.reduceSub, Int.reduceMul, Int.reduceToNat, kem, ken, keo, kep, keq, ker, kes, ket, keu, kev, kew, kex, key, kez, kfa, kfb, kfc, kfd, kfe, kff, kfg, kfh, kfi, kfj, kfk, kfl, cutCells, kfm, kfn, kfo, kfp, kfq, kfr, kfs, kft, kfu, kfv, kfw, kfx, kfy, Nat.reduceAdd, Nat.reduceLeDiff, Nat.reduceLT, Nat.reduceMul, Nat.reduceSub, kfz, kga, kgb, kgc, kgd, kge, kgf, kgg, kgh, kgi, kgj, kgk, kgl, kgm, kgn, kgo, kgp, kgq, kgr, kgs, kgt, kgu, kgv, kgw, kgx, kgy, kgz, kha, khb, khc, khd, hwd, hm]
          (repeat ((first | refine isName_s (GH.setapp hH hb2) ?_); try simp (disch := omega) only [kaa, kab, kac, kad, khm, khn, kho, khp, khq, khr, kae, kaf, kag, kah, kai, kaj, kak, kal, kam, kan, kao, khe, khf, khg, khh, khi, khj, khk, khl, kap, kaq, kar, kas, kat, kau, kav, kaw, kax, kay, kaz, kba, kbb, kbc, kbd, kbe, kbf, kbg, kbh, kbi, kbj, kbk, kbl, kbm, kbn, kbo, kbp, kbq, kbr, kbs, kbt, kbu, kbv, kbw, kbx, kby, kbz, kca, kcb, kcc, kcd, kce, kcf, kcg, kch, kci, kcj, kck, kcl, kcm, aop, kcn, kco, kcp, kcq, kcr, kcs, kct, kcu, kcv, kcw, resultsL, resultOf, kcx, Nat.reduceEqDiff, kcy, kcz, kda, reduceCtorEq, kdb, kdc, kdd, kde, kdf, kdg, kdh, kdi, kdj, kdk, kdl, kdm, kdn, kdo, eq1, kdp, kdq, kdr, kds, kdt, kdu, kdv, kdw, kdx, kdy, kdz, kea, keb, kec, apartOK, apart2, AObj.live, ked, kee, kef, keg, keh, kei, kej, kek, kel, Int.reduceEq, Int.reduceLT, Int.reduceLE, Int.reduceAdd, Int.reduceSub, Int.reduceMul, Int.reduceToNat, kem, ken, keo, kep, keq, ker, kes, ket, keu, kev, kew, kex, key, kez, kfa, kfb, kfc, kfd, kfe, kff, kfg, kfh, kfi, kfj, kfk, kfl, cutCells, kfm, kfn, kfo, kfp, kfq, kfr, kfs, kft, kfu, kfv, kfw, kfx, kfy, Nat.reduceAdd, Nat.reduceLeDiff, Nat.reduceLT, Nat.reduceMul, Nat.reduceSub, kfz, kga, kgb, kgc, kgd, kge, kgf, kgg, kgh, kgi, kgj, kgk, kgl, kgm, kgn, kgo, kgp, kgq, kgr, kgs, kgt, kgu, kgv, kgw, kgx, kgy, kgz, kha, khb, khc, khd]))
          by_cases hnm : nameB (rest.take m) = true
          · simp only [hnm, if_true] at h
            simp (disch := omega) only [kaa, kab, kac, kad, khm, khn, kho, khp, khq, khr, kae, kaf, kag, kah, kai, kaj, kak, kal, kam, kan, kao, khe, khf, khg, khh, khi, khj, khk, khl, kap, kaq, kar, kas, kat, kau, kav, kaw, kax, kay, kaz, kba, kbb, kbc, kbd, kbe, kbf, kbg, kbh, kbi, kbj, kbk, kbl, kbm, kbn, kbo, kbp, kbq, kbr, kbs, kbt, kbu, kbv, kbw, kbx, kby, kbz, kca, kcb, kcc, kcd, kce, kcf, kcg, kch, kci, kcj, kck, kcl, kcm, aop, kcn, kco, kcp, kcq, kcr, kcs, kct, kcu, kcv, kcw, resultsL, resultOf, kcx, Nat.reduceEqDiff, kcy, kcz, kda, reduceCtorEq, kdb, kdc, kdd, kde, kdf, kdg, kdh, kdi, kdj, kdk, kdl, kdm, kdn, kdo, eq1, kdp, kdq, kdr, kds, kdt, kdu, kdv, kdw, kdx, kdy, kdz, kea, keb, kec, apartOK, apart2, AObj.live, ked, kee, kef, keg, keh, kei, kej, kek, kel, Int.reduceEq, Int.reduceLT, Int.reduceLE, Int.reduceAdd, Int.reduceSub, Int.reduceMul, Int.reduceToNat, kem, ken, keo, kep, keq, ker, kes, ket, keu, kev, kew, kex, key, kez, kfa, kfb, kfc, kfd, kfe, kff, kfg, kfh, kfi, kfj, kfk, kfl, cutCells, kfm, kfn, kfo, kfp, kfq, kfr, kfs, kft, kfu, kfv, kfw, kfx, kfy, Nat.reduceAdd, Nat.reduceLeDiff, Nat.reduceLT, Nat.reduceMul, Nat.reduceSub, kfz, kga, kgb, kgc, kgd, kge, kgf, kgg, kgh, kgi, kgj, kgk, kgl, kgm, kgn, kgo, kgp, kgq, kgr, kgs, kgt, kgu, kgv, kgw, kgx, kgy, kgz, kha, khb, khc, khd, hnm]
            refine skip_s (text := text) (pos := pos + n) (p := p1) (f := f) (by simp (disch := omega) only [kaa, kab, kac, kad, khm, khn, kho, khp, khq, khr, kae, kaf, kag, kah, kai, kaj, kak, kal, kam, kan, kao, khe, khf, khg, khh, khi, khj, khk, khl, kap, kaq, kar, kas, kat, kau, kav, kaw, kax, kay, kaz, kba, kbb, kbc, kbd, kbe, kbf, kbg, kbh, kbi, kbj, kbk, kbl, kbm, kbn, kbo, kbp, kbq, kbr, kbs, kbt, kbu, kbv, kbw, kbx, kby, kbz, kca, kcb, kcc, kcd, kce, kcf, kcg, kch, kci, kcj, kck, kcl, kcm, aop, kcn, kco, kcp, kcq, kcr, kcs, kct, kcu, kcv, kcw, resultsL, resultOf, kcx, Nat.reduceEqDiff, kcy, kcz, kda, reduceCtorEq, kdb, kdc, kdd, kde, kdf, kdg, kdh, kdi, kdj, kdk, kdl, kdm, kdn, kdo, eq1, kdp, kdq, kdr, kds, kdt, kdu, kdv, kdw, kdx, kdy, kdz, kea, keb, kec, apartOK, apart2, AObj.live, ked, kee, kef, keg, keh, kei, kej, kek, kel, Int.reduceEq, Int.reduceLT, Int.reduceLE, Int.reduceAdd, Int.reduceSub, Int.reduceMul, Int.reduceToNat, kem, ken, keo, kep, keq, ker, kes, ket, keu, kev, kew, kex, key, kez, kfa, kfb, kfc, kfd, kfe, kff, kfg, kfh, kfi, kfj, kfk, kfl, cutCells, kfm, kfn, kfo, kfp, kfq, kfr, kfs, kft, kfu, kfv, kfw, kfx, kfy, Nat.reduceAdd, Nat.reduceLeDiff, Nat.reduceLT, Nat.reduceMul, Nat.reduceSub, kfz, kga, kgb, kgc, kgd, kge, kgf, kgg, kgh, kgi, kgj, kgk, kgl, kgm, kgn, kgo, kgp, kgq, kgr, kgs, kgt, kgu, kgv, kgw, kgx, kgy, kgz, kha, khb, khc, khd, sc]) (by omega) hlen (by omega) (by omega) ?_
            rw [take_drop_eq, hrest]
            simp (disch := omega) only [kaa, kab, kac, kad, khm, khn, kho, khp, khq, khr, kae, kaf, kag, kah, kai, kaj, kak, kal, kam, kan, kao, khe, khf, khg, khh, khi, khj, khk, khl, kap, kaq, kar, kas, kat, kau, kav, kaw, kax, kay, kaz, kba, kbb, kbc, kbd, kbe, kbf, kbg, kbh, kbi, kbj, kbk, kbl, kbm, kbn, kbo, kbp, kbq, kbr, kbs, kbt, kbu, kbv, kbw, kbx, kby, kbz, kca, kcb, kcc, kcd, kce, kcf, kcg, kch, kci, kcj, kck, kcl, kcm, aop, kcn, kco, kcp, kcq, kcr, kcs, kct, kcu, kcv, kcw, resultsL, resultOf, kcx, Nat.reduceEqDiff, kcy, kcz, kda, reduceCtorEq, kdb, kdc, kdd, kde, kdf, kdg, kdh, kdi, kdj, kdk, kdl, kdm, kdn, kdo, eq1, kdp, kdq, kdr, kds, kdt, kdu, kdv, kdw, kdx, kdy, kdz, kea, keb, kec, apartOK, apart2, AObj.live, ked, kee, kef, keg, keh, kei, kej, kek, kel, Int.reduceEq, Int.reduceLT, Int.reduceLE, Int.reduceAdd, Int.reduceSub, Int.reduceMul, Int.reduceToNat, kem, ken, keo, kep, keq, ker, kes, ket, keu, kev, kew, kex, key, kez, kfa, kfb, kfc, kfd, kfe, kff, kfg, kfh, kfi, kfj, kfk, kfl, cutCells, kfm, kfn, kfo, kfp, kfq, kfr, kfs, kft, kfu, kfv, kfw, kfx, kfy, Nat.reduceAdd, Nat.reduceLeDiff, Nat.reduceLT, Nat.reduceMul, Nat.reduceSub, kfz, kga, kgb, kgc, kgd, kge, kgf, kgg, kgh, kgi, kgj, kgk, kgl, kgm, kgn, kgo, kgp, kgq, kgr, kgs, kgt, kgu, kgv, kgw, kgx, kgy, kgz, kha, khb, khc, khd]
            exact ⟨_, _, _, _, rfl, ⟨_, rfl⟩, scoped_sc, .tup2 (.agg (show ∀ u ∈ tk 1 (rest.take m) 0 p1, Scoped _ u from scoped_tk)) (.closed rfl), h⟩
          · simp only [hnm, if_false, Bool.false_eq_true] at h
            simp (disch := omega) only [kaa, kab, kac, kad, khm, khn, kho, khp, khq, khr, kae, kaf, kag, kah, kai, kaj, kak, kal, kam, kan, kao, khe, khf, khg, khh, khi, khj, khk, khl, kap, kaq, kar, kas, kat, kau, kav, kaw, kax, kay, kaz, kba, kbb, kbc, kbd, kbe, kbf, kbg, kbh, kbi, kbj, kbk, kbl, kbm, kbn, kbo, kbp, kbq, kbr, kbs, kbt, kbu, kbv, kbw, kbx, kby, kbz, kca, kcb, kcc, kcd, kce, kcf, kcg, kch, kci, kcj, kck, kcl, kcm, aop, kcn, kco, kcp, kcq, kcr, kcs, kct, kcu, kcv, kcw, resultsL, resultOf, kcx, Nat.reduceEqDiff, kcy, kcz, kda, reduceCtorEq, kdb, kdc, kdd, kde, kdf, kdg, kdh, kdi, kdj, kdk, kdl, kdm, kdn, kdo, eq1, kdp, kdq, kdr, kds, kdt, kdu, kdv, kdw, kdx, kdy, kdz, kea, keb, kec, apartOK, apart2, AObj.live, ked, kee, kef, keg, keh, kei, kej, kek, kel, Int.reduceEq, Int.reduceLT, Int.reduceLE, Int.reduceAdd, Int.reduceSub, Int.reduceMul, Int.reduceToNat, kem, ken, keo, kep, keq, ker, kes, ket, keu, kev, kew, kex, key, kez, kfa, kfb, kfc, kfd, kfe, kff, kfg, kfh, kfi, kfj, kfk, kfl, cutCells, kfm, kfn, kfo, kfp, kfq, kfr, kfs, kft, kfu, kfv, kfw, kfx, kfy, Nat.reduceAdd, Nat.reduceLeDiff, Nat.reduceLT, Nat.reduceMul, Nat.reduceSub, kfz, kga, kgb, kgc, kgd, kge, kgf, kgg, kgh, kgi, kgj, kgk, kgl, kgm, kgn, kgo, kgp, kgq, kgr, kgs, kgt, kgu, kgv, kgw, kgx, kgy, kgz, kha, khb, khc, khd, hnm]
            exact ⟨_, _, _, _, rfl, ⟨_, rfl⟩, scoped_sc (f := (60, ((p1.1 : Nat) : Int), ((p1.2 : Nat) : Int))), .tup2 (.closed rfl) (.closed rfl), h⟩
    · have hm' : ¬ 0 < m := by omega
      simp only [hm', if_false] at h
      simp (disch := omega) only [kaa, kab, kac, kad, khm, khn, kho, khp, khq, khr, kae, kaf, kag, kah, kai, kaj, kak, kal, kam, kan, kao, khe, khf, khg, khh, khi, khj, khk, khl, kap, kaq, kar, kas, kat, kau, kav, kaw, kax, kay, kaz, kba, kbb, kbc, kbd, kbe, kbf, kbg, kbh, kbi, kbj, kbk, kbl, kbm, kbn, kbo, kbp, kbq, kbr, kbs, kbt, kbu, kbv, kbw, kbx, kby, kbz, kca, kcb, kcc, kcd, kce, kcf, kcg, kch, kci, kcj, kck, kcl, kcm, aop, kcn, kco, kcp, kcq, kcr, kcs, kct, kcu, kcv, kcw, resultsL, resultOf, kcx, Nat.reduceEqDiff, kcy, kcz, kda, reduceCtorEq, kdb, kdc, kdd, kde, kdf, kdg, kdh, kdi, kdj, kdk, kdl, kdm, kdn, kdo, eq1, kdp, kdq, kdr, kds, kdt, kdu, kdv, kdw, kdx, kdy, kdz, kea, keb, kec, apartOK, apart2, AObj.live, ked, kee, kef, keg, keh, kei, kej, kek, kel, Int.reduceEq, Int.reduceLT, Int.reduceLE, Int.reduceAdd, Int.reduceSub, Int.reduceMul, Int.reduceToNat, kem, ken, keo, kep, keq, ker, kes, ket, keu, kev, kew, kex, key, kez, kfa, kfb, kfc, kfd, kfe, kff, kfg, kfh, kfi, kfj, kfk, kfl, cutCells, kfm, kfn, kfo, kfp, kfq, kfr, kfs, kft, kfu, kfv, kfw, kfx, kfy, Nat.reduceAdd, Nat.reduceLeDiff, Nat.reduceLT, Nat.reduceMul, Nat.reduceSub, kfz, kga, kgb, kgc, kgd, kge, kgf, kgg, kgh, kgi, kgj, kgk, kgl, kgm, kgn, kgo, kgp, kgq, kgr, kgs, kgt, kgu, kgv, kgw, kgx, kgy, kgz, kha, khb, khc, khd, hm]
      have hbr : rest.length ≤ 4611686018427387904 := by omega
      (repeat ((first | refine sign_s hbr (GH.setapp hH hb2) ?_); try simp (disch := omega) only [kaa, kab, kac, kad, khm, khn, kho, khp, khq, khr, kae, kaf, kag, kah, kai, kaj, kak, kal, kam, kan, kao, khe, khf, khg, khh, khi, khj, khk, khl, kap, kaq, kar, kas, kat, kau, kav, kaw, kax, kay, kaz, kba, kbb, kbc, kbd, kbe, kbf, kbg, kbh, kbi, kbj, kbk, kbl, kbm, kbn, kbo, kbp, kbq, kbr, kbs, kbt, kbu, kbv, kbw, kbx, kby, kbz, kca, kcb, kcc, kcd, kce, kcf, kcg, kch, kci, kcj, kck, kcl, kcm, aop, kcn, kco, kcp, kcq, kcr, kcs, kct, kcu, kcv, kcw, resultsL, resultOf, kcx, Nat.reduceEqDiff, kcy, kcz, kda, reduceCtorEq, kdb, kdc, kdd, kde, kdf, kdg, kdh, kdi, kdj, kdk, kdl, kdm, kdn, kdo, eq1, kdp, kdq, kdr, kds, kdt, kdu, kdv, kdw, kdx, kdy, kdz, kea, keb, kec, apartOK, apart2, AObj.live, ked, kee, kef, keg, keh, kei, kej, kek, kel, Int.reduceEq, Int.reduceLT, Int.reduceLE, Int.reduceAdd, Int.reduceSub, Int.reduceMul, Int.reduceToNat, kem, ken, keo, kep, keq, ker, kes, ket, keu, kev, kew, kex, key, kez, kfa, kfb, kfc, kfd, kfe, kff, kfg, kfh, kfi, kfj, kfk, kfl, cutCells, kfm, kfn, kfo, kfp, kfq, kfr, kfs, kft, kfu, kfv, kfw, kfx, kfy, Nat.reduceAdd, Nat.reduceLeDiff, Nat.reduceLT, Nat.reduceMul, Nat.reduceSub, kfz, kga, kgb, kgc, kgd, kge, kgf, kgg, kgh, kgi, kgj, kgk, kgl, kgm, kgn, kgo, kgp, kgq, kgr, kgs, kgt, kgu, kgv, kgw, kgx, kgy, kgz, kha, khb, khc, khd]))
      have hsl := signN_le rest
      by_cases hs : signN rest = 0
      · simp only [hs, if_true] at h
        simp (disch := omega) only [kaa, kab, kac, kad, khm, khn, kho, khp, khq, khr, kae, kaf, kag, kah, kai, kaj, kak, kal, kam, kan, kao, khe, khf, khg, khh, khi, khj, khk, khl, kap, kaq, kar, kas, kat, kau, kav, kaw, kax, kay, kaz, kba, kbb, kbc, kbd, kbe, kbf, kbg, kbh, kbi, kbj, kbk, kbl, kbm, kbn, kbo, kbp, kbq, kbr, kbs, kbt, kbu, kbv, kbw, kbx, kby, kbz, kca, kcb, kcc, kcd, kce, kcf, kcg, kch, kci, kcj, kck, kcl, kcm, aop, kcn, kco, kcp, kcq, kcr, kcs, kct, kcu, kcv, kcw, resultsL, resultOf, kcx, Nat.reduceEqDiff, kcy, kcz, kda, reduceCtorEq, kdb, kdc, kdd, kde, kdf, kdg, kdh, kdi, kdj, kdk, kdl, kdm, kdn, kdo, eq1, kdp, kdq, kdr, kds, kdt, kdu, kdv, kdw, kdx, kdy, kdz, kea, keb, kec, apartOK, apart2, AObj.live, ked, kee, kef, keg, keh, kei, kej, kek, kel, Int.reduceEq, Int.reduceLT, Int.reduceLE, Int.reduceAdd, Int.reduceSub, Int.reduceMul, Int.reduceToNat, kem, ken, keo, kep, keq, ker, kes, ket, keu, kev, kew, kex, key, kez, kfa, kfb, kfc, kfd, kfe, kff, kfg, kfh, kfi, kfj, kfk, kfl, cutCells, kfm, kfn, kfo, kfp, kfq, kfr, kfs, kft, kfu, kfv, kfw, kfx, kfy, Nat.reduceAdd, Nat.reduceLeDiff, Nat.reduceLT, Nat.reduceMul, Nat.reduceSub, kfz, kga, kgb, kgc, kgd, kge, kgf, kgg, kgh, kgi, kgj, kgk, kgl, kgm, kgn, kgo, kgp, kgq, kgr, kgs, kgt, kgu, kgv, kgw, kgx, kgy, kgz, kha, khb, khc, khd, hs, Int.natCast_zero]
        exact ⟨_, _, _, _, rfl, ⟨_, rfl⟩, scoped_sc (f := (60, ((p1.1 : Nat) : Int), ((p1.2 : Nat) : Int))), .tup2 (.closed rfl) (.closed rfl), h⟩
      · have hs' : ¬ ((signN rest : Nat) : Int) = 0 := by omega
        simp only [hs, if_false] at h
        simp (disch := omega) only [kaa, kab, kac, kad, khm, khn, kho, khp, khq, khr, kae, kaf, kag, kah, kai, kaj, kak, kal, kam, kan, kao, khe, khf, khg, khh, khi, khj, khk, khl, kap, kaq, kar, kas, kat, kau, kav, kaw, kax, kay, kaz, kba, kbb, kbc, kbd, kbe, kbf, kbg, kbh, kbi, kbj, kbk, kbl, kbm, kbn, kbo, kbp, kbq, kbr, kbs, kbt, kbu, kbv, kbw, kbx, kby, kbz, kca, kcb, kcc, kcd, kce, kcf, kcg, kch, kci, kcj, kck, kcl, kcm, aop, kcn, kco, kcp, kcq, kcr, kcs, kct, kcu, kcv, kcw, resultsL, resultOf, kcx, Nat.reduceEqDiff, kcy, kcz, kda, reduceCtorEq, kdb, kdc, kdd, kde, kdf, kdg, kdh, kdi, kdj, kdk, kdl, kdm, kdn, kdo, eq1, kdp, kdq, kdr, kds, kdt, kdu, kdv, kdw, kdx, kdy, kdz, kea, keb, kec, apartOK, apart2, AObj.live, ked, kee, kef, keg, keh, kei, kej, kek, kel, Int.reduceEq, Int.reduceLT, Int.reduceLE, Int.reduceAdd, Int.reduceSub, Int.reduceMul, Int.reduceToNat, kem, ken, keo, kep, keq, ker, kes, ket, keu, kev, kew, kex, key, kez, kfa, kfb, kfc, kfd, kfe, kff, kfg, kfh, kfi, kfj, kfk, kfl, cutCells, kfm, kfn, kfo, kfp, kfq, kfr, kfs, kft, kfu, kfv, kfw, kfx, kfy, Nat.reduceAdd, Nat.reduceLeDiff, Nat.reduceLT, Nat.reduceMul, Nat.reduceSub, kfz, kga, kgb, kgc, kgd, kge, kgf, kgg, kgh, kgi, kgj, kgk, kgl, kgm, kgn, kgo, kgp, kgq, kgr, kgs, kgt, kgu, kgv, kgw, kgx, kgy, kgz, kha, khb, khc, khd, hs']
        refine skip_s (text := text) (pos := pos + n) (p := p1) (f := f) (by simp (disch := omega) only [kaa, kab, kac, kad, khm, khn, kho, khp, khq, khr, kae, kaf, kag, kah, kai, kaj, kak, kal, kam, kan, kao, khe, khf, khg, khh, khi, khj, khk, khl, kap, kaq, kar, kas, kat, kau, kav, kaw, kax, kay, kaz, kba, kbb, kbc, kbd, kbe, kbf, kbg, kbh, kbi, kbj, kbk, kbl, kbm, kbn, kbo, kbp, kbq, kbr, kbs, kbt, kbu, kbv, kbw, kbx, kby, kbz, kca, kcb, kcc, kcd, kce, kcf, kcg, kch, kci, kcj, kck, kcl, kcm, aop, kcn, kco, kcp, kcq, kcr, kcs, kct, kcu, kcv, kcw, resultsL, resultOf, kcx, Nat.reduceEqDiff, kcy, kcz, kda, reduceCtorEq, kdb, kdc, kdd, kde, kdf, kdg, kdh, kdi, kdj, kdk, kdl, kdm, kdn, kdo, eq1, kdp, kdq, kdr, kds, kdt, kdu, kdv, kdw, kdx, kdy, kdz, kea, keb, kec, apartOK, apart2, AObj.live, ked, kee, kef, keg, keh, kei, kej, kek, kel, Int.reduceEq, Int.reduceLT, Int.reduceLE, Int.reduceAdd, Int.reduceSub, Int.reduceMul, Int.reduceToNat, kem, ken, keo, kep, keq, ker, kes, ket, keu, kev, kew, kex, key, kez, kfa, kfb, kfc, kfd, kfe, kff, kfg, kfh, kfi, kfj, kfk, kfl, cutCells, kfm, kfn, kfo, kfp, kfq, kfr, kfs, kft, kfu, kfv, kfw, kfx, kfy, Nat.reduceAdd, Nat.reduceLeDiff, Nat.reduceLT, Nat.reduceMul, Nat.reduceSub, kfz, kga, kgb, kgc, kgd, kge, kgf, kgg, kgh, kgi, kgj, kgk, kgl, kgm, kgn, kgo, kgp, kgq, kgr, kgs, kgt, kgu, kgv, kgw, kgx, kgy, kgz, kha, khb, khc, khd, sc]) (by omega) hlen (by omega) (by omega) ?_
        rw [take_drop_eq, hrest]
        simp (disch := omega) only [kaa, kab, kac, kad, khm, khn, kho, khp, khq, khr, kae, kaf, kag, kah, kai, kaj, kak, kal, kam, kan, kao, khe, khf, khg, khh, khi, khj, khk, khl, kap, kaq, kar, kas, kat, kau, kav, kaw, kax, kay, kaz, kba, kbb, kbc, kbd, kbe, kbf, kbg, kbh, kbi, kbj, kbk, kbl, kbm, kbn, kbo, kbp, kbq, kbr, kbs, kbt, kbu, kbv, kbw, kbx, kby, kbz, kca, kcb, kcc, kcd, kce, kcf, kcg, kch, kci, kcj, kck, kcl, kcm, aop, kcn, kco, kcp, kcq, kcr, kcs, kct, kcu, kcv, kcw, resultsL, resultOf, kcx, Nat.reduceEqDiff, kcy, kcz, kda, reduceCtorEq, kdb, kdc, kdd, kde, kdf, kdg, kdh, kdi, kdj, kdk, kdl, kdm, kdn, kdo, eq1, kdp, kdq, kdr, kds, kdt, kdu, kdv, kdw, kdx, kdy, kdz, kea, keb, kec, apartOK, apart2, AObj.live, ked, kee, kef, keg, keh, kei, kej, kek, kel, Int.reduceEq, Int.reduceLT, Int.reduceLE, Int.reduceAdd, Int.reduceSub, Int.reduceMul, Int.reduceToNat, kem, ken, keo, kep, keq, ker, kes, ket, keu, kev, kew, kex, key, kez, kfa, kfb, kfc, kfd, kfe, kff, kfg, kfh, kfi, kfj, kfk, kfl, cutCells, kfm, kfn, kfo, kfp, kfq, kfr, kfs, kft, kfu, kfv, kfw, kfx, kfy, Nat.reduceAdd, Nat.reduceLeDiff, Nat.reduceLT, Nat.reduceMul, Nat.reduceSub, kfz, kga, kgb, kgc, kgd, kge, kgf, kgg, kgh, kgi, kgj, kgk, kgl, kgm, kgn, kgo, kgp, kgq, kgr, kgs, kgt, kgu, kgv, kgw, kgx, kgy, kgz, kha, khb, khc, khd]
        exact ⟨_, _, _, _, rfl, ⟨_, rfl⟩, scoped_sc, .tup2 (.agg (show ∀ u ∈ tk 4 (rest.take (signN rest)) 0 p1, Scoped _ u from scoped_tk)) (.closed rfl), h⟩

end Go.Proofs.YtedemfmafdilmaaDoor.Ev

/- All words of a text. -/
namespace Go.Proofs.YtedemfmafdilmaaDoor.Ev
set_option maxRecDepth 100000
set_option linter.unusedSimpArgs false
set_option linter.unusedVariables false
variable {R : FRes → Heap → Prop} {H : Heap}

def startR (text : List UInt8) : List Value := if text.length ≤ 65536 then sc text 0 (1, 1) (0, 0, 0) else sc [] 0 (1, 1) (2, 0, 0)

theorem start_s {text : List UInt8} (h : R (.ret (.pointer (some ⟨H.length, 0, none⟩))) (H ++ [.row (startR text) 0 true])) : WD T 22 [.string (bs text)] H R := by
  refine WD.of follows t22 (by simp) ?_
  by_cases hl : (65536 : Int) < text.length
  · rw [startR, if_neg (by omega)] at h
    simp (disch := omega) only [kaa, kab, kac, kad, khm, khn, kho, khp, khq, khr, kae, kaf, kag, kah, kai, kaj, kak, kal, kam, kan, kao, khe, khf, khg, khh, khi, khj, khk, khl, kap, kaq, kar, kas, kat, kau, kav, kaw, kax, kay, kaz, kba, kbb, kbc, kbd, kbe, kbf, kbg, kbh, kbi, kbj, kbk, kbl, kbm, kbn, kbo, kbp, kbq, kbr, kbs, kbt, kbu, kbv, kbw, kbx, kby, kbz, kca, kcb, kcc, kcd, kce, kcf, kcg, kch, kci, kcj, kck, kcl, kcm, aop, kcn, kco, kcp, kcq, kcr, kcs, kct, kcu, kcv, kcw, resultsL, resultOf, kcx, Nat.reduceEqDiff, kcy, kcz, kda, reduceCtorEq, kdb, kdc, kdd, kde, kdf, kdg, kdh, kdi, kdj, kdk, kdl, kdm, kdn, kdo, eq1, kdp, kdq, kdr, kds, kdt, kdu, kdv, kdw, kdx, kdy, kdz, kea, keb, kec, apartOK, apart2, AObj.live, ked, kee, kef, keg, keh, kei, kej, kek, kel, Int.reduceEq, Int.reduceLT, Int.reduceLE, Int.reduceAdd, Int.reduceSub, Int.reduceMul, Int.reduceToNat, kem, ken, keo, kep, keq, ker, kes, ket, keu, kev, kew, kex, key, kez, kfa, kfb, kfc, kfd, kfe, kff, kfg, kfh, kfi, kfj, kfk, kfl, cutCells, kfm, kfn, kfo, kfp, kfq, kfr, kfs, kft, kfu, kfv, kfw, kfx, kfy, Nat.reduceAdd, Nat.reduceLeDiff, Nat.reduceLT, Nat.reduceMul, Nat.reduceSub, kfz, kga, kgb, kgc, kgd, kge, kgf, kgg, kgh, kgi, kgj, kgk, kgl, kgm, kgn, kgo, kgp, kgq, kgr, kgs, kgt, kgu, kgv, kgw, kgx, kgy, kgz, kha, khb, khc, khd, hl]
    exact h
  · rw [startR, if_pos (by omega)] at h
    simp (disch := omega) only [kaa, kab, kac, kad, khm, khn, kho, khp, khq, khr, kae, kaf, kag, kah, kai, kaj, kak, kal, kam, kan, kao, khe, khf, khg, khh, khi, khj, khk, khl, kap, kaq, kar, kas, kat, kau, kav, kaw, kax, kay, kaz, kba, kbb, kbc, kbd, kbe, kbf, kbg, kbh, kbi, kbj, kbk, kbl, kbm, kbn, kbo, kbp, kbq, kbr, kbs, kbt, kbu, kbv, kbw, kbx, kby, kbz, kca, kcb, kcc, kcd, kce, kcf, kcg, kch, kci, kcj, kck, kcl, kcm, aop, kcn, kco, kcp, kcq, kcr, kcs, kct, kcu, kcv, kcw, resultsL, resultOf, kcx, Nat.reduceEqDiff, kcy, kcz, kda, reduceCtorEq, kdb, kdc, kdd, kde, kdf, kdg, kdh, kdi, kdj, kdk, kdl, kdm, kdn, kdo, eq1, kdp, kdq, kdr, kds, kdt, kdu, kdv, kdw, kdx, kdy, kdz, kea, keb, kec, apartOK, apart2, AObj.live, ked, kee, kef, keg, keh, kei, kej, kek, kel, Int.reduceEq, Int.reduceLT, Int.reduceLE, Int.reduceAdd, Int.reduceSub, Int.reduceMul, Int.reduceToNat, kem, ken, keo, kep, keq, ker, kes, ket, keu, kev, kew, kex, key, kez, kfa, kfb, kfc, kfd, kfe, kff, kfg, kfh, kfi, kfj, kfk, kfl, cutCells, kfm, kfn, kfo, kfp, kfq, kfr, kfs, kft, kfu, kfv, kfw, kfx, kfy, Nat.reduceAdd, Nat.reduceLeDiff, Nat.reduceLT, Nat.reduceMul, Nat.reduceSub, kfz, kga, kgb, kgc, kgd, kge, kgf, kgg, kgh, kgi, kgj, kgk, kgl, kgm, kgn, kgo, kgp, kgq, kgr, kgs, kgt, kgu, kgv, kgw, kgx, kgy, kgz, kha, khb, khc, khd, hl]
    exact h

structure Tk where
  kind : Int
  text : List UInt8
  val : Nat
  pos : Nat × Nat

def Tk.cells (t : Tk) : List Value := tk t.kind t.text t.val t.pos

/-- The words of what is left of a text, from a place on; and the fault. -/
def lexL (l : List UInt8) (p : Nat × Nat) : List Tk × (Int × Int × Int) :=
  if h0 : l.drop (skN false l) = [] then ([], (0, 0, 0))
  else match tok (l.drop (skN false l)) with
    | .error c => ([], (c, ((adv p (l.take (skN false l))).1 : Int), ((adv p (l.take (skN false l))).2 : Int)))
    | .ok (k, m, v) =>
      if hm : m = 0 then ([], (0, 0, 0))
      else
        let t : Tk := ⟨k, (l.drop (skN false l)).take m, v, adv p (l.take (skN false l))⟩
        let r := lexL ((l.drop (skN false l)).drop m) (adv (adv p (l.take (skN false l))) ((l.drop (skN false l)).take m))
        (t :: r.1, r.2)
  termination_by l.length
  decreasing_by
    have h1 : l.drop (skN false l) ≠ [] := h0
    rw [ne_eq, List.drop_eq_nil_iff] at h1
    simp only [List.length_drop]
    omega

theorem signN_pos {l : List UInt8} (h : signN l ≠ 0) : 0 < signN l := by omega

theorem tok_pos {l : List UInt8} {k : Int} {m v : Nat} (h : tok l = .ok (k, m, v)) : m ≠ 0 ∧ m ≤ l.length := by
  have h1 := takeWhile_le partQ l
  have h2 := signN_le l
  unfold tok at h
  simp only at h
  split at h
  · split at h
    · split at h
      · cases h; omega
      · cases h
    · split at h
      · cases h; omega
      · split at h
        · cases h; omega
        · cases h
  · split at h
    · cases h
    · cases h; omega

theorem append_one {K : Heap} {b bx l unit bytes u2 : Nat} {cells xs : List Value} {w2 : Bool} (hb : hget K b = .row cells unit true) (hl : cells.length = l * unit) (hx : hget K bx = .row xs u2 w2) (hxl : xs.length = unit) (hall : xs.all oneCell = true)
    (hr : (l + 1) * bytes ≤ roomMax ∧ l + 1 ≤ roomMax) :
    appendV K unit bytes (.slice (some ⟨b, 0, none⟩) l l) (.slice (some ⟨bx, 0, none⟩) 1 1) = .val (.slice (some ⟨K.length, 0, none⟩) (l + 1) (l + 1)) (K.set b .dead ++ [.row (cells ++ xs) unit true]) := by
  simp only [appendV, lenV, srcCells, hx, hb]
  rw [if_pos (by omega)]
  have e1 : List.take (1 * unit) (List.drop 0 xs) = xs := by rw [List.drop_zero, Nat.one_mul, ← hxl, List.take_length]
  have e2 : List.take (l * unit) (List.drop 0 cells) = cells := by rw [List.drop_zero, ← hl, List.take_length]
  simp only [e1]
  rw [if_neg (by omega)]
  simp only [hb, e2]
  rw [if_pos ⟨trivial, by omega, by omega, by omega⟩, if_neg (by omega), if_pos ⟨hr.1, hr.2, hall⟩]

theorem append_nil {K : Heap} {bx unit bytes u2 : Nat} {xs : List Value} {w2 : Bool} (hx : hget K bx = .row xs u2 w2) (hxl : xs.length = unit) (hr : 1 * bytes ≤ roomMax) :
    appendV K unit bytes (.slice none 0 0) (.slice (some ⟨bx, 0, none⟩) 1 1) = .val (.slice (some ⟨K.length, 0, none⟩) 1 1) (K ++ [.row xs unit true]) := by
  simp only [appendV, lenV, srcCells, hx]
  rw [if_pos (by omega)]
  have e1 : List.take (1 * unit) (List.drop 0 xs) = xs := by rw [List.drop_zero, Nat.one_mul, ← hxl, List.take_length]
  simp only [e1]
  rw [if_neg (by omega), if_pos ⟨hr, by decide⟩]

/-- A slice of so many cells. -/
def SL (G : Heap) (n : Nat) (v : Value) (unit : Nat) (cs : List Value) : Prop :=
  (v = .slice none 0 0 ∧ cs = []) ∨ ∃ k l, v = .slice (some ⟨n + k, 0, none⟩) l l ∧ hget G k = .row cs unit true ∧ cs.length = l * unit ∧ l ≠ 0

/-- The answer of Tokens: what the slice holds, and the fault. -/
def lexT (text : List UInt8) : List Tk × (Int × Int × Int) :=
  if text.length ≤ 65536 then (if (lexL text (1, 1)).2.1 = 0 then ((lexL text (1, 1)).1, (0, 0, 0)) else ([], (lexL text (1, 1)).2)) else ([], (2, 0, 0))

def fl (f : Int × Int × Int) : Value := .agg #[.int .i64 f.1, .int .i64 f.2.1, .int .i64 f.2.2]


theorem lexL_end {l : List UInt8} {p : Nat × Nat} (h : l.drop (skN false l) = []) : lexL l p = ([], (0, 0, 0)) := by
  rw [lexL, dif_pos h]
theorem lexL_err {l : List UInt8} {p : Nat × Nat} {c : Int} (h : ¬ l.drop (skN false l) = []) (ht : tok (l.drop (skN false l)) = .error c) :
    lexL l p = ([], (c, ((adv p (l.take (skN false l))).1 : Int), ((adv p (l.take (skN false l))).2 : Int))) := by
  rw [lexL, dif_neg h, ht]
theorem lexL_ok {l : List UInt8} {p : Nat × Nat} {k : Int} {m v : Nat} (h : ¬ l.drop (skN false l) = []) (ht : tok (l.drop (skN false l)) = .ok (k, m, v)) :
    lexL l p = (⟨k, (l.drop (skN false l)).take m, v, adv p (l.take (skN false l))⟩ ::
        (lexL ((l.drop (skN false l)).drop m) (adv (adv p (l.take (skN false l))) ((l.drop (skN false l)).take m))).1,
      (lexL ((l.drop (skN false l)).drop m) (adv (adv p (l.take (skN false l))) ((l.drop (skN false l)).take m))).2) := by
  rw [lexL, dif_neg h, ht]
  simp only
  rw [dif_neg (tok_pos ht).1]

theorem tok_code {l : List UInt8} {c : Int} (h : tok l = .error c) : c ≠ 0 := by
  unfold tok at h
  simp only at h
  split at h
  · split at h
    · split at h
      · cases h
      · cases h; decide
    · split at h
      · cases h
      · split at h
        · cases h
        · cases h; decide
  · split at h
    · cases h; decide
    · cases h

/-- Three cells told apart. -/
theorem agg3_eq (a b c : Int) : eqL [(1, .int .i64 a, .int .i64 0), (1, .int .i64 b, .int .i64 0), (1, .int .i64 c, .int .i64 0)] = some (decide (a = 0 ∧ b = 0 ∧ c = 0)) := by
  have e : ∀ x : Int, (x == 0) = decide (x = 0) := fun x => by rw [Bool.eq_iff_iff]; simp
  simp only [eqL, eqT1, if_true, e]
  by_cases h1 : a = 0 <;> by_cases h2 : b = 0 <;> by_cases h3 : c = 0 <;> simp [h1, h2, h3]


theorem adv_from (text : List UInt8) (pos m : Nat) : adv (adv (1, 1) (text.take pos)) ((text.drop pos).take m) = adv (1, 1) (text.take (pos + m)) := adv_take text (1, 1) pos m

theorem nextR_cases (text : List UInt8) (pos : Nat) (p : Nat × Nat) (f : Int × Int × Int) (hpos : pos ≤ text.length) (hp : p = adv (1, 1) (text.take pos)) :
    ∃ pos' p', pos ≤ pos' ∧ pos' ≤ text.length ∧ p' = adv (1, 1) (text.take pos') ∧
      ((∃ f', nextR text pos p f = (.tuple #[.agg tk0.toArray, .bool false], sc text pos' p' f') ∧ (lexL (text.drop pos) p).1 = [] ∧
          ((lexL (text.drop pos) p).2 = (0, 0, 0) ∧ f' = f ∨ (lexL (text.drop pos) p).2.1 ≠ 0 ∧ f' = (lexL (text.drop pos) p).2)) ∨
       (∃ t : Tk, pos < pos' ∧ nextR text pos p f = (.tuple #[.agg t.cells.toArray, .bool true], sc text pos' p' f) ∧
          lexL (text.drop pos) p = (t :: (lexL (text.drop pos') p').1, (lexL (text.drop pos') p').2))) := by
  have hn := sk_le false (text.drop pos)
  rw [List.length_drop] at hn
  have hdd : (text.drop pos).drop (skN false (text.drop pos)) = text.drop (pos + skN false (text.drop pos)) := List.drop_drop
  have hp1 : adv p ((text.drop pos).take (skN false (text.drop pos))) = adv (1, 1) (text.take (pos + skN false (text.drop pos))) := by rw [hp]; exact adv_from _ _ _
  by_cases hr : text.drop (pos + skN false (text.drop pos)) = []
  · refine ⟨pos + skN false (text.drop pos), _, by omega, by omega, rfl, .inl ⟨f, ?_, ?_⟩⟩
    · simp only [nextR, if_pos hr, hp1]
    · rw [lexL_end (by rw [hdd]; exact hr)]
      exact ⟨rfl, .inl ⟨rfl, rfl⟩⟩
  · cases ht : tok (text.drop (pos + skN false (text.drop pos))) with
    | error c =>
      refine ⟨pos + skN false (text.drop pos), _, by omega, by omega, rfl, .inl ⟨_, by simp only [nextR, if_neg hr, ht, hp1]; rfl, ?_⟩⟩
      rw [lexL_err (by rw [hdd]; exact hr) (by rw [hdd]; exact ht), hp1]
      exact ⟨rfl, .inr ⟨tok_code ht, rfl⟩⟩
    | ok x =>
      obtain ⟨k, m, v⟩ := x
      have hm := tok_pos ht
      rw [List.length_drop] at hm
      have hp2 := adv_from text (pos + skN false (text.drop pos)) m
      refine ⟨pos + skN false (text.drop pos) + m, _, by omega, by omega, rfl, .inr ⟨⟨k, (text.drop (pos + skN false (text.drop pos))).take m, v, adv (1, 1) (text.take (pos + skN false (text.drop pos)))⟩, by omega, ?_, ?_⟩⟩
      · simp only [nextR, if_neg hr, ht, hp1, hp2]
        rfl
      · rw [lexL_ok (by rw [hdd]; exact hr) (by rw [hdd]; exact ht), hp1, hdd, hp2, List.drop_drop]

theorem nextR_one (text : List UInt8) (pos : Nat) (p : Nat × Nat) (f : Int × Int × Int) (hpos : pos ≤ text.length) (hp : p = adv (1, 1) (text.take pos)) :
    ∃ pos' p' ok cur f', pos ≤ pos' ∧ pos' ≤ text.length ∧ p' = adv (1, 1) (text.take pos') ∧ nextR text pos p f = (.tuple #[.agg (cur : List Value).toArray, .bool ok], sc text pos' p' f') ∧ cur.length = 6 ∧ cur.all oneCell = true ∧
      (ok = true → f' = f ∧ pos < pos' ∧ ∃ t, cur = Tk.cells t ∧ lexL (text.drop pos) p = (t :: (lexL (text.drop pos') p').1, (lexL (text.drop pos') p').2)) ∧
      (ok = false → (lexL (text.drop pos) p).1 = [] ∧ ((lexL (text.drop pos) p).2 = (0, 0, 0) ∧ f' = f ∨ (lexL (text.drop pos) p).2.1 ≠ 0 ∧ f' = (lexL (text.drop pos) p).2)) := by
  obtain ⟨pos', p', q1, q2, q3, q4⟩ := nextR_cases text pos p f hpos hp
  rcases q4 with ⟨f', q4, q5⟩ | ⟨t, q4, q5, q6⟩
  · exact ⟨pos', p', false, tk0, f', q1, q2, q3, q4, rfl, rfl, fun h => (by cases h), fun _ => q5⟩
  · exact ⟨pos', p', true, t.cells, f, q1, q2, q3, q5, rfl, rfl, fun _ => ⟨rfl, q4, t, rfl, q6⟩, fun h => (by cases h)⟩

theorem setL_at : ∀ (vs cs : List Value) (o : Nat), o + vs.length = cs.length → setL cs o vs = cs.take o ++ vs
  | [], cs, o, h => by simp [setL] at h ⊢; rw [List.take_of_length_le (by omega)]
  | v :: vs, cs, o, h => by
    simp only [List.length_cons] at h
    rw [setL, setL_at vs _ (o + 1) (by rw [List.length_set]; omega)]
    rw [List.take_set, List.take_add_one, List.getElem?_eq_getElem (by omega)]
    have hlen : (cs.take o).length = o := by rw [List.length_take]; omega
    rw [show (cs.take o ++ (some cs[o]).toList).set o v = cs.take o ++ [v] by
      rw [Option.toList_some, List.set_append_right _ _ (by omega), hlen, Nat.sub_self]; rfl]
    simp
theorem setL_full {vs cs : List Value} (h : vs.length = cs.length) : setL cs 0 vs = vs := by rw [setL_at vs cs 0 (by omega)]; simp

theorem flat6 : ∀ ts : List Tk, (ts.map Tk.cells).flatten.length = ts.length * 6
  | [] => rfl
  | a :: ts => by
    have := flat6 ts
    simp only [List.map_cons, List.flatten_cons, List.length_append, List.length_cons, show a.cells.length = 6 from rfl, this]
    omega

/-- The loop's head: so many words are in the list; one more, or none, is at hand. -/
def tokensI (text : List UInt8) (f0 : Int × Int × Int) (H : Heap) : Nat → Env → Heap → Prop := fun n e H' =>
  ∃ (G : Heap) (pos : Nat) (p : Nat × Nat) (ok : Bool) (k6 : Nat) (s5 : Value) (ts : List Tk) (f : Int × Int × Int) (cur : List Value),
    H' = H ++ G ∧ hget G 0 = .row [.int .i64 0, .int .i64 0, .int .i64 0] 0 true ∧ hget G 1 = .row (sc text pos p f) 0 true ∧ hget G k6 = .row cur 0 true ∧ k6 ≠ 0 ∧ k6 ≠ 1 ∧ cur.length = 6 ∧
    pos ≤ text.length ∧ p = adv (1, 1) (text.take pos) ∧ ts.length ≤ pos ∧ SL G H.length s5 6 (ts.map Tk.cells).flatten ∧
    (ok = true → n = text.length - pos + 1 ∧ f = f0 ∧ ts.length < pos ∧ ∃ t, cur = Tk.cells t ∧ lexL text (1, 1) = (ts ++ t :: (lexL (text.drop pos) p).1, (lexL (text.drop pos) p).2)) ∧
    (ok = false → n = 0 ∧ ∃ F, lexL text (1, 1) = (ts, F) ∧ (F = (0, 0, 0) ∧ f = f0 ∨ F.1 ≠ 0 ∧ f = F)) ∧
    (∃ x : Nat → Value, e = [x 0, x 1, x 2, .pointer (some ⟨H.length, 0, none⟩), .pointer (some ⟨H.length + 1, 0, none⟩), s5, .pointer (some ⟨H.length + k6, 0, none⟩), .bool ok, x 8, x 9, x 10, x 11, x 12, x 13, x 14, x 15, x 16, x 17, x 18, x 19, x 20, x 21, x 22, x 23, x 24, x 25, x 26, x 27, x 28, x 29, x 30, x 31, x 32, x 33, x 34, x 35, x 36, x 37])

theorem GH.base {G : Heap} (h : GH H) : GH (H ++ G) := h.ext ⟨G, rfl⟩

theorem lexTokens_s {text : List UInt8} (hH : GH H)
    (h : if (lexT text).1 = [] then R (.ret (.tuple #[.slice none 0 0, fl (lexT text).2])) H
      else R (.ret (.tuple #[.slice (some ⟨H.length, 0, none⟩) (lexT text).1.length (lexT text).1.length, fl (lexT text).2])) (H ++ [.row ((lexT text).1.map Tk.cells).flatten 6 true])) :
    WD T 11 [.string (bs text)] H R := by
  refine WD.gc (WD.of follows t11 (by simp) ?_)
  simp (disch := omega) only [kaa, kab, kac, kad, khm, khn, kho, khp, khq, khr, kae, kaf, kag, kah, kai, kaj, kak, kal, kam, kan, kao, khe, khf, khg, khh, khi, khj, khk, khl, kap, kaq, kar, kas, kat, kau, kav, kaw, kax, kay, kaz, kba, kbb, kbc, kbd, kbe, kbf, kbg, kbh, kbi, kbj, kbk, kbl, kbm, kbn, kbo, kbp, kbq, kbr, kbs, kbt, kbu, kbv, kbw, kbx, kby, kbz, kca, kcb, kcc, kcd, kce, kcf, kcg, kch, kci, kcj, kck, kcl, kcm, aop, kcn, kco, kcp, kcq, kcr, kcs, kct, kcu, kcv, kcw, resultsL, resultOf, kcx, Nat.reduceEqDiff, kcy, kcz, kda, reduceCtorEq, kdb, kdc, kdd, kde, kdf, kdg, kdh, kdi, kdj, kdk, kdl, kdm, kdn, kdo, eq1, kdp, kdq, kdr, kds, kdt, kdu, kdv, kdw, kdx, kdy, kdz, kea, keb, kec, apartOK, apart2, AObj.live, ked, kee, kef, keg, keh, kei, kej, kek, kel, Int.reduceEq, Int.reduceLT, Int.reduceLE, Int.reduceAdd, Int.reduceSub, Int.reduceMul, Int.reduceToNat, kem, ken, keo, kep, keq, ker, kes, ket, keu, kev, kew, kex, key, kez, kfa, kfb, kfc, kfd, kfe, kff, kfg, kfh, kfi, kfj, kfk, kfl, cutCells, kfm, kfn, kfo, kfp, kfq, kfr, kfs, kft, kfu, kfv, kfw, kfx, kfy, Nat.reduceAdd, Nat.reduceLeDiff, Nat.reduceLT, Nat.reduceMul, Nat.reduceSub, kfz, kga, kgb, kgc, kgd, kge, kgf, kgg, kgh, kgi, kgj, kgk, kgl, kgm, kgn, kgo, kgp, kgq, kgr, kgs, kgt, kgu, kgv, kgw, kgx, kgy, kgz, kha, khb, khc, khd]
  (repeat ((first | refine start_s ?_); try simp (disch := omega) only [kaa, kab, kac, kad, khm, khn, kho, khp, khq, khr, kae, kaf, kag, kah, kai, kaj, kak, kal, kam, kan, kao, khe, khf, khg, khh, khi, khj, khk, khl, kap, kaq, kar, kas, kat, kau, kav, kaw, kax, kay, kaz, kba, kbb, kbc, kbd, kbe, kbf, kbg, kbh, kbi, kbj, kbk, kbl, kbm, kbn, kbo, kbp, kbq, kbr, kbs, kbt, kbu, kbv, kbw, kbx, kby, kbz, kca, kcb, kcc, kcd, kce, kcf, kcg, kch, kci, kcj, kck, kcl, kcm, aop, kcn, kco, kcp, kcq, kcr, kcs, kct, kcu, kcv, kcw, resultsL, resultOf, kcx, Nat.reduceEqDiff, kcy, kcz, kda, reduceCtorEq, kdb, kdc, kdd, kde, kdf, kdg, kdh, kdi, kdj, kdk, kdl, kdm, kdn, kdo, eq1, kdp, kdq, kdr, kds, kdt, kdu, kdv, kdw, kdx, kdy, kdz, kea, keb, kec, apartOK, apart2, AObj.live, ked, kee, kef, keg, keh, kei, kej, kek, kel, Int.reduceEq, Int.reduceLT, Int.reduceLE, Int.reduceAdd, Int.reduceSub, Int.reduceMul, Int.reduceToNat, kem, ken, keo, kep, keq, ker, kes, ket, keu, kev, kew, kex, key, kez, kfa, kfb, kfc, kfd, kfe, kff, kfg, kfh, kfi, kfj, kfk, kfl, cutCells, kfm, kfn, kfo, kfp, kfq, kfr, kfs, kft, kfu, kfv, kfw, kfx, kfy, Nat.reduceAdd, Nat.reduceLeDiff, Nat.reduceLT, Nat.reduceMul, Nat.reduceSub, kfz, kga, kgb, kgc, kgd, kge, kgf, kgg, kgh, kgi, kgj, kgk, kgl, kgm, kgn, kgo, kgp, kgq, kgr, kgs, kgt, kgu, kgv, kgw, kgx, kgy, kgz, kha, khb, khc, khd]))
  obtain ⟨text1, f0, hst, hl1, hcase⟩ : ∃ text1 f0, startR text = sc text1 0 (1, 1) f0 ∧ text1.length ≤ 65536 ∧ (text.length ≤ 65536 ∧ text1 = text ∧ f0 = (0, 0, 0) ∨ ¬ text.length ≤ 65536 ∧ text1 = [] ∧ f0 = (2, 0, 0)) := by
    unfold startR
    by_cases hl : text.length ≤ 65536
    · exact ⟨text, _, if_pos hl, hl, .inl ⟨hl, rfl, rfl⟩⟩
    · exact ⟨[], _, if_neg hl, by simp, .inr ⟨hl, rfl, rfl⟩⟩
  rw [hst]
  have hGH : ∀ G : Heap, GH (H ++ G) := fun G => hH.ext ⟨G, rfl⟩
  have two := hH.two
  refine next_s (text := text1) (pos := 0) (p := (1, 1)) (f := f0) (hGH _) (by omega) (by simp (disch := omega) only [kaa, kab, kac, kad, khm, khn, kho, khp, khq, khr, kae, kaf, kag, kah, kai, kaj, kak, kal, kam, kan, kao, khe, khf, khg, khh, khi, khj, khk, khl, kap, kaq, kar, kas, kat, kau, kav, kaw, kax, kay, kaz, kba, kbb, kbc, kbd, kbe, kbf, kbg, kbh, kbi, kbj, kbk, kbl, kbm, kbn, kbo, kbp, kbq, kbr, kbs, kbt, kbu, kbv, kbw, kbx, kby, kbz, kca, kcb, kcc, kcd, kce, kcf, kcg, kch, kci, kcj, kck, kcl, kcm, aop, kcn, kco, kcp, kcq, kcr, kcs, kct, kcu, kcv, kcw, resultsL, resultOf, kcx, Nat.reduceEqDiff, kcy, kcz, kda, reduceCtorEq, kdb, kdc, kdd, kde, kdf, kdg, kdh, kdi, kdj, kdk, kdl, kdm, kdn, kdo, eq1, kdp, kdq, kdr, kds, kdt, kdu, kdv, kdw, kdx, kdy, kdz, kea, keb, kec, apartOK, apart2, AObj.live, ked, kee, kef, keg, keh, kei, kej, kek, kel, Int.reduceEq, Int.reduceLT, Int.reduceLE, Int.reduceAdd, Int.reduceSub, Int.reduceMul, Int.reduceToNat, kem, ken, keo, kep, keq, ker, kes, ket, keu, kev, kew, kex, key, kez, kfa, kfb, kfc, kfd, kfe, kff, kfg, kfh, kfi, kfj, kfk, kfl, cutCells, kfm, kfn, kfo, kfp, kfq, kfr, kfs, kft, kfu, kfv, kfw, kfx, kfy, Nat.reduceAdd, Nat.reduceLeDiff, Nat.reduceLT, Nat.reduceMul, Nat.reduceSub, kfz, kga, kgb, kgc, kgd, kge, kgf, kgg, kgh, kgi, kgj, kgk, kgl, kgm, kgn, kgo, kgp, kgq, kgr, kgs, kgt, kgu, kgv, kgw, kgx, kgy, kgz, kha, khb, khc, khd]) (by omega) hl1 (by omega) (by omega) ?_
  obtain ⟨pos, p, ok, cur, f, q1, q2, q3, q4, q5, q6, q7, q8⟩ := nextR_one text1 0 (1, 1) f0 (by omega) rfl
  rw [q4]
  have sf : ∀ cs : List Value, cs.length = 6 → setL cs 0 cur = cur := fun cs hc => setL_full (by omega)
  simp (disch := omega) only [kaa, kab, kac, kad, khm, khn, kho, khp, khq, khr, kae, kaf, kag, kah, kai, kaj, kak, kal, kam, kan, kao, khe, khf, khg, khh, khi, khj, khk, khl, kap, kaq, kar, kas, kat, kau, kav, kaw, kax, kay, kaz, kba, kbb, kbc, kbd, kbe, kbf, kbg, kbh, kbi, kbj, kbk, kbl, kbm, kbn, kbo, kbp, kbq, kbr, kbs, kbt, kbu, kbv, kbw, kbx, kby, kbz, kca, kcb, kcc, kcd, kce, kcf, kcg, kch, kci, kcj, kck, kcl, kcm, aop, kcn, kco, kcp, kcq, kcr, kcs, kct, kcu, kcv, kcw, resultsL, resultOf, kcx, Nat.reduceEqDiff, kcy, kcz, kda, reduceCtorEq, kdb, kdc, kdd, kde, kdf, kdg, kdh, kdi, kdj, kdk, kdl, kdm, kdn, kdo, eq1, kdp, kdq, kdr, kds, kdt, kdu, kdv, kdw, kdx, kdy, kdz, kea, keb, kec, apartOK, apart2, AObj.live, ked, kee, kef, keg, keh, kei, kej, kek, kel, Int.reduceEq, Int.reduceLT, Int.reduceLE, Int.reduceAdd, Int.reduceSub, Int.reduceMul, Int.reduceToNat, kem, ken, keo, kep, keq, ker, kes, ket, keu, kev, kew, kex, key, kez, kfa, kfb, kfc, kfd, kfe, kff, kfg, kfh, kfi, kfj, kfk, kfl, cutCells, kfm, kfn, kfo, kfp, kfq, kfr, kfs, kft, kfu, kfv, kfw, kfx, kfy, Nat.reduceAdd, Nat.reduceLeDiff, Nat.reduceLT, Nat.reduceMul, Nat.reduceSub, kfz, kga, kgb, kgc, kgd, kge, kgf, kgg, kgh, kgi, kgj, kgk, kgl, kgm, kgn, kgo, kgp, kgq, kgr, kgs, kgt, kgu, kgv, kgw, kgx, kgy, kgz, kha, khb, khc, khd, q5, q6, setL_full]
  refine WLoop.inv (tokensI text1 f0 H) ?_ (if ok = true then text1.length - pos + 1 else 0) _ _ ⟨_, pos, p, ok, 2, .slice none 0 0, [], f, cur, rfl, rfl, rfl, ?_, by omega, by omega, q5, q2, q3, by simp, .inl ⟨rfl, rfl⟩, ?_, ?_, (ex_env rfl)⟩
  · rintro n e H' ⟨G, pos, p, ok, k6, s5, ts, f, cur, rfl, g0, g1, g6, k0, k1, hcl, hpos, hp, htl, hsl, hok, hno, ⟨x, rfl⟩⟩
    have l1 : 1 < G.length := hget_lt g1 rfl
    have l6 : k6 < G.length := hget_lt g6 rfl
    cases ok with
    | true =>
      obtain ⟨hn, rfl, htl2, t, rfl, hlex⟩ := hok rfl
      have hcl2 : t.cells.length = 6 := rfl
      have hone : t.cells.all oneCell = true := rfl
      have ht6 : t.cells.take 6 = t.cells := rfl
      have hpl := adv_le (text1.take pos) (1, 1)
      rw [List.length_take, ← hp] at hpl
      simp only at hpl
      obtain ⟨pos', p', ok, cur, f', q1, q2, q3, q4, q5, q6, q7, q8⟩ := nextR_one text1 pos p f hpos hp
      rcases hsl with ⟨rfl, hcs⟩ | ⟨k5, l5, rfl, h5, hcs, hl5⟩
      · have ha := append_nil (K := H ++ (G ++ [.row t.cells 6 true])) (bx := H.length + G.length) (unit := 6) (bytes := 56) (xs := t.cells) (u2 := 6) (w2 := true) (by rw [hget_base, hget_base0]; rfl) rfl (by decide)
        simp (disch := omega) only [kaa, kab, kac, kad, khm, khn, kho, khp, khq, khr, kae, kaf, kag, kah, kai, kaj, kak, kal, kam, kan, kao, khe, khf, khg, khh, khi, khj, khk, khl, kap, kaq, kar, kas, kat, kau, kav, kaw, kax, kay, kaz, kba, kbb, kbc, kbd, kbe, kbf, kbg, kbh, kbi, kbj, kbk, kbl, kbm, kbn, kbo, kbp, kbq, kbr, kbs, kbt, kbu, kbv, kbw, kbx, kby, kbz, kca, kcb, kcc, kcd, kce, kcf, kcg, kch, kci, kcj, kck, kcl, kcm, aop, kcn, kco, kcp, kcq, kcr, kcs, kct, kcu, kcv, kcw, resultsL, resultOf, kcx, Nat.reduceEqDiff, kcy, kcz, kda, reduceCtorEq, kdb, kdc, kdd, kde, kdf, kdg, kdh, kdi, kdj, kdk, kdl, kdm, kdn, kdo, eq1, kdp, kdq, kdr, kds, kdt, kdu, kdv, kdw, kdx, kdy, kdz, kea, keb, kec, apartOK, apart2, AObj.live, ked, kee, kef, keg, keh, kei, kej, kek, kel, Int.reduceEq, Int.reduceLT, Int.reduceLE, Int.reduceAdd, Int.reduceSub, Int.reduceMul, Int.reduceToNat, kem, ken, keo, kep, keq, ker, kes, ket, keu, kev, kew, kex, key, kez, kfa, kfb, kfc, kfd, kfe, kff, kfg, kfh, kfi, kfj, kfk, kfl, cutCells, kfm, kfn, kfo, kfp, kfq, kfr, kfs, kft, kfu, kfv, kfw, kfx, kfy, Nat.reduceAdd, Nat.reduceLeDiff, Nat.reduceLT, Nat.reduceMul, Nat.reduceSub, kfz, kga, kgb, kgc, kgd, kge, kgf, kgg, kgh, kgi, kgj, kgk, kgl, kgm, kgn, kgo, kgp, kgq, kgr, kgs, kgt, kgu, kgv, kgw, kgx, kgy, kgz, kha, khb, khc, khd, g0, g1, g6, hcl2, Nat.le_refl, ht6, hone, setL_full, ha]
        refine next_s (text := text1) (pos := pos) (p := p) (f := f) (hGH _) (by omega) (by simp (disch := omega) only [kaa, kab, kac, kad, khm, khn, kho, khp, khq, khr, kae, kaf, kag, kah, kai, kaj, kak, kal, kam, kan, kao, khe, khf, khg, khh, khi, khj, khk, khl, kap, kaq, kar, kas, kat, kau, kav, kaw, kax, kay, kaz, kba, kbb, kbc, kbd, kbe, kbf, kbg, kbh, kbi, kbj, kbk, kbl, kbm, kbn, kbo, kbp, kbq, kbr, kbs, kbt, kbu, kbv, kbw, kbx, kby, kbz, kca, kcb, kcc, kcd, kce, kcf, kcg, kch, kci, kcj, kck, kcl, kcm, aop, kcn, kco, kcp, kcq, kcr, kcs, kct, kcu, kcv, kcw, resultsL, resultOf, kcx, Nat.reduceEqDiff, kcy, kcz, kda, reduceCtorEq, kdb, kdc, kdd, kde, kdf, kdg, kdh, kdi, kdj, kdk, kdl, kdm, kdn, kdo, eq1, kdp, kdq, kdr, kds, kdt, kdu, kdv, kdw, kdx, kdy, kdz, kea, keb, kec, apartOK, apart2, AObj.live, ked, kee, kef, keg, keh, kei, kej, kek, kel, Int.reduceEq, Int.reduceLT, Int.reduceLE, Int.reduceAdd, Int.reduceSub, Int.reduceMul, Int.reduceToNat, kem, ken, keo, kep, keq, ker, kes, ket, keu, kev, kew, kex, key, kez, kfa, kfb, kfc, kfd, kfe, kff, kfg, kfh, kfi, kfj, kfk, kfl, cutCells, kfm, kfn, kfo, kfp, kfq, kfr, kfs, kft, kfu, kfv, kfw, kfx, kfy, Nat.reduceAdd, Nat.reduceLeDiff, Nat.reduceLT, Nat.reduceMul, Nat.reduceSub, kfz, kga, kgb, kgc, kgd, kge, kgf, kgg, kgh, kgi, kgj, kgk, kgl, kgm, kgn, kgo, kgp, kgq, kgr, kgs, kgt, kgu, kgv, kgw, kgx, kgy, kgz, kha, khb, khc, khd, g1]) hpos hl1 (by omega) (by omega) ?_
        rw [q4]
        simp (disch := omega) only [kaa, kab, kac, kad, khm, khn, kho, khp, khq, khr, kae, kaf, kag, kah, kai, kaj, kak, kal, kam, kan, kao, khe, khf, khg, khh, khi, khj, khk, khl, kap, kaq, kar, kas, kat, kau, kav, kaw, kax, kay, kaz, kba, kbb, kbc, kbd, kbe, kbf, kbg, kbh, kbi, kbj, kbk, kbl, kbm, kbn, kbo, kbp, kbq, kbr, kbs, kbt, kbu, kbv, kbw, kbx, kby, kbz, kca, kcb, kcc, kcd, kce, kcf, kcg, kch, kci, kcj, kck, kcl, kcm, aop, kcn, kco, kcp, kcq, kcr, kcs, kct, kcu, kcv, kcw, resultsL, resultOf, kcx, Nat.reduceEqDiff, kcy, kcz, kda, reduceCtorEq, kdb, kdc, kdd, kde, kdf, kdg, kdh, kdi, kdj, kdk, kdl, kdm, kdn, kdo, eq1, kdp, kdq, kdr, kds, kdt, kdu, kdv, kdw, kdx, kdy, kdz, kea, keb, kec, apartOK, apart2, AObj.live, ked, kee, kef, keg, keh, kei, kej, kek, kel, Int.reduceEq, Int.reduceLT, Int.reduceLE, Int.reduceAdd, Int.reduceSub, Int.reduceMul, Int.reduceToNat, kem, ken, keo, kep, keq, ker, kes, ket, keu, kev, kew, kex, key, kez, kfa, kfb, kfc, kfd, kfe, kff, kfg, kfh, kfi, kfj, kfk, kfl, cutCells, kfm, kfn, kfo, kfp, kfq, kfr, kfs, kft, kfu, kfv, kfw, kfx, kfy, Nat.reduceAdd, Nat.reduceLeDiff, Nat.reduceLT, Nat.reduceMul, Nat.reduceSub, kfz, kga, kgb, kgc, kgd, kge, kgf, kgg, kgh, kgi, kgj, kgk, kgl, kgm, kgn, kgo, kgp, kgq, kgr, kgs, kgt, kgu, kgv, kgw, kgx, kgy, kgz, kha, khb, khc, khd, q5, q6, setL_full, hcl2]
        refine ⟨if ok = true then text1.length - pos' + 1 else 0, ?_, _, pos', p', ok, G.length + 2, _, ts ++ [t], f', cur, rfl, ?_, ?_, ?_, by omega, by omega, q5, q2, q3, by simp; omega, .inr ⟨G.length + 1, 1, rfl, ?_, ?_, by omega⟩, ?_, ?_, (ex_env rfl)⟩
        · cases ok with
          | true => obtain ⟨_, r2, _⟩ := q7 rfl; simp only [if_true]; omega
          | false => simp only [Bool.false_eq_true, if_false]; omega
        · simp (disch := omega) only [kaa, kab, kac, kad, khm, khn, kho, khp, khq, khr, kae, kaf, kag, kah, kai, kaj, kak, kal, kam, kan, kao, khe, khf, khg, khh, khi, khj, khk, khl, kap, kaq, kar, kas, kat, kau, kav, kaw, kax, kay, kaz, kba, kbb, kbc, kbd, kbe, kbf, kbg, kbh, kbi, kbj, kbk, kbl, kbm, kbn, kbo, kbp, kbq, kbr, kbs, kbt, kbu, kbv, kbw, kbx, kby, kbz, kca, kcb, kcc, kcd, kce, kcf, kcg, kch, kci, kcj, kck, kcl, kcm, aop, kcn, kco, kcp, kcq, kcr, kcs, kct, kcu, kcv, kcw, resultsL, resultOf, kcx, Nat.reduceEqDiff, kcy, kcz, kda, reduceCtorEq, kdb, kdc, kdd, kde, kdf, kdg, kdh, kdi, kdj, kdk, kdl, kdm, kdn, kdo, eq1, kdp, kdq, kdr, kds, kdt, kdu, kdv, kdw, kdx, kdy, kdz, kea, keb, kec, apartOK, apart2, AObj.live, ked, kee, kef, keg, keh, kei, kej, kek, kel, Int.reduceEq, Int.reduceLT, Int.reduceLE, Int.reduceAdd, Int.reduceSub, Int.reduceMul, Int.reduceToNat, kem, ken, keo, kep, keq, ker, kes, ket, keu, kev, kew, kex, key, kez, kfa, kfb, kfc, kfd, kfe, kff, kfg, kfh, kfi, kfj, kfk, kfl, cutCells, kfm, kfn, kfo, kfp, kfq, kfr, kfs, kft, kfu, kfv, kfw, kfx, kfy, Nat.reduceAdd, Nat.reduceLeDiff, Nat.reduceLT, Nat.reduceMul, Nat.reduceSub, kfz, kga, kgb, kgc, kgd, kge, kgf, kgg, kgh, kgi, kgj, kgk, kgl, kgm, kgn, kgo, kgp, kgq, kgr, kgs, kgt, kgu, kgv, kgw, kgx, kgy, kgz, kha, khb, khc, khd, g0, hget_ne]
        · simp (disch := omega) only [kaa, kab, kac, kad, khm, khn, kho, khp, khq, khr, kae, kaf, kag, kah, kai, kaj, kak, kal, kam, kan, kao, khe, khf, khg, khh, khi, khj, khk, khl, kap, kaq, kar, kas, kat, kau, kav, kaw, kax, kay, kaz, kba, kbb, kbc, kbd, kbe, kbf, kbg, kbh, kbi, kbj, kbk, kbl, kbm, kbn, kbo, kbp, kbq, kbr, kbs, kbt, kbu, kbv, kbw, kbx, kby, kbz, kca, kcb, kcc, kcd, kce, kcf, kcg, kch, kci, kcj, kck, kcl, kcm, aop, kcn, kco, kcp, kcq, kcr, kcs, kct, kcu, kcv, kcw, resultsL, resultOf, kcx, Nat.reduceEqDiff, kcy, kcz, kda, reduceCtorEq, kdb, kdc, kdd, kde, kdf, kdg, kdh, kdi, kdj, kdk, kdl, kdm, kdn, kdo, eq1, kdp, kdq, kdr, kds, kdt, kdu, kdv, kdw, kdx, kdy, kdz, kea, keb, kec, apartOK, apart2, AObj.live, ked, kee, kef, keg, keh, kei, kej, kek, kel, Int.reduceEq, Int.reduceLT, Int.reduceLE, Int.reduceAdd, Int.reduceSub, Int.reduceMul, Int.reduceToNat, kem, ken, keo, kep, keq, ker, kes, ket, keu, kev, kew, kex, key, kez, kfa, kfb, kfc, kfd, kfe, kff, kfg, kfh, kfi, kfj, kfk, kfl, cutCells, kfm, kfn, kfo, kfp, kfq, kfr, kfs, kft, kfu, kfv, kfw, kfx, kfy, Nat.reduceAdd, Nat.reduceLeDiff, Nat.reduceLT, Nat.reduceMul, Nat.reduceSub, kfz, kga, kgb, kgc, kgd, kge, kgf, kgg, kgh, kgi, kgj, kgk, kgl, kgm, kgn, kgo, kgp, kgq, kgr, kgs, kgt, kgu, kgv, kgw, kgx, kgy, kgz, kha, khb, khc, khd, g1]
        · simp (disch := omega) only [kaa, kab, kac, kad, khm, khn, kho, khp, khq, khr, kae, kaf, kag, kah, kai, kaj, kak, kal, kam, kan, kao, khe, khf, khg, khh, khi, khj, khk, khl, kap, kaq, kar, kas, kat, kau, kav, kaw, kax, kay, kaz, kba, kbb, kbc, kbd, kbe, kbf, kbg, kbh, kbi, kbj, kbk, kbl, kbm, kbn, kbo, kbp, kbq, kbr, kbs, kbt, kbu, kbv, kbw, kbx, kby, kbz, kca, kcb, kcc, kcd, kce, kcf, kcg, kch, kci, kcj, kck, kcl, kcm, aop, kcn, kco, kcp, kcq, kcr, kcs, kct, kcu, kcv, kcw, resultsL, resultOf, kcx, Nat.reduceEqDiff, kcy, kcz, kda, reduceCtorEq, kdb, kdc, kdd, kde, kdf, kdg, kdh, kdi, kdj, kdk, kdl, kdm, kdn, kdo, eq1, kdp, kdq, kdr, kds, kdt, kdu, kdv, kdw, kdx, kdy, kdz, kea, keb, kec, apartOK, apart2, AObj.live, ked, kee, kef, keg, keh, kei, kej, kek, kel, Int.reduceEq, Int.reduceLT, Int.reduceLE, Int.reduceAdd, Int.reduceSub, Int.reduceMul, Int.reduceToNat, kem, ken, keo, kep, keq, ker, kes, ket, keu, kev, kew, kex, key, kez, kfa, kfb, kfc, kfd, kfe, kff, kfg, kfh, kfi, kfj, kfk, kfl, cutCells, kfm, kfn, kfo, kfp, kfq, kfr, kfs, kft, kfu, kfv, kfw, kfx, kfy, Nat.reduceAdd, Nat.reduceLeDiff, Nat.reduceLT, Nat.reduceMul, Nat.reduceSub, kfz, kga, kgb, kgc, kgd, kge, kgf, kgg, kgh, kgi, kgj, kgk, kgl, kgm, kgn, kgo, kgp, kgq, kgr, kgs, kgt, kgu, kgv, kgw, kgx, kgy, kgz, kha, khb, khc, khd, g1]
        · simp (disch := omega) only [kaa, kab, kac, kad, khm, khn, kho, khp, khq, khr, kae, kaf, kag, kah, kai, kaj, kak, kal, kam, kan, kao, khe, khf, khg, khh, khi, khj, khk, khl, kap, kaq, kar, kas, kat, kau, kav, kaw, kax, kay, kaz, kba, kbb, kbc, kbd, kbe, kbf, kbg, kbh, kbi, kbj, kbk, kbl, kbm, kbn, kbo, kbp, kbq, kbr, kbs, kbt, kbu, kbv, kbw, kbx, kby, kbz, kca, kcb, kcc, kcd, kce, kcf, kcg, kch, kci, kcj, kck, kcl, kcm, aop, kcn, kco, kcp, kcq, kcr, kcs, kct, kcu, kcv, kcw, resultsL, resultOf, kcx, Nat.reduceEqDiff, kcy, kcz, kda, reduceCtorEq, kdb, kdc, kdd, kde, kdf, kdg, kdh, kdi, kdj, kdk, kdl, kdm, kdn, kdo, eq1, kdp, kdq, kdr, kds, kdt, kdu, kdv, kdw, kdx, kdy, kdz, kea, keb, kec, apartOK, apart2, AObj.live, ked, kee, kef, keg, keh, kei, kej, kek, kel, Int.reduceEq, Int.reduceLT, Int.reduceLE, Int.reduceAdd, Int.reduceSub, Int.reduceMul, Int.reduceToNat, kem, ken, keo, kep, keq, ker, kes, ket, keu, kev, kew, kex, key, kez, kfa, kfb, kfc, kfd, kfe, kff, kfg, kfh, kfi, kfj, kfk, kfl, cutCells, kfm, kfn, kfo, kfp, kfq, kfr, kfs, kft, kfu, kfv, kfw, kfx, kfy, Nat.reduceAdd, Nat.reduceLeDiff, Nat.reduceLT, Nat.reduceMul, Nat.reduceSub, kfz, kga, kgb, kgc, kgd, kge, kgf, kgg, kgh, kgi, kgj, kgk, kgl, kgm, kgn, kgo, kgp, kgq, kgr, kgs, kgt, kgu, kgv, kgw, kgx, kgy, kgz, kha, khb, khc, khd, hcs, List.map_append, List.flatten_append, List.map_nil, List.map_cons, List.flatten_cons, List.flatten_nil, List.append_nil]
        · simp only [List.map_append, List.flatten_append, List.length_append, hcs, List.map_nil, List.map_cons, List.flatten_cons, List.flatten_nil, List.append_nil, hcl2, List.length_nil, Nat.zero_add, Nat.one_mul]
        · intro hok2
          obtain ⟨r1, r2, t2, r3, r4⟩ := q7 hok2
          refine ⟨if_pos hok2, r1, by simp; omega, t2, r3, ?_⟩
          rw [hlex, r4]
          simp
        · intro hno2
          obtain ⟨r1, r2⟩ := q8 hno2
          refine ⟨by rw [hno2]; rfl, _, by rw [hlex, r1], r2⟩
      · have hroom : (l5 + 1) * 56 ≤ roomMax ∧ l5 + 1 ≤ roomMax := by
          rw [flat6] at hcs
          simp only [roomMax]
          omega
        have ha := append_one (K := H ++ (G ++ [.row t.cells 6 true])) (b := H.length + k5) (bx := H.length + G.length) (l := l5) (unit := 6) (bytes := 56) (cells := (ts.map Tk.cells).flatten) (xs := t.cells) (u2 := 6) (w2 := true) (by rw [hget_base, hget_old (hget_lt h5 rfl)]; exact h5) hcs (by rw [hget_base, hget_base0]; rfl) rfl rfl hroom
        have l55 : k5 < G.length := hget_lt h5 rfl
        have n51 : k5 ≠ 1 := fun q => by rw [q, g1] at h5; simp [sc] at h5
        have n56 : k5 ≠ k6 := fun q => by rw [q, g6] at h5; simp at h5
        have n50 : k5 ≠ 0 := fun q => by rw [q, g0] at h5; simp at h5
        simp (disch := omega) only [kaa, kab, kac, kad, khm, khn, kho, khp, khq, khr, kae, kaf, kag, kah, kai, kaj, kak, kal, kam, kan, kao, khe, khf, khg, khh, khi, khj, khk, khl, kap, kaq, kar, kas, kat, kau, kav, kaw, kax, kay, kaz, kba, kbb, kbc, kbd, kbe, kbf, kbg, kbh, kbi, kbj, kbk, kbl, kbm, kbn, kbo, kbp, kbq, kbr, kbs, kbt, kbu, kbv, kbw, kbx, kby, kbz, kca, kcb, kcc, kcd, kce, kcf, kcg, kch, kci, kcj, kck, kcl, kcm, aop, kcn, kco, kcp, kcq, kcr, kcs, kct, kcu, kcv, kcw, resultsL, resultOf, kcx, Nat.reduceEqDiff, kcy, kcz, kda, reduceCtorEq, kdb, kdc, kdd, kde, kdf, kdg, kdh, kdi, kdj, kdk, kdl, kdm, kdn, kdo, eq1, kdp, kdq, kdr, kds, kdt, kdu, kdv, kdw, kdx, kdy, kdz, kea, keb, kec, apartOK, apart2, AObj.live, ked, kee, kef, keg, keh, kei, kej, kek, kel, Int.reduceEq, Int.reduceLT, Int.reduceLE, Int.reduceAdd, Int.reduceSub, Int.reduceMul, Int.reduceToNat, kem, ken, keo, kep, keq, ker, kes, ket, keu, kev, kew, kex, key, kez, kfa, kfb, kfc, kfd, kfe, kff, kfg, kfh, kfi, kfj, kfk, kfl, cutCells, kfm, kfn, kfo, kfp, kfq, kfr, kfs, kft, kfu, kfv, kfw, kfx, kfy, Nat.reduceAdd, Nat.reduceLeDiff, Nat.reduceLT, Nat.reduceMul, Nat.reduceSub, kfz, kga, kgb, kgc, kgd, kge, kgf, kgg, kgh, kgi, kgj, kgk, kgl, kgm, kgn, kgo, kgp, kgq, kgr, kgs, kgt, kgu, kgv, kgw, kgx, kgy, kgz, kha, khb, khc, khd, g0, g1, g6, hcl2, Nat.le_refl, ht6, hone, setL_full, ha, hget_ne]
        refine next_s (text := text1) (pos := pos) (p := p) (f := f) (hGH _) (by omega) (by simp (disch := omega) only [kaa, kab, kac, kad, khm, khn, kho, khp, khq, khr, kae, kaf, kag, kah, kai, kaj, kak, kal, kam, kan, kao, khe, khf, khg, khh, khi, khj, khk, khl, kap, kaq, kar, kas, kat, kau, kav, kaw, kax, kay, kaz, kba, kbb, kbc, kbd, kbe, kbf, kbg, kbh, kbi, kbj, kbk, kbl, kbm, kbn, kbo, kbp, kbq, kbr, kbs, kbt, kbu, kbv, kbw, kbx, kby, kbz, kca, kcb, kcc, kcd, kce, kcf, kcg, kch, kci, kcj, kck, kcl, kcm, aop, kcn, kco, kcp, kcq, kcr, kcs, kct, kcu, kcv, kcw, resultsL, resultOf, kcx, Nat.reduceEqDiff, kcy, kcz, kda, reduceCtorEq, kdb, kdc, kdd, kde, kdf, kdg, kdh, kdi, kdj, kdk, kdl, kdm, kdn, kdo, eq1, kdp, kdq, kdr, kds, kdt, kdu, kdv, kdw, kdx, kdy, kdz, kea, keb, kec, apartOK, apart2, AObj.live, ked, kee, kef, keg, keh, kei, kej, kek, kel, Int.reduceEq, Int.reduceLT, Int.reduceLE, Int.reduceAdd, Int.reduceSub, Int.reduceMul, Int.reduceToNat, kem, ken, keo, kep, keq, ker, kes, ket, keu, kev, kew, kex, key, kez, kfa, kfb, kfc, kfd, kfe, kff, kfg, kfh, kfi, kfj, kfk, kfl, cutCells, kfm, kfn, kfo, kfp, kfq, kfr, kfs, kft, kfu, kfv, kfw, kfx, kfy, Nat.reduceAdd, Nat.reduceLeDiff, Nat.reduceLT, Nat.reduceMul, Nat.reduceSub, kfz, kga, kgb, kgc, kgd, kge, kgf, kgg, kgh, kgi, kgj, kgk, kgl, kgm, kgn, kgo, kgp, kgq, kgr, kgs, kgt, kgu, kgv, kgw, kgx, kgy, kgz, kha, khb, khc, khd, g1, hget_ne]) hpos hl1 (by omega) (by omega) ?_
        rw [q4]
        simp (disch := omega) only [kaa, kab, kac, kad, khm, khn, kho, khp, khq, khr, kae, kaf, kag, kah, kai, kaj, kak, kal, kam, kan, kao, khe, khf, khg, khh, khi, khj, khk, khl, kap, kaq, kar, kas, kat, kau, kav, kaw, kax, kay, kaz, kba, kbb, kbc, kbd, kbe, kbf, kbg, kbh, kbi, kbj, kbk, kbl, kbm, kbn, kbo, kbp, kbq, kbr, kbs, kbt, kbu, kbv, kbw, kbx, kby, kbz, kca, kcb, kcc, kcd, kce, kcf, kcg, kch, kci, kcj, kck, kcl, kcm, aop, kcn, kco, kcp, kcq, kcr, kcs, kct, kcu, kcv, kcw, resultsL, resultOf, kcx, Nat.reduceEqDiff, kcy, kcz, kda, reduceCtorEq, kdb, kdc, kdd, kde, kdf, kdg, kdh, kdi, kdj, kdk, kdl, kdm, kdn, kdo, eq1, kdp, kdq, kdr, kds, kdt, kdu, kdv, kdw, kdx, kdy, kdz, kea, keb, kec, apartOK, apart2, AObj.live, ked, kee, kef, keg, keh, kei, kej, kek, kel, Int.reduceEq, Int.reduceLT, Int.reduceLE, Int.reduceAdd, Int.reduceSub, Int.reduceMul, Int.reduceToNat, kem, ken, keo, kep, keq, ker, kes, ket, keu, kev, kew, kex, key, kez, kfa, kfb, kfc, kfd, kfe, kff, kfg, kfh, kfi, kfj, kfk, kfl, cutCells, kfm, kfn, kfo, kfp, kfq, kfr, kfs, kft, kfu, kfv, kfw, kfx, kfy, Nat.reduceAdd, Nat.reduceLeDiff, Nat.reduceLT, Nat.reduceMul, Nat.reduceSub, kfz, kga, kgb, kgc, kgd, kge, kgf, kgg, kgh, kgi, kgj, kgk, kgl, kgm, kgn, kgo, kgp, kgq, kgr, kgs, kgt, kgu, kgv, kgw, kgx, kgy, kgz, kha, khb, khc, khd, q5, q6, setL_full, hcl2]
        refine ⟨if ok = true then text1.length - pos' + 1 else 0, ?_, _, pos', p', ok, G.length + 2, _, ts ++ [t], f', cur, rfl, ?_, ?_, ?_, by omega, by omega, q5, q2, q3, by simp; omega, .inr ⟨G.length + 1, l5 + 1, rfl, ?_, ?_, by omega⟩, ?_, ?_, (ex_env rfl)⟩
        · cases ok with
          | true => obtain ⟨_, r2, _⟩ := q7 rfl; simp only [if_true]; omega
          | false => simp only [Bool.false_eq_true, if_false]; omega
        · simp (disch := omega) only [kaa, kab, kac, kad, khm, khn, kho, khp, khq, khr, kae, kaf, kag, kah, kai, kaj, kak, kal, kam, kan, kao, khe, khf, khg, khh, khi, khj, khk, khl, kap, kaq, kar, kas, kat, kau, kav, kaw, kax, kay, kaz, kba, kbb, kbc, kbd, kbe, kbf, kbg, kbh, kbi, kbj, kbk, kbl, kbm, kbn, kbo, kbp, kbq, kbr, kbs, kbt, kbu, kbv, kbw, kbx, kby, kbz, kca, kcb, kcc, kcd, kce, kcf, kcg, kch, kci, kcj, kck, kcl, kcm, aop, kcn, kco, kcp, kcq, kcr, kcs, kct, kcu, kcv, kcw, resultsL, resultOf, kcx, Nat.reduceEqDiff, kcy, kcz, kda, reduceCtorEq, kdb, kdc, kdd, kde, kdf, kdg, kdh, kdi, kdj, kdk, kdl, kdm, kdn, kdo, eq1, kdp, kdq, kdr, kds, kdt, kdu, kdv, kdw, kdx, kdy, kdz, kea, keb, kec, apartOK, apart2, AObj.live, ked, kee, kef, keg, keh, kei, kej, kek, kel, Int.reduceEq, Int.reduceLT, Int.reduceLE, Int.reduceAdd, Int.reduceSub, Int.reduceMul, Int.reduceToNat, kem, ken, keo, kep, keq, ker, kes, ket, keu, kev, kew, kex, key, kez, kfa, kfb, kfc, kfd, kfe, kff, kfg, kfh, kfi, kfj, kfk, kfl, cutCells, kfm, kfn, kfo, kfp, kfq, kfr, kfs, kft, kfu, kfv, kfw, kfx, kfy, Nat.reduceAdd, Nat.reduceLeDiff, Nat.reduceLT, Nat.reduceMul, Nat.reduceSub, kfz, kga, kgb, kgc, kgd, kge, kgf, kgg, kgh, kgi, kgj, kgk, kgl, kgm, kgn, kgo, kgp, kgq, kgr, kgs, kgt, kgu, kgv, kgw, kgx, kgy, kgz, kha, khb, khc, khd, g0, hget_ne]
        · simp (disch := omega) only [kaa, kab, kac, kad, khm, khn, kho, khp, khq, khr, kae, kaf, kag, kah, kai, kaj, kak, kal, kam, kan, kao, khe, khf, khg, khh, khi, khj, khk, khl, kap, kaq, kar, kas, kat, kau, kav, kaw, kax, kay, kaz, kba, kbb, kbc, kbd, kbe, kbf, kbg, kbh, kbi, kbj, kbk, kbl, kbm, kbn, kbo, kbp, kbq, kbr, kbs, kbt, kbu, kbv, kbw, kbx, kby, kbz, kca, kcb, kcc, kcd, kce, kcf, kcg, kch, kci, kcj, kck, kcl, kcm, aop, kcn, kco, kcp, kcq, kcr, kcs, kct, kcu, kcv, kcw, resultsL, resultOf, kcx, Nat.reduceEqDiff, kcy, kcz, kda, reduceCtorEq, kdb, kdc, kdd, kde, kdf, kdg, kdh, kdi, kdj, kdk, kdl, kdm, kdn, kdo, eq1, kdp, kdq, kdr, kds, kdt, kdu, kdv, kdw, kdx, kdy, kdz, kea, keb, kec, apartOK, apart2, AObj.live, ked, kee, kef, keg, keh, kei, kej, kek, kel, Int.reduceEq, Int.reduceLT, Int.reduceLE, Int.reduceAdd, Int.reduceSub, Int.reduceMul, Int.reduceToNat, kem, ken, keo, kep, keq, ker, kes, ket, keu, kev, kew, kex, key, kez, kfa, kfb, kfc, kfd, kfe, kff, kfg, kfh, kfi, kfj, kfk, kfl, cutCells, kfm, kfn, kfo, kfp, kfq, kfr, kfs, kft, kfu, kfv, kfw, kfx, kfy, Nat.reduceAdd, Nat.reduceLeDiff, Nat.reduceLT, Nat.reduceMul, Nat.reduceSub, kfz, kga, kgb, kgc, kgd, kge, kgf, kgg, kgh, kgi, kgj, kgk, kgl, kgm, kgn, kgo, kgp, kgq, kgr, kgs, kgt, kgu, kgv, kgw, kgx, kgy, kgz, kha, khb, khc, khd, g1]
        · simp (disch := omega) only [kaa, kab, kac, kad, khm, khn, kho, khp, khq, khr, kae, kaf, kag, kah, kai, kaj, kak, kal, kam, kan, kao, khe, khf, khg, khh, khi, khj, khk, khl, kap, kaq, kar, kas, kat, kau, kav, kaw, kax, kay, kaz, kba, kbb, kbc, kbd, kbe, kbf, kbg, kbh, kbi, kbj, kbk, kbl, kbm, kbn, kbo, kbp, kbq, kbr, kbs, kbt, kbu, kbv, kbw, kbx, kby, kbz, kca, kcb, kcc, kcd, kce, kcf, kcg, kch, kci, kcj, kck, kcl, kcm, aop, kcn, kco, kcp, kcq, kcr, kcs, kct, kcu, kcv, kcw, resultsL, resultOf, kcx, Nat.reduceEqDiff, kcy, kcz, kda, reduceCtorEq, kdb, kdc, kdd, kde, kdf, kdg, kdh, kdi, kdj, kdk, kdl, kdm, kdn, kdo, eq1, kdp, kdq, kdr, kds, kdt, kdu, kdv, kdw, kdx, kdy, kdz, kea, keb, kec, apartOK, apart2, AObj.live, ked, kee, kef, keg, keh, kei, kej, kek, kel, Int.reduceEq, Int.reduceLT, Int.reduceLE, Int.reduceAdd, Int.reduceSub, Int.reduceMul, Int.reduceToNat, kem, ken, keo, kep, keq, ker, kes, ket, keu, kev, kew, kex, key, kez, kfa, kfb, kfc, kfd, kfe, kff, kfg, kfh, kfi, kfj, kfk, kfl, cutCells, kfm, kfn, kfo, kfp, kfq, kfr, kfs, kft, kfu, kfv, kfw, kfx, kfy, Nat.reduceAdd, Nat.reduceLeDiff, Nat.reduceLT, Nat.reduceMul, Nat.reduceSub, kfz, kga, kgb, kgc, kgd, kge, kgf, kgg, kgh, kgi, kgj, kgk, kgl, kgm, kgn, kgo, kgp, kgq, kgr, kgs, kgt, kgu, kgv, kgw, kgx, kgy, kgz, kha, khb, khc, khd, g1]
        · simp (disch := omega) only [kaa, kab, kac, kad, khm, khn, kho, khp, khq, khr, kae, kaf, kag, kah, kai, kaj, kak, kal, kam, kan, kao, khe, khf, khg, khh, khi, khj, khk, khl, kap, kaq, kar, kas, kat, kau, kav, kaw, kax, kay, kaz, kba, kbb, kbc, kbd, kbe, kbf, kbg, kbh, kbi, kbj, kbk, kbl, kbm, kbn, kbo, kbp, kbq, kbr, kbs, kbt, kbu, kbv, kbw, kbx, kby, kbz, kca, kcb, kcc, kcd, kce, kcf, kcg, kch, kci, kcj, kck, kcl, kcm, aop, kcn, kco, kcp, kcq, kcr, kcs, kct, kcu, kcv, kcw, resultsL, resultOf, kcx, Nat.reduceEqDiff, kcy, kcz, kda, reduceCtorEq, kdb, kdc, kdd, kde, kdf, kdg, kdh, kdi, kdj, kdk, kdl, kdm, kdn, kdo, eq1, kdp, kdq, kdr, kds, kdt, kdu, kdv, kdw, kdx, kdy, kdz, kea, keb, kec, apartOK, apart2, AObj.live, ked, kee, kef, keg, keh, kei, kej, kek, kel, Int.reduceEq, Int.reduceLT, Int.reduceLE, Int.reduceAdd, Int.reduceSub, Int.reduceMul, Int.reduceToNat, kem, ken, keo, kep, keq, ker, kes, ket, keu, kev, kew, kex, key, kez, kfa, kfb, kfc, kfd, kfe, kff, kfg, kfh, kfi, kfj, kfk, kfl, cutCells, kfm, kfn, kfo, kfp, kfq, kfr, kfs, kft, kfu, kfv, kfw, kfx, kfy, Nat.reduceAdd, Nat.reduceLeDiff, Nat.reduceLT, Nat.reduceMul, Nat.reduceSub, kfz, kga, kgb, kgc, kgd, kge, kgf, kgg, kgh, kgi, kgj, kgk, kgl, kgm, kgn, kgo, kgp, kgq, kgr, kgs, kgt, kgu, kgv, kgw, kgx, kgy, kgz, kha, khb, khc, khd, hcs, List.map_append, List.flatten_append, List.map_nil, List.map_cons, List.flatten_cons, List.flatten_nil, List.append_nil]
        · simp only [List.map_append, List.flatten_append, List.length_append, hcs, List.map_nil, List.map_cons, List.flatten_cons, List.flatten_nil, List.append_nil, hcl2, List.length_nil, Nat.zero_add, Nat.add_mul, Nat.one_mul]
        · intro hok2
          obtain ⟨r1, r2, t2, r3, r4⟩ := q7 hok2
          refine ⟨if_pos hok2, r1, by simp; omega, t2, r3, ?_⟩
          rw [hlex, r4]
          simp
        · intro hno2
          obtain ⟨r1, r2⟩ := q8 hno2
          refine ⟨by rw [hno2]; rfl, _, by rw [hlex, r1], r2⟩
    | false =>
      obtain ⟨rfl, F, hlex, hF⟩ := hno rfl
      have fcase : (f = (0, 0, 0) ∧ lexT text = (ts, (0, 0, 0))) ∨ (f ≠ (0, 0, 0) ∧ lexT text = ([], f)) := by
        rcases hcase with ⟨c1, rfl, rfl⟩ | ⟨c1, rfl, rfl⟩
        · rcases hF with ⟨rfl, rfl⟩ | ⟨hF, rfl⟩
          · exact .inl ⟨rfl, by rw [lexT, if_pos c1, hlex]; rfl⟩
          · refine .inr ⟨fun q => hF (by rw [q]), ?_⟩
            rw [lexT, if_pos c1, hlex]
            simp only
            rw [if_neg hF]
        · refine .inr ?_
          have he : lexL [] (1, 1) = ([], (0, 0, 0)) := lexL_end rfl
          rw [he] at hlex
          obtain ⟨rfl, rfl⟩ := Prod.mk.inj hlex
          rcases hF with ⟨_, rfl⟩ | ⟨hF, _⟩
          · exact ⟨by decide, by rw [lexT, if_neg c1]⟩
          · exact absurd rfl hF
      rcases fcase with ⟨rfl, hT⟩ | ⟨hf, hT⟩
      · simp (disch := omega) only [kaa, kab, kac, kad, khm, khn, kho, khp, khq, khr, kae, kaf, kag, kah, kai, kaj, kak, kal, kam, kan, kao, khe, khf, khg, khh, khi, khj, khk, khl, kap, kaq, kar, kas, kat, kau, kav, kaw, kax, kay, kaz, kba, kbb, kbc, kbd, kbe, kbf, kbg, kbh, kbi, kbj, kbk, kbl, kbm, kbn, kbo, kbp, kbq, kbr, kbs, kbt, kbu, kbv, kbw, kbx, kby, kbz, kca, kcb, kcc, kcd, kce, kcf, kcg, kch, kci, kcj, kck, kcl, kcm, aop, kcn, kco, kcp, kcq, kcr, kcs, kct, kcu, kcv, kcw, resultsL, resultOf, kcx, Nat.reduceEqDiff, kcy, kcz, kda, reduceCtorEq, kdb, kdc, kdd, kde, kdf, kdg, kdh, kdi, kdj, kdk, kdl, kdm, kdn, kdo, eq1, kdp, kdq, kdr, kds, kdt, kdu, kdv, kdw, kdx, kdy, kdz, kea, keb, kec, apartOK, apart2, AObj.live, ked, kee, kef, keg, keh, kei, kej, kek, kel, Int.reduceEq, Int.reduceLT, Int.reduceLE, Int.reduceAdd, Int.reduceSub, Int.reduceMul, Int.reduceToNat, kem, ken, keo, kep, keq, ker, kes, ket, keu, kev, kew, kex, key, kez, kfa, kfb, kfc, kfd, kfe, kff, kfg, kfh, kfi, kfj, kfk, kfl, cutCells, kfm, kfn, kfo, kfp, kfq, kfr, kfs, kft, kfu, kfv, kfw, kfx, kfy, Nat.reduceAdd, Nat.reduceLeDiff, Nat.reduceLT, Nat.reduceMul, Nat.reduceSub, kfz, kga, kgb, kgc, kgd, kge, kgf, kgg, kgh, kgi, kgj, kgk, kgl, kgm, kgn, kgo, kgp, kgq, kgr, kgs, kgt, kgu, kgv, kgw, kgx, kgy, kgz, kha, khb, khc, khd, g0, g1, g6, sc, agg3_eq]
        rw [hT] at h
        have sfl : Scoped H.length (.agg #[.int .i64 0, .int .i64 0, .int .i64 0]) := .closed rfl
        rcases hsl with ⟨rfl, hcs⟩ | ⟨k5, l5, rfl, h5, hcs, hl5⟩
        · have ht0 : ts = [] := by
            have := flat6 ts
            rw [hcs] at this
            simp only [List.length_nil] at this
            exact List.eq_nil_of_length_eq_zero (by omega)
          subst ht0
          exact ⟨H, _, [], [], .ret _, rfl, rfl, fun b o ho => .inl ho, rfl, List.nodup_nil, fun i k o2 hk => (by simp at hk), VS.pair (.old .slNil) (.old sfl), by simpa [fl] using h⟩
        · have hll : ts.length = l5 := by
            have := flat6 ts
            omega
          have hne : ¬ ts = [] := fun q => by subst q; simp at hll; omega
          rw [if_neg hne] at h
          have n50 : 0 ≠ k5 := fun q => by rw [← q, g0] at h5; simp at h5
          refine ⟨H, _, [_], [k5], .ret _, rfl, rfl, fun b o ho => .inl ho, rfl, by simp, fun i k o2 hk ho => ?_, VS.pair (VS.sl (i := 0) rfl) (.old sfl), by rw [hll] at h; exact h⟩
          match i, hk, ho with
          | 0, hk, ho =>
            simp at hk ho
            subst hk; subst ho
            refine ⟨_, hget_some (o := .row (ts.map Tk.cells).flatten 6 true) (by rw [hget_set_ne _ _ n50]; exact h5) rfl, OS.same fun v hv => ?_⟩
            rw [List.mem_flatten] at hv
            obtain ⟨cs, hcs2, hv⟩ := hv
            rw [List.mem_map] at hcs2
            obtain ⟨t, _, rfl⟩ := hcs2
            exact scoped_tk v hv
      · have hf' : ¬ (f.1 = 0 ∧ f.2.1 = 0 ∧ f.2.2 = 0) := fun q => hf (Prod.ext q.1 (Prod.ext q.2.1 q.2.2))
        simp (disch := omega) only [kaa, kab, kac, kad, khm, khn, kho, khp, khq, khr, kae, kaf, kag, kah, kai, kaj, kak, kal, kam, kan, kao, khe, khf, khg, khh, khi, khj, khk, khl, kap, kaq, kar, kas, kat, kau, kav, kaw, kax, kay, kaz, kba, kbb, kbc, kbd, kbe, kbf, kbg, kbh, kbi, kbj, kbk, kbl, kbm, kbn, kbo, kbp, kbq, kbr, kbs, kbt, kbu, kbv, kbw, kbx, kby, kbz, kca, kcb, kcc, kcd, kce, kcf, kcg, kch, kci, kcj, kck, kcl, kcm, aop, kcn, kco, kcp, kcq, kcr, kcs, kct, kcu, kcv, kcw, resultsL, resultOf, kcx, Nat.reduceEqDiff, kcy, kcz, kda, reduceCtorEq, kdb, kdc, kdd, kde, kdf, kdg, kdh, kdi, kdj, kdk, kdl, kdm, kdn, kdo, eq1, kdp, kdq, kdr, kds, kdt, kdu, kdv, kdw, kdx, kdy, kdz, kea, keb, kec, apartOK, apart2, AObj.live, ked, kee, kef, keg, keh, kei, kej, kek, kel, Int.reduceEq, Int.reduceLT, Int.reduceLE, Int.reduceAdd, Int.reduceSub, Int.reduceMul, Int.reduceToNat, kem, ken, keo, kep, keq, ker, kes, ket, keu, kev, kew, kex, key, kez, kfa, kfb, kfc, kfd, kfe, kff, kfg, kfh, kfi, kfj, kfk, kfl, cutCells, kfm, kfn, kfo, kfp, kfq, kfr, kfs, kft, kfu, kfv, kfw, kfx, kfy, Nat.reduceAdd, Nat.reduceLeDiff, Nat.reduceLT, Nat.reduceMul, Nat.reduceSub, kfz, kga, kgb, kgc, kgd, kge, kgf, kgg, kgh, kgi, kgj, kgk, kgl, kgm, kgn, kgo, kgp, kgq, kgr, kgs, kgt, kgu, kgv, kgw, kgx, kgy, kgz, kha, khb, khc, khd, g0, g1, g6, sc, agg3_eq, hf']
        rw [hT] at h
        exact ⟨H, _, [], [], .ret _, rfl, rfl, fun b o ho => .inl ho, rfl, List.nodup_nil, fun i k o2 hk => (by simp at hk), VS.pair (.old .slNil) (.old (.closed rfl)), by simpa [fl] using h⟩
  · rfl
  · intro hok
    obtain ⟨r1, r2, t, r3, r4⟩ := q7 hok
    simp only [List.drop_zero] at r4
    exact ⟨if_pos hok, r1, by simpa using r2, t, r3, by rw [r4]; rfl⟩
  · intro hno
    obtain ⟨r1, r2⟩ := q8 hno
    simp only [List.drop_zero] at r1 r2
    exact ⟨by rw [hno]; rfl, _, by rw [← r1], r2⟩

end Go.Proofs.YtedemfmafdilmaaDoor.Ev

/- Two texts with a line's end between have the words of both. -/
namespace Go.Proofs.YtedemfmafdilmaaDoor.Ev
set_option linter.unusedSimpArgs false
set_option linter.unusedVariables false

/-- What comes where no blank stands ahead. -/
def lexR (rest : List UInt8) (p : Nat × Nat) : List Tk × (Int × Int × Int) :=
  if rest = [] then ([], (0, 0, 0))
  else match tok rest with
    | .error c => ([], (c, (p.1 : Int), (p.2 : Int)))
    | .ok (k, m, v) => (⟨k, rest.take m, v, p⟩ :: (lexL (rest.drop m) (adv p (rest.take m))).1, (lexL (rest.drop m) (adv p (rest.take m))).2)

theorem lexL_R (l : List UInt8) (p : Nat × Nat) : lexL l p = lexR (l.drop (skN false l)) (adv p (l.take (skN false l))) := by
  unfold lexR
  by_cases h : l.drop (skN false l) = []
  · rw [if_pos h, lexL_end h]
  · rw [if_neg h]
    cases ht : tok (l.drop (skN false l)) with
    | error c => rw [lexL_err h ht]
    | ok x => obtain ⟨k, m, v⟩ := x; rw [lexL_ok h ht]

theorem sk_all : ∀ (r : Bool) (a b : List UInt8), skN r a = a.length → skN r (a ++ 10 :: b) = a.length + skN false (10 :: b)
  | false, [], b, _ => by simp
  | true, [], b, _ => by
    have : blankQ 10 = true := by decide
    simp [skN, this]
  | true, c :: a, b, h => by
    simp only [skN, List.length_cons] at h
    have := sk_all (!(c.toNat == 10)) a b (by omega)
    simp only [List.cons_append, skN, List.length_cons] at this ⊢
    omega
  | false, c :: a, b, h => by
    simp only [skN, List.length_cons] at h
    simp only [List.cons_append, List.length_cons]
    rw [skN]
    split at h
    · rename_i hc
      rw [if_pos hc, sk_all true a b (by omega)]
      omega
    · rename_i hc
      rw [if_neg hc]
      split at h
      · rename_i hb
        rw [if_pos hb, sk_all false a b (by omega)]
        omega
      · omega

theorem sk_some : ∀ (r : Bool) (a b : List UInt8), skN r a < a.length → skN r (a ++ b) = skN r a
  | _, [], b, h => by simp at h
  | true, c :: a, b, h => by
    simp only [skN, List.length_cons] at h
    have := sk_some (!(c.toNat == 10)) a b (by omega)
    simp only [List.cons_append, skN, this]
  | false, c :: a, b, h => by
    simp only [skN, List.length_cons] at h
    simp only [List.cons_append]
    rw [skN, skN]
    split at h
    · rename_i hc
      rw [if_pos hc, if_pos hc, sk_some true a b (by omega)]
    · rename_i hc
      rw [if_neg hc, if_neg hc]
      split at h
      · rename_i hb
        rw [if_pos hb, if_pos hb, sk_some false a b (by omega)]
      · rename_i hb
        rw [if_neg hb, if_neg hb]

theorem takeWhile_stop {α : Type} (q : α → Bool) (x : α) (b : List α) (hx : q x = false) : ∀ a : List α, (a ++ x :: b).takeWhile q = a.takeWhile q
  | [] => by simp [List.takeWhile_cons, hx]
  | c :: a => by
    simp only [List.cons_append, List.takeWhile_cons, takeWhile_stop q x b hx a]

theorem prefix_stop {s : List UInt8} {x : UInt8} (hx : x ∉ s) : ∀ (a b : List UInt8), s.isPrefixOf (a ++ x :: b) = s.isPrefixOf a := by
  induction s with
  | nil => intro a b; simp
  | cons c s ih =>
    intro a b
    have h1 : x ≠ c := fun q => hx (by rw [q]; simp)
    have h2 : x ∉ s := fun q => hx (by simp [q])
    cases a with
    | nil =>
      simp only [List.nil_append, List.isPrefixOf_cons_cons]
      have : (c == x) = false := by simpa using fun q : c = x => h1 q.symm
      rw [this]
      rfl
    | cons d a =>
      simp only [List.cons_append, List.isPrefixOf_cons_cons, ih h2 a b]

theorem signs_no10 : ∀ s ∈ signsL, (10 : UInt8) ∉ s := by
  have : signsL.all (fun s => !(s.contains 10)) = true := by rfl
  intro s hs h
  have := List.all_eq_true.1 this s hs
  simp at this
  exact this h

theorem find_congr {α : Type} {p q : α → Bool} : ∀ {l : List α}, (∀ x ∈ l, p x = q x) → l.find? p = l.find? q
  | [], _ => rfl
  | a :: l, h => by
    simp only [List.find?_cons, h a (by simp)]
    rw [find_congr fun x hx => h x (by simp [hx])]

theorem signN_stop (a b : List UInt8) : signN (a ++ 10 :: b) = signN a := by
  unfold signN
  rw [find_congr fun s hs => prefix_stop (signs_no10 s hs) a b]

theorem tok_stop {rest : List UInt8} (b : List UInt8) (h : rest ≠ []) : tok (rest ++ 10 :: b) = tok rest := by
  have hp : partQ 10 = false := by decide
  have h1 := takeWhile_le partQ rest
  unfold tok
  simp only [takeWhile_stop partQ 10 b hp rest, signN_stop]
  rw [List.take_append_of_le_length h1]
  cases rest with
  | nil => exact absurd rfl h
  | cons c rest => rfl

theorem lexR_ok {rest : List UInt8} {p : Nat × Nat} {k : Int} {m v : Nat} (h : rest ≠ []) (ht : tok rest = .ok (k, m, v)) :
    lexR rest p = (⟨k, rest.take m, v, p⟩ :: (lexL (rest.drop m) (adv p (rest.take m))).1, (lexL (rest.drop m) (adv p (rest.take m))).2) := by
  rw [lexR, if_neg h, ht]

theorem lexL_append : ∀ (n : Nat) (a b : List UInt8) (p : Nat × Nat), a.length ≤ n → (lexL a p).2.1 = 0 →
    lexL (a ++ 10 :: b) p = ((lexL a p).1 ++ (lexL (10 :: b) (adv p a)).1, (lexL (10 :: b) (adv p a)).2) := by
  intro n
  induction n with
  | zero =>
    intro a b p hn h
    obtain rfl : a = [] := List.eq_nil_of_length_eq_zero (by omega)
    rw [lexL_end (l := []) rfl]
    simp [adv]
  | succ n ih =>
    intro a b p hn h
    have hle := sk_le false a
    by_cases hs : skN false a = a.length
    · have hd : a.drop (skN false a) = [] := by rw [hs, List.drop_length]
      rw [lexL_end hd, lexL_R (a ++ 10 :: b), lexL_R (10 :: b), sk_all false a b hs]
      have e1 : (a ++ 10 :: b).drop (a.length + skN false (10 :: b)) = (10 :: b).drop (skN false (10 :: b)) := by rw [← List.drop_drop, List.drop_left]
      have e2 : adv p ((a ++ 10 :: b).take (a.length + skN false (10 :: b))) = adv (adv p a) ((10 :: b).take (skN false (10 :: b))) := by
        rw [List.take_add, List.take_left, List.drop_left, adv_append]
      rw [e1, e2]
      rfl
    · have hlt : skN false a < a.length := by omega
      have hne : a.drop (skN false a) ≠ [] := by rw [ne_eq, List.drop_eq_nil_iff]; omega
      have hsk := sk_some false a (10 :: b) hlt
      have e1 : (a ++ 10 :: b).drop (skN false a) = a.drop (skN false a) ++ 10 :: b := List.drop_append_of_le_length (by omega)
      have e2 : (a ++ 10 :: b).take (skN false a) = a.take (skN false a) := List.take_append_of_le_length (by omega)
      rw [lexL_R a] at h ⊢
      rw [lexL_R (a ++ 10 :: b), hsk, e1, e2]
      have e3 : adv p a = adv (adv p (a.take (skN false a))) (a.drop (skN false a)) := by rw [← adv_append, List.take_append_drop]
      rw [e3]
      have hlen : (a.drop (skN false a)).length ≤ a.length := by rw [List.length_drop]; omega
      generalize adv p (a.take (skN false a)) = q at *
      generalize a.drop (skN false a) = rest at *
      have hne2 : rest ++ 10 :: b ≠ [] := by simp
      cases ht : tok rest with
      | error c =>
        rw [lexR, if_neg hne, ht] at h
        exact absurd h (tok_code ht)
      | ok x =>
        obtain ⟨k, m, v⟩ := x
        have hm := tok_pos ht
        rw [lexR_ok hne ht] at h ⊢
        rw [lexR_ok hne2 (by rw [tok_stop b hne]; exact ht)]
        rw [List.take_append_of_le_length hm.2, List.drop_append_of_le_length hm.2]
        rw [ih (rest.drop m) b _ (by rw [List.length_drop]; omega) h]
        rw [← adv_append, List.take_append_drop]
        rfl

theorem lexL_line (b : List UInt8) (q : Nat × Nat) : lexL (10 :: b) q = lexL b (q.1 + 1, 1) := by
  have hb : blankQ 10 = true := by decide
  have e : skN false (10 :: b) = skN false b + 1 := by
    simp only [skN, show ¬ (10 : UInt8).toNat = 35 by decide, if_false, hb, if_true]
    omega
  rw [lexL_R (10 :: b), lexL_R b, e, List.drop_succ_cons, List.take_succ_cons, adv, if_pos (by decide)]

/-- A word so many lines further on. -/
def Tk.down (k : Nat) (t : Tk) : Tk := { t with pos := (t.pos.1 + k, t.pos.2) }

theorem adv_down (k : Nat) : ∀ (l : List UInt8) (p : Nat × Nat), adv (p.1 + k, p.2) l = ((adv p l).1 + k, (adv p l).2)
  | [], p => rfl
  | b :: l, p => by
    by_cases h : b.toNat = 10
    · have := adv_down k l (p.1 + 1, 1)
      simp only [adv, h, if_true] at this ⊢
      rw [← this, Nat.add_right_comm]
    · have := adv_down k l (p.1, p.2 + 1)
      simp only [adv, h, if_false] at this ⊢
      exact this

theorem lexL_down (k : Nat) : ∀ (n : Nat) (l : List UInt8) (p : Nat × Nat), l.length ≤ n → (lexL l (p.1 + k, p.2)).1 = (lexL l p).1.map (Tk.down k) ∧ (lexL l (p.1 + k, p.2)).2.1 = (lexL l p).2.1 := by
  intro n
  induction n with
  | zero =>
    intro l p hn
    obtain rfl : l = [] := List.eq_nil_of_length_eq_zero (by omega)
    rw [lexL_end (l := []) rfl, lexL_end (l := []) rfl]
    exact ⟨rfl, rfl⟩
  | succ n ih =>
    intro l p hn
    rw [lexL_R l p, lexL_R l (p.1 + k, p.2), adv_down]
    have hlen : (l.drop (skN false l)).length ≤ l.length := by rw [List.length_drop]; omega
    generalize adv p (l.take (skN false l)) = q
    generalize l.drop (skN false l) = rest at *
    by_cases h : rest = []
    · rw [lexR, lexR, if_pos h, if_pos h]
      exact ⟨rfl, rfl⟩
    · cases ht : tok rest with
      | error c =>
        rw [lexR, lexR, if_neg h, if_neg h, ht]
        exact ⟨rfl, rfl⟩
      | ok x =>
        obtain ⟨kk, m, v⟩ := x
        have hm := tok_pos ht
        rw [lexR_ok h ht, lexR_ok h ht, adv_down]
        obtain ⟨i1, i2⟩ := ih (rest.drop m) (adv q (rest.take m)) (by rw [List.length_drop]; omega)
        exact ⟨by simp only [i1, List.map_cons]; rfl, i2⟩

/-- Two texts with a line's end between. -/
theorem lexT_joins {a b : List UInt8} (ha : (lexT a).2.1 = 0) (hb : (lexT b).2.1 = 0) (hl : a.length + 1 + b.length ≤ 65536) :
    (lexT (a ++ 10 :: b)).2.1 = 0 ∧ (lexT (a ++ 10 :: b)).1 = (lexT a).1 ++ (lexT b).1.map (Tk.down (adv (1, 1) a).1) := by
  have hla : a.length ≤ 65536 := by omega
  have hlb : b.length ≤ 65536 := by omega
  have hlc : (a ++ 10 :: b).length ≤ 65536 := by simp; omega
  have fa : (lexL a (1, 1)).2.1 = 0 := by
    rw [lexT, if_pos hla] at ha
    split at ha
    · assumption
    · exact ha
  have fb : (lexL b (1, 1)).2.1 = 0 := by
    rw [lexT, if_pos hlb] at hb
    split at hb
    · assumption
    · exact hb
  have e := lexL_append a.length a b (1, 1) (Nat.le_refl _) fa
  rw [lexL_line] at e
  have hd := lexL_down (adv (1, 1) a).1 b.length b (1, 1) (Nat.le_refl _)
  rw [show ((1, 1) : Nat × Nat).1 + (adv (1, 1) a).1 = (adv (1, 1) a).1 + 1 by rw [Nat.add_comm]] at hd
  have fc : (lexL (a ++ 10 :: b) (1, 1)).2.1 = 0 := by rw [e]; exact hd.2.trans fb
  rw [lexT, lexT, lexT, if_pos hla, if_pos hlb, if_pos hlc, if_pos fa, if_pos fb, if_pos fc]
  exact ⟨rfl, by rw [e]; simp only [hd.1]⟩

end Go.Proofs.YtedemfmafdilmaaDoor.Ev

/- What the laws ask first. -/
namespace Go.Proofs.YtedemfmafdilmaaDoor.Ev
set_option maxRecDepth 100000
set_option linter.unusedSimpArgs false
set_option linter.unusedVariables false
variable {R : FRes → Heap → Prop} {H : Heap}

def isTrue : Option (FRes × Heap) → Bool
  | some (.ret (.bool true), _) => true
  | _ => false
theorem of_isTrue {x : Option (FRes × Heap)} (h : isTrue x = true) : ∃ H1, x = some (.ret (.bool true), H1) := by
  unfold isTrue at h
  split at h
  · exact ⟨_, rfl⟩
  · cases h

theorem live_ev : isTrue (evalFn Tab 64 9 [] H0) = true := by kernel_rfl

theorem strV_closed (l : List (List UInt8)) (n : Nat) : ∀ v ∈ strV l, Scoped n v := by
  intro v hv
  simp only [strV, List.mem_map] at hv
  obtain ⟨s, _, rfl⟩ := hv
  exact .closed rfl

theorem H0_rows : ∀ o ∈ H0, ∃ cs, o = .row cs 0 false ∧ ∀ v ∈ cs, Scoped H0.length v := by
  intro o ho
  simp only [H0, List.mem_cons, List.not_mem_nil, or_false] at ho
  rcases ho with rfl | rfl
  · exact ⟨_, rfl, strV_closed _ _⟩
  · exact ⟨_, rfl, strV_closed _ _⟩

/-- The heap begins with the laid variables. -/
def On0 (H : Heap) : Prop := ∃ g, H = H0 ++ g
theorem On0.gh (h : On0 H) : GH H := by
  obtain ⟨g, rfl⟩ := h
  exact ⟨rfl, rfl, by simp [H0]⟩
theorem On0.app (h : On0 H) (G : Heap) : On0 (H ++ G) := by
  obtain ⟨g, rfl⟩ := h
  exact ⟨g ++ G, by simp⟩
theorem on0 : On0 H0 := ⟨[], by simp⟩

theorem globs : T.G ≤ H0.length := by
  have : T.G = 2 := by unfold T; kernel_rfl
  rw [this]
  exact Nat.le_refl _

theorem live_s (hH : On0 H) (h : R (.ret (.bool true)) H) : WD T 9 [] H R := by
  obtain ⟨H1, he⟩ := of_isTrue live_ev
  exact WD.frame0 hH globs H0_rows (by simp) .bool (WD.ev follows table_ok he rfl) h

end Go.Proofs.YtedemfmafdilmaaDoor.Ev
