/- The document's Tokens, and the comparison of words. -/
import Derived.Test.YtedemfmafdilmaaDoorR8
namespace Go.Proofs.YtedemfmafdilmaaDoor.Ev
set_option maxRecDepth 100000
set_option linter.unusedSimpArgs false
set_option linter.unusedVariables false
variable {R : FRes → Heap → Prop} {H : Heap}

theorem some_u {text : List UInt8} (hH : On0 H) (hlen : text.length ≤ 140737488351232)
    (h : ∀ a G (p : Nat × Nat), TokSl (H ++ G) a (someT text).1 → R (.ret (.tuple #[.slice a (someT text).1.length (someT text).1.length, fl (someT text).2, .agg #[.int .i64 p.1, .int .i64 p.2]])) (H ++ G)) : WD T 15 [.string (bs text)] H R := by
  refine some_s hH hlen fun p => ?_
  by_cases hne : (someT text).1 = []
  · rw [if_pos hne]
    have := h none [] p (fun q => absurd hne q)
    rw [hne] at this
    simpa using this
  · rw [if_neg hne]
    exact h _ _ p fun _ => ⟨_, rfl, hget_last _ _⟩

theorem lexL_fault : ∀ (n : Nat) (l : List UInt8) (p : Nat × Nat), l.length ≤ n → (lexL l p).2.1 = 0 → (lexL l p).2 = (0, 0, 0) := by
  intro n
  induction n with
  | zero =>
    intro l p hn _
    obtain rfl : l = [] := List.eq_nil_of_length_eq_zero (by omega)
    rw [lexL_end (l := []) rfl]
  | succ n ih =>
    intro l p hn h
    rw [lexL_R] at h ⊢
    have hlen : (l.drop (skN false l)).length ≤ l.length := by rw [List.length_drop]; omega
    generalize adv p (l.take (skN false l)) = q at *
    generalize l.drop (skN false l) = rest at *
    by_cases hr : rest = []
    · rw [lexR, if_pos hr]
    · cases ht : tok rest with
      | error c =>
        rw [lexR, if_neg hr, ht] at h
        exact absurd h (tok_code ht)
      | ok x =>
        obtain ⟨k, m, v⟩ := x
        have hm := tok_pos ht
        rw [lexR_ok hr ht] at h ⊢
        exact ih _ _ (by rw [List.length_drop]; omega) h

theorem someT_lexT (text : List UInt8) : if (someT text).2.1 = 0 then lexT text = someT text ∧ (someT text).2 = (0, 0, 0) else lexT text = ([], (someT text).2) := by
  unfold someT lexT
  by_cases hl : text.length ≤ 65536
  · simp only [hl, if_true]
    split
    · rename_i h
      have := lexL_fault _ text (1, 1) (Nat.le_refl _) h
      exact ⟨by rw [← this], this⟩
    · rfl
  · simp only [hl, if_false]
    rw [if_neg (by decide)]
    trivial

theorem TokSl.upd {K : Heap} {a : Option Addr} {ts : List Tk} (h : TokSl K a ts) {k : Nat} {o : AObj} (hk : ∀ cs, hget K k ≠ .row cs 6 true) : TokSl (K.set k o) a ts := fun hne => by
  obtain ⟨b, h1, h2⟩ := h hne
  refine ⟨b, h1, ?_⟩
  rw [hget_ne (fun q => hk _ (by rw [q]; exact h2))]
  exact h2

theorem rTokens_u {text : List UInt8} (hH : On0 H) (hlen : text.length ≤ 140737488351232)
    (h : ∀ a G, TokSl (H ++ G) a (lexT text).1 → R (.ret (.tuple #[.slice a (lexT text).1.length (lexT text).1.length, fl (lexT text).2])) (H ++ G)) : WD T 10 [.string (bs text)] H R := by
  refine WD.of follows t10 (by simp) ?_
  simp (disch := omega) only [kaa, kab, kac, kad, kae, kaf, kag, kah, kai, kaj, kak, kal, kam, kan, kao, kap, kaq, kar, kas, kat, kau, kav, kaw, kax, kay, kaz, kba, kbb, kbc, kbd, kbe, kbf, kbg, kbh, kbi, kbj, kbk, kbl, kbm, kbn, kbo, kbp, kbq, kbr, kbs, kbt, kbu, kbv, kbw, kbx, kby, kbz, kca, kcb, kcc, kcd, kce, kcf, kcg, kch, kci, kcj, kck, kcl, kcm, aop, kcn, kco, kcp, kcq, kcr, kcs, kct, kcu, kcv, kcw, resultsL, resultOf, kcx, Nat.reduceEqDiff, kcy, kcz, kda, reduceCtorEq, kdb, kdc, kdd, kde, kdf, kdg, kdh, kdi, kdj, kdk, kdl, kdm, kdn, kdo, eq1, kdp, kdq, kdr, kds, kdt, kdu, kdv, kdw, kdx, kdy, kdz, kea, keb, kec, apartOK, apart2, AObj.live, ked, kee, kef, keg, keh, kei, kej, kek, kel, Int.reduceEq, Int.reduceLT, Int.reduceLE, Int.reduceAdd, Int.reduceSub, Int.reduceMul, Int.reduceToNat, kem, ken, keo, kep, keq, ker, kes, ket, keu, kev, kew, kex, key, kez, kfa, kfb, kfc, kfd, kfe, kff, kfg, kfh, kfi, kfj, kfk, kfl, cutCells, kfm, kfn, kfo, kfp, kfq, kfr, kfs, kft, kfu, kfv, kfw, kfx, kfy, Nat.reduceAdd, Nat.reduceLeDiff, Nat.reduceLT, Nat.reduceMul, Nat.reduceSub, kfz, kga, kgb, kgc, kgd, kge, kgf, kgg, kgh, kgi, kgj, kgk, kgl, kgm, kgn, kgo, kgp, kgq, kgr, kgs, kgt, kgu, kgv, kgw, kgx, kgy, kgz, kha, khb, khc, khd]
  refine some_u (hH.app _) hlen fun a G p hs => ?_
  have hst := someT_lexT text
  by_cases hc : (someT text).2.1 = 0
  · rw [if_pos hc] at hst
    simp (disch := omega) only [kaa, kab, kac, kad, kae, kaf, kag, kah, kai, kaj, kak, kal, kam, kan, kao, kap, kaq, kar, kas, kat, kau, kav, kaw, kax, kay, kaz, kba, kbb, kbc, kbd, kbe, kbf, kbg, kbh, kbi, kbj, kbk, kbl, kbm, kbn, kbo, kbp, kbq, kbr, kbs, kbt, kbu, kbv, kbw, kbx, kby, kbz, kca, kcb, kcc, kcd, kce, kcf, kcg, kch, kci, kcj, kck, kcl, kcm, aop, kcn, kco, kcp, kcq, kcr, kcs, kct, kcu, kcv, kcw, resultsL, resultOf, kcx, Nat.reduceEqDiff, kcy, kcz, kda, reduceCtorEq, kdb, kdc, kdd, kde, kdf, kdg, kdh, kdi, kdj, kdk, kdl, kdm, kdn, kdo, eq1, kdp, kdq, kdr, kds, kdt, kdu, kdv, kdw, kdx, kdy, kdz, kea, keb, kec, apartOK, apart2, AObj.live, ked, kee, kef, keg, keh, kei, kej, kek, kel, Int.reduceEq, Int.reduceLT, Int.reduceLE, Int.reduceAdd, Int.reduceSub, Int.reduceMul, Int.reduceToNat, kem, ken, keo, kep, keq, ker, kes, ket, keu, kev, kew, kex, key, kez, kfa, kfb, kfc, kfd, kfe, kff, kfg, kfh, kfi, kfj, kfk, kfl, cutCells, kfm, kfn, kfo, kfp, kfq, kfr, kfs, kft, kfu, kfv, kfw, kfx, kfy, Nat.reduceAdd, Nat.reduceLeDiff, Nat.reduceLT, Nat.reduceMul, Nat.reduceSub, kfz, kga, kgb, kgc, kgd, kge, kgf, kgg, kgh, kgi, kgj, kgk, kgl, kgm, kgn, kgo, kgp, kgq, kgr, kgs, kgt, kgu, kgv, kgw, kgx, kgy, kgz, kha, khb, khc, khd, fl, hc]
    have := h a ([.row [.int .i64 0, .int .i64 (someT text).2.2.1, .int .i64 (someT text).2.2.2] 0 true] ++ (G ++ [.row [.int .i64 0, .int .i64 (someT text).2.2.1, .int .i64 (someT text).2.2.2] 0 true, .row [.int .i64 p.1, .int .i64 p.2] 0 true])) ?_
    · rw [hst.1] at this
      rw [fl, hc] at this
      simpa using this
    · rw [hst.1]
      have hs2 := (hs.upd (k := H.length) (o := .row [.int .i64 0, .int .i64 (someT text).2.2.1, .int .i64 (someT text).2.2.2] 0 true) (fun cs q => by
        rw [List.append_assoc, hget_base0] at q
        simp [hget] at q)).app (G := [.row [.int .i64 0, .int .i64 (someT text).2.2.1, .int .i64 (someT text).2.2.2] 0 true, .row [.int .i64 p.1, .int .i64 p.2] 0 true])
      rw [List.append_assoc, set_base0] at hs2
      simpa using hs2
  · rw [if_neg hc] at hst
    simp (disch := omega) only [kaa, kab, kac, kad, kae, kaf, kag, kah, kai, kaj, kak, kal, kam, kan, kao, kap, kaq, kar, kas, kat, kau, kav, kaw, kax, kay, kaz, kba, kbb, kbc, kbd, kbe, kbf, kbg, kbh, kbi, kbj, kbk, kbl, kbm, kbn, kbo, kbp, kbq, kbr, kbs, kbt, kbu, kbv, kbw, kbx, kby, kbz, kca, kcb, kcc, kcd, kce, kcf, kcg, kch, kci, kcj, kck, kcl, kcm, aop, kcn, kco, kcp, kcq, kcr, kcs, kct, kcu, kcv, kcw, resultsL, resultOf, kcx, Nat.reduceEqDiff, kcy, kcz, kda, reduceCtorEq, kdb, kdc, kdd, kde, kdf, kdg, kdh, kdi, kdj, kdk, kdl, kdm, kdn, kdo, eq1, kdp, kdq, kdr, kds, kdt, kdu, kdv, kdw, kdx, kdy, kdz, kea, keb, kec, apartOK, apart2, AObj.live, ked, kee, kef, keg, keh, kei, kej, kek, kel, Int.reduceEq, Int.reduceLT, Int.reduceLE, Int.reduceAdd, Int.reduceSub, Int.reduceMul, Int.reduceToNat, kem, ken, keo, kep, keq, ker, kes, ket, keu, kev, kew, kex, key, kez, kfa, kfb, kfc, kfd, kfe, kff, kfg, kfh, kfi, kfj, kfk, kfl, cutCells, kfm, kfn, kfo, kfp, kfq, kfr, kfs, kft, kfu, kfv, kfw, kfx, kfy, Nat.reduceAdd, Nat.reduceLeDiff, Nat.reduceLT, Nat.reduceMul, Nat.reduceSub, kfz, kga, kgb, kgc, kgd, kge, kgf, kgg, kgh, kgi, kgj, kgk, kgl, kgm, kgn, kgo, kgp, kgq, kgr, kgs, kgt, kgu, kgv, kgw, kgx, kgy, kgz, kha, khb, khc, khd, fl, hc]
    have := h none ([.row [.int .i64 (someT text).2.1, .int .i64 (someT text).2.2.1, .int .i64 (someT text).2.2.2] 0 true] ++ (G ++ [.row [.int .i64 (someT text).2.1, .int .i64 (someT text).2.2.1, .int .i64 (someT text).2.2.2] 0 true, .row [.int .i64 p.1, .int .i64 p.2] 0 true])) (fun q => absurd (by rw [hst]) q)
    rw [hst] at this
    simpa [fl] using this

theorem same_s {t : Tk} (h : R (.ret (.bool true)) H) : WD T 17 [.agg t.cells.toArray, .agg t.cells.toArray] H R := by
  refine WD.gc0 (WD.of follows t17 (by simp) ?_)
  simp (disch := omega) only [kaa, kab, kac, kad, kae, kaf, kag, kah, kai, kaj, kak, kal, kam, kan, kao, kap, kaq, kar, kas, kat, kau, kav, kaw, kax, kay, kaz, kba, kbb, kbc, kbd, kbe, kbf, kbg, kbh, kbi, kbj, kbk, kbl, kbm, kbn, kbo, kbp, kbq, kbr, kbs, kbt, kbu, kbv, kbw, kbx, kby, kbz, kca, kcb, kcc, kcd, kce, kcf, kcg, kch, kci, kcj, kck, kcl, kcm, aop, kcn, kco, kcp, kcq, kcr, kcs, kct, kcu, kcv, kcw, resultsL, resultOf, kcx, Nat.reduceEqDiff, kcy, kcz, kda, reduceCtorEq, kdb, kdc, kdd, kde, kdf, kdg, kdh, kdi, kdj, kdk, kdl, kdm, kdn, kdo, eq1, kdp, kdq, kdr, kds, kdt, kdu, kdv, kdw, kdx, kdy, kdz, kea, keb, kec, apartOK, apart2, AObj.live, ked, kee, kef, keg, keh, kei, kej, kek, kel, Int.reduceEq, Int.reduceLT, Int.reduceLE, Int.reduceAdd, Int.reduceSub, Int.reduceMul, Int.reduceToNat, kem, ken, keo, kep, keq, ker, kes, ket, keu, kev, kew, kex, key, kez, kfa, kfb, kfc, kfd, kfe, kff, kfg, kfh, kfi, kfj, kfk, kfl, cutCells, kfm, kfn, kfo, kfp, kfq, kfr, kfs, kft, kfu, kfv, kfw, kfx, kfy, Nat.reduceAdd, Nat.reduceLeDiff, Nat.reduceLT, Nat.reduceMul, Nat.reduceSub, kfz, kga, kgb, kgc, kgd, kge, kgf, kgg, kgh, kgi, kgj, kgk, kgl, kgm, kgn, kgo, kgp, kgq, kgr, kgs, kgt, kgu, kgv, kgw, kgx, kgy, kgz, kha, khb, khc, khd, Tk.cells, tk, eqL, eqT1]
  exact ⟨_, rfl, ⟨_, rfl⟩, .bool, h⟩

def samesI (a b : Option Addr) (n0 : Nat) (H : Heap) : Nat → Env → Heap → Prop := fun n e H' =>
  ∃ i : Nat, i ≤ n0 ∧ n = n0 - i ∧ H' = H ∧ (∃ x : Nat → Value, e = [.slice a n0 n0, .slice b n0 n0, x 2, x 3, x 4, .int .i64 i, x 6, x 7, x 8, x 9, x 10, x 11, x 12, x 13, x 14, x 15, x 16, x 17, x 18, x 19, x 20, x 21, x 22, x 23, x 24, x 25, x 26, x 27, x 28])

theorem sames_s {ts : List Tk} {a b : Option Addr} (ha : TokSl H a ts) (hb : TokSl H b ts) (hl : ts.length ≤ 1000000) (h : R (.ret (.bool true)) H) :
    WD T 12 [.slice a ts.length ts.length, .slice b ts.length ts.length] H R := by
  refine WD.of follows t12 (by simp) ?_
  simp (disch := omega) only [kaa, kab, kac, kad, kae, kaf, kag, kah, kai, kaj, kak, kal, kam, kan, kao, kap, kaq, kar, kas, kat, kau, kav, kaw, kax, kay, kaz, kba, kbb, kbc, kbd, kbe, kbf, kbg, kbh, kbi, kbj, kbk, kbl, kbm, kbn, kbo, kbp, kbq, kbr, kbs, kbt, kbu, kbv, kbw, kbx, kby, kbz, kca, kcb, kcc, kcd, kce, kcf, kcg, kch, kci, kcj, kck, kcl, kcm, aop, kcn, kco, kcp, kcq, kcr, kcs, kct, kcu, kcv, kcw, resultsL, resultOf, kcx, Nat.reduceEqDiff, kcy, kcz, kda, reduceCtorEq, kdb, kdc, kdd, kde, kdf, kdg, kdh, kdi, kdj, kdk, kdl, kdm, kdn, kdo, eq1, kdp, kdq, kdr, kds, kdt, kdu, kdv, kdw, kdx, kdy, kdz, kea, keb, kec, apartOK, apart2, AObj.live, ked, kee, kef, keg, keh, kei, kej, kek, kel, Int.reduceEq, Int.reduceLT, Int.reduceLE, Int.reduceAdd, Int.reduceSub, Int.reduceMul, Int.reduceToNat, kem, ken, keo, kep, keq, ker, kes, ket, keu, kev, kew, kex, key, kez, kfa, kfb, kfc, kfd, kfe, kff, kfg, kfh, kfi, kfj, kfk, kfl, cutCells, kfm, kfn, kfo, kfp, kfq, kfr, kfs, kft, kfu, kfv, kfw, kfx, kfy, Nat.reduceAdd, Nat.reduceLeDiff, Nat.reduceLT, Nat.reduceMul, Nat.reduceSub, kfz, kga, kgb, kgc, kgd, kge, kgf, kgg, kgh, kgi, kgj, kgk, kgl, kgm, kgn, kgo, kgp, kgq, kgr, kgs, kgt, kgu, kgv, kgw, kgx, kgy, kgz, kha, khb, khc, khd]
  refine WLoop.inv (samesI a b ts.length H) ?_ ts.length _ _ ⟨0, by omega, rfl, rfl, ex_env rfl⟩
  rintro n e H' ⟨i, k1, rfl, rfl, ⟨x, rfl⟩⟩
  by_cases hi : i < ts.length
  · have hi' : (i : Int) < (ts.length : Nat) := by omega
    have hne : ts ≠ [] := fun q => by rw [q] at hi; simp at hi
    obtain ⟨x1, rfl, h1⟩ := ha hne
    obtain ⟨x2, rfl, h2⟩ := hb hne
    have hc := cut_flat ts i hi
    simp (disch := omega) only [kaa, kab, kac, kad, kae, kaf, kag, kah, kai, kaj, kak, kal, kam, kan, kao, kap, kaq, kar, kas, kat, kau, kav, kaw, kax, kay, kaz, kba, kbb, kbc, kbd, kbe, kbf, kbg, kbh, kbi, kbj, kbk, kbl, kbm, kbn, kbo, kbp, kbq, kbr, kbs, kbt, kbu, kbv, kbw, kbx, kby, kbz, kca, kcb, kcc, kcd, kce, kcf, kcg, kch, kci, kcj, kck, kcl, kcm, aop, kcn, kco, kcp, kcq, kcr, kcs, kct, kcu, kcv, kcw, resultsL, resultOf, kcx, Nat.reduceEqDiff, kcy, kcz, kda, reduceCtorEq, kdb, kdc, kdd, kde, kdf, kdg, kdh, kdi, kdj, kdk, kdl, kdm, kdn, kdo, eq1, kdp, kdq, kdr, kds, kdt, kdu, kdv, kdw, kdx, kdy, kdz, kea, keb, kec, apartOK, apart2, AObj.live, ked, kee, kef, keg, keh, kei, kej, kek, kel, Int.reduceEq, Int.reduceLT, Int.reduceLE, Int.reduceAdd, Int.reduceSub, Int.reduceMul, Int.reduceToNat, kem, ken, keo, kep, keq, ker, kes, ket, keu, kev, kew, kex, key, kez, kfa, kfb, kfc, kfd, kfe, kff, kfg, kfh, kfi, kfj, kfk, kfl, cutCells, kfm, kfn, kfo, kfp, kfq, kfr, kfs, kft, kfu, kfv, kfw, kfx, kfy, Nat.reduceAdd, Nat.reduceLeDiff, Nat.reduceLT, Nat.reduceMul, Nat.reduceSub, kfz, kga, kgb, kgc, kgd, kge, kgf, kgg, kgh, kgi, kgj, kgk, kgl, kgm, kgn, kgo, kgp, kgq, kgr, kgs, kgt, kgu, kgv, kgw, kgx, kgy, kgz, kha, khb, khc, khd, hi', if_pos, h1, h2, flat6, hc]
    (repeat ((first | refine same_s ?_); try simp (disch := omega) only [kaa, kab, kac, kad, kae, kaf, kag, kah, kai, kaj, kak, kal, kam, kan, kao, kap, kaq, kar, kas, kat, kau, kav, kaw, kax, kay, kaz, kba, kbb, kbc, kbd, kbe, kbf, kbg, kbh, kbi, kbj, kbk, kbl, kbm, kbn, kbo, kbp, kbq, kbr, kbs, kbt, kbu, kbv, kbw, kbx, kby, kbz, kca, kcb, kcc, kcd, kce, kcf, kcg, kch, kci, kcj, kck, kcl, kcm, aop, kcn, kco, kcp, kcq, kcr, kcs, kct, kcu, kcv, kcw, resultsL, resultOf, kcx, Nat.reduceEqDiff, kcy, kcz, kda, reduceCtorEq, kdb, kdc, kdd, kde, kdf, kdg, kdh, kdi, kdj, kdk, kdl, kdm, kdn, kdo, eq1, kdp, kdq, kdr, kds, kdt, kdu, kdv, kdw, kdx, kdy, kdz, kea, keb, kec, apartOK, apart2, AObj.live, ked, kee, kef, keg, keh, kei, kej, kek, kel, Int.reduceEq, Int.reduceLT, Int.reduceLE, Int.reduceAdd, Int.reduceSub, Int.reduceMul, Int.reduceToNat, kem, ken, keo, kep, keq, ker, kes, ket, keu, kev, kew, kex, key, kez, kfa, kfb, kfc, kfd, kfe, kff, kfg, kfh, kfi, kfj, kfk, kfl, cutCells, kfm, kfn, kfo, kfp, kfq, kfr, kfs, kft, kfu, kfv, kfw, kfx, kfy, Nat.reduceAdd, Nat.reduceLeDiff, Nat.reduceLT, Nat.reduceMul, Nat.reduceSub, kfz, kga, kgb, kgc, kgd, kge, kgf, kgg, kgh, kgi, kgj, kgk, kgl, kgm, kgn, kgo, kgp, kgq, kgr, kgs, kgt, kgu, kgv, kgw, kgx, kgy, kgz, kha, khb, khc, khd, wr_i64, nadd1]))
    exact ⟨ts.length - (i + 1), by omega, i + 1, by omega, rfl, rfl, ex_env rfl⟩
  · have hi' : ¬ (i : Int) < (ts.length : Nat) := by omega
    simp (disch := omega) only [kaa, kab, kac, kad, kae, kaf, kag, kah, kai, kaj, kak, kal, kam, kan, kao, kap, kaq, kar, kas, kat, kau, kav, kaw, kax, kay, kaz, kba, kbb, kbc, kbd, kbe, kbf, kbg, kbh, kbi, kbj, kbk, kbl, kbm, kbn, kbo, kbp, kbq, kbr, kbs, kbt, kbu, kbv, kbw, kbx, kby, kbz, kca, kcb, kcc, kcd, kce, kcf, kcg, kch, kci, kcj, kck, kcl, kcm, aop, kcn, kco, kcp, kcq, kcr, kcs, kct, kcu, kcv, kcw, resultsL, resultOf, kcx, Nat.reduceEqDiff, kcy, kcz, kda, reduceCtorEq, kdb, kdc, kdd, kde, kdf, kdg, kdh, kdi, kdj, kdk, kdl, kdm, kdn, kdo, eq1, kdp, kdq, kdr, kds, kdt, kdu, kdv, kdw, kdx, kdy, kdz, kea, keb, kec, apartOK, apart2, AObj.live, ked, kee, kef, keg, keh, kei, kej, kek, kel, Int.reduceEq, Int.reduceLT, Int.reduceLE, Int.reduceAdd, Int.reduceSub, Int.reduceMul, Int.reduceToNat, kem, ken, keo, kep, keq, ker, kes, ket, keu, kev, kew, kex, key, kez, kfa, kfb, kfc, kfd, kfe, kff, kfg, kfh, kfi, kfj, kfk, kfl, cutCells, kfm, kfn, kfo, kfp, kfq, kfr, kfs, kft, kfu, kfv, kfw, kfx, kfy, Nat.reduceAdd, Nat.reduceLeDiff, Nat.reduceLT, Nat.reduceMul, Nat.reduceSub, kfz, kga, kgb, kgc, kgd, kge, kgf, kgg, kgh, kgi, kgj, kgk, kgl, kgm, kgn, kgo, kgp, kgq, kgr, kgs, kgt, kgu, kgv, kgw, kgx, kgy, kgz, kha, khb, khc, khd, hi']
    exact h


/-- A list of n words lies at block b, if n is not 0. -/
structure Row (K : Heap) (a : Option Addr) (n : Nat) (cs : List Value) (b : Nat) : Prop where
  nil : n = 0 → a = none
  there : n ≠ 0 → a = some ⟨b, 0, none⟩ ∧ hget K b = .row cs 6 true
  len : cs.length = n * 6

theorem Row.app {K G : Heap} {a : Option Addr} {n b : Nat} {cs : List Value} (h : Row K a n cs b) : Row (K ++ G) a n cs b :=
  ⟨h.nil, fun q => ⟨(h.there q).1, by rw [hget_old (hget_lt (h.there q).2 rfl)]; exact (h.there q).2⟩, h.len⟩
theorem Row.same {K K' : Heap} {a : Option Addr} {n b : Nat} {cs : List Value} (h : Row K a n cs b) (hk : hget K' b = hget K b) : Row K' a n cs b :=
  ⟨h.nil, fun q => ⟨(h.there q).1, by rw [hk]; exact (h.there q).2⟩, h.len⟩
theorem Row.tok {K : Heap} {a : Option Addr} {b : Nat} {ts : List Tk} (h : Row K a ts.length (ts.map Tk.cells).flatten b) : TokSl K a ts := fun hne =>
  ⟨b, h.there fun q => hne (List.eq_nil_of_length_eq_zero q)⟩

theorem On0.set (h : On0 H) {b : Nat} (hb : 2 ≤ b) (o : AObj) : On0 (H.set b o) := by
  obtain ⟨g, rfl⟩ := h
  refine ⟨g.set (b - 2) o, ?_⟩
  have := set_base H0 g (b - 2) o
  rwa [show H0.length + (b - 2) = b by have : H0.length = 2 := rfl; omega] at this

theorem lexTokens_v {text : List UInt8} (hH : GH H)
    (h : ∀ a G, Row (H ++ G) a (lexT text).1.length ((lexT text).1.map Tk.cells).flatten H.length → R (.ret (.tuple #[.slice a (lexT text).1.length (lexT text).1.length, fl (lexT text).2])) (H ++ G)) : WD T 11 [.string (bs text)] H R := by
  refine lexTokens_s hH ?_
  by_cases hne : (lexT text).1 = []
  · rw [if_pos hne]
    have := h none [] ⟨fun _ => rfl, fun q => absurd (by rw [hne]; rfl) q, flat6 _⟩
    rw [hne] at this
    simpa using this
  · rw [if_neg hne]
    exact h _ _ ⟨fun q => absurd (List.eq_nil_of_length_eq_zero q) hne, fun _ => ⟨rfl, hget_last _ _⟩, flat6 _⟩

/-- A heap that is another one but for a block. -/
structure But (b : Nat) (K K' : Heap) : Prop where
  len : K'.length = K.length
  get : ∀ c, c ≠ b → hget K' c = hget K c
  on : On0 K'

theorem But.refl {b : Nat} {K : Heap} (h : On0 K) : But b K K := ⟨rfl, fun _ _ => rfl, h⟩
theorem But.set {b : Nat} {K K' : Heap} (h : But b K K') (hb : 2 ≤ b) (o : AObj) : But b K (K'.set b o) :=
  ⟨by rw [List.length_set]; exact h.len, fun c hc => by rw [hget_ne (fun q => hc q.symm)]; exact h.get c hc, h.on.set hb o⟩

/-- One word is written over. -/
theorem kinds_step {cs : List Value} {n i : Nat} {k : Int} (hl : cs.length = n * 6) (hi : i < n) (h : ∀ j, j < i → cs[j * 6]? = some (.int .i64 k)) (r : List Value) (hr : r.length = 5) :
    (setL cs (i * 6) (.int .i64 k :: r)).length = n * 6 ∧ ∀ j, j < i + 1 → (setL cs (i * 6) (.int .i64 k :: r))[j * 6]? = some (.int .i64 k) := by
  have key : ∀ (vs cs : List Value) (o : Nat), (setL cs o vs).length = cs.length ∧ ∀ j, j < o → (setL cs o vs)[j]? = cs[j]? := by
    intro vs
    induction vs with
    | nil => intro cs o; exact ⟨rfl, fun _ _ => rfl⟩
    | cons v vs ih =>
      intro cs o
      rw [setL]
      obtain ⟨h1, h2⟩ := ih (cs.set o v) (o + 1)
      refine ⟨by rw [h1, List.length_set], fun j hj => ?_⟩
      rw [h2 j (by omega), List.getElem?_set_ne (by omega)]
  obtain ⟨h1, h2⟩ := key (.int .i64 k :: r) cs (i * 6)
  refine ⟨h1.trans hl, fun j hj => ?_⟩
  by_cases hji : j < i
  · rw [h2 _ (by omega)]
    exact h j hji
  · obtain rfl : j = i := by omega
    rw [setL]
    obtain ⟨_, h4⟩ := key r (cs.set (j * 6) (.int .i64 k)) (j * 6 + 1)
    rw [h4 _ (by omega), List.getElem?_set_self (by omega)]

theorem append_row {K : Heap} {a : Option Addr} {n b bx u2 : Nat} {cs xs : List Value} {w2 : Bool} (h : Row K a n cs b) (hx : hget K bx = .row xs u2 w2) (hxl : xs.length = 12) (hne : bx ≠ b) (hall : xs.all oneCell = true)
    (hb : 2 ≤ b) (hK : On0 K) (hn : n ≤ 1000000) : ∃ K1, appendV K 6 56 (.slice a n n) (.slice (some ⟨bx, 0, none⟩) 2 2) = .val (.slice (some ⟨K.length, 0, none⟩) (n + 2) (n + 2)) (K1 ++ [.row (cs ++ xs) 6 true]) ∧ But b K K1 := by
  have e1 : List.take (2 * 6) (List.drop 0 xs) = xs := by rw [List.drop_zero]; exact List.take_of_length_le (by omega)
  by_cases h0 : n = 0
  · obtain rfl := h.nil h0
    subst h0
    have hcs : cs = [] := List.eq_nil_of_length_eq_zero (by have := h.len; omega)
    subst hcs
    refine ⟨K, ?_, .refl hK⟩
    simp only [appendV, lenV, srcCells, hx]
    rw [if_pos (by omega)]
    simp only [e1]
    rw [if_neg (by omega), if_pos (by decide)]
    rfl
  · obtain ⟨rfl, hrow⟩ := h.there h0
    refine ⟨K.set b .dead, ?_, (But.refl hK).set hb _⟩
    have hl := h.len
    simp only [appendV, lenV, srcCells, hx]
    rw [if_pos (by omega)]
    have e2 : List.take (n * 6) (List.drop 0 cs) = cs := by rw [List.drop_zero, ← hl, List.take_length]
    simp only [e1]
    rw [if_neg (by omega)]
    simp only [hrow, e2]
    rw [if_pos ⟨trivial, by omega, by omega, by omega⟩, if_neg (by omega), if_pos ⟨by simp only [roomMax]; omega, by simp only [roomMax]; omega, hall⟩]


def TokB (K : Heap) (a : Option Addr) (ts : List Tk) (m : Nat) : Prop := ts ≠ [] → ∃ b, a = some ⟨b, 0, none⟩ ∧ b < m ∧ hget K b = .row (ts.map Tk.cells).flatten 6 true
theorem TokSl.b {K : Heap} {a : Option Addr} {ts : List Tk} (h : TokSl K a ts) : TokB K a ts K.length := fun hne => by
  obtain ⟨b, h1, h2⟩ := h hne
  exact ⟨b, h1, hget_lt h2 rfl, h2⟩
theorem TokB.app {K G : Heap} {a : Option Addr} {ts : List Tk} {m : Nat} (h : TokB K a ts m) : TokB (K ++ G) a ts m := fun hne => by
  obtain ⟨b, h1, h2, h3⟩ := h hne
  exact ⟨b, h1, h2, by rw [hget_old (hget_lt h3 rfl)]; exact h3⟩
theorem TokB.but {K K' : Heap} {a : Option Addr} {ts : List Tk} {m b : Nat} (h : TokB K a ts m) (hb : But b K K') (hm : m ≤ b) : TokB K' a ts m := fun hne => by
  obtain ⟨c, h1, h2, h3⟩ := h hne
  exact ⟨c, h1, h2, by rw [hb.get c (by omega)]; exact h3⟩
theorem TokB.tok {K : Heap} {a : Option Addr} {ts : List Tk} {m : Nat} (h : TokB K a ts m) : TokSl K a ts := fun hne => by
  obtain ⟨c, h1, h2, h3⟩ := h hne
  exact ⟨c, h1, h3⟩

/-- What stands: the words wanted, three lists, the faults. -/
structure LF (ts : List Tk) (F : List Value) (M : Nat) (K : Heap) (a6 a8 a10 a12 : Option Addr) (cA cB cC : List Value) (bA bB bC p7 p9 p13 m1 : Nat) : Prop where
  on : On0 K
  w : TokB K a6 ts m1
  A : Row K a8 ts.length cA bA
  B : Row K a10 M cB bB
  C : Row K a12 ts.length cC bC
  q7 : hget K p7 = .row F 0 true
  q9 : hget K p9 = .row F 0 true
  q13 : hget K p13 = .row F 0 true
  o1 : 2 ≤ m1 ∧ m1 ≤ bA ∧ m1 ≤ bB ∧ m1 ≤ bC ∧ bA ≠ bB ∧ bA ≠ bC ∧ bB ≠ bC ∧ p7 ≠ bA ∧ p7 ≠ bB ∧ p7 ≠ bC ∧ p9 ≠ bA ∧ p9 ≠ bB ∧ p9 ≠ bC ∧ p13 ≠ bA ∧ p13 ≠ bB ∧ p13 ≠ bC
  o2 : (bA < K.length ∨ K.length + 100 ≤ bA) ∧ (bB < K.length ∨ K.length + 100 ≤ bB) ∧ (bC < K.length ∨ K.length + 100 ≤ bC)

variable {ts : List Tk} {F : List Value} {M : Nat} {K K' : Heap} {a6 a8 a10 a12 : Option Addr} {cA cB cC c : List Value} {bA bB bC p7 p9 p13 m1 : Nat}

theorem Row.far {a : Option Addr} {n b : Nat} {cs : List Value} (h : Row K a n cs b) (d : Nat) : ∃ b', Row K a n cs b' ∧ (b' = b ∧ b < K.length ∨ b' = d) := by
  by_cases hn : n = 0
  · exact ⟨d, ⟨h.nil, fun q => absurd hn q, h.len⟩, .inr rfl⟩
  · exact ⟨b, h, .inl ⟨rfl, hget_lt (h.there hn).2 rfl⟩⟩

theorem LF.butA (h : LF ts F M K a6 a8 a10 a12 cA cB cC bA bB bC p7 p9 p13 m1) (hb : But bA K K') (hA : Row K' a8 ts.length c bA) : LF ts F M K' a6 a8 a10 a12 c cB cC bA bB bC p7 p9 p13 m1 := by
  have o := h.o1
  exact ⟨hb.on, h.w.but hb (by omega), hA, h.B.same (hb.get _ (by omega)), h.C.same (hb.get _ (by omega)), (hb.get _ (by omega)).trans h.q7, (hb.get _ (by omega)).trans h.q9, (hb.get _ (by omega)).trans h.q13, o, by rw [hb.len]; exact h.o2⟩
theorem LF.butB (h : LF ts F M K a6 a8 a10 a12 cA cB cC bA bB bC p7 p9 p13 m1) (hb : But bB K K') (hB : Row K' a10 M c bB) : LF ts F M K' a6 a8 a10 a12 cA c cC bA bB bC p7 p9 p13 m1 := by
  have o := h.o1
  exact ⟨hb.on, h.w.but hb (by omega), h.A.same (hb.get _ (by omega)), hB, h.C.same (hb.get _ (by omega)), (hb.get _ (by omega)).trans h.q7, (hb.get _ (by omega)).trans h.q9, (hb.get _ (by omega)).trans h.q13, o, by rw [hb.len]; exact h.o2⟩
theorem LF.butC (h : LF ts F M K a6 a8 a10 a12 cA cB cC bA bB bC p7 p9 p13 m1) (hb : But bC K K') (hC : Row K' a12 ts.length c bC) : LF ts F M K' a6 a8 a10 a12 cA cB c bA bB bC p7 p9 p13 m1 := by
  have o := h.o1
  exact ⟨hb.on, h.w.but hb (by omega), h.A.same (hb.get _ (by omega)), h.B.same (hb.get _ (by omega)), hC, (hb.get _ (by omega)).trans h.q7, (hb.get _ (by omega)).trans h.q9, (hb.get _ (by omega)).trans h.q13, o, by rw [hb.len]; exact h.o2⟩

/-- Of a list that is being written over so many words have this kind. -/
def KindI (K : Heap) (a : Option Addr) (n b : Nat) (k : Int) (i : Nat) (K' : Heap) : Prop :=
  But b K K' ∧ ∃ cs, Row K' a n cs b ∧ ∀ j, j < i → cs[j * 6]? = some (.int .i64 k)

theorem kind_step {a : Option Addr} {n b : Nat} {k : Int} {i : Nat} (h : KindI K a n b k i K') (hi : i < n) (hb : 2 ≤ b) :
    ∃ cs, a = some ⟨b, 0, none⟩ ∧ hget K' b = .row cs 6 true ∧ i * 6 + 6 ≤ cs.length ∧ ∀ r, r.length = 5 → KindI K a n b k (i + 1) (K'.set b (.row (setL cs (i * 6) (.int .i64 k :: r)) 6 true)) := by
  obtain ⟨h1, cs, h2, h3⟩ := h
  obtain ⟨rfl, h4⟩ := h2.there (by omega)
  refine ⟨cs, rfl, h4, by rw [h2.len]; omega, fun r hr => ?_⟩
  obtain ⟨k1, k2⟩ := kinds_step h2.len hi h3 r hr
  exact ⟨h1.set hb _, _, ⟨fun q => by omega, fun _ => ⟨rfl, hget_set' (hget_lt h4 rfl)⟩, k1⟩, k2⟩

/-- What is asked at the law's end. -/
structure LX (ts : List Tk) (F : List Value) (M : Nat) (K : Heap) (a6 : Option Addr) (cX cY cZ : List Value) (bX bY bZ p7 p9 p13 m1 : Nat) : Prop where
  on : On0 K
  w : TokB K a6 ts m1
  X : hget K bX = .row (cX ++ [.int .i64 (-4), .string (bs []), .int .u64 0, .int .u64 0, .int .i64 0, .int .i64 0, .int .i64 (-5), .string (bs []), .int .u64 0, .int .u64 0, .int .i64 0, .int .i64 0]) 6 true
  Y : hget K bY = .row (cY ++ [.int .i64 (-6), .string (bs []), .int .u64 0, .int .u64 0, .int .i64 0, .int .i64 0, .int .i64 (-7), .string (bs []), .int .u64 0, .int .u64 0, .int .i64 0, .int .i64 0]) 6 true
  Z : hget K bZ = .row (cZ ++ [.int .i64 (-8), .string (bs []), .int .u64 0, .int .u64 0, .int .i64 0, .int .i64 0, .int .i64 (-9), .string (bs []), .int .u64 0, .int .u64 0, .int .i64 0, .int .i64 0]) 6 true
  lX : cX.length = ts.length * 6
  lY : cY.length = M * 6
  lZ : cZ.length = ts.length * 6
  q7 : hget K p7 = .row F 0 true
  q9 : hget K p9 = .row F 0 true
  q13 : hget K p13 = .row F 0 true

end Go.Proofs.YtedemfmafdilmaaDoor.Ev
