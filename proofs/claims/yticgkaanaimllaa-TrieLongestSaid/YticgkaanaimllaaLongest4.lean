/- TrieLongest: what is found is the longest of what was put there, and Every tells just those whose prefix the value has: whatever the inputs, the law answers true. Conditions: none. -/
import Derived.Test.YticgkaanaimllaaLongest3
import Derived.ChangeArms
import Derived.ChangeStays
import Derived.ChangeOld
import Derived.ChangeShapes
import Derived.WideShapes
import Derived.DataReads
import Derived.RowKit
import Derived.Test.YticgkaanaimllaaRows
import Derived.ProofKit
import Derived.OpenShut
import Derived.SizedLaws
import Derived.JoinedOf
import Derived.MakeChecks
import Derived.Stop.Joined
/- Put. -/
namespace Go.Proofs.Yticgkaanaimllaa.Ev
set_option maxRecDepth 100000
set_option linter.unusedSimpArgs false
set_option linter.unusedVariables false
variable {R : FRes → Heap → Prop} {H : Heap}

/-- A trie in memory. -/
structure TI (H : Heap) (b w : Nat) (m l : Int) (t : Tr) : Prop where
  hd : hget H b = .row [.int .i64 (w : Int), .int .i64 m, .int .i64 l, t.ptr] 0 true
  nb : b ∉ t.blocks
  lies : TAw H t
  ok : TW w t
  nd : t.blocks.Nodup

def TWp (w : Nat) : PT → Prop
  | .nil => True
  | .node a n _ _ l r => n ≤ w ∧ a < 2 ^ w ∧ a &&& maskN w n = a ∧ TWp w l ∧ TWp w r
theorem tw_er {w : Nat} : ∀ {t : Tr}, TW w t ↔ TWp w t.er
  | .nil => Iff.rfl
  | .node b a n f v l r => by
    simp only [TW, Tr.er, TWp]
    rw [tw_er (t := l), tw_er (t := r)]
theorem withP_tw {w a k : Nat} {v : Int} (ha : a < 2 ^ w) (hk : k ≤ w) (hm : a &&& maskN w k = a) : ∀ {t : PT}, TWp w t → TWp w (withP w a k v t)
  | .nil, _ => ⟨hk, ha, hm, trivial, trivial⟩
  | .node c n f u l r, ⟨h1, h2, h3, h4, h5⟩ => by
    have hc : cmp w c n a k ≤ w := by unfold cmp; omega
    rw [withP]
    split
    · exact ⟨h1, h2, h3, h4, h5⟩
    · split
      · split
        · exact ⟨h1, h2, h3, withP_tw ha hk hm h4, h5⟩
        · exact ⟨h1, h2, h3, h4, withP_tw ha hk hm h5⟩
      · have hold : TWp w (.node c n f u l r) := ⟨h1, h2, h3, h4, h5⟩
        have hnew : TWp w (.node a k true v .nil .nil) := ⟨hk, ha, hm, trivial, trivial⟩
        split
        · refine ⟨hc, cut_lt ha, cut_cut, ?_, ?_⟩ <;> (unfold setK; split <;> first | exact hold | exact trivial)
        · refine ⟨hc, cut_lt ha, cut_cut, ?_, ?_⟩ <;> (unfold setK; repeat' split) <;> first | exact hold | exact hnew | exact trivial

theorem put_t {b w a : Nat} {m l n v : Int} {t : Tr} (I : TI H b w m l t) (hw : 1 ≤ w) (hw2 : w ≤ 128) (ha : a < 2 ^ 128) (hl : -9223372036854775808 ≤ l ∧ l < 9223372036854775807)
    (h1 : rgt w a n = false → ∀ g, R (.ret (.int .i64 111)) (H ++ g))
    (h2 : rgt w a n = true → atV w a n.toNat t ≠ .pointer none → ∀ g, R (.ret (.int .i64 121)) (H ++ g))
    (h3 : rgt w a n = true → atV w a n.toNat t = .pointer none → m ≤ l → ∀ g, R (.ret (.int .i64 120)) (H ++ g))
    (h4 : rgt w a n = true → atV w a n.toNat t = .pointer none → l < m → ∀ t' H', H.length ≤ H'.length → (∀ c, c < H.length → c ≠ b → c ∉ t.blocks → hget H' c = hget H c) → TI H' b w m (l + 1) t' → (∀ c ∈ t'.blocks, c ∈ t.blocks ∨ H.length ≤ c) → t'.er = withP w a n.toNat v t.er → R (.ret (.int .i64 0)) H') :
    WD T 12 [.pointer (some ⟨b, 0, none⟩), pfv a n, .int .i64 v] H R := by
  obtain ⟨hd, nb, lies, ok, nd⟩ := I
  have lb := hget_lt hd rfl
  have hth : TH H b w := ⟨m, l, t.ptr, true, hd⟩
  refine WD.of follows t12 (by simp) ?_
  simp (disch := omega) only [kaa, kab, kac, kad, khm, khn, kho, khp, khq, khr, kae, kaf, kag, kah, kai, kaj, kak, kal, kam, kan, kao, khe, khf, khg, khh, khi, khj, khk, khl, kap, kaq, kar, kas, kat, kau, kav, kaw, kax, kay, kaz, kba, kbb, kbc, kbd, kbe, kbf, kbg, kbh, kbi, kbj, kbk, kbl, kbm, kbn, kbo, kbp, kbq, kbr, kbs, kbt, kbu, kbv, kbw, kbx, kby, kbz, kca, kcb, kcc, kcd, kce, kcf, kcg, kch, kci, kcj, kck, kcl, kcm, aop, kcn, kco, kcp, kcq, kcr, kcs, kct, kcu, kcv, kcw, resultsL, resultOf, kcx, Nat.reduceEqDiff, kcy, kcz, kda, reduceCtorEq, kdb, kdc, kdd, kde, kdf, kdg, kdh, kdi, kdj, kdk, kdl, kdm, kdn, kdo, eq1, kdp, kdq, kdr, kds, kdt, kdu, kdv, kdw, kdx, kdy, kdz, kea, keb, kec, apartOK, apart2, AObj.live, ked, kee, kef, keg, keh, kei, kej, kek, kel, Int.reduceEq, Int.reduceLT, Int.reduceLE, Int.reduceAdd, Int.reduceSub, Int.reduceMul, Int.reduceToNat, kem, ken, keo, kep, keq, ker, kes, ket, keu, kev, kew, kex, key, kez, kfa, kfb, kfc, kfd, kfe, kff, kfg, kfh, kfi, kfj, kfk, kfl, cutCells, kfm, kfn, kfo, kfp, kfq, kfr, kfs, kft, kfu, kfv, kfw, kfx, kfy, Nat.reduceAdd, Nat.reduceLeDiff, Nat.reduceLT, Nat.reduceMul, Nat.reduceSub, kfz, kga, kgb, kgc, kgd, kge, kgf, kgg, kgh, kgi, kgj, kgk, kgl, kgm, kgn, kgo, kgp, kgq, kgr, kgs, kgt, kgu, kgv, kgw, kgx, kgy, kgz, kha, khb, khc, khd, eqP_sn]
  refine right_t ⟨true, by rw [hget_old lb]; exact hd⟩ hw hw2 ha ?_
  cases hr : rgt w a n with
  | false =>
    simp (disch := omega) only [kaa, kab, kac, kad, khm, khn, kho, khp, khq, khr, kae, kaf, kag, kah, kai, kaj, kak, kal, kam, kan, kao, khe, khf, khg, khh, khi, khj, khk, khl, kap, kaq, kar, kas, kat, kau, kav, kaw, kax, kay, kaz, kba, kbb, kbc, kbd, kbe, kbf, kbg, kbh, kbi, kbj, kbk, kbl, kbm, kbn, kbo, kbp, kbq, kbr, kbs, kbt, kbu, kbv, kbw, kbx, kby, kbz, kca, kcb, kcc, kcd, kce, kcf, kcg, kch, kci, kcj, kck, kcl, kcm, aop, kcn, kco, kcp, kcq, kcr, kcs, kct, kcu, kcv, kcw, resultsL, resultOf, kcx, Nat.reduceEqDiff, kcy, kcz, kda, reduceCtorEq, kdb, kdc, kdd, kde, kdf, kdg, kdh, kdi, kdj, kdk, kdl, kdm, kdn, kdo, eq1, kdp, kdq, kdr, kds, kdt, kdu, kdv, kdw, kdx, kdy, kdz, kea, keb, kec, apartOK, apart2, AObj.live, ked, kee, kef, keg, keh, kei, kej, kek, kel, Int.reduceEq, Int.reduceLT, Int.reduceLE, Int.reduceAdd, Int.reduceSub, Int.reduceMul, Int.reduceToNat, kem, ken, keo, kep, keq, ker, kes, ket, keu, kev, kew, kex, key, kez, kfa, kfb, kfc, kfd, kfe, kff, kfg, kfh, kfi, kfj, kfk, kfl, cutCells, kfm, kfn, kfo, kfp, kfq, kfr, kfs, kft, kfu, kfv, kfw, kfx, kfy, Nat.reduceAdd, Nat.reduceLeDiff, Nat.reduceLT, Nat.reduceMul, Nat.reduceSub, kfz, kga, kgb, kgc, kgd, kge, kgf, kgg, kgh, kgi, kgj, kgk, kgl, kgm, kgn, kgo, kgp, kgq, kgr, kgs, kgt, kgu, kgv, kgw, kgx, kgy, kgz, kha, khb, khc, khd]
    exact h1 hr _
  | true =>
  simp (disch := omega) only [kaa, kab, kac, kad, khm, khn, kho, khp, khq, khr, kae, kaf, kag, kah, kai, kaj, kak, kal, kam, kan, kao, khe, khf, khg, khh, khi, khj, khk, khl, kap, kaq, kar, kas, kat, kau, kav, kaw, kax, kay, kaz, kba, kbb, kbc, kbd, kbe, kbf, kbg, kbh, kbi, kbj, kbk, kbl, kbm, kbn, kbo, kbp, kbq, kbr, kbs, kbt, kbu, kbv, kbw, kbx, kby, kbz, kca, kcb, kcc, kcd, kce, kcf, kcg, kch, kci, kcj, kck, kcl, kcm, aop, kcn, kco, kcp, kcq, kcr, kcs, kct, kcu, kcv, kcw, resultsL, resultOf, kcx, Nat.reduceEqDiff, kcy, kcz, kda, reduceCtorEq, kdb, kdc, kdd, kde, kdf, kdg, kdh, kdi, kdj, kdk, kdl, kdm, kdn, kdo, eq1, kdp, kdq, kdr, kds, kdt, kdu, kdv, kdw, kdx, kdy, kdz, kea, keb, kec, apartOK, apart2, AObj.live, ked, kee, kef, keg, keh, kei, kej, kek, kel, Int.reduceEq, Int.reduceLT, Int.reduceLE, Int.reduceAdd, Int.reduceSub, Int.reduceMul, Int.reduceToNat, kem, ken, keo, kep, keq, ker, kes, ket, keu, kev, kew, kex, key, kez, kfa, kfb, kfc, kfd, kfe, kff, kfg, kfh, kfi, kfj, kfk, kfl, cutCells, kfm, kfn, kfo, kfp, kfq, kfr, kfs, kft, kfu, kfv, kfw, kfx, kfy, Nat.reduceAdd, Nat.reduceLeDiff, Nat.reduceLT, Nat.reduceMul, Nat.reduceSub, kfz, kga, kgb, kgc, kgd, kge, kgf, kgg, kgh, kgi, kgj, kgk, kgl, kgm, kgn, kgo, kgp, kgq, kgr, kgs, kgt, kgu, kgv, kgw, kgx, kgy, kgz, kha, khb, khc, khd, eqP_sn]
  refine at_t (by rw [hget_old lb]; exact hd) hw hw2 ha lies.ta.app ok ?_
  rw [hr, if_pos rfl]
  by_cases hat : atV w a n.toNat t = .pointer none
  case neg =>
    have : ∃ x, atV w a n.toNat t = .pointer (some x) := by
      unfold atV atR at hat ⊢
      generalize atT w a n.toNat t = t1 at hat ⊢
      cases t1 with
      | nil => exact absurd rfl hat
      | node b1 c n1 full u l r =>
        simp only at hat ⊢
        split
        · exact ⟨_, rfl⟩
        · rename_i q; rw [if_neg q] at hat; exact absurd rfl hat
    obtain ⟨x, hx⟩ := this
    rw [hx]
    simp (disch := omega) only [kaa, kab, kac, kad, khm, khn, kho, khp, khq, khr, kae, kaf, kag, kah, kai, kaj, kak, kal, kam, kan, kao, khe, khf, khg, khh, khi, khj, khk, khl, kap, kaq, kar, kas, kat, kau, kav, kaw, kax, kay, kaz, kba, kbb, kbc, kbd, kbe, kbf, kbg, kbh, kbi, kbj, kbk, kbl, kbm, kbn, kbo, kbp, kbq, kbr, kbs, kbt, kbu, kbv, kbw, kbx, kby, kbz, kca, kcb, kcc, kcd, kce, kcf, kcg, kch, kci, kcj, kck, kcl, kcm, aop, kcn, kco, kcp, kcq, kcr, kcs, kct, kcu, kcv, kcw, resultsL, resultOf, kcx, Nat.reduceEqDiff, kcy, kcz, kda, reduceCtorEq, kdb, kdc, kdd, kde, kdf, kdg, kdh, kdi, kdj, kdk, kdl, kdm, kdn, kdo, eq1, kdp, kdq, kdr, kds, kdt, kdu, kdv, kdw, kdx, kdy, kdz, kea, keb, kec, apartOK, apart2, AObj.live, ked, kee, kef, keg, keh, kei, kej, kek, kel, Int.reduceEq, Int.reduceLT, Int.reduceLE, Int.reduceAdd, Int.reduceSub, Int.reduceMul, Int.reduceToNat, kem, ken, keo, kep, keq, ker, kes, ket, keu, kev, kew, kex, key, kez, kfa, kfb, kfc, kfd, kfe, kff, kfg, kfh, kfi, kfj, kfk, kfl, cutCells, kfm, kfn, kfo, kfp, kfq, kfr, kfs, kft, kfu, kfv, kfw, kfx, kfy, Nat.reduceAdd, Nat.reduceLeDiff, Nat.reduceLT, Nat.reduceMul, Nat.reduceSub, kfz, kga, kgb, kgc, kgd, kge, kgf, kgg, kgh, kgi, kgj, kgk, kgl, kgm, kgn, kgo, kgp, kgq, kgr, kgs, kgt, kgu, kgv, kgw, kgx, kgy, kgz, kha, khb, khc, khd, eqP_sn]
    exact h2 hr hat _
  rw [hat]
  have hr2 := hr
  simp only [rgt, Bool.and_eq_true, decide_eq_true_eq] at hr2
  obtain ⟨⟨⟨r1, r2⟩, r3⟩, r4⟩ := hr2
  obtain ⟨k, rfl⟩ : ∃ k : Nat, n = k := ⟨n.toNat, by omega⟩
  simp only [Int.toNat_natCast] at h4 r4 hat
  by_cases hlm : m ≤ l
  · simp (disch := omega) only [kaa, kab, kac, kad, khm, khn, kho, khp, khq, khr, kae, kaf, kag, kah, kai, kaj, kak, kal, kam, kan, kao, khe, khf, khg, khh, khi, khj, khk, khl, kap, kaq, kar, kas, kat, kau, kav, kaw, kax, kay, kaz, kba, kbb, kbc, kbd, kbe, kbf, kbg, kbh, kbi, kbj, kbk, kbl, kbm, kbn, kbo, kbp, kbq, kbr, kbs, kbt, kbu, kbv, kbw, kbx, kby, kbz, kca, kcb, kcc, kcd, kce, kcf, kcg, kch, kci, kcj, kck, kcl, kcm, aop, kcn, kco, kcp, kcq, kcr, kcs, kct, kcu, kcv, kcw, resultsL, resultOf, kcx, Nat.reduceEqDiff, kcy, kcz, kda, reduceCtorEq, kdb, kdc, kdd, kde, kdf, kdg, kdh, kdi, kdj, kdk, kdl, kdm, kdn, kdo, eq1, kdp, kdq, kdr, kds, kdt, kdu, kdv, kdw, kdx, kdy, kdz, kea, keb, kec, apartOK, apart2, AObj.live, ked, kee, kef, keg, keh, kei, kej, kek, kel, Int.reduceEq, Int.reduceLT, Int.reduceLE, Int.reduceAdd, Int.reduceSub, Int.reduceMul, Int.reduceToNat, kem, ken, keo, kep, keq, ker, kes, ket, keu, kev, kew, kex, key, kez, kfa, kfb, kfc, kfd, kfe, kff, kfg, kfh, kfi, kfj, kfk, kfl, cutCells, kfm, kfn, kfo, kfp, kfq, kfr, kfs, kft, kfu, kfv, kfw, kfx, kfy, Nat.reduceAdd, Nat.reduceLeDiff, Nat.reduceLT, Nat.reduceMul, Nat.reduceSub, kfz, kga, kgb, kgc, kgd, kge, kgf, kgg, kgh, kgi, kgj, kgk, kgl, kgm, kgn, kgo, kgp, kgq, kgr, kgs, kgt, kgu, kgv, kgw, kgx, kgy, kgz, kha, khb, khc, khd, eqP_nn, hd, hlm]
    exact h3 hr hat hlm _
  · simp (disch := omega) only [kaa, kab, kac, kad, khm, khn, kho, khp, khq, khr, kae, kaf, kag, kah, kai, kaj, kak, kal, kam, kan, kao, khe, khf, khg, khh, khi, khj, khk, khl, kap, kaq, kar, kas, kat, kau, kav, kaw, kax, kay, kaz, kba, kbb, kbc, kbd, kbe, kbf, kbg, kbh, kbi, kbj, kbk, kbl, kbm, kbn, kbo, kbp, kbq, kbr, kbs, kbt, kbu, kbv, kbw, kbx, kby, kbz, kca, kcb, kcc, kcd, kce, kcf, kcg, kch, kci, kcj, kck, kcl, kcm, aop, kcn, kco, kcp, kcq, kcr, kcs, kct, kcu, kcv, kcw, resultsL, resultOf, kcx, Nat.reduceEqDiff, kcy, kcz, kda, reduceCtorEq, kdb, kdc, kdd, kde, kdf, kdg, kdh, kdi, kdj, kdk, kdl, kdm, kdn, kdo, eq1, kdp, kdq, kdr, kds, kdt, kdu, kdv, kdw, kdx, kdy, kdz, kea, keb, kec, apartOK, apart2, AObj.live, ked, kee, kef, keg, keh, kei, kej, kek, kel, Int.reduceEq, Int.reduceLT, Int.reduceLE, Int.reduceAdd, Int.reduceSub, Int.reduceMul, Int.reduceToNat, kem, ken, keo, kep, keq, ker, kes, ket, keu, kev, kew, kex, key, kez, kfa, kfb, kfc, kfd, kfe, kff, kfg, kfh, kfi, kfj, kfk, kfl, cutCells, kfm, kfn, kfo, kfp, kfq, kfr, kfs, kft, kfu, kfv, kfw, kfx, kfy, Nat.reduceAdd, Nat.reduceLeDiff, Nat.reduceLT, Nat.reduceMul, Nat.reduceSub, kfz, kga, kgb, kgc, kgd, kge, kgf, kgg, kgh, kgi, kgj, kgk, kgl, kgm, kgn, kgo, kgp, kgq, kgr, kgs, kgt, kgu, kgv, kgw, kgx, kgy, kgz, kha, khb, khc, khd, eqP_nn, hd, hlm, wr_i64, hget_oldS, hget_set', set_oldS, List.set_set]
    have hth2 : TH (H.set b (.row [.int .i64 (w : Int), .int .i64 m, .int .i64 (l + 1), t.ptr] 0 true) ++ [.row [.int .u64 ((a / W64 : Nat) : Int), .int .u64 ((a % W64 : Nat) : Int), .int .i64 (k : Int)] 0 true]) b w := ⟨m, l + 1, t.ptr, true, by rw [hget_oldS lb, hget_set' lb]⟩
    have lies2 : TAw (H.set b (.row [.int .i64 (w : Int), .int .i64 m, .int .i64 (l + 1), t.ptr] 0 true) ++ [.row [.int .u64 ((a / W64 : Nat) : Int), .int .u64 ((a % W64 : Nat) : Int), .int .i64 (k : Int)] 0 true]) t :=
      lies.same fun c hc => by rw [hget_oldS (lies.lt c hc), hget_ne (fun q => nb (by rw [q]; exact hc))]
    refine with_t hw hw2 r3 (by omega) t _ _ hth2 nb lies2 ok nd fun t' H1 hp her => ?_
    have lh := hp.len
    simp only [List.length_append, List.length_set, List.length_cons, List.length_nil] at lh
    have lb1 : b < H1.length := by omega
    have hb1 : hget H1 b = .row [.int .i64 (w : Int), .int .i64 m, .int .i64 (l + 1), t.ptr] 0 true := by
      rw [hp.frame b (by simp; omega) nb, hget_oldS lb, hget_set' lb]
    have nb1 : b ∉ t'.blocks := fun q => by
      rcases hp.own b q with q | q
      · exact nb q
      · simp at q; omega
    simp (disch := omega) only [kaa, kab, kac, kad, khm, khn, kho, khp, khq, khr, kae, kaf, kag, kah, kai, kaj, kak, kal, kam, kan, kao, khe, khf, khg, khh, khi, khj, khk, khl, kap, kaq, kar, kas, kat, kau, kav, kaw, kax, kay, kaz, kba, kbb, kbc, kbd, kbe, kbf, kbg, kbh, kbi, kbj, kbk, kbl, kbm, kbn, kbo, kbp, kbq, kbr, kbs, kbt, kbu, kbv, kbw, kbx, kby, kbz, kca, kcb, kcc, kcd, kce, kcf, kcg, kch, kci, kcj, kck, kcl, kcm, aop, kcn, kco, kcp, kcq, kcr, kcs, kct, kcu, kcv, kcw, resultsL, resultOf, kcx, Nat.reduceEqDiff, kcy, kcz, kda, reduceCtorEq, kdb, kdc, kdd, kde, kdf, kdg, kdh, kdi, kdj, kdk, kdl, kdm, kdn, kdo, eq1, kdp, kdq, kdr, kds, kdt, kdu, kdv, kdw, kdx, kdy, kdz, kea, keb, kec, apartOK, apart2, AObj.live, ked, kee, kef, keg, keh, kei, kej, kek, kel, Int.reduceEq, Int.reduceLT, Int.reduceLE, Int.reduceAdd, Int.reduceSub, Int.reduceMul, Int.reduceToNat, kem, ken, keo, kep, keq, ker, kes, ket, keu, kev, kew, kex, key, kez, kfa, kfb, kfc, kfd, kfe, kff, kfg, kfh, kfi, kfj, kfk, kfl, cutCells, kfm, kfn, kfo, kfp, kfq, kfr, kfs, kft, kfu, kfv, kfw, kfx, kfy, Nat.reduceAdd, Nat.reduceLeDiff, Nat.reduceLT, Nat.reduceMul, Nat.reduceSub, kfz, kga, kgb, kgc, kgd, kge, kgf, kgg, kgh, kgi, kgj, kgk, kgl, kgm, kgn, kgo, kgp, kgq, kgr, kgs, kgt, kgu, kgv, kgw, kgx, kgy, kgz, kha, khb, khc, khd, hb1, cof_tr, one_tr]
    refine h4 hr (by simpa using hat) (by omega) t' _ (by simp; omega) (fun c hc hne hn => ?_) ⟨hget_set' lb1, nb1, hp.lies.same fun c hc => hget_ne (fun q => nb1 (by rw [q]; exact hc)), ?_, hp.nd⟩ (fun c hc => (hp.own c hc).imp id fun q => by simp at q; omega) her
    · rw [hget_ne (Ne.symm hne), hp.frame c (by simp; omega) hn, hget_oldS hc, hget_ne (Ne.symm hne)]
    · rw [tw_er, her]
      exact withP_tw r3 (by omega) r4 (tw_er.1 ok)

end Go.Proofs.Yticgkaanaimllaa.Ev

/- The way of a number through a trie; Find, Every, Get. -/
namespace Go.Proofs.Yticgkaanaimllaa.Ev
set_option maxRecDepth 100000
set_option linter.unusedSimpArgs false
set_option linter.unusedVariables false
variable {R : FRes → Heap → Prop} {H : Heap}

/-- The nodes that have something, on a number's way. -/
def wayL (w a : Nat) : Tr → List Tr
  | .nil => []
  | .node b c n f v l r => if n ≤ cmn w c a then (if f = true then [.node b c n f v l r] else []) ++ (if n = w then [] else if sideN w a n = 0 then wayL w a l else wayL w a r) else []

abbrev boxRow (a : Nat) : AObj := .row [.int .u64 ((a / W64 : Nat) : Int), .int .u64 ((a % W64 : Nat) : Int)] 0 true

def wayI (w a b : Nat) (fv : Value) (S : List Tr → Heap → Prop) (t0 : Tr) : Nat → Env → Heap → Prop := fun z e H1 =>
  ∃ (L : List Tr) (t1 : Tr) (p4 : Nat), z = t1.size ∧ S L H1 ∧ (∀ L H, S L H → TA H t1) ∧ TW w t1 ∧ L ++ wayL w a t1 = wayL w a t0 ∧ hget H1 p4 = boxRow a ∧
    (∃ x : Nat → Value, e = [.pointer (some ⟨b, 0, none⟩), x 1, fv, x 3, .pointer (some ⟨p4, 0, none⟩), x 5, t1.ptr, x 7, x 8, x 9, x 10, x 11, x 12, x 13, x 14, x 15, x 16, x 17, x 18, x 19, x 20, x 21, x 22, x 23, x 24, x 25, x 26, x 27, x 28, x 29, x 30, x 31, x 32, x 33, x 34, x 35, x 36, x 37, x 38, x 39, x 40, x 41, x 42, x 43, x 44, x 45, x 46, x 47, x 48, x 49, x 50, x 51, x 52, x 53, x 54, x 55, x 56, x 57, x 58, x 59, x 60, x 61, x 62, x 63, x 64, x 65, x 66, x 67, x 68, x 69, x 70, x 71, x 72])

/-- The way of a number, with a function that is called for each node that has something. -/
theorem way_t {b w a : Nat} {f : FuncId} {captured : Array Value} (S : List Tr → Heap → Prop) {t0 : Tr} {H : Heap} (hS0 : S [] H) (hApp : ∀ L H G, S L H → S L (H ++ G))
    (hth : ∀ L H, S L H → ∃ m l : Int, hget H b = .row [.int .i64 (w : Int), .int .i64 m, .int .i64 l, t0.ptr] 0 true) (hta : ∀ L H, S L H → TA H t0) (htw : TW w t0) (hw : 1 ≤ w) (hw2 : w ≤ 128) (ha : a < 2 ^ 128)
    (hC : ∀ L nd H, S L H → L.length < (wayL w a t0).length → TA H nd → (∃ b1 c n v l r, nd = .node b1 c n true v l r) → WD T f (nd.ptr :: captured.toList) H (fun r H' => r = .ret (.tuple #[]) ∧ S (L ++ [nd]) H' ∧ ∀ c, hget H c = boxRow a → hget H' c = boxRow a))
    (h : ∀ H', S (if a < 2 ^ w then wayL w a t0 else []) H' → R (.ret (.tuple #[])) H') :
    WD T 45 [.pointer (some ⟨b, 0, none⟩), bvA a, .func (.func f) #[] captured] H R := by
  obtain ⟨m0, l0, hb0⟩ := hth _ _ hS0
  have lb := hget_lt hb0 rfl
  have hpn : 2 ^ w ≤ 2 ^ 128 := Nat.pow_le_pow_right (by decide) hw2
  have c02 : ((0 : Nat) : Int) < ((2 : Nat) : Int) := by decide
  have c12 : ((1 : Nat) : Int) < ((2 : Nat) : Int) := by decide
  have thx : ∀ {L H}, S L H → TH H b w := fun q => by
    obtain ⟨m, l, q⟩ := hth _ _ q
    exact ⟨m, l, t0.ptr, true, q⟩
  refine WD.of follows t45 (by simp) ?_
  simp (disch := omega) only [kaa, kab, kac, kad, khm, khn, kho, khp, khq, khr, kae, kaf, kag, kah, kai, kaj, kak, kal, kam, kan, kao, khe, khf, khg, khh, khi, khj, khk, khl, kap, kaq, kar, kas, kat, kau, kav, kaw, kax, kay, kaz, kba, kbb, kbc, kbd, kbe, kbf, kbg, kbh, kbi, kbj, kbk, kbl, kbm, kbn, kbo, kbp, kbq, kbr, kbs, kbt, kbu, kbv, kbw, kbx, kby, kbz, kca, kcb, kcc, kcd, kce, kcf, kcg, kch, kci, kcj, kck, kcl, kcm, aop, kcn, kco, kcp, kcq, kcr, kcs, kct, kcu, kcv, kcw, resultsL, resultOf, kcx, Nat.reduceEqDiff, kcy, kcz, kda, reduceCtorEq, kdb, kdc, kdd, kde, kdf, kdg, kdh, kdi, kdj, kdk, kdl, kdm, kdn, kdo, eq1, kdp, kdq, kdr, kds, kdt, kdu, kdv, kdw, kdx, kdy, kdz, kea, keb, kec, apartOK, apart2, AObj.live, ked, kee, kef, keg, keh, kei, kej, kek, kel, Int.reduceEq, Int.reduceLT, Int.reduceLE, Int.reduceAdd, Int.reduceSub, Int.reduceMul, Int.reduceToNat, kem, ken, keo, kep, keq, ker, kes, ket, keu, kev, kew, kex, key, kez, kfa, kfb, kfc, kfd, kfe, kff, kfg, kfh, kfi, kfj, kfk, kfl, cutCells, kfm, kfn, kfo, kfp, kfq, kfr, kfs, kft, kfu, kfv, kfw, kfx, kfy, Nat.reduceAdd, Nat.reduceLeDiff, Nat.reduceLT, Nat.reduceMul, Nat.reduceSub, kfz, kga, kgb, kgc, kgd, kge, kgf, kgg, kgh, kgi, kgj, kgk, kgl, kgm, kgn, kgo, kgp, kgq, kgr, kgs, kgt, kgu, kgv, kgw, kgx, kgy, kgz, kha, khb, khc, khd, eqP_sn, hb0]
  refine fits_s hw hw2 ha ?_
  by_cases hfit : a < 2 ^ w
  case neg =>
    rw [if_neg hfit] at h
    simp (disch := omega) only [kaa, kab, kac, kad, khm, khn, kho, khp, khq, khr, kae, kaf, kag, kah, kai, kaj, kak, kal, kam, kan, kao, khe, khf, khg, khh, khi, khj, khk, khl, kap, kaq, kar, kas, kat, kau, kav, kaw, kax, kay, kaz, kba, kbb, kbc, kbd, kbe, kbf, kbg, kbh, kbi, kbj, kbk, kbl, kbm, kbn, kbo, kbp, kbq, kbr, kbs, kbt, kbu, kbv, kbw, kbx, kby, kbz, kca, kcb, kcc, kcd, kce, kcf, kcg, kch, kci, kcj, kck, kcl, kcm, aop, kcn, kco, kcp, kcq, kcr, kcs, kct, kcu, kcv, kcw, resultsL, resultOf, kcx, Nat.reduceEqDiff, kcy, kcz, kda, reduceCtorEq, kdb, kdc, kdd, kde, kdf, kdg, kdh, kdi, kdj, kdk, kdl, kdm, kdn, kdo, eq1, kdp, kdq, kdr, kds, kdt, kdu, kdv, kdw, kdx, kdy, kdz, kea, keb, kec, apartOK, apart2, AObj.live, ked, kee, kef, keg, keh, kei, kej, kek, kel, Int.reduceEq, Int.reduceLT, Int.reduceLE, Int.reduceAdd, Int.reduceSub, Int.reduceMul, Int.reduceToNat, kem, ken, keo, kep, keq, ker, kes, ket, keu, kev, kew, kex, key, kez, kfa, kfb, kfc, kfd, kfe, kff, kfg, kfh, kfi, kfj, kfk, kfl, cutCells, kfm, kfn, kfo, kfp, kfq, kfr, kfs, kft, kfu, kfv, kfw, kfx, kfy, Nat.reduceAdd, Nat.reduceLeDiff, Nat.reduceLT, Nat.reduceMul, Nat.reduceSub, kfz, kga, kgb, kgc, kgd, kge, kgf, kgg, kgh, kgi, kgj, kgk, kgl, kgm, kgn, kgo, kgp, kgq, kgr, kgs, kgt, kgu, kgv, kgw, kgx, kgy, kgz, kha, khb, khc, khd, hfit]
    exact h _ (hApp _ _ _ hS0)
  rw [if_pos hfit] at h
  simp (disch := omega) only [kaa, kab, kac, kad, khm, khn, kho, khp, khq, khr, kae, kaf, kag, kah, kai, kaj, kak, kal, kam, kan, kao, khe, khf, khg, khh, khi, khj, khk, khl, kap, kaq, kar, kas, kat, kau, kav, kaw, kax, kay, kaz, kba, kbb, kbc, kbd, kbe, kbf, kbg, kbh, kbi, kbj, kbk, kbl, kbm, kbn, kbo, kbp, kbq, kbr, kbs, kbt, kbu, kbv, kbw, kbx, kby, kbz, kca, kcb, kcc, kcd, kce, kcf, kcg, kch, kci, kcj, kck, kcl, kcm, aop, kcn, kco, kcp, kcq, kcr, kcs, kct, kcu, kcv, kcw, resultsL, resultOf, kcx, Nat.reduceEqDiff, kcy, kcz, kda, reduceCtorEq, kdb, kdc, kdd, kde, kdf, kdg, kdh, kdi, kdj, kdk, kdl, kdm, kdn, kdo, eq1, kdp, kdq, kdr, kds, kdt, kdu, kdv, kdw, kdx, kdy, kdz, kea, keb, kec, apartOK, apart2, AObj.live, ked, kee, kef, keg, keh, kei, kej, kek, kel, Int.reduceEq, Int.reduceLT, Int.reduceLE, Int.reduceAdd, Int.reduceSub, Int.reduceMul, Int.reduceToNat, kem, ken, keo, kep, keq, ker, kes, ket, keu, kev, kew, kex, key, kez, kfa, kfb, kfc, kfd, kfe, kff, kfg, kfh, kfi, kfj, kfk, kfl, cutCells, kfm, kfn, kfo, kfp, kfq, kfr, kfs, kft, kfu, kfv, kfw, kfx, kfy, Nat.reduceAdd, Nat.reduceLeDiff, Nat.reduceLT, Nat.reduceMul, Nat.reduceSub, kfz, kga, kgb, kgc, kgd, kge, kgf, kgg, kgh, kgi, kgj, kgk, kgl, kgm, kgn, kgo, kgp, kgq, kgr, kgs, kgt, kgu, kgv, kgw, kgx, kgy, kgz, kha, khb, khc, khd, hfit, hb0]
  refine WLoop.inv (wayI w a b (.func (.func f) #[] captured) S t0) ?_ t0.size _ _ ⟨[], t0, H.length, rfl, hApp _ _ _ hS0, hta, htw, rfl, hget_last _ _, ex_env rfl⟩
  clear hb0 lb hS0
  rintro z e H1 ⟨L, t1, p4, rfl, hS, hta1, htw1, hL, g0, ⟨x, rfl⟩⟩
  have l0 := hget_lt g0 rfl
  cases t1 with
  | nil =>
    simp only [Tr.ptr]
    simp only [wayL, List.append_nil] at hL
    rw [← hL] at h
    simp (disch := omega) only [kaa, kab, kac, kad, khm, khn, kho, khp, khq, khr, kae, kaf, kag, kah, kai, kaj, kak, kal, kam, kan, kao, khe, khf, khg, khh, khi, khj, khk, khl, kap, kaq, kar, kas, kat, kau, kav, kaw, kax, kay, kaz, kba, kbb, kbc, kbd, kbe, kbf, kbg, kbh, kbi, kbj, kbk, kbl, kbm, kbn, kbo, kbp, kbq, kbr, kbs, kbt, kbu, kbv, kbw, kbx, kby, kbz, kca, kcb, kcc, kcd, kce, kcf, kcg, kch, kci, kcj, kck, kcl, kcm, aop, kcn, kco, kcp, kcq, kcr, kcs, kct, kcu, kcv, kcw, resultsL, resultOf, kcx, Nat.reduceEqDiff, kcy, kcz, kda, reduceCtorEq, kdb, kdc, kdd, kde, kdf, kdg, kdh, kdi, kdj, kdk, kdl, kdm, kdn, kdo, eq1, kdp, kdq, kdr, kds, kdt, kdu, kdv, kdw, kdx, kdy, kdz, kea, keb, kec, apartOK, apart2, AObj.live, ked, kee, kef, keg, keh, kei, kej, kek, kel, Int.reduceEq, Int.reduceLT, Int.reduceLE, Int.reduceAdd, Int.reduceSub, Int.reduceMul, Int.reduceToNat, kem, ken, keo, kep, keq, ker, kes, ket, keu, kev, kew, kex, key, kez, kfa, kfb, kfc, kfd, kfe, kff, kfg, kfh, kfi, kfj, kfk, kfl, cutCells, kfm, kfn, kfo, kfp, kfq, kfr, kfs, kft, kfu, kfv, kfw, kfx, kfy, Nat.reduceAdd, Nat.reduceLeDiff, Nat.reduceLT, Nat.reduceMul, Nat.reduceSub, kfz, kga, kgb, kgc, kgd, kge, kgf, kgg, kgh, kgi, kgj, kgk, kgl, kgm, kgn, kgo, kgp, kgq, kgr, kgs, kgt, kgu, kgv, kgw, kgx, kgy, kgz, kha, khb, khc, khd, eqP_nn]
    exact h _ hS
  | node b1 c n full v l r =>
    obtain ⟨⟨wr1, q1⟩, q2, q3⟩ := hta1 L H1 hS
    obtain ⟨t1, t2, t3, t4, t5⟩ := htw1
    obtain ⟨m1, l1', hbL⟩ := hth L H1 hS
    simp only [Tr.ptr]
    unfold nodeRow at q1
    simp (disch := omega) only [kaa, kab, kac, kad, khm, khn, kho, khp, khq, khr, kae, kaf, kag, kah, kai, kaj, kak, kal, kam, kan, kao, khe, khf, khg, khh, khi, khj, khk, khl, kap, kaq, kar, kas, kat, kau, kav, kaw, kax, kay, kaz, kba, kbb, kbc, kbd, kbe, kbf, kbg, kbh, kbi, kbj, kbk, kbl, kbm, kbn, kbo, kbp, kbq, kbr, kbs, kbt, kbu, kbv, kbw, kbx, kby, kbz, kca, kcb, kcc, kcd, kce, kcf, kcg, kch, kci, kcj, kck, kcl, kcm, aop, kcn, kco, kcp, kcq, kcr, kcs, kct, kcu, kcv, kcw, resultsL, resultOf, kcx, Nat.reduceEqDiff, kcy, kcz, kda, reduceCtorEq, kdb, kdc, kdd, kde, kdf, kdg, kdh, kdi, kdj, kdk, kdl, kdm, kdn, kdo, eq1, kdp, kdq, kdr, kds, kdt, kdu, kdv, kdw, kdx, kdy, kdz, kea, keb, kec, apartOK, apart2, AObj.live, ked, kee, kef, keg, keh, kei, kej, kek, kel, Int.reduceEq, Int.reduceLT, Int.reduceLE, Int.reduceAdd, Int.reduceSub, Int.reduceMul, Int.reduceToNat, kem, ken, keo, kep, keq, ker, kes, ket, keu, kev, kew, kex, key, kez, kfa, kfb, kfc, kfd, kfe, kff, kfg, kfh, kfi, kfj, kfk, kfl, cutCells, kfm, kfn, kfo, kfp, kfq, kfr, kfs, kft, kfu, kfv, kfw, kfx, kfy, Nat.reduceAdd, Nat.reduceLeDiff, Nat.reduceLT, Nat.reduceMul, Nat.reduceSub, kfz, kga, kgb, kgc, kgd, kge, kgf, kgg, kgh, kgi, kgj, kgk, kgl, kgm, kgn, kgo, kgp, kgq, kgr, kgs, kgt, kgu, kgv, kgw, kgx, kgy, kgz, kha, khb, khc, khd, eqP_sn, q1, g0, hbL]
    refine WV.of (fun c hc => ?_) ?_
    · simp only [List.mem_cons, List.not_mem_nil, or_false] at hc
      subst hc
      rw [q1]
      rfl
    refine common_s hw hw2 t2 hfit ?_
    rw [thaw_frz0]
    by_cases hge : (n : Int) ≤ ((cmn w c a : Nat) : Int)
    case neg =>
      have : wayL w a (.node b1 c n full v l r) = [] := by rw [wayL, if_neg (by omega)]
      rw [this, List.append_nil] at hL
      rw [← hL] at h
      simp (disch := omega) only [kaa, kab, kac, kad, khm, khn, kho, khp, khq, khr, kae, kaf, kag, kah, kai, kaj, kak, kal, kam, kan, kao, khe, khf, khg, khh, khi, khj, khk, khl, kap, kaq, kar, kas, kat, kau, kav, kaw, kax, kay, kaz, kba, kbb, kbc, kbd, kbe, kbf, kbg, kbh, kbi, kbj, kbk, kbl, kbm, kbn, kbo, kbp, kbq, kbr, kbs, kbt, kbu, kbv, kbw, kbx, kby, kbz, kca, kcb, kcc, kcd, kce, kcf, kcg, kch, kci, kcj, kck, kcl, kcm, aop, kcn, kco, kcp, kcq, kcr, kcs, kct, kcu, kcv, kcw, resultsL, resultOf, kcx, Nat.reduceEqDiff, kcy, kcz, kda, reduceCtorEq, kdb, kdc, kdd, kde, kdf, kdg, kdh, kdi, kdj, kdk, kdl, kdm, kdn, kdo, eq1, kdp, kdq, kdr, kds, kdt, kdu, kdv, kdw, kdx, kdy, kdz, kea, keb, kec, apartOK, apart2, AObj.live, ked, kee, kef, keg, keh, kei, kej, kek, kel, Int.reduceEq, Int.reduceLT, Int.reduceLE, Int.reduceAdd, Int.reduceSub, Int.reduceMul, Int.reduceToNat, kem, ken, keo, kep, keq, ker, kes, ket, keu, kev, kew, kex, key, kez, kfa, kfb, kfc, kfd, kfe, kff, kfg, kfh, kfi, kfj, kfk, kfl, cutCells, kfm, kfn, kfo, kfp, kfq, kfr, kfs, kft, kfu, kfv, kfw, kfx, kfy, Nat.reduceAdd, Nat.reduceLeDiff, Nat.reduceLT, Nat.reduceMul, Nat.reduceSub, kfz, kga, kgb, kgc, kgd, kge, kgf, kgg, kgh, kgi, kgj, kgk, kgl, kgm, kgn, kgo, kgp, kgq, kgr, kgs, kgt, kgu, kgv, kgw, kgx, kgy, kgz, kha, khb, khc, khd, hge]
      exact h _ hS
    have hwl : wayL w a (.node b1 c n full v l r) = (if full = true then [.node b1 c n full v l r] else []) ++ (if n = w then [] else if sideN w a n = 0 then wayL w a l else wayL w a r) := by rw [wayL, if_pos (by omega)]
    rw [hwl] at hL
    cases full with
    | false =>
      simp only [Bool.false_eq_true, if_false, List.nil_append] at hL
      simp (disch := omega) only [kaa, kab, kac, kad, khm, khn, kho, khp, khq, khr, kae, kaf, kag, kah, kai, kaj, kak, kal, kam, kan, kao, khe, khf, khg, khh, khi, khj, khk, khl, kap, kaq, kar, kas, kat, kau, kav, kaw, kax, kay, kaz, kba, kbb, kbc, kbd, kbe, kbf, kbg, kbh, kbi, kbj, kbk, kbl, kbm, kbn, kbo, kbp, kbq, kbr, kbs, kbt, kbu, kbv, kbw, kbx, kby, kbz, kca, kcb, kcc, kcd, kce, kcf, kcg, kch, kci, kcj, kck, kcl, kcm, aop, kcn, kco, kcp, kcq, kcr, kcs, kct, kcu, kcv, kcw, resultsL, resultOf, kcx, Nat.reduceEqDiff, kcy, kcz, kda, reduceCtorEq, kdb, kdc, kdd, kde, kdf, kdg, kdh, kdi, kdj, kdk, kdl, kdm, kdn, kdo, eq1, kdp, kdq, kdr, kds, kdt, kdu, kdv, kdw, kdx, kdy, kdz, kea, keb, kec, apartOK, apart2, AObj.live, ked, kee, kef, keg, keh, kei, kej, kek, kel, Int.reduceEq, Int.reduceLT, Int.reduceLE, Int.reduceAdd, Int.reduceSub, Int.reduceMul, Int.reduceToNat, kem, ken, keo, kep, keq, ker, kes, ket, keu, kev, kew, kex, key, kez, kfa, kfb, kfc, kfd, kfe, kff, kfg, kfh, kfi, kfj, kfk, kfl, cutCells, kfm, kfn, kfo, kfp, kfq, kfr, kfs, kft, kfu, kfv, kfw, kfx, kfy, Nat.reduceAdd, Nat.reduceLeDiff, Nat.reduceLT, Nat.reduceMul, Nat.reduceSub, kfz, kga, kgb, kgc, kgd, kge, kgf, kgg, kgh, kgi, kgj, kgk, kgl, kgm, kgn, kgo, kgp, kgq, kgr, kgs, kgt, kgu, kgv, kgw, kgx, kgy, kgz, kha, khb, khc, khd, hge, q1, hbL]
      by_cases hnw : (n : Int) = (w : Int)
      · rw [if_pos (show n = w by omega), List.append_nil] at hL
        rw [← hL] at h
        have e1 : ((n : Int) = (w : Int)) = True := eq_true hnw
        simp (disch := omega) only [kaa, kab, kac, kad, khm, khn, kho, khp, khq, khr, kae, kaf, kag, kah, kai, kaj, kak, kal, kam, kan, kao, khe, khf, khg, khh, khi, khj, khk, khl, kap, kaq, kar, kas, kat, kau, kav, kaw, kax, kay, kaz, kba, kbb, kbc, kbd, kbe, kbf, kbg, kbh, kbi, kbj, kbk, kbl, kbm, kbn, kbo, kbp, kbq, kbr, kbs, kbt, kbu, kbv, kbw, kbx, kby, kbz, kca, kcb, kcc, kcd, kce, kcf, kcg, kch, kci, kcj, kck, kcl, kcm, aop, kcn, kco, kcp, kcq, kcr, kcs, kct, kcu, kcv, kcw, resultsL, resultOf, kcx, Nat.reduceEqDiff, kcy, kcz, kda, reduceCtorEq, kdb, kdc, kdd, kde, kdf, kdg, kdh, kdi, kdj, kdk, kdl, kdm, kdn, kdo, eq1, kdp, kdq, kdr, kds, kdt, kdu, kdv, kdw, kdx, kdy, kdz, kea, keb, kec, apartOK, apart2, AObj.live, ked, kee, kef, keg, keh, kei, kej, kek, kel, Int.reduceEq, Int.reduceLT, Int.reduceLE, Int.reduceAdd, Int.reduceSub, Int.reduceMul, Int.reduceToNat, kem, ken, keo, kep, keq, ker, kes, ket, keu, kev, kew, kex, key, kez, kfa, kfb, kfc, kfd, kfe, kff, kfg, kfh, kfi, kfj, kfk, kfl, cutCells, kfm, kfn, kfo, kfp, kfq, kfr, kfs, kft, kfu, kfv, kfw, kfx, kfy, Nat.reduceAdd, Nat.reduceLeDiff, Nat.reduceLT, Nat.reduceMul, Nat.reduceSub, kfz, kga, kgb, kgc, kgd, kge, kgf, kgg, kgh, kgi, kgj, kgk, kgl, kgm, kgn, kgo, kgp, kgq, kgr, kgs, kgt, kgu, kgv, kgw, kgx, kgy, kgz, kha, khb, khc, khd, e1]
        exact h _ hS
      · rw [if_neg (show ¬ n = w by omega)] at hL
        simp (disch := omega) only [kaa, kab, kac, kad, khm, khn, kho, khp, khq, khr, kae, kaf, kag, kah, kai, kaj, kak, kal, kam, kan, kao, khe, khf, khg, khh, khi, khj, khk, khl, kap, kaq, kar, kas, kat, kau, kav, kaw, kax, kay, kaz, kba, kbb, kbc, kbd, kbe, kbf, kbg, kbh, kbi, kbj, kbk, kbl, kbm, kbn, kbo, kbp, kbq, kbr, kbs, kbt, kbu, kbv, kbw, kbx, kby, kbz, kca, kcb, kcc, kcd, kce, kcf, kcg, kch, kci, kcj, kck, kcl, kcm, aop, kcn, kco, kcp, kcq, kcr, kcs, kct, kcu, kcv, kcw, resultsL, resultOf, kcx, Nat.reduceEqDiff, kcy, kcz, kda, reduceCtorEq, kdb, kdc, kdd, kde, kdf, kdg, kdh, kdi, kdj, kdk, kdl, kdm, kdn, kdo, eq1, kdp, kdq, kdr, kds, kdt, kdu, kdv, kdw, kdx, kdy, kdz, kea, keb, kec, apartOK, apart2, AObj.live, ked, kee, kef, keg, keh, kei, kej, kek, kel, Int.reduceEq, Int.reduceLT, Int.reduceLE, Int.reduceAdd, Int.reduceSub, Int.reduceMul, Int.reduceToNat, kem, ken, keo, kep, keq, ker, kes, ket, keu, kev, kew, kex, key, kez, kfa, kfb, kfc, kfd, kfe, kff, kfg, kfh, kfi, kfj, kfk, kfl, cutCells, kfm, kfn, kfo, kfp, kfq, kfr, kfs, kft, kfu, kfv, kfw, kfx, kfy, Nat.reduceAdd, Nat.reduceLeDiff, Nat.reduceLT, Nat.reduceMul, Nat.reduceSub, kfz, kga, kgb, kgc, kgd, kge, kgf, kgg, kgh, kgi, kgj, kgk, kgl, kgm, kgn, kgo, kgp, kgq, kgr, kgs, kgt, kgu, kgv, kgw, kgx, kgy, kgz, kha, khb, khc, khd, hnw, q1, hbL, g0]
        refine side_t (thx hS) hw hw2 (by omega) ha ?_
        rcases sideN_two w a n with hs | hs
        · have hs2 : ((sideN w a n : Nat) : Int) = 0 := by omega
          rw [if_pos hs] at hL
          simp (disch := omega) only [kaa, kab, kac, kad, khm, khn, kho, khp, khq, khr, kae, kaf, kag, kah, kai, kaj, kak, kal, kam, kan, kao, khe, khf, khg, khh, khi, khj, khk, khl, kap, kaq, kar, kas, kat, kau, kav, kaw, kax, kay, kaz, kba, kbb, kbc, kbd, kbe, kbf, kbg, kbh, kbi, kbj, kbk, kbl, kbm, kbn, kbo, kbp, kbq, kbr, kbs, kbt, kbu, kbv, kbw, kbx, kby, kbz, kca, kcb, kcc, kcd, kce, kcf, kcg, kch, kci, kcj, kck, kcl, kcm, aop, kcn, kco, kcp, kcq, kcr, kcs, kct, kcu, kcv, kcw, resultsL, resultOf, kcx, Nat.reduceEqDiff, kcy, kcz, kda, reduceCtorEq, kdb, kdc, kdd, kde, kdf, kdg, kdh, kdi, kdj, kdk, kdl, kdm, kdn, kdo, eq1, kdp, kdq, kdr, kds, kdt, kdu, kdv, kdw, kdx, kdy, kdz, kea, keb, kec, apartOK, apart2, AObj.live, ked, kee, kef, keg, keh, kei, kej, kek, kel, Int.reduceEq, Int.reduceLT, Int.reduceLE, Int.reduceAdd, Int.reduceSub, Int.reduceMul, Int.reduceToNat, kem, ken, keo, kep, keq, ker, kes, ket, keu, kev, kew, kex, key, kez, kfa, kfb, kfc, kfd, kfe, kff, kfg, kfh, kfi, kfj, kfk, kfl, cutCells, kfm, kfn, kfo, kfp, kfq, kfr, kfs, kft, kfu, kfv, kfw, kfx, kfy, Nat.reduceAdd, Nat.reduceLeDiff, Nat.reduceLT, Nat.reduceMul, Nat.reduceSub, kfz, kga, kgb, kgc, kgd, kge, kgf, kgg, kgh, kgi, kgj, kgk, kgl, kgm, kgn, kgo, kgp, kgq, kgr, kgs, kgt, kgu, kgv, kgw, kgx, kgy, kgz, kha, khb, khc, khd, q1, hs, hs2, c02]
          exact ⟨l.size, by simp only [Tr.size]; omega, L, l, p4, rfl, hS, fun L H q => (hta1 L H q).2.1, t4, by simpa using hL, g0, ex_env rfl⟩
        · have hs2 : ((sideN w a n : Nat) : Int) = 1 := by omega
          rw [if_neg (show ¬ sideN w a n = 0 by omega)] at hL
          simp (disch := omega) only [kaa, kab, kac, kad, khm, khn, kho, khp, khq, khr, kae, kaf, kag, kah, kai, kaj, kak, kal, kam, kan, kao, khe, khf, khg, khh, khi, khj, khk, khl, kap, kaq, kar, kas, kat, kau, kav, kaw, kax, kay, kaz, kba, kbb, kbc, kbd, kbe, kbf, kbg, kbh, kbi, kbj, kbk, kbl, kbm, kbn, kbo, kbp, kbq, kbr, kbs, kbt, kbu, kbv, kbw, kbx, kby, kbz, kca, kcb, kcc, kcd, kce, kcf, kcg, kch, kci, kcj, kck, kcl, kcm, aop, kcn, kco, kcp, kcq, kcr, kcs, kct, kcu, kcv, kcw, resultsL, resultOf, kcx, Nat.reduceEqDiff, kcy, kcz, kda, reduceCtorEq, kdb, kdc, kdd, kde, kdf, kdg, kdh, kdi, kdj, kdk, kdl, kdm, kdn, kdo, eq1, kdp, kdq, kdr, kds, kdt, kdu, kdv, kdw, kdx, kdy, kdz, kea, keb, kec, apartOK, apart2, AObj.live, ked, kee, kef, keg, keh, kei, kej, kek, kel, Int.reduceEq, Int.reduceLT, Int.reduceLE, Int.reduceAdd, Int.reduceSub, Int.reduceMul, Int.reduceToNat, kem, ken, keo, kep, keq, ker, kes, ket, keu, kev, kew, kex, key, kez, kfa, kfb, kfc, kfd, kfe, kff, kfg, kfh, kfi, kfj, kfk, kfl, cutCells, kfm, kfn, kfo, kfp, kfq, kfr, kfs, kft, kfu, kfv, kfw, kfx, kfy, Nat.reduceAdd, Nat.reduceLeDiff, Nat.reduceLT, Nat.reduceMul, Nat.reduceSub, kfz, kga, kgb, kgc, kgd, kge, kgf, kgg, kgh, kgi, kgj, kgk, kgl, kgm, kgn, kgo, kgp, kgq, kgr, kgs, kgt, kgu, kgv, kgw, kgx, kgy, kgz, kha, khb, khc, khd, q1, hs, hs2, c12]
          exact ⟨r.size, by simp only [Tr.size]; omega, L, r, p4, rfl, hS, fun L H q => (hta1 L H q).2.2, t5, by simpa using hL, g0, ex_env rfl⟩
    | true =>
      simp only [if_true] at hL
      have ptr1 : Tr.ptr (.node b1 c n true v l r) = .pointer (some ⟨b1, 0, none⟩) := rfl
      have hx := hC L (.node b1 c n true v l r) H1 hS (by rw [← hL]; simp) ⟨⟨wr1, q1⟩, q2, q3⟩ ⟨_, _, _, _, _, _, rfl⟩
      rw [ptr1] at hx
      simp (disch := omega) only [kaa, kab, kac, kad, khm, khn, kho, khp, khq, khr, kae, kaf, kag, kah, kai, kaj, kak, kal, kam, kan, kao, khe, khf, khg, khh, khi, khj, khk, khl, kap, kaq, kar, kas, kat, kau, kav, kaw, kax, kay, kaz, kba, kbb, kbc, kbd, kbe, kbf, kbg, kbh, kbi, kbj, kbk, kbl, kbm, kbn, kbo, kbp, kbq, kbr, kbs, kbt, kbu, kbv, kbw, kbx, kby, kbz, kca, kcb, kcc, kcd, kce, kcf, kcg, kch, kci, kcj, kck, kcl, kcm, aop, kcn, kco, kcp, kcq, kcr, kcs, kct, kcu, kcv, kcw, resultsL, resultOf, kcx, Nat.reduceEqDiff, kcy, kcz, kda, reduceCtorEq, kdb, kdc, kdd, kde, kdf, kdg, kdh, kdi, kdj, kdk, kdl, kdm, kdn, kdo, eq1, kdp, kdq, kdr, kds, kdt, kdu, kdv, kdw, kdx, kdy, kdz, kea, keb, kec, apartOK, apart2, AObj.live, ked, kee, kef, keg, keh, kei, kej, kek, kel, Int.reduceEq, Int.reduceLT, Int.reduceLE, Int.reduceAdd, Int.reduceSub, Int.reduceMul, Int.reduceToNat, kem, ken, keo, kep, keq, ker, kes, ket, keu, kev, kew, kex, key, kez, kfa, kfb, kfc, kfd, kfe, kff, kfg, kfh, kfi, kfj, kfk, kfl, cutCells, kfm, kfn, kfo, kfp, kfq, kfr, kfs, kft, kfu, kfv, kfw, kfx, kfy, Nat.reduceAdd, Nat.reduceLeDiff, Nat.reduceLT, Nat.reduceMul, Nat.reduceSub, kfz, kga, kgb, kgc, kgd, kge, kgf, kgg, kgh, kgi, kgj, kgk, kgl, kgm, kgn, kgo, kgp, kgq, kgr, kgs, kgt, kgu, kgv, kgw, kgx, kgy, kgz, kha, khb, khc, khd, hge, q1, hbL]
      refine WD.mono hx ?_
      rintro r0 H2 ⟨rfl, hS2, hkeep⟩
      obtain ⟨⟨wr2, p1⟩, p2, p3⟩ := hta1 _ H2 hS2
      obtain ⟨m2, l2, hbM⟩ := hth _ H2 hS2
      unfold nodeRow at p1
      have a0 := hkeep p4 g0
      simp (disch := omega) only [kaa, kab, kac, kad, khm, khn, kho, khp, khq, khr, kae, kaf, kag, kah, kai, kaj, kak, kal, kam, kan, kao, khe, khf, khg, khh, khi, khj, khk, khl, kap, kaq, kar, kas, kat, kau, kav, kaw, kax, kay, kaz, kba, kbb, kbc, kbd, kbe, kbf, kbg, kbh, kbi, kbj, kbk, kbl, kbm, kbn, kbo, kbp, kbq, kbr, kbs, kbt, kbu, kbv, kbw, kbx, kby, kbz, kca, kcb, kcc, kcd, kce, kcf, kcg, kch, kci, kcj, kck, kcl, kcm, aop, kcn, kco, kcp, kcq, kcr, kcs, kct, kcu, kcv, kcw, resultsL, resultOf, kcx, Nat.reduceEqDiff, kcy, kcz, kda, reduceCtorEq, kdb, kdc, kdd, kde, kdf, kdg, kdh, kdi, kdj, kdk, kdl, kdm, kdn, kdo, eq1, kdp, kdq, kdr, kds, kdt, kdu, kdv, kdw, kdx, kdy, kdz, kea, keb, kec, apartOK, apart2, AObj.live, ked, kee, kef, keg, keh, kei, kej, kek, kel, Int.reduceEq, Int.reduceLT, Int.reduceLE, Int.reduceAdd, Int.reduceSub, Int.reduceMul, Int.reduceToNat, kem, ken, keo, kep, keq, ker, kes, ket, keu, kev, kew, kex, key, kez, kfa, kfb, kfc, kfd, kfe, kff, kfg, kfh, kfi, kfj, kfk, kfl, cutCells, kfm, kfn, kfo, kfp, kfq, kfr, kfs, kft, kfu, kfv, kfw, kfx, kfy, Nat.reduceAdd, Nat.reduceLeDiff, Nat.reduceLT, Nat.reduceMul, Nat.reduceSub, kfz, kga, kgb, kgc, kgd, kge, kgf, kgg, kgh, kgi, kgj, kgk, kgl, kgm, kgn, kgo, kgp, kgq, kgr, kgs, kgt, kgu, kgv, kgw, kgx, kgy, kgz, kha, khb, khc, khd, p1, hbM]
      by_cases hnw : (n : Int) = (w : Int)
      · rw [if_pos (show n = w by omega), List.append_nil] at hL
        rw [← hL] at h
        have e1 : ((n : Int) = (w : Int)) = True := eq_true hnw
        simp (disch := omega) only [kaa, kab, kac, kad, khm, khn, kho, khp, khq, khr, kae, kaf, kag, kah, kai, kaj, kak, kal, kam, kan, kao, khe, khf, khg, khh, khi, khj, khk, khl, kap, kaq, kar, kas, kat, kau, kav, kaw, kax, kay, kaz, kba, kbb, kbc, kbd, kbe, kbf, kbg, kbh, kbi, kbj, kbk, kbl, kbm, kbn, kbo, kbp, kbq, kbr, kbs, kbt, kbu, kbv, kbw, kbx, kby, kbz, kca, kcb, kcc, kcd, kce, kcf, kcg, kch, kci, kcj, kck, kcl, kcm, aop, kcn, kco, kcp, kcq, kcr, kcs, kct, kcu, kcv, kcw, resultsL, resultOf, kcx, Nat.reduceEqDiff, kcy, kcz, kda, reduceCtorEq, kdb, kdc, kdd, kde, kdf, kdg, kdh, kdi, kdj, kdk, kdl, kdm, kdn, kdo, eq1, kdp, kdq, kdr, kds, kdt, kdu, kdv, kdw, kdx, kdy, kdz, kea, keb, kec, apartOK, apart2, AObj.live, ked, kee, kef, keg, keh, kei, kej, kek, kel, Int.reduceEq, Int.reduceLT, Int.reduceLE, Int.reduceAdd, Int.reduceSub, Int.reduceMul, Int.reduceToNat, kem, ken, keo, kep, keq, ker, kes, ket, keu, kev, kew, kex, key, kez, kfa, kfb, kfc, kfd, kfe, kff, kfg, kfh, kfi, kfj, kfk, kfl, cutCells, kfm, kfn, kfo, kfp, kfq, kfr, kfs, kft, kfu, kfv, kfw, kfx, kfy, Nat.reduceAdd, Nat.reduceLeDiff, Nat.reduceLT, Nat.reduceMul, Nat.reduceSub, kfz, kga, kgb, kgc, kgd, kge, kgf, kgg, kgh, kgi, kgj, kgk, kgl, kgm, kgn, kgo, kgp, kgq, kgr, kgs, kgt, kgu, kgv, kgw, kgx, kgy, kgz, kha, khb, khc, khd, e1]
        exact h _ hS2
      · rw [if_neg (show ¬ n = w by omega)] at hL
        simp (disch := omega) only [kaa, kab, kac, kad, khm, khn, kho, khp, khq, khr, kae, kaf, kag, kah, kai, kaj, kak, kal, kam, kan, kao, khe, khf, khg, khh, khi, khj, khk, khl, kap, kaq, kar, kas, kat, kau, kav, kaw, kax, kay, kaz, kba, kbb, kbc, kbd, kbe, kbf, kbg, kbh, kbi, kbj, kbk, kbl, kbm, kbn, kbo, kbp, kbq, kbr, kbs, kbt, kbu, kbv, kbw, kbx, kby, kbz, kca, kcb, kcc, kcd, kce, kcf, kcg, kch, kci, kcj, kck, kcl, kcm, aop, kcn, kco, kcp, kcq, kcr, kcs, kct, kcu, kcv, kcw, resultsL, resultOf, kcx, Nat.reduceEqDiff, kcy, kcz, kda, reduceCtorEq, kdb, kdc, kdd, kde, kdf, kdg, kdh, kdi, kdj, kdk, kdl, kdm, kdn, kdo, eq1, kdp, kdq, kdr, kds, kdt, kdu, kdv, kdw, kdx, kdy, kdz, kea, keb, kec, apartOK, apart2, AObj.live, ked, kee, kef, keg, keh, kei, kej, kek, kel, Int.reduceEq, Int.reduceLT, Int.reduceLE, Int.reduceAdd, Int.reduceSub, Int.reduceMul, Int.reduceToNat, kem, ken, keo, kep, keq, ker, kes, ket, keu, kev, kew, kex, key, kez, kfa, kfb, kfc, kfd, kfe, kff, kfg, kfh, kfi, kfj, kfk, kfl, cutCells, kfm, kfn, kfo, kfp, kfq, kfr, kfs, kft, kfu, kfv, kfw, kfx, kfy, Nat.reduceAdd, Nat.reduceLeDiff, Nat.reduceLT, Nat.reduceMul, Nat.reduceSub, kfz, kga, kgb, kgc, kgd, kge, kgf, kgg, kgh, kgi, kgj, kgk, kgl, kgm, kgn, kgo, kgp, kgq, kgr, kgs, kgt, kgu, kgv, kgw, kgx, kgy, kgz, kha, khb, khc, khd, hnw, p1, hbM, a0]
        refine side_t (thx hS2) hw hw2 (by omega) ha ?_
        rcases sideN_two w a n with hs | hs
        · have hs2 : ((sideN w a n : Nat) : Int) = 0 := by omega
          rw [if_pos hs] at hL
          simp (disch := omega) only [kaa, kab, kac, kad, khm, khn, kho, khp, khq, khr, kae, kaf, kag, kah, kai, kaj, kak, kal, kam, kan, kao, khe, khf, khg, khh, khi, khj, khk, khl, kap, kaq, kar, kas, kat, kau, kav, kaw, kax, kay, kaz, kba, kbb, kbc, kbd, kbe, kbf, kbg, kbh, kbi, kbj, kbk, kbl, kbm, kbn, kbo, kbp, kbq, kbr, kbs, kbt, kbu, kbv, kbw, kbx, kby, kbz, kca, kcb, kcc, kcd, kce, kcf, kcg, kch, kci, kcj, kck, kcl, kcm, aop, kcn, kco, kcp, kcq, kcr, kcs, kct, kcu, kcv, kcw, resultsL, resultOf, kcx, Nat.reduceEqDiff, kcy, kcz, kda, reduceCtorEq, kdb, kdc, kdd, kde, kdf, kdg, kdh, kdi, kdj, kdk, kdl, kdm, kdn, kdo, eq1, kdp, kdq, kdr, kds, kdt, kdu, kdv, kdw, kdx, kdy, kdz, kea, keb, kec, apartOK, apart2, AObj.live, ked, kee, kef, keg, keh, kei, kej, kek, kel, Int.reduceEq, Int.reduceLT, Int.reduceLE, Int.reduceAdd, Int.reduceSub, Int.reduceMul, Int.reduceToNat, kem, ken, keo, kep, keq, ker, kes, ket, keu, kev, kew, kex, key, kez, kfa, kfb, kfc, kfd, kfe, kff, kfg, kfh, kfi, kfj, kfk, kfl, cutCells, kfm, kfn, kfo, kfp, kfq, kfr, kfs, kft, kfu, kfv, kfw, kfx, kfy, Nat.reduceAdd, Nat.reduceLeDiff, Nat.reduceLT, Nat.reduceMul, Nat.reduceSub, kfz, kga, kgb, kgc, kgd, kge, kgf, kgg, kgh, kgi, kgj, kgk, kgl, kgm, kgn, kgo, kgp, kgq, kgr, kgs, kgt, kgu, kgv, kgw, kgx, kgy, kgz, kha, khb, khc, khd, p1, hs, hs2, c02]
          exact ⟨l.size, by simp only [Tr.size]; omega, (L ++ [.node b1 c n true v l r]), l, p4, rfl, hS2, fun L H q => (hta1 L H q).2.1, t4, by simpa using hL, a0, ex_env rfl⟩
        · have hs2 : ((sideN w a n : Nat) : Int) = 1 := by omega
          rw [if_neg (show ¬ sideN w a n = 0 by omega)] at hL
          simp (disch := omega) only [kaa, kab, kac, kad, khm, khn, kho, khp, khq, khr, kae, kaf, kag, kah, kai, kaj, kak, kal, kam, kan, kao, khe, khf, khg, khh, khi, khj, khk, khl, kap, kaq, kar, kas, kat, kau, kav, kaw, kax, kay, kaz, kba, kbb, kbc, kbd, kbe, kbf, kbg, kbh, kbi, kbj, kbk, kbl, kbm, kbn, kbo, kbp, kbq, kbr, kbs, kbt, kbu, kbv, kbw, kbx, kby, kbz, kca, kcb, kcc, kcd, kce, kcf, kcg, kch, kci, kcj, kck, kcl, kcm, aop, kcn, kco, kcp, kcq, kcr, kcs, kct, kcu, kcv, kcw, resultsL, resultOf, kcx, Nat.reduceEqDiff, kcy, kcz, kda, reduceCtorEq, kdb, kdc, kdd, kde, kdf, kdg, kdh, kdi, kdj, kdk, kdl, kdm, kdn, kdo, eq1, kdp, kdq, kdr, kds, kdt, kdu, kdv, kdw, kdx, kdy, kdz, kea, keb, kec, apartOK, apart2, AObj.live, ked, kee, kef, keg, keh, kei, kej, kek, kel, Int.reduceEq, Int.reduceLT, Int.reduceLE, Int.reduceAdd, Int.reduceSub, Int.reduceMul, Int.reduceToNat, kem, ken, keo, kep, keq, ker, kes, ket, keu, kev, kew, kex, key, kez, kfa, kfb, kfc, kfd, kfe, kff, kfg, kfh, kfi, kfj, kfk, kfl, cutCells, kfm, kfn, kfo, kfp, kfq, kfr, kfs, kft, kfu, kfv, kfw, kfx, kfy, Nat.reduceAdd, Nat.reduceLeDiff, Nat.reduceLT, Nat.reduceMul, Nat.reduceSub, kfz, kga, kgb, kgc, kgd, kge, kgf, kgg, kgh, kgi, kgj, kgk, kgl, kgm, kgn, kgo, kgp, kgq, kgr, kgs, kgt, kgu, kgv, kgw, kgx, kgy, kgz, kha, khb, khc, khd, p1, hs, hs2, c12]
          exact ⟨r.size, by simp only [Tr.size]; omega, (L ++ [.node b1 c n true v l r]), r, p4, rfl, hS2, fun L H q => (hta1 L H q).2.2, t5, by simpa using hL, a0, ex_env rfl⟩

end Go.Proofs.Yticgkaanaimllaa.Ev

/- Find, Every, Get. -/
namespace Go.Proofs.Yticgkaanaimllaa.Ev
set_option maxRecDepth 100000
set_option linter.unusedSimpArgs false
set_option linter.unusedVariables false
variable {R : FRes → Heap → Prop} {H : Heap}

theorem pre_of {H H' : Heap} (hl : H.length ≤ H'.length) (h : ∀ c, c < H.length → hget H' c = hget H c) : ∃ g, H' = H ++ g := by
  refine ⟨H'.drop H.length, ?_⟩
  have : H'.take H.length = H := by
    refine List.ext_getElem? fun i => ?_
    rw [List.getElem?_take]
    by_cases hi : i < H.length
    · rw [if_pos hi]
      have := h i hi
      unfold hget at this
      rw [List.getElem?_eq_getElem hi, List.getElem?_eq_getElem (by omega)] at this ⊢
      simp only at this
      rw [this]
    · rw [if_neg hi, List.getElem?_eq_none (by omega)]
  conv => lhs; rw [← List.take_append_drop H.length H', this]

theorem TA.frame {H' : Heap} : ∀ {t : Tr}, TA H t → (∀ c, c < H.length → hget H' c = hget H c) → TA H' t
  | .nil, _, _ => trivial
  | .node b a n full v l r, ⟨⟨wr, h1⟩, h2, h3⟩, h => ⟨⟨wr, (h b (hget_lt h1 rfl)).trans h1⟩, h2.frame h, h3.frame h⟩

theorem wayL_mem {w a : Nat} : ∀ {t : Tr}, TA H t → ∀ nd ∈ wayL w a t, TA H nd ∧ ∃ b c n v l r, nd = .node b c n true v l r
  | .nil, _, nd, h => by cases h
  | .node b c n f v l r, ht, nd, h => by
    rw [wayL] at h
    split at h
    · rcases List.mem_append.1 h with h | h
      · cases f with
        | true =>
          simp only [if_true, List.mem_cons, List.not_mem_nil, or_false] at h
          subst h
          exact ⟨ht, _, _, _, _, _, _, rfl⟩
        | false => simp at h
      · split at h
        · cases h
        · split at h
          · exact wayL_mem ht.2.1 nd h
          · exact wayL_mem ht.2.2 nd h
    · cases h

def lastV (L : List Tr) : Value := match L.getLast? with | some nd => nd.ptr | none => .pointer none
def findR (L : List Tr) : Value := match L.getLast? with
  | some (.node _ c n _ v _ _) => .tuple #[pfv c n, .int .i64 v, .bool true]
  | _ => .tuple #[pfA 0 0 0, .int .i64 0, .bool false]

theorem lastV_snoc (L : List Tr) (nd : Tr) : lastV (L ++ [nd]) = nd.ptr := by simp [lastV]

/-- While the way is gone, for Find. -/
def FindS (H : Heap) (L : List Tr) (H' : Heap) : Prop :=
  H.length + 3 ≤ H'.length ∧ (∀ c, c < H.length → hget H' c = hget H c) ∧ hget H' (H.length + 1) = .row [.int .u64 0, .int .u64 0, .int .i64 0] 0 true ∧ hget H' (H.length + 2) = .row [lastV L] 0 true

theorem cof_last (L : List Tr) : cellsOf (lastV L) = [lastV L] := by
  unfold lastV
  split
  · exact cof_tr _
  · rfl

theorem find_t {b w a : Nat} {m l : Int} {t : Tr} (hd : hget H b = .row [.int .i64 (w : Int), .int .i64 m, .int .i64 l, t.ptr] 0 true) (lies : TA H t) (ok : TW w t) (hw : 1 ≤ w) (hw2 : w ≤ 128) (ha : a < 2 ^ 128)
    (h : R (.ret (findR (if a < 2 ^ w then wayL w a t else []))) H) : WD T 14 [.pointer (some ⟨b, 0, none⟩), bvA a] H R := by
  have lb := hget_lt hd rfl
  refine WD.gc0 (WD.of follows t14 (by simp) ?_)
  simp (disch := omega) only [kaa, kab, kac, kad, khm, khn, kho, khp, khq, khr, kae, kaf, kag, kah, kai, kaj, kak, kal, kam, kan, kao, khe, khf, khg, khh, khi, khj, khk, khl, kap, kaq, kar, kas, kat, kau, kav, kaw, kax, kay, kaz, kba, kbb, kbc, kbd, kbe, kbf, kbg, kbh, kbi, kbj, kbk, kbl, kbm, kbn, kbo, kbp, kbq, kbr, kbs, kbt, kbu, kbv, kbw, kbx, kby, kbz, kca, kcb, kcc, kcd, kce, kcf, kcg, kch, kci, kcj, kck, kcl, kcm, aop, kcn, kco, kcp, kcq, kcr, kcs, kct, kcu, kcv, kcw, resultsL, resultOf, kcx, Nat.reduceEqDiff, kcy, kcz, kda, reduceCtorEq, kdb, kdc, kdd, kde, kdf, kdg, kdh, kdi, kdj, kdk, kdl, kdm, kdn, kdo, eq1, kdp, kdq, kdr, kds, kdt, kdu, kdv, kdw, kdx, kdy, kdz, kea, keb, kec, apartOK, apart2, AObj.live, ked, kee, kef, keg, keh, kei, kej, kek, kel, Int.reduceEq, Int.reduceLT, Int.reduceLE, Int.reduceAdd, Int.reduceSub, Int.reduceMul, Int.reduceToNat, kem, ken, keo, kep, keq, ker, kes, ket, keu, kev, kew, kex, key, kez, kfa, kfb, kfc, kfd, kfe, kff, kfg, kfh, kfi, kfj, kfk, kfl, cutCells, kfm, kfn, kfo, kfp, kfq, kfr, kfs, kft, kfu, kfv, kfw, kfx, kfy, Nat.reduceAdd, Nat.reduceLeDiff, Nat.reduceLT, Nat.reduceMul, Nat.reduceSub, kfz, kga, kgb, kgc, kgd, kge, kgf, kgg, kgh, kgi, kgj, kgk, kgl, kgm, kgn, kgo, kgp, kgq, kgr, kgs, kgt, kgu, kgv, kgw, kgx, kgy, kgz, kha, khb, khc, khd]
  refine way_t (FindS H) (t0 := t) ⟨by simp, fun c hc => hget_old hc, by rw [hget_base]; rfl, by rw [hget_base]; rfl⟩
    (fun L H' G ⟨s1, s2, s3, s4⟩ => ⟨by simp; omega, fun c hc => by rw [hget_old (by omega)]; exact s2 c hc, by rw [hget_old (by omega)]; exact s3, by rw [hget_old (by omega)]; exact s4⟩)
    (fun L H' ⟨s1, s2, s3, s4⟩ => ⟨m, l, (s2 b lb).trans hd⟩) (fun L H' ⟨s1, s2, s3, s4⟩ => lies.frame s2) ok hw hw2 ha (fun L nd H' ⟨s1, s2, s3, s4⟩ _ hnd hex => ?_) (fun H' hS => ?_)
  · refine WD.of follows t46 (by simp) ?_
    have l2 : H.length + 2 < H'.length := by omega
    simp (disch := omega) only [kaa, kab, kac, kad, khm, khn, kho, khp, khq, khr, kae, kaf, kag, kah, kai, kaj, kak, kal, kam, kan, kao, khe, khf, khg, khh, khi, khj, khk, khl, kap, kaq, kar, kas, kat, kau, kav, kaw, kax, kay, kaz, kba, kbb, kbc, kbd, kbe, kbf, kbg, kbh, kbi, kbj, kbk, kbl, kbm, kbn, kbo, kbp, kbq, kbr, kbs, kbt, kbu, kbv, kbw, kbx, kby, kbz, kca, kcb, kcc, kcd, kce, kcf, kcg, kch, kci, kcj, kck, kcl, kcm, aop, kcn, kco, kcp, kcq, kcr, kcs, kct, kcu, kcv, kcw, resultsL, resultOf, kcx, Nat.reduceEqDiff, kcy, kcz, kda, reduceCtorEq, kdb, kdc, kdd, kde, kdf, kdg, kdh, kdi, kdj, kdk, kdl, kdm, kdn, kdo, eq1, kdp, kdq, kdr, kds, kdt, kdu, kdv, kdw, kdx, kdy, kdz, kea, keb, kec, apartOK, apart2, AObj.live, ked, kee, kef, keg, keh, kei, kej, kek, kel, Int.reduceEq, Int.reduceLT, Int.reduceLE, Int.reduceAdd, Int.reduceSub, Int.reduceMul, Int.reduceToNat, kem, ken, keo, kep, keq, ker, kes, ket, keu, kev, kew, kex, key, kez, kfa, kfb, kfc, kfd, kfe, kff, kfg, kfh, kfi, kfj, kfk, kfl, cutCells, kfm, kfn, kfo, kfp, kfq, kfr, kfs, kft, kfu, kfv, kfw, kfx, kfy, Nat.reduceAdd, Nat.reduceLeDiff, Nat.reduceLT, Nat.reduceMul, Nat.reduceSub, kfz, kga, kgb, kgc, kgd, kge, kgf, kgg, kgh, kgi, kgj, kgk, kgl, kgm, kgn, kgo, kgp, kgq, kgr, kgs, kgt, kgu, kgv, kgw, kgx, kgy, kgz, kha, khb, khc, khd, s4, cof_tr, one_tr]
    refine ⟨⟨by simp; omega, fun c hc => by rw [hget_ne (by omega)]; exact s2 c hc, by rw [hget_ne (by omega)]; exact s3, by rw [hget_set' l2, lastV_snoc]⟩, fun c hc => ?_⟩
    rw [hget_ne (fun q => ?_)]
    · exact hc
    · subst q
      rw [s4] at hc
      simp at hc
  · obtain ⟨s1, s2, s3, s4⟩ := hS
    have hmem := fun nd hn => wayL_mem (w := w) (a := a) (H := H') (lies.frame s2) nd hn
    have hfit : ∀ nd ∈ (if a < 2 ^ w then wayL w a t else []), TA H' nd ∧ ∃ b c n v l r, nd = .node b c n true v l r := fun nd hn => by
      split at hn
      · exact hmem nd hn
      · cases hn
    generalize (if a < 2 ^ w then wayL w a t else []) = L at *
    obtain ⟨g, rfl⟩ := pre_of (by omega) s2
    have lg : 1 < g.length := by simp at s1; omega
    rw [hget_base] at s3 s4
    cases hL : L.getLast? with
    | none =>
      have e1 : lastV L = .pointer none := by simp only [lastV, hL]
      have e2 : findR L = .tuple #[pfA 0 0 0, .int .i64 0, .bool false] := by simp only [findR, hL]
      rw [e1] at s4
      rw [e2] at h
      simp (disch := omega) only [kaa, kab, kac, kad, khm, khn, kho, khp, khq, khr, kae, kaf, kag, kah, kai, kaj, kak, kal, kam, kan, kao, khe, khf, khg, khh, khi, khj, khk, khl, kap, kaq, kar, kas, kat, kau, kav, kaw, kax, kay, kaz, kba, kbb, kbc, kbd, kbe, kbf, kbg, kbh, kbi, kbj, kbk, kbl, kbm, kbn, kbo, kbp, kbq, kbr, kbs, kbt, kbu, kbv, kbw, kbx, kby, kbz, kca, kcb, kcc, kcd, kce, kcf, kcg, kch, kci, kcj, kck, kcl, kcm, aop, kcn, kco, kcp, kcq, kcr, kcs, kct, kcu, kcv, kcw, resultsL, resultOf, kcx, Nat.reduceEqDiff, kcy, kcz, kda, reduceCtorEq, kdb, kdc, kdd, kde, kdf, kdg, kdh, kdi, kdj, kdk, kdl, kdm, kdn, kdo, eq1, kdp, kdq, kdr, kds, kdt, kdu, kdv, kdw, kdx, kdy, kdz, kea, keb, kec, apartOK, apart2, AObj.live, ked, kee, kef, keg, keh, kei, kej, kek, kel, Int.reduceEq, Int.reduceLT, Int.reduceLE, Int.reduceAdd, Int.reduceSub, Int.reduceMul, Int.reduceToNat, kem, ken, keo, kep, keq, ker, kes, ket, keu, kev, kew, kex, key, kez, kfa, kfb, kfc, kfd, kfe, kff, kfg, kfh, kfi, kfj, kfk, kfl, cutCells, kfm, kfn, kfo, kfp, kfq, kfr, kfs, kft, kfu, kfv, kfw, kfx, kfy, Nat.reduceAdd, Nat.reduceLeDiff, Nat.reduceLT, Nat.reduceMul, Nat.reduceSub, kfz, kga, kgb, kgc, kgd, kge, kgf, kgg, kgh, kgi, kgj, kgk, kgl, kgm, kgn, kgo, kgp, kgq, kgr, kgs, kgt, kgu, kgv, kgw, kgx, kgy, kgz, kha, khb, khc, khd, s4, eqP_nn, s3]
      exact ⟨_, rfl, ⟨_, rfl⟩, .tup3 (.closed rfl) (.closed rfl) (.closed rfl), h⟩
    | some nd =>
      obtain ⟨h1, b1, c, n, v, l1, r1, rfl⟩ := hfit nd (List.mem_of_getLast? hL)
      have e1 : lastV L = .pointer (some ⟨b1, 0, none⟩) := by simp only [lastV, hL]; rfl
      have e2 : findR L = .tuple #[pfv c n, .int .i64 v, .bool true] := by simp only [findR, hL]
      rw [e1] at s4
      rw [e2] at h
      obtain ⟨⟨wr, q1⟩, _, _⟩ := h1
      unfold nodeRow at q1
      simp (disch := omega) only [kaa, kab, kac, kad, khm, khn, kho, khp, khq, khr, kae, kaf, kag, kah, kai, kaj, kak, kal, kam, kan, kao, khe, khf, khg, khh, khi, khj, khk, khl, kap, kaq, kar, kas, kat, kau, kav, kaw, kax, kay, kaz, kba, kbb, kbc, kbd, kbe, kbf, kbg, kbh, kbi, kbj, kbk, kbl, kbm, kbn, kbo, kbp, kbq, kbr, kbs, kbt, kbu, kbv, kbw, kbx, kby, kbz, kca, kcb, kcc, kcd, kce, kcf, kcg, kch, kci, kcj, kck, kcl, kcm, aop, kcn, kco, kcp, kcq, kcr, kcs, kct, kcu, kcv, kcw, resultsL, resultOf, kcx, Nat.reduceEqDiff, kcy, kcz, kda, reduceCtorEq, kdb, kdc, kdd, kde, kdf, kdg, kdh, kdi, kdj, kdk, kdl, kdm, kdn, kdo, eq1, kdp, kdq, kdr, kds, kdt, kdu, kdv, kdw, kdx, kdy, kdz, kea, keb, kec, apartOK, apart2, AObj.live, ked, kee, kef, keg, keh, kei, kej, kek, kel, Int.reduceEq, Int.reduceLT, Int.reduceLE, Int.reduceAdd, Int.reduceSub, Int.reduceMul, Int.reduceToNat, kem, ken, keo, kep, keq, ker, kes, ket, keu, kev, kew, kex, key, kez, kfa, kfb, kfc, kfd, kfe, kff, kfg, kfh, kfi, kfj, kfk, kfl, cutCells, kfm, kfn, kfo, kfp, kfq, kfr, kfs, kft, kfu, kfv, kfw, kfx, kfy, Nat.reduceAdd, Nat.reduceLeDiff, Nat.reduceLT, Nat.reduceMul, Nat.reduceSub, kfz, kga, kgb, kgc, kgd, kge, kgf, kgg, kgh, kgi, kgj, kgk, kgl, kgm, kgn, kgo, kgp, kgq, kgr, kgs, kgt, kgu, kgv, kgw, kgx, kgy, kgz, kha, khb, khc, khd, s4, eqP_sn, s3, q1, ite_self]
      exact ⟨_, rfl, ⟨_, rfl⟩, .tup3 (.closed rfl) (.closed rfl) (.closed rfl), h⟩

def getR (w a : Nat) (n : Int) (t : Tr) : Value :=
  if rgt w a n = true then
    match atT w a n.toNat t with
    | .nil => .tuple #[.int .i64 0, .bool false]
    | .node _ c k f v _ _ => if c = a ∧ k = n.toNat ∧ f = true then .tuple #[.int .i64 v, .bool true] else .tuple #[.int .i64 0, .bool false]
  else .tuple #[.int .i64 0, .bool false]

theorem atT_ta {w a k : Nat} : ∀ {t : Tr}, TA H t → TA H (atT w a k t)
  | .nil, _ => trivial
  | .node b c n f v l r, ht => by
    rw [atT]
    split
    · split
      · exact atT_ta ht.2.1
      · exact atT_ta ht.2.2
    · exact ht

theorem get_t {b w a : Nat} {m l n : Int} {t : Tr} (hd : hget H b = .row [.int .i64 (w : Int), .int .i64 m, .int .i64 l, t.ptr] 0 true) (lies : TA H t) (ok : TW w t) (hw : 1 ≤ w) (hw2 : w ≤ 128) (ha : a < 2 ^ 128)
    (h : R (.ret (getR w a n t)) H) : WD T 16 [.pointer (some ⟨b, 0, none⟩), pfv a n] H R := by
  have lb := hget_lt hd rfl
  refine WD.gc0 (WD.of follows t16 (by simp) ?_)
  simp (disch := omega) only [kaa, kab, kac, kad, khm, khn, kho, khp, khq, khr, kae, kaf, kag, kah, kai, kaj, kak, kal, kam, kan, kao, khe, khf, khg, khh, khi, khj, khk, khl, kap, kaq, kar, kas, kat, kau, kav, kaw, kax, kay, kaz, kba, kbb, kbc, kbd, kbe, kbf, kbg, kbh, kbi, kbj, kbk, kbl, kbm, kbn, kbo, kbp, kbq, kbr, kbs, kbt, kbu, kbv, kbw, kbx, kby, kbz, kca, kcb, kcc, kcd, kce, kcf, kcg, kch, kci, kcj, kck, kcl, kcm, aop, kcn, kco, kcp, kcq, kcr, kcs, kct, kcu, kcv, kcw, resultsL, resultOf, kcx, Nat.reduceEqDiff, kcy, kcz, kda, reduceCtorEq, kdb, kdc, kdd, kde, kdf, kdg, kdh, kdi, kdj, kdk, kdl, kdm, kdn, kdo, eq1, kdp, kdq, kdr, kds, kdt, kdu, kdv, kdw, kdx, kdy, kdz, kea, keb, kec, apartOK, apart2, AObj.live, ked, kee, kef, keg, keh, kei, kej, kek, kel, Int.reduceEq, Int.reduceLT, Int.reduceLE, Int.reduceAdd, Int.reduceSub, Int.reduceMul, Int.reduceToNat, kem, ken, keo, kep, keq, ker, kes, ket, keu, kev, kew, kex, key, kez, kfa, kfb, kfc, kfd, kfe, kff, kfg, kfh, kfi, kfj, kfk, kfl, cutCells, kfm, kfn, kfo, kfp, kfq, kfr, kfs, kft, kfu, kfv, kfw, kfx, kfy, Nat.reduceAdd, Nat.reduceLeDiff, Nat.reduceLT, Nat.reduceMul, Nat.reduceSub, kfz, kga, kgb, kgc, kgd, kge, kgf, kgg, kgh, kgi, kgj, kgk, kgl, kgm, kgn, kgo, kgp, kgq, kgr, kgs, kgt, kgu, kgv, kgw, kgx, kgy, kgz, kha, khb, khc, khd]
  refine at_t (by rw [hget_old lb]; exact hd) hw hw2 ha lies.app ok ?_
  unfold getR at h
  by_cases hr : rgt w a n = true
  case neg =>
    rw [if_neg hr] at h ⊢
    simp (disch := omega) only [kaa, kab, kac, kad, khm, khn, kho, khp, khq, khr, kae, kaf, kag, kah, kai, kaj, kak, kal, kam, kan, kao, khe, khf, khg, khh, khi, khj, khk, khl, kap, kaq, kar, kas, kat, kau, kav, kaw, kax, kay, kaz, kba, kbb, kbc, kbd, kbe, kbf, kbg, kbh, kbi, kbj, kbk, kbl, kbm, kbn, kbo, kbp, kbq, kbr, kbs, kbt, kbu, kbv, kbw, kbx, kby, kbz, kca, kcb, kcc, kcd, kce, kcf, kcg, kch, kci, kcj, kck, kcl, kcm, aop, kcn, kco, kcp, kcq, kcr, kcs, kct, kcu, kcv, kcw, resultsL, resultOf, kcx, Nat.reduceEqDiff, kcy, kcz, kda, reduceCtorEq, kdb, kdc, kdd, kde, kdf, kdg, kdh, kdi, kdj, kdk, kdl, kdm, kdn, kdo, eq1, kdp, kdq, kdr, kds, kdt, kdu, kdv, kdw, kdx, kdy, kdz, kea, keb, kec, apartOK, apart2, AObj.live, ked, kee, kef, keg, keh, kei, kej, kek, kel, Int.reduceEq, Int.reduceLT, Int.reduceLE, Int.reduceAdd, Int.reduceSub, Int.reduceMul, Int.reduceToNat, kem, ken, keo, kep, keq, ker, kes, ket, keu, kev, kew, kex, key, kez, kfa, kfb, kfc, kfd, kfe, kff, kfg, kfh, kfi, kfj, kfk, kfl, cutCells, kfm, kfn, kfo, kfp, kfq, kfr, kfs, kft, kfu, kfv, kfw, kfx, kfy, Nat.reduceAdd, Nat.reduceLeDiff, Nat.reduceLT, Nat.reduceMul, Nat.reduceSub, kfz, kga, kgb, kgc, kgd, kge, kgf, kgg, kgh, kgi, kgj, kgk, kgl, kgm, kgn, kgo, kgp, kgq, kgr, kgs, kgt, kgu, kgv, kgw, kgx, kgy, kgz, kha, khb, khc, khd, eqP_nn]
    exact ⟨_, rfl, ⟨_, rfl⟩, .tup2 (.closed rfl) (.closed rfl), h⟩
  rw [if_pos hr] at h ⊢
  unfold atV
  have hta := atT_ta (w := w) (a := a) (k := n.toNat) lies
  generalize atT w a n.toNat t = t1 at *
  cases t1 with
  | nil =>
    simp only [atR] at h ⊢
    simp (disch := omega) only [kaa, kab, kac, kad, khm, khn, kho, khp, khq, khr, kae, kaf, kag, kah, kai, kaj, kak, kal, kam, kan, kao, khe, khf, khg, khh, khi, khj, khk, khl, kap, kaq, kar, kas, kat, kau, kav, kaw, kax, kay, kaz, kba, kbb, kbc, kbd, kbe, kbf, kbg, kbh, kbi, kbj, kbk, kbl, kbm, kbn, kbo, kbp, kbq, kbr, kbs, kbt, kbu, kbv, kbw, kbx, kby, kbz, kca, kcb, kcc, kcd, kce, kcf, kcg, kch, kci, kcj, kck, kcl, kcm, aop, kcn, kco, kcp, kcq, kcr, kcs, kct, kcu, kcv, kcw, resultsL, resultOf, kcx, Nat.reduceEqDiff, kcy, kcz, kda, reduceCtorEq, kdb, kdc, kdd, kde, kdf, kdg, kdh, kdi, kdj, kdk, kdl, kdm, kdn, kdo, eq1, kdp, kdq, kdr, kds, kdt, kdu, kdv, kdw, kdx, kdy, kdz, kea, keb, kec, apartOK, apart2, AObj.live, ked, kee, kef, keg, keh, kei, kej, kek, kel, Int.reduceEq, Int.reduceLT, Int.reduceLE, Int.reduceAdd, Int.reduceSub, Int.reduceMul, Int.reduceToNat, kem, ken, keo, kep, keq, ker, kes, ket, keu, kev, kew, kex, key, kez, kfa, kfb, kfc, kfd, kfe, kff, kfg, kfh, kfi, kfj, kfk, kfl, cutCells, kfm, kfn, kfo, kfp, kfq, kfr, kfs, kft, kfu, kfv, kfw, kfx, kfy, Nat.reduceAdd, Nat.reduceLeDiff, Nat.reduceLT, Nat.reduceMul, Nat.reduceSub, kfz, kga, kgb, kgc, kgd, kge, kgf, kgg, kgh, kgi, kgj, kgk, kgl, kgm, kgn, kgo, kgp, kgq, kgr, kgs, kgt, kgu, kgv, kgw, kgx, kgy, kgz, kha, khb, khc, khd, eqP_nn]
    exact ⟨_, rfl, ⟨_, rfl⟩, .tup2 (.closed rfl) (.closed rfl), h⟩
  | node b1 c k f v l1 r1 =>
    obtain ⟨⟨wr, q1⟩, _, _⟩ := hta
    have l1 := hget_lt q1 rfl
    unfold nodeRow at q1
    simp only [atR] at h ⊢
    split
    · rename_i q
      rw [if_pos q] at h
      simp (disch := omega) only [kaa, kab, kac, kad, khm, khn, kho, khp, khq, khr, kae, kaf, kag, kah, kai, kaj, kak, kal, kam, kan, kao, khe, khf, khg, khh, khi, khj, khk, khl, kap, kaq, kar, kas, kat, kau, kav, kaw, kax, kay, kaz, kba, kbb, kbc, kbd, kbe, kbf, kbg, kbh, kbi, kbj, kbk, kbl, kbm, kbn, kbo, kbp, kbq, kbr, kbs, kbt, kbu, kbv, kbw, kbx, kby, kbz, kca, kcb, kcc, kcd, kce, kcf, kcg, kch, kci, kcj, kck, kcl, kcm, aop, kcn, kco, kcp, kcq, kcr, kcs, kct, kcu, kcv, kcw, resultsL, resultOf, kcx, Nat.reduceEqDiff, kcy, kcz, kda, reduceCtorEq, kdb, kdc, kdd, kde, kdf, kdg, kdh, kdi, kdj, kdk, kdl, kdm, kdn, kdo, eq1, kdp, kdq, kdr, kds, kdt, kdu, kdv, kdw, kdx, kdy, kdz, kea, keb, kec, apartOK, apart2, AObj.live, ked, kee, kef, keg, keh, kei, kej, kek, kel, Int.reduceEq, Int.reduceLT, Int.reduceLE, Int.reduceAdd, Int.reduceSub, Int.reduceMul, Int.reduceToNat, kem, ken, keo, kep, keq, ker, kes, ket, keu, kev, kew, kex, key, kez, kfa, kfb, kfc, kfd, kfe, kff, kfg, kfh, kfi, kfj, kfk, kfl, cutCells, kfm, kfn, kfo, kfp, kfq, kfr, kfs, kft, kfu, kfv, kfw, kfx, kfy, Nat.reduceAdd, Nat.reduceLeDiff, Nat.reduceLT, Nat.reduceMul, Nat.reduceSub, kfz, kga, kgb, kgc, kgd, kge, kgf, kgg, kgh, kgi, kgj, kgk, kgl, kgm, kgn, kgo, kgp, kgq, kgr, kgs, kgt, kgu, kgv, kgw, kgx, kgy, kgz, kha, khb, khc, khd, eqP_sn, q1]
      exact ⟨_, rfl, ⟨_, rfl⟩, .tup2 (.closed rfl) (.closed rfl), h⟩
    · rename_i q
      rw [if_neg q] at h
      simp (disch := omega) only [kaa, kab, kac, kad, khm, khn, kho, khp, khq, khr, kae, kaf, kag, kah, kai, kaj, kak, kal, kam, kan, kao, khe, khf, khg, khh, khi, khj, khk, khl, kap, kaq, kar, kas, kat, kau, kav, kaw, kax, kay, kaz, kba, kbb, kbc, kbd, kbe, kbf, kbg, kbh, kbi, kbj, kbk, kbl, kbm, kbn, kbo, kbp, kbq, kbr, kbs, kbt, kbu, kbv, kbw, kbx, kby, kbz, kca, kcb, kcc, kcd, kce, kcf, kcg, kch, kci, kcj, kck, kcl, kcm, aop, kcn, kco, kcp, kcq, kcr, kcs, kct, kcu, kcv, kcw, resultsL, resultOf, kcx, Nat.reduceEqDiff, kcy, kcz, kda, reduceCtorEq, kdb, kdc, kdd, kde, kdf, kdg, kdh, kdi, kdj, kdk, kdl, kdm, kdn, kdo, eq1, kdp, kdq, kdr, kds, kdt, kdu, kdv, kdw, kdx, kdy, kdz, kea, keb, kec, apartOK, apart2, AObj.live, ked, kee, kef, keg, keh, kei, kej, kek, kel, Int.reduceEq, Int.reduceLT, Int.reduceLE, Int.reduceAdd, Int.reduceSub, Int.reduceMul, Int.reduceToNat, kem, ken, keo, kep, keq, ker, kes, ket, keu, kev, kew, kex, key, kez, kfa, kfb, kfc, kfd, kfe, kff, kfg, kfh, kfi, kfj, kfk, kfl, cutCells, kfm, kfn, kfo, kfp, kfq, kfr, kfs, kft, kfu, kfv, kfw, kfx, kfy, Nat.reduceAdd, Nat.reduceLeDiff, Nat.reduceLT, Nat.reduceMul, Nat.reduceSub, kfz, kga, kgb, kgc, kgd, kge, kgf, kgg, kgh, kgi, kgj, kgk, kgl, kgm, kgn, kgo, kgp, kgq, kgr, kgs, kgt, kgu, kgv, kgw, kgx, kgy, kgz, kha, khb, khc, khd, eqP_nn]
      exact ⟨_, rfl, ⟨_, rfl⟩, .tup2 (.closed rfl) (.closed rfl), h⟩

end Go.Proofs.Yticgkaanaimllaa.Ev

/- Every. -/
namespace Go.Proofs.Yticgkaanaimllaa.Ev
set_option maxRecDepth 100000
set_option linter.unusedSimpArgs false
set_option linter.unusedVariables false
variable {R : FRes → Heap → Prop} {H : Heap}

theorem append_one {K : Heap} {b bx l unit bytes u2 : Nat} {cells xs : List Value} {w2 : Bool} (hb : hget K b = .row cells unit true) (hl : cells.length = l * unit) (hx : hget K bx = .row xs u2 w2) (hxl : xs.length = unit) (hall : xs.all oneCell = true)
    (hr : (l + 1) * bytes ≤ roomMax ∧ l + 1 ≤ roomMax) :
    appendV K unit bytes (.slice (some ⟨b, 0, none⟩) l l) (.slice (some ⟨bx, 0, none⟩) 1 1) = .val (.slice (some ⟨K.length, 0, none⟩) (l + 1) (l + 1)) (K.set b .dead ++ [.row (cells ++ xs) unit true]) := by
  simp only [appendV, lenV, srcCells, hx, hb]
  rw [if_pos (by omega)]
  have e1 : List.take (1 * unit) (List.drop 0 xs) = xs := by rw [List.drop_zero, Nat.one_mul, ← hxl, List.take_length]
  have e2 : List.take (l * unit) (List.drop 0 cells) = cells := by rw [List.drop_zero, ← hl, List.take_length]
  simp only [e1]
  rw [if_neg (by omega)]
  simp only [hb, e2]
  rw [if_pos ⟨trivial, by omega, by omega, by omega⟩, if_neg (by omega), if_pos ⟨hr.1, hr.2, hall⟩]

theorem append_nil {K : Heap} {bx unit bytes u2 : Nat} {xs : List Value} {w2 : Bool} (hx : hget K bx = .row xs u2 w2) (hxl : xs.length = unit) (hr : 1 * bytes ≤ roomMax) :
    appendV K unit bytes (.slice none 0 0) (.slice (some ⟨bx, 0, none⟩) 1 1) = .val (.slice (some ⟨K.length, 0, none⟩) 1 1) (K ++ [.row xs unit true]) := by
  simp only [appendV, lenV, srcCells, hx]
  rw [if_pos (by omega)]
  have e1 : List.take (1 * unit) (List.drop 0 xs) = xs := by rw [List.drop_zero, Nat.one_mul, ← hxl, List.take_length]
  simp only [e1]
  rw [if_neg (by omega), if_pos ⟨hr, by decide⟩]


/-- A node's prefix, as cells. -/
def pfC : Tr → List Value
  | .nil => []
  | .node _ c n _ _ _ _ => [.int .u64 ((c / W64 : Nat) : Int), .int .u64 ((c % W64 : Nat) : Int), .int .i64 (n : Int)]
def pfs (L : List Tr) : List Value := (L.map pfC).flatten

/-- A list of prefixes. -/
def PS (n0 : Nat) (H' : Heap) (sv : Value) (L : List Tr) : Prop :=
  (L = [] ∧ sv = .slice none 0 0) ∨ (L ≠ [] ∧ ∃ k, n0 ≤ k ∧ sv = .slice (some ⟨k, 0, none⟩) L.length L.length ∧ hget H' k = .row (pfs L) 3 true ∧ (pfs L).length = L.length * 3)

/-- While the way is gone, for Every. -/
def EvS (H : Heap) (L : List Tr) (H' : Heap) : Prop :=
  H.length + 2 ≤ H'.length ∧ (∀ c, c < H.length → hget H' c = hget H c) ∧ ∃ sv, hget H' (H.length + 1) = .row [sv] 0 true ∧ PS (H.length + 2) H' sv L

theorem every_t {b w a : Nat} {m l : Int} {t : Tr} (hd : hget H b = .row [.int .i64 (w : Int), .int .i64 m, .int .i64 l, t.ptr] 0 true) (lies : TA H t) (ok : TW w t) (hw : 1 ≤ w) (hw2 : w ≤ 128) (ha : a < 2 ^ 128) (hsz : (wayL w a t).length ≤ 1000000)
    (h : ∀ sv g, PS H.length (H ++ g) sv (if a < 2 ^ w then wayL w a t else []) → R (.ret sv) (H ++ g)) : WD T 15 [.pointer (some ⟨b, 0, none⟩), bvA a] H R := by
  have lb := hget_lt hd rfl
  refine WD.of follows t15 (by simp) ?_
  simp (disch := omega) only [kaa, kab, kac, kad, khm, khn, kho, khp, khq, khr, kae, kaf, kag, kah, kai, kaj, kak, kal, kam, kan, kao, khe, khf, khg, khh, khi, khj, khk, khl, kap, kaq, kar, kas, kat, kau, kav, kaw, kax, kay, kaz, kba, kbb, kbc, kbd, kbe, kbf, kbg, kbh, kbi, kbj, kbk, kbl, kbm, kbn, kbo, kbp, kbq, kbr, kbs, kbt, kbu, kbv, kbw, kbx, kby, kbz, kca, kcb, kcc, kcd, kce, kcf, kcg, kch, kci, kcj, kck, kcl, kcm, aop, kcn, kco, kcp, kcq, kcr, kcs, kct, kcu, kcv, kcw, resultsL, resultOf, kcx, Nat.reduceEqDiff, kcy, kcz, kda, reduceCtorEq, kdb, kdc, kdd, kde, kdf, kdg, kdh, kdi, kdj, kdk, kdl, kdm, kdn, kdo, eq1, kdp, kdq, kdr, kds, kdt, kdu, kdv, kdw, kdx, kdy, kdz, kea, keb, kec, apartOK, apart2, AObj.live, ked, kee, kef, keg, keh, kei, kej, kek, kel, Int.reduceEq, Int.reduceLT, Int.reduceLE, Int.reduceAdd, Int.reduceSub, Int.reduceMul, Int.reduceToNat, kem, ken, keo, kep, keq, ker, kes, ket, keu, kev, kew, kex, key, kez, kfa, kfb, kfc, kfd, kfe, kff, kfg, kfh, kfi, kfj, kfk, kfl, cutCells, kfm, kfn, kfo, kfp, kfq, kfr, kfs, kft, kfu, kfv, kfw, kfx, kfy, Nat.reduceAdd, Nat.reduceLeDiff, Nat.reduceLT, Nat.reduceMul, Nat.reduceSub, kfz, kga, kgb, kgc, kgd, kge, kgf, kgg, kgh, kgi, kgj, kgk, kgl, kgm, kgn, kgo, kgp, kgq, kgr, kgs, kgt, kgu, kgv, kgw, kgx, kgy, kgz, kha, khb, khc, khd]
  refine way_t (EvS H) (t0 := t) ⟨by simp, fun c hc => hget_old hc, _, by rw [hget_base]; rfl, .inl ⟨rfl, rfl⟩⟩
    (fun L H' G ⟨s1, s2, sv, s3, s4⟩ => ⟨by simp; omega, fun c hc => by rw [hget_old (by omega)]; exact s2 c hc, sv, by rw [hget_old (by omega)]; exact s3, s4.imp id fun ⟨q0, k, q1, q2, q3, q4⟩ => ⟨q0, k, q1, q2, by rw [hget_old (hget_lt q3 rfl)]; exact q3, q4⟩⟩)
    (fun L H' ⟨s1, s2, _⟩ => ⟨m, l, (s2 b lb).trans hd⟩) (fun L H' ⟨s1, s2, _⟩ => lies.frame s2) ok hw hw2 ha (fun L nd H' ⟨s1, s2, sv, s3, s4⟩ hlt hnd hex => ?_) (fun H' hS => ?_)
  · obtain ⟨b1, c, n, v, l1, r1, rfl⟩ := hex
    obtain ⟨⟨wr, q1⟩, _, _⟩ := hnd
    have lb1 := hget_lt q1 rfl
    unfold nodeRow at q1
    have l2 : H.length + 1 < H'.length := by omega
    have ptr1 : Tr.ptr (.node b1 c n true v l1 r1) = .pointer (some ⟨b1, 0, none⟩) := rfl
    have hpc : pfs (L ++ [.node b1 c n true v l1 r1]) = pfs L ++ [.int .u64 ((c / W64 : Nat) : Int), .int .u64 ((c % W64 : Nat) : Int), .int .i64 (n : Int)] := by simp [pfs, pfC]
    rw [ptr1]
    refine WD.of follows t47 (by simp) ?_
    rcases s4 with ⟨rfl, rfl⟩ | ⟨q0, k, k0, rfl, k3, k4⟩
    · have ha := append_nil (K := H' ++ [.row [.int .u64 ((c / W64 : Nat) : Int), .int .u64 ((c % W64 : Nat) : Int), .int .i64 (n : Int)] 3 true]) (bx := H'.length) (unit := 3) (bytes := 24) (u2 := 3) (w2 := true) (by rw [hget_base0]; rfl) rfl (by decide)
      simp (disch := omega) only [kaa, kab, kac, kad, khm, khn, kho, khp, khq, khr, kae, kaf, kag, kah, kai, kaj, kak, kal, kam, kan, kao, khe, khf, khg, khh, khi, khj, khk, khl, kap, kaq, kar, kas, kat, kau, kav, kaw, kax, kay, kaz, kba, kbb, kbc, kbd, kbe, kbf, kbg, kbh, kbi, kbj, kbk, kbl, kbm, kbn, kbo, kbp, kbq, kbr, kbs, kbt, kbu, kbv, kbw, kbx, kby, kbz, kca, kcb, kcc, kcd, kce, kcf, kcg, kch, kci, kcj, kck, kcl, kcm, aop, kcn, kco, kcp, kcq, kcr, kcs, kct, kcu, kcv, kcw, resultsL, resultOf, kcx, Nat.reduceEqDiff, kcy, kcz, kda, reduceCtorEq, kdb, kdc, kdd, kde, kdf, kdg, kdh, kdi, kdj, kdk, kdl, kdm, kdn, kdo, eq1, kdp, kdq, kdr, kds, kdt, kdu, kdv, kdw, kdx, kdy, kdz, kea, keb, kec, apartOK, apart2, AObj.live, ked, kee, kef, keg, keh, kei, kej, kek, kel, Int.reduceEq, Int.reduceLT, Int.reduceLE, Int.reduceAdd, Int.reduceSub, Int.reduceMul, Int.reduceToNat, kem, ken, keo, kep, keq, ker, kes, ket, keu, kev, kew, kex, key, kez, kfa, kfb, kfc, kfd, kfe, kff, kfg, kfh, kfi, kfj, kfk, kfl, cutCells, kfm, kfn, kfo, kfp, kfq, kfr, kfs, kft, kfu, kfv, kfw, kfx, kfy, Nat.reduceAdd, Nat.reduceLeDiff, Nat.reduceLT, Nat.reduceMul, Nat.reduceSub, kfz, kga, kgb, kgc, kgd, kge, kgf, kgg, kgh, kgi, kgj, kgk, kgl, kgm, kgn, kgo, kgp, kgq, kgr, kgs, kgt, kgu, kgv, kgw, kgx, kgy, kgz, kha, khb, khc, khd, q1, s3, ha, l2]
      refine ⟨⟨by simp; omega, fun c hc => by rw [hget_oldS (by omega), hget_ne (by omega)]; exact s2 c hc, .slice (some ⟨H'.length + 1, 0, none⟩) 1 1, ?_, .inr ⟨by simp, H'.length + 1, by omega, rfl, ?_, rfl⟩⟩, fun c2 hc => ?_⟩
      · rw [hget_oldS l2, hget_set' l2]
      · rw [hget_baseS]; rfl
      have lc := hget_lt hc rfl
      rw [hget_oldS lc, hget_ne (fun q => ?_)]
      · exact hc
      · subst q
        rw [s3] at hc
        simp at hc
    · have lk := hget_lt k3 rfl
      have hroom : (L.length + 1) * 24 ≤ roomMax ∧ L.length + 1 ≤ roomMax := by simp only [roomMax]; omega
      have ha := append_one (K := H' ++ [.row [.int .u64 ((c / W64 : Nat) : Int), .int .u64 ((c % W64 : Nat) : Int), .int .i64 (n : Int)] 3 true]) (b := k) (bx := H'.length) (l := L.length) (unit := 3) (bytes := 24) (cells := pfs L) (u2 := 3) (w2 := true) (by rw [hget_old lk]; exact k3) k4 (by rw [hget_base0]; rfl) rfl rfl hroom
      simp (disch := omega) only [kaa, kab, kac, kad, khm, khn, kho, khp, khq, khr, kae, kaf, kag, kah, kai, kaj, kak, kal, kam, kan, kao, khe, khf, khg, khh, khi, khj, khk, khl, kap, kaq, kar, kas, kat, kau, kav, kaw, kax, kay, kaz, kba, kbb, kbc, kbd, kbe, kbf, kbg, kbh, kbi, kbj, kbk, kbl, kbm, kbn, kbo, kbp, kbq, kbr, kbs, kbt, kbu, kbv, kbw, kbx, kby, kbz, kca, kcb, kcc, kcd, kce, kcf, kcg, kch, kci, kcj, kck, kcl, kcm, aop, kcn, kco, kcp, kcq, kcr, kcs, kct, kcu, kcv, kcw, resultsL, resultOf, kcx, Nat.reduceEqDiff, kcy, kcz, kda, reduceCtorEq, kdb, kdc, kdd, kde, kdf, kdg, kdh, kdi, kdj, kdk, kdl, kdm, kdn, kdo, eq1, kdp, kdq, kdr, kds, kdt, kdu, kdv, kdw, kdx, kdy, kdz, kea, keb, kec, apartOK, apart2, AObj.live, ked, kee, kef, keg, keh, kei, kej, kek, kel, Int.reduceEq, Int.reduceLT, Int.reduceLE, Int.reduceAdd, Int.reduceSub, Int.reduceMul, Int.reduceToNat, kem, ken, keo, kep, keq, ker, kes, ket, keu, kev, kew, kex, key, kez, kfa, kfb, kfc, kfd, kfe, kff, kfg, kfh, kfi, kfj, kfk, kfl, cutCells, kfm, kfn, kfo, kfp, kfq, kfr, kfs, kft, kfu, kfv, kfw, kfx, kfy, Nat.reduceAdd, Nat.reduceLeDiff, Nat.reduceLT, Nat.reduceMul, Nat.reduceSub, kfz, kga, kgb, kgc, kgd, kge, kgf, kgg, kgh, kgi, kgj, kgk, kgl, kgm, kgn, kgo, kgp, kgq, kgr, kgs, kgt, kgu, kgv, kgw, kgx, kgy, kgz, kha, khb, khc, khd, q1, s3, ha, l2, hget_ne]
      refine ⟨⟨by simp; omega, fun c hc => by rw [hget_oldSS (by omega), hget_ne (by omega), hget_ne (by omega)]; exact s2 c hc, _, by rw [hget_oldSS l2, hget_setS l2], .inr ⟨by simp, H'.length + 1, by omega, by simp, ?_, ?_⟩⟩, fun c2 hc => ?_⟩
      · rw [hpc, hget_baseSS]; rfl
      · rw [hpc]; simp [k4]; omega
      have lc := hget_lt hc rfl
      rw [hget_oldSS lc, hget_ne (fun q => ?_), hget_ne (fun q => ?_)]
      · exact hc
      · subst q
        rw [k3] at hc
        simp at hc
      · subst q
        rw [s3] at hc
        simp at hc
  · obtain ⟨s1, s2, sv, s3, s4⟩ := hS
    obtain ⟨g, rfl⟩ := pre_of (by omega) s2
    simp (disch := omega) only [kaa, kab, kac, kad, khm, khn, kho, khp, khq, khr, kae, kaf, kag, kah, kai, kaj, kak, kal, kam, kan, kao, khe, khf, khg, khh, khi, khj, khk, khl, kap, kaq, kar, kas, kat, kau, kav, kaw, kax, kay, kaz, kba, kbb, kbc, kbd, kbe, kbf, kbg, kbh, kbi, kbj, kbk, kbl, kbm, kbn, kbo, kbp, kbq, kbr, kbs, kbt, kbu, kbv, kbw, kbx, kby, kbz, kca, kcb, kcc, kcd, kce, kcf, kcg, kch, kci, kcj, kck, kcl, kcm, aop, kcn, kco, kcp, kcq, kcr, kcs, kct, kcu, kcv, kcw, resultsL, resultOf, kcx, Nat.reduceEqDiff, kcy, kcz, kda, reduceCtorEq, kdb, kdc, kdd, kde, kdf, kdg, kdh, kdi, kdj, kdk, kdl, kdm, kdn, kdo, eq1, kdp, kdq, kdr, kds, kdt, kdu, kdv, kdw, kdx, kdy, kdz, kea, keb, kec, apartOK, apart2, AObj.live, ked, kee, kef, keg, keh, kei, kej, kek, kel, Int.reduceEq, Int.reduceLT, Int.reduceLE, Int.reduceAdd, Int.reduceSub, Int.reduceMul, Int.reduceToNat, kem, ken, keo, kep, keq, ker, kes, ket, keu, kev, kew, kex, key, kez, kfa, kfb, kfc, kfd, kfe, kff, kfg, kfh, kfi, kfj, kfk, kfl, cutCells, kfm, kfn, kfo, kfp, kfq, kfr, kfs, kft, kfu, kfv, kfw, kfx, kfy, Nat.reduceAdd, Nat.reduceLeDiff, Nat.reduceLT, Nat.reduceMul, Nat.reduceSub, kfz, kga, kgb, kgc, kgd, kge, kgf, kgg, kgh, kgi, kgj, kgk, kgl, kgm, kgn, kgo, kgp, kgq, kgr, kgs, kgt, kgu, kgv, kgw, kgx, kgy, kgz, kha, khb, khc, khd, s3]
    exact h sv g (s4.imp id fun ⟨q0, k, q1, q2⟩ => ⟨q0, k, by omega, q2⟩)

end Go.Proofs.Yticgkaanaimllaa.Ev

/- What a tree of prefixes keeps: plain laws. -/
namespace Go.Proofs.Yticgkaanaimllaa.Ev
set_option linter.unusedSimpArgs false
set_option linter.unusedVariables false

abbrev Mem := Nat × Nat × Int

def PT.mem : PT → List Mem
  | .nil => []
  | .node a n f v l r => (if f = true then [(a, n, v)] else []) ++ (l.mem ++ r.mem)
def PT.nodes : PT → List (Nat × Nat)
  | .nil => []
  | .node a n _ _ l r => (a, n) :: (l.nodes ++ r.nodes)

/-- All lie where they belong. -/
def PW (w : Nat) : PT → Prop
  | .nil => True
  | .node c n _ _ l r => n ≤ w ∧ c < 2 ^ w ∧ (∀ x ∈ l.nodes, n < x.2 ∧ Und w c n x.1 ∧ sideN w x.1 n = 0) ∧ (∀ x ∈ r.nodes, n < x.2 ∧ Und w c n x.1 ∧ sideN w x.1 n = 1) ∧ PW w l ∧ PW w r

theorem mem_nodes : ∀ {t : PT} {x : Mem}, x ∈ t.mem → (x.1, x.2.1) ∈ t.nodes
  | .nil, x, h => by cases h
  | .node a n f v l r, x, h => by
    simp only [PT.mem, List.mem_append] at h
    simp only [PT.nodes, List.mem_cons, List.mem_append]
    rcases h with h | h | h
    · cases f with
      | true => simp only [if_true, List.mem_cons, List.not_mem_nil, or_false] at h; subst h; exact .inl rfl
      | false => simp at h
    · exact .inr (.inl (mem_nodes h))
    · exact .inr (.inr (mem_nodes h))

theorem nodes_ok {w : Nat} : ∀ {t : PT}, PW w t → ∀ x ∈ t.nodes, x.2 ≤ w ∧ x.1 < 2 ^ w
  | .nil, _, x, h => by cases h
  | .node a n f v l r, ⟨h1, h2, _, _, h5, h6⟩, x, h => by
    simp only [PT.nodes, List.mem_cons, List.mem_append] at h
    rcases h with rfl | h | h
    · exact ⟨h1, h2⟩
    · exact nodes_ok h5 x h
    · exact nodes_ok h6 x h

def wayP (w a : Nat) : PT → List Mem
  | .nil => []
  | .node c n f v l r => if n ≤ cmn w c a then (if f = true then [(c, n, v)] else []) ++ (if n = w then [] else if sideN w a n = 0 then wayP w a l else wayP w a r) else []

def trip : Tr → Mem
  | .nil => (0, 0, 0)
  | .node _ c n _ v _ _ => (c, n, v)

theorem way_er {w a : Nat} : ∀ {t : Tr}, (wayL w a t).map trip = wayP w a t.er
  | .nil => rfl
  | .node b c n f v l r => by
    simp only [wayL, Tr.er, wayP]
    split
    · rw [List.map_append]
      congr 1
      · split <;> rfl
      · split
        · rfl
        · split
          · exact way_er
          · exact way_er
    · rfl

theorem filter_nil {α : Type} {p : α → Bool} {l : List α} (h : ∀ x ∈ l, p x = false) : l.filter p = [] := by
  rw [List.filter_eq_nil_iff]
  intro x hx
  rw [h x hx]
  simp

/-- The way tells just those whose prefix the number has, in order. -/
theorem way_filter {w a : Nat} (ha : a < 2 ^ w) : ∀ {t : PT}, PW w t → wayP w a t = t.mem.filter (fun x => decide (Und w x.1 x.2.1 a))
  | .nil, _ => rfl
  | .node c n f v l r, ⟨h1, h2, h3, h4, h5, h6⟩ => by
    have hside : ∀ x : Mem, x.2.1 ≤ w → n < x.2.1 → sideN w x.1 n ≠ sideN w a n → decide (Und w x.1 x.2.1 a) = false := fun x hw hn hs => decide_eq_false fun q => hs (und_bit q hn hw)
    simp only [wayP, PT.mem, List.filter_append]
    by_cases hu : n ≤ cmn w c a
    · rw [if_pos hu]
      have hU := (cmn_ge h1 h2 ha).1 hu
      have hroot : (if f = true then [(c, n, v)] else []) = (if f = true then [(c, n, v)] else []).filter (fun x => decide (Und w x.1 x.2.1 a)) := by
        cases f with
        | true => simp [hU]
        | false => rfl
      rw [← hroot]
      congr 1
      by_cases hnw : n = w
      · rw [if_pos hnw]
        have hl : l.mem.filter (fun x => decide (Und w x.1 x.2.1 a)) = [] := filter_nil fun x hx => by
          have q1 := (h3 _ (mem_nodes hx)).1
          have q2 := (nodes_ok h5 _ (mem_nodes hx)).1
          simp only at q1 q2
          omega
        have hr : r.mem.filter (fun x => decide (Und w x.1 x.2.1 a)) = [] := filter_nil fun x hx => by
          have q1 := (h4 _ (mem_nodes hx)).1
          have q2 := (nodes_ok h6 _ (mem_nodes hx)).1
          simp only at q1 q2
          omega
        rw [hl, hr]
        rfl
      · rw [if_neg hnw]
        rcases sideN_two w a n with hs | hs
        · rw [if_pos hs, way_filter ha h5]
          have hr : r.mem.filter (fun x => decide (Und w x.1 x.2.1 a)) = [] := filter_nil fun x hx => by
            have q1 := h4 _ (mem_nodes hx)
            have q2 := (nodes_ok h6 _ (mem_nodes hx)).1
            exact hside x q2 q1.1 (by rw [q1.2.2, hs]; decide)
          rw [hr, List.append_nil]
        · rw [if_neg (by omega), way_filter ha h6]
          have hl : l.mem.filter (fun x => decide (Und w x.1 x.2.1 a)) = [] := filter_nil fun x hx => by
            have q1 := h3 _ (mem_nodes hx)
            have q2 := (nodes_ok h5 _ (mem_nodes hx)).1
            exact hside x q2 q1.1 (by rw [q1.2.2, hs]; decide)
          rw [hl, List.nil_append]
    · rw [if_neg hu]
      have hU : ¬ Und w c n a := fun q => hu ((cmn_ge h1 h2 ha).2 q)
      have hroot : (if f = true then [(c, n, v)] else []).filter (fun x => decide (Und w x.1 x.2.1 a)) = [] := by
        cases f with
        | true => simp [hU]
        | false => rfl
      have hl : l.mem.filter (fun x => decide (Und w x.1 x.2.1 a)) = [] := filter_nil fun x hx => by
        have q1 := h3 _ (mem_nodes hx)
        exact decide_eq_false fun q => hU (q1.2.1.trans (q.less (Nat.le_of_lt q1.1)))
      have hr : r.mem.filter (fun x => decide (Und w x.1 x.2.1 a)) = [] := filter_nil fun x hx => by
        have q1 := h4 _ (mem_nodes hx)
        exact decide_eq_false fun q => hU (q1.2.1.trans (q.less (Nat.le_of_lt q1.1)))
      rw [hroot, hl, hr]
      rfl

/-- The way's lengths rise. -/
theorem way_rise {w a : Nat} : ∀ {t : PT}, PW w t → (wayP w a t).Pairwise (fun x y => x.2.1 < y.2.1)
  | .nil, _ => List.Pairwise.nil
  | .node c n f v l r, ⟨h1, h2, h3, h4, h5, h6⟩ => by
    have hsub : ∀ {t : PT} {x : Mem}, x ∈ wayP w a t → (x.1, x.2.1) ∈ t.nodes := fun {t} => by
      induction t with
      | nil => intro x h; cases h
      | node c n f v l r ihl ihr =>
        intro x h
        simp only [wayP] at h
        simp only [PT.nodes, List.mem_cons, List.mem_append]
        split at h
        · rcases List.mem_append.1 h with h | h
          · cases f with
            | true => simp only [if_true, List.mem_cons, List.not_mem_nil, or_false] at h; subst h; exact .inl rfl
            | false => simp at h
          · split at h
            · cases h
            · split at h
              · exact .inr (.inl (ihl h))
              · exact .inr (.inr (ihr h))
        · cases h
    simp only [wayP]
    split
    · have rest : (if n = w then ([] : List Mem) else if sideN w a n = 0 then wayP w a l else wayP w a r).Pairwise (fun x y => x.2.1 < y.2.1) := by
        split
        · exact List.Pairwise.nil
        · split
          · exact way_rise h5
          · exact way_rise h6
      have low : ∀ x ∈ (if n = w then ([] : List Mem) else if sideN w a n = 0 then wayP w a l else wayP w a r), n < x.2.1 := fun x hx => by
        split at hx
        · cases hx
        · split at hx
          · exact (h3 _ (hsub hx)).1
          · exact (h4 _ (hsub hx)).1
      cases f with
      | true =>
        simp only [if_true, List.cons_append, List.nil_append]
        exact List.Pairwise.cons low rest
      | false => simpa using rest
    · exact List.Pairwise.nil

end Go.Proofs.Yticgkaanaimllaa.Ev

/- A tree of prefixes: what is found, what is put in: plain laws. -/
namespace Go.Proofs.Yticgkaanaimllaa.Ev
set_option linter.unusedSimpArgs false
set_option linter.unusedVariables false

def atP (w a k : Nat) : PT → Option Int
  | .nil => none
  | .node c n f v l r => if n < k ∧ cmp w c n a k = n then (if sideN w a n = 0 then atP w a k l else atP w a k r) else if c = a ∧ n = k ∧ f = true then some v else none

theorem at_er {w a k : Nat} : ∀ {t : Tr}, (match atT w a k t with | .nil => none | .node _ c n f v _ _ => if c = a ∧ n = k ∧ f = true then some v else none) = atP w a k t.er
  | .nil => rfl
  | .node b c n f v l r => by
    simp only [atT, Tr.er, atP]
    by_cases h1 : n < k ∧ cmp w c n a k = n
    · by_cases h2 : sideN w a n = 0
      · simp only [if_pos h1, if_pos h2]; exact at_er
      · simp only [if_pos h1, if_neg h2]; exact at_er
    · simp only [if_neg h1]

theorem atV_none {w a k : Nat} {t : Tr} : atV w a k t = .pointer none ↔ atP w a k t.er = none := by
  rw [← at_er]
  unfold atV atR
  cases atT w a k t with
  | nil => simp
  | node b c n f v l r =>
    simp only
    split <;> simp

theorem getR_er {w a : Nat} {n : Int} {t : Tr} : getR w a n t = if rgt w a n = true then (match atP w a n.toNat t.er with | some v => .tuple #[.int .i64 v, .bool true] | none => .tuple #[.int .i64 0, .bool false]) else .tuple #[.int .i64 0, .bool false] := by
  rw [← at_er]
  unfold getR
  split
  · cases atT w a n.toNat t with
    | nil => rfl
    | node b c k f v l r =>
      simp only
      split <;> rfl
  · rfl

theorem at_mem {w a k : Nat} {v : Int} (ha : a < 2 ^ w) (hk : k ≤ w) : ∀ {t : PT}, PW w t → (atP w a k t = some v ↔ (a, k, v) ∈ t.mem)
  | .nil, _ => by simp [atP, PT.mem]
  | .node c n f u l r, ⟨h1, h2, h3, h4, h5, h6⟩ => by
    simp only [atP, PT.mem, List.mem_append]
    by_cases hc : n < k ∧ cmp w c n a k = n
    · rw [if_pos hc]
      have hroot : ¬ (a, k, v) ∈ (if f = true then [(c, n, u)] else []) := fun q => by
        cases f with
        | true => simp only [if_true, List.mem_cons, List.not_mem_nil, or_false, Prod.mk.injEq] at q; omega
        | false => simp at q
      rcases sideN_two w a n with hs | hs
      · rw [if_pos hs, at_mem ha hk h5]
        constructor
        · exact fun q => .inr (.inl q)
        · rintro (q | q | q)
          · exact absurd q hroot
          · exact q
          · have := (h4 _ (mem_nodes q)).2.2; simp only at this; omega
      · rw [if_neg (by omega), at_mem ha hk h6]
        constructor
        · exact fun q => .inr (.inr q)
        · rintro (q | q | q)
          · exact absurd q hroot
          · have := (h3 _ (mem_nodes q)).2.2; simp only at this; omega
          · exact q
    · rw [if_neg hc]
      have hkid : ∀ x : Nat × Nat, n < x.2 → Und w c n x.1 → x = (a, k) → False := fun x q1 q2 q3 => by
        subst q3
        exact hc ⟨q1, (cmp_eq h1 h2 ha).2 ⟨Nat.le_of_lt q1, q2⟩⟩
      constructor
      · intro q
        split at q
        · rename_i e
          obtain ⟨rfl, rfl, rfl⟩ := e
          cases q
          exact .inl (by simp)
        · cases q
      · rintro (q | q | q)
        · cases f with
          | true =>
            simp only [if_true, List.mem_cons, List.not_mem_nil, or_false, Prod.mk.injEq] at q
            obtain ⟨rfl, rfl, rfl⟩ := q
            simp
          | false => simp at q
        · have := h3 _ (mem_nodes q)
          exact (hkid _ this.1 this.2.1 rfl).elim
        · have := h4 _ (mem_nodes q)
          exact (hkid _ this.1 this.2.1 rfl).elim

theorem with_mem {w a k : Nat} {v : Int} (hw : w ≤ 128) (ha : a < 2 ^ w) (hk : k ≤ w) (hm : a &&& maskN w k = a) : ∀ {t : PT}, PW w t → TWp w t → atP w a k t = none → (withP w a k v t).mem.Perm ((a, k, v) :: t.mem)
  | .nil, _, _, _ => by simp [withP, PT.mem]
  | .node c n f u l r, ⟨h1, h2, h3, h4, h5, h6⟩, ⟨t1, t2, t3, t4, t5⟩, hat => by
    have hle : cmp w c n a k ≤ n ∧ cmp w c n a k ≤ k := by unfold cmp; omega
    rw [withP]
    by_cases e1 : cmp w c n a k = n ∧ cmp w c n a k = k
    · rw [if_pos e1]
      obtain ⟨e1, e2⟩ := e1
      have hnk : n = k := e1.symm.trans e2
      have hU := ((cmp_eq h1 h2 ha).1 e1).2
      have hca : c = a := pre_eq hw h1 h2 ha t3 (by rw [hnk]; exact hm) hU
      have hf : f = false := by
        cases f with
        | false => rfl
        | true =>
          rw [atP, if_neg (fun q => by omega), if_pos ⟨hca, hnk, rfl⟩] at hat
          cases hat
      subst hf
      simp [PT.mem, hca, hnk]
    · rw [if_neg e1]
      by_cases e2 : cmp w c n a k = n
      · rw [if_pos e2]
        have hnk : n < k := by
          have : ¬ n = k := fun q => e1 ⟨e2, e2.trans q⟩
          omega
        rw [atP, if_pos ⟨hnk, e2⟩] at hat
        rcases sideN_two w a n with hs | hs
        · rw [if_pos hs] at hat ⊢
          simp only [PT.mem]
          refine ((List.Perm.append_left _ ((with_mem hw ha hk hm h5 t4 hat).append_right _)).trans ?_)
          rw [List.cons_append]
          exact List.perm_middle
        · rw [if_neg (by omega)] at hat ⊢
          simp only [PT.mem]
          refine ((List.Perm.append_left _ (List.Perm.append_left _ (with_mem hw ha hk hm h6 t5 hat))).trans ?_)
          refine (List.Perm.append_left _ List.perm_middle).trans ?_
          exact List.perm_middle
      · rw [if_neg e2]
        by_cases e3 : cmp w c n a k = k
        · rw [if_pos e3]
          rcases sideN_two w c (cmp w c n a k) with hs | hs
          · simp only [setK, hs, if_true, PT.mem, List.append_nil, List.cons_append, List.nil_append]
            rw [e3, hm]
          · simp only [setK, show ¬ sideN w c (cmp w c n a k) = 0 by omega, if_false, if_true, PT.mem, List.append_nil, List.cons_append, List.nil_append]
            rw [e3, hm]
        · rw [if_neg e3]
          have hne := side_ne h2 ha h1 rfl e2 e3
          rcases sideN_two w c (cmp w c n a k) with hs | hs
          · have hs2 : sideN w a (cmp w c n a k) = 1 := by rcases sideN_two w a (cmp w c n a k) with q | q <;> omega
            simp only [setK, hs, hs2, if_true, PT.mem, Bool.false_eq_true, if_false, List.nil_append, List.append_nil, Nat.one_ne_zero]
            exact List.perm_append_comm
          · have hs2 : sideN w a (cmp w c n a k) = 0 := by rcases sideN_two w a (cmp w c n a k) with q | q <;> omega
            simp only [setK, hs, hs2, if_true, PT.mem, Bool.false_eq_true, if_false, List.nil_append, List.append_nil, Nat.one_ne_zero]
            exact List.Perm.refl _

end Go.Proofs.Yticgkaanaimllaa.Ev

/- A tree of prefixes stays one: plain laws. -/
namespace Go.Proofs.Yticgkaanaimllaa.Ev
set_option linter.unusedSimpArgs false
set_option linter.unusedVariables false

theorem with_nodes {w a k : Nat} {v : Int} (hm : a &&& maskN w k = a) : ∀ {t : PT} {x : Nat × Nat}, x ∈ (withP w a k v t).nodes →
    x ∈ t.nodes ∨ x = (a, k) ∨ ∃ y ∈ t.nodes, x = (a &&& maskN w (cmp w y.1 y.2 a k), cmp w y.1 y.2 a k) ∧ cmp w y.1 y.2 a k ≠ y.2 ∧ cmp w y.1 y.2 a k ≠ k
  | .nil, x, h => by
    simp only [withP, PT.nodes, List.append_nil, List.mem_cons, List.not_mem_nil, or_false] at h
    exact .inr (.inl h)
  | .node c n f u l r, x, h => by
    rw [withP] at h
    by_cases e1 : cmp w c n a k = n ∧ cmp w c n a k = k
    · rw [if_pos e1] at h
      exact .inl h
    · rw [if_neg e1] at h
      by_cases e2 : cmp w c n a k = n
      · rw [if_pos e2] at h
        have lift : ∀ {s : PT}, (∀ y ∈ s.nodes, y ∈ (PT.node c n f u l r).nodes) → (x ∈ s.nodes ∨ x = (a, k) ∨ ∃ y ∈ s.nodes, x = (a &&& maskN w (cmp w y.1 y.2 a k), cmp w y.1 y.2 a k) ∧ cmp w y.1 y.2 a k ≠ y.2 ∧ cmp w y.1 y.2 a k ≠ k) →
            (x ∈ (PT.node c n f u l r).nodes ∨ x = (a, k) ∨ ∃ y ∈ (PT.node c n f u l r).nodes, x = (a &&& maskN w (cmp w y.1 y.2 a k), cmp w y.1 y.2 a k) ∧ cmp w y.1 y.2 a k ≠ y.2 ∧ cmp w y.1 y.2 a k ≠ k) := fun hs q => by
          rcases q with q | q | ⟨y, q1, q2⟩
          · exact .inl (hs _ q)
          · exact .inr (.inl q)
          · exact .inr (.inr ⟨y, hs _ q1, q2⟩)
        have hl : ∀ y ∈ l.nodes, y ∈ (PT.node c n f u l r).nodes := fun y hy => by simp [PT.nodes, hy]
        have hr : ∀ y ∈ r.nodes, y ∈ (PT.node c n f u l r).nodes := fun y hy => by simp [PT.nodes, hy]
        split at h
        · simp only [PT.nodes, List.mem_cons, List.mem_append] at h
          rcases h with h | h | h
          · exact .inl (by simp [PT.nodes, h])
          · exact lift hl (with_nodes hm h)
          · exact .inl (hr _ h)
        · simp only [PT.nodes, List.mem_cons, List.mem_append] at h
          rcases h with h | h | h
          · exact .inl (by simp [PT.nodes, h])
          · exact .inl (hl _ h)
          · exact lift hr (with_nodes hm h)
      · rw [if_neg e2] at h
        have old : ∀ {s : PT × PT} {j : Nat}, (x ∈ (setK j (PT.node c n f u l r) s).1.nodes ∨ x ∈ (setK j (PT.node c n f u l r) s).2.nodes) → x ∈ (PT.node c n f u l r).nodes ∨ x ∈ s.1.nodes ∨ x ∈ s.2.nodes := fun {s j} q => by
          unfold setK at q
          split at q
          · rcases q with q | q
            · exact .inl q
            · exact .inr (.inr q)
          · rcases q with q | q
            · exact .inr (.inl q)
            · exact .inl q
        by_cases e3 : cmp w c n a k = k
        · rw [if_pos e3, e3, hm] at h
          simp only [PT.nodes, List.mem_cons, List.mem_append] at h
          rcases h with h | h
          · exact .inr (.inl h)
          · rcases old h with q | q | q
            · exact .inl q
            · cases q
            · cases q
        · rw [if_neg e3] at h
          simp only [PT.nodes, List.mem_cons, List.mem_append] at h
          rcases h with h | h
          · exact .inr (.inr ⟨(c, n), by simp [PT.nodes], h, e2, e3⟩)
          · have new : x ∈ (PT.node a k true v .nil .nil).nodes ∨ x ∈ (setK (sideN w c (cmp w c n a k)) (PT.node c n f u l r) (.nil, .nil)).1.nodes ∨ x ∈ (setK (sideN w c (cmp w c n a k)) (PT.node c n f u l r) (.nil, .nil)).2.nodes := by
              have : ∀ (j : Nat) (s : PT × PT), (x ∈ (setK j (PT.node a k true v .nil .nil) s).1.nodes ∨ x ∈ (setK j (PT.node a k true v .nil .nil) s).2.nodes) → x ∈ (PT.node a k true v .nil .nil).nodes ∨ x ∈ s.1.nodes ∨ x ∈ s.2.nodes := fun j s q => by
                unfold setK at q
                split at q
                · rcases q with q | q
                  · exact .inl q
                  · exact .inr (.inr q)
                · rcases q with q | q
                  · exact .inr (.inl q)
                  · exact .inl q
              exact this _ _ h
            rcases new with q | q
            · simp only [PT.nodes, List.append_nil, List.mem_cons, List.not_mem_nil, or_false] at q
              exact .inr (.inl q)
            · rcases old q with q | q | q
              · exact .inl q
              · cases q
              · cases q

/-- What lies on one side of a node stays there. -/
theorem kid_ok {w a k c n s : Nat} {v : Int} {t : PT} (hw : w ≤ 128) (ha : a < 2 ^ w) (hk : k ≤ w) (hm : a &&& maskN w k = a) (hn : n < k) (hU : Und w c n a) (hs : sideN w a n = s) (ht : PW w t)
    (h : ∀ x ∈ t.nodes, n < x.2 ∧ Und w c n x.1 ∧ sideN w x.1 n = s) : ∀ x ∈ (withP w a k v t).nodes, n < x.2 ∧ Und w c n x.1 ∧ sideN w x.1 n = s := by
  intro x hx
  rcases with_nodes hm hx with q | rfl | ⟨y, q1, rfl, q3, q4⟩
  · exact h x q
  · exact ⟨hn, hU, hs⟩
  · obtain ⟨y1, y2, y3⟩ := h y q1
    obtain ⟨z1, z2⟩ := nodes_ok ht y q1
    have hU2 : Und w y.1 (n + 1) a := (und_succ (by omega)).2 ⟨y2.symm.trans hU, by rw [y3, hs]⟩
    have h1 := (cmn_ge (show n + 1 ≤ w by omega) z2 ha).2 hU2
    have h2 : n < cmp w y.1 y.2 a k := by unfold cmp; omega
    have hmw : cmp w y.1 y.2 a k ≤ w := by unfold cmp; omega
    have hc := cut_und (m := cmp w y.1 y.2 a k) hw hmw ha
    refine ⟨h2, hU.trans (hc.less (Nat.le_of_lt h2)).symm, ?_⟩
    simp only
    rw [und_bit hc h2 hmw]
    exact hs

theorem with_pw {w a k : Nat} {v : Int} (hw : w ≤ 128) (ha : a < 2 ^ w) (hk : k ≤ w) (hm : a &&& maskN w k = a) : ∀ {t : PT}, PW w t → PW w (withP w a k v t)
  | .nil, _ => ⟨hk, ha, fun x h => (by cases h), fun x h => (by cases h), trivial, trivial⟩
  | .node c n f u l r, hold => by
    obtain ⟨h1, h2, h3, h4, h5, h6⟩ := hold
    have hle : cmp w c n a k ≤ n ∧ cmp w c n a k ≤ k := by unfold cmp; omega
    rw [withP]
    by_cases e1 : cmp w c n a k = n ∧ cmp w c n a k = k
    · rw [if_pos e1]
      exact ⟨h1, h2, h3, h4, h5, h6⟩
    · rw [if_neg e1]
      by_cases e2 : cmp w c n a k = n
      · rw [if_pos e2]
        have hnk : n < k := by
          have : ¬ n = k := fun q => e1 ⟨e2, e2.trans q⟩
          omega
        have hU := ((cmp_eq h1 h2 ha).1 e2).2
        rcases sideN_two w a n with hs | hs
        · rw [if_pos hs]
          exact ⟨h1, h2, kid_ok hw ha hk hm hnk hU hs h5 h3, h4, with_pw hw ha hk hm h5, h6⟩
        · rw [if_neg (by omega)]
          exact ⟨h1, h2, h3, kid_ok hw ha hk hm hnk hU hs h6 h4, h5, with_pw hw ha hk hm h6⟩
      · rw [if_neg e2]
        have hold : PW w (.node c n f u l r) := ⟨h1, h2, h3, h4, h5, h6⟩
        have hU := cmp_und (k := k) h1 h2 ha
        have hne := fun e3 => side_ne h2 ha h1 (rfl : cmp w c n a k = _) e2 e3
        generalize cmp w c n a k = m at *
        have hmn : m < n := by omega
        have hmw : m ≤ w := by omega
        have hc := cut_und hw hmw ha
        have hlt := cut_lt (m := m) ha
        have olds : ∀ x ∈ (PT.node c n f u l r).nodes, m < x.2 ∧ Und w (a &&& maskN w m) m x.1 ∧ sideN w x.1 m = sideN w c m := fun x hx => by
          have key : ∀ x : Nat × Nat, n ≤ x.2 → Und w c n x.1 → m < x.2 ∧ Und w (a &&& maskN w m) m x.1 ∧ sideN w x.1 m = sideN w c m := fun x q1 q2 =>
            ⟨by omega, (hc.trans hU.symm).trans (q2.less (Nat.le_of_lt hmn)), (und_bit q2 hmn h1).symm⟩
          simp only [PT.nodes, List.mem_cons, List.mem_append] at hx
          rcases hx with rfl | hx | hx
          · exact key _ (Nat.le_refl _) Und.refl
          · exact key _ (Nat.le_of_lt (h3 x hx).1) (h3 x hx).2.1
          · exact key _ (Nat.le_of_lt (h4 x hx).1) (h4 x hx).2.1
        have none_ : ∀ (s : Nat), ∀ x ∈ PT.nil.nodes, m < x.2 ∧ Und w (a &&& maskN w m) m x.1 ∧ sideN w x.1 m = s := fun s x h => by cases h
        by_cases e3 : m = k
        · rw [if_pos e3]
          rcases sideN_two w c m with hs | hs
          · simp only [setK, hs, if_true]
            rw [hs] at olds
            exact ⟨hmw, hlt, olds, none_ 1, hold, trivial⟩
          · simp only [setK, show ¬ sideN w c m = 0 by omega, if_false]
            rw [hs] at olds
            exact ⟨hmw, hlt, none_ 0, olds, trivial, hold⟩
        · rw [if_neg e3]
          have hleaf : PW w (.node a k true v .nil .nil) := ⟨hk, ha, fun x h => (by cases h), fun x h => (by cases h), trivial, trivial⟩
          have leaf : ∀ x ∈ (PT.node a k true v .nil .nil).nodes, m < x.2 ∧ Und w (a &&& maskN w m) m x.1 ∧ sideN w x.1 m = sideN w a m := fun x hx => by
            simp only [PT.nodes, List.append_nil, List.mem_cons, List.not_mem_nil, or_false] at hx
            subst hx
            exact ⟨by simp only; omega, hc, rfl⟩
          have hne2 := hne e3
          rcases sideN_two w c m with hs | hs
          · have hs2 : sideN w a m = 1 := by rcases sideN_two w a m with q | q <;> omega
            simp only [setK, hs, hs2, if_true, Nat.one_ne_zero, if_false]
            rw [hs] at olds
            rw [hs2] at leaf
            exact ⟨hmw, hlt, olds, leaf, hold, hleaf⟩
          · have hs2 : sideN w a m = 0 := by rcases sideN_two w a m with q | q <;> omega
            simp only [setK, hs, hs2, if_true, Nat.one_ne_zero, if_false]
            rw [hs] at olds
            rw [hs2] at leaf
            exact ⟨hmw, hlt, leaf, olds, hleaf, hold⟩

end Go.Proofs.Yticgkaanaimllaa.Ev

/- The document's bits. -/
namespace Go.Proofs.Yticgkaanaimllaa.Ev
set_option maxRecDepth 100000
set_option linter.unusedSimpArgs false
set_option linter.unusedVariables false
variable {R : FRes → Heap → Prop} {H : Heap}

theorem bin_quo {k : IntKind} {a b : Nat} (hb : 0 < b) : binV .quo (.int k (a : Int)) (.int k (b : Int)) = some (.int k (k.wrap ((a / b : Nat) : Int))) := by
  have h0 : ¬ (b : Int) = 0 := by omega
  have : pr (Op.intDiv .quo k (a : Int) (b : Int)) = some (.int k (k.wrap ((a : Int).tdiv (b : Int)))) := by unfold Op.intDiv; rw [if_neg h0]; rfl
  simp only [binV, intBin, if_true, if_neg h0, this]
  rfl
theorem bin_rem {k : IntKind} {a b : Nat} (hb : 0 < b) : binV .rem (.int k (a : Int)) (.int k (b : Int)) = some (.int k ((a % b : Nat) : Int)) := by
  have h0 : ¬ (b : Int) = 0 := by omega
  have : pr (Op.intDiv .rem k (a : Int) (b : Int)) = some (.int k ((a : Int).tmod (b : Int))) := by unfold Op.intDiv; rw [if_neg h0]; rfl
  simp only [binV, intBin, if_true, if_neg h0, this]
  rfl

theorem bit_shr {z i : Nat} : (z >>> i) % 2 = if z.testBit i = true then 1 else 0 := by
  rw [Nat.testBit_eq_decide_div_mod_eq, Nat.shiftRight_eq_div_pow]
  simp only [decide_eq_true_eq]
  split <;> omega

/-- So many halvings are left. -/
def bitI (z : Nat) (i0 : Nat) (H : Heap) (o : AObj) : Nat → Env → Heap → Prop := fun n e H' =>
  ∃ j : Nat, j ≤ i0 ∧ n = i0 - j ∧ H' = H ++ [o] ∧ (∃ x : Nat → Value, e = [x 0, .int .i64 ((i0 - j : Nat) : Int), x 2, x 3, x 4, .int .u64 ((z >>> j : Nat) : Int), x 6, x 7, x 8, x 9, x 10, x 11, x 12, x 13, x 14, x 15, x 16, x 17, x 18, x 19, x 20, x 21, x 22])

theorem refbit_t {a i : Nat} (ha : a < 2 ^ 128) (hi : i < 128) (h : R (.ret (.bool (a.testBit i))) H) : WD T 41 [bvA a, .int .i64 i] H R := by
  refine WD.gc0 (WD.of follows t41 (by simp) ?_)
  have b1 := hi_lt ha
  have b2 := lo_lt a
  -- the loop and what is behind it
  have key : ∀ (z i0 : Nat) (o : AObj) (e : Env), z < 18446744073709551616 → i0 < 128 → (∃ x : Nat → Value, e = [x 0, .int .i64 ((i0 : Nat) : Int), x 2, x 3, x 4, .int .u64 ((z : Nat) : Int), x 6, x 7, x 8, x 9, x 10, x 11, x 12, x 13, x 14, x 15, x 16, x 17, x 18, x 19, x 20, x 21, x 22]) → (z >>> i0) % 2 = (if a.testBit i = true then 1 else 0) →
      WC T (g41.body.at [1, 1, 1]) e (H ++ [o]) (retK [.tmp 4] fun r H1 => ∃ v, r = .ret v ∧ (∃ g, H1 = H ++ g) ∧ Scoped H.length v ∧ R (.ret v) H) := by
    intro z i0 o e hz hi0 he hfin
    obtain ⟨y, rfl⟩ := he
    simp only [AFunc.body, g41, ACode.at]
    simp (disch := omega) only [kaa, kab, kac, kad, khm, khn, kho, khp, khq, khr, kae, kaf, kag, kah, kai, kaj, kak, kal, kam, kan, kao, khe, khf, khg, khh, khi, khj, khk, khl, kap, kaq, kar, kas, kat, kau, kav, kaw, kax, kay, kaz, kba, kbb, kbc, kbd, kbe, kbf, kbg, kbh, kbi, kbj, kbk, kbl, kbm, kbn, kbo, kbp, kbq, kbr, kbs, kbt, kbu, kbv, kbw, kbx, kby, kbz, kca, kcb, kcc, kcd, kce, kcf, kcg, kch, kci, kcj, kck, kcl, kcm, aop, kcn, kco, kcp, kcq, kcr, kcs, kct, kcu, kcv, kcw, resultsL, resultOf, kcx, Nat.reduceEqDiff, kcy, kcz, kda, reduceCtorEq, kdb, kdc, kdd, kde, kdf, kdg, kdh, kdi, kdj, kdk, kdl, kdm, kdn, kdo, eq1, kdp, kdq, kdr, kds, kdt, kdu, kdv, kdw, kdx, kdy, kdz, kea, keb, kec, apartOK, apart2, AObj.live, ked, kee, kef, keg, keh, kei, kej, kek, kel, Int.reduceEq, Int.reduceLT, Int.reduceLE, Int.reduceAdd, Int.reduceSub, Int.reduceMul, Int.reduceToNat, kem, ken, keo, kep, keq, ker, kes, ket, keu, kev, kew, kex, key, kez, kfa, kfb, kfc, kfd, kfe, kff, kfg, kfh, kfi, kfj, kfk, kfl, cutCells, kfm, kfn, kfo, kfp, kfq, kfr, kfs, kft, kfu, kfv, kfw, kfx, kfy, Nat.reduceAdd, Nat.reduceLeDiff, Nat.reduceLT, Nat.reduceMul, Nat.reduceSub, kfz, kga, kgb, kgc, kgd, kge, kgf, kgg, kgh, kgi, kgj, kgk, kgl, kgm, kgn, kgo, kgp, kgq, kgr, kgs, kgt, kgu, kgv, kgw, kgx, kgy, kgz, kha, khb, khc, khd]
    refine WLoop.inv (bitI z i0 H o) ?_ i0 _ _ ⟨0, by omega, rfl, rfl, by exact ex_env rfl⟩
    rintro n e H' ⟨j, k1, rfl, rfl, ⟨x, rfl⟩⟩
    by_cases hj : j < i0
    · have hj' : (0 : Int) < ((i0 - j : Nat) : Int) := by omega
      have hzj : z >>> j < 18446744073709551616 := Nat.lt_of_le_of_lt (Nat.shiftRight_le _ _) hz
      have e1 := bin_quo (k := .u64) (a := z >>> j) (b := 2) (by decide)
      have e2 : (((2 : Nat) : Int)) = 2 := rfl
      have e3 : IntKind.wrap .u64 ((z >>> j / 2 : Nat) : Int) = ((z >>> (j + 1) : Nat) : Int) := by
        rw [u64_nat (by omega), Nat.shiftRight_succ]
      rw [e2, e3] at e1
      have e4 : ((i0 - j : Nat) : Int) - 1 = ((i0 - (j + 1) : Nat) : Int) := by omega
      simp (disch := omega) only [kaa, kab, kac, kad, khm, khn, kho, khp, khq, khr, kae, kaf, kag, kah, kai, kaj, kak, kal, kam, kan, kao, khe, khf, khg, khh, khi, khj, khk, khl, kap, kaq, kar, kas, kat, kau, kav, kaw, kax, kay, kaz, kba, kbb, kbc, kbd, kbe, kbf, kbg, kbh, kbi, kbj, kbk, kbl, kbm, kbn, kbo, kbp, kbq, kbr, kbs, kbt, kbu, kbv, kbw, kbx, kby, kbz, kca, kcb, kcc, kcd, kce, kcf, kcg, kch, kci, kcj, kck, kcl, kcm, aop, kcn, kco, kcp, kcq, kcr, kcs, kct, kcu, kcv, kcw, resultsL, resultOf, kcx, Nat.reduceEqDiff, kcy, kcz, kda, reduceCtorEq, kdb, kdc, kdd, kde, kdf, kdg, kdh, kdi, kdj, kdk, kdl, kdm, kdn, kdo, eq1, kdp, kdq, kdr, kds, kdt, kdu, kdv, kdw, kdx, kdy, kdz, kea, keb, kec, apartOK, apart2, AObj.live, ked, kee, kef, keg, keh, kei, kej, kek, kel, Int.reduceEq, Int.reduceLT, Int.reduceLE, Int.reduceAdd, Int.reduceSub, Int.reduceMul, Int.reduceToNat, kem, ken, keo, kep, keq, ker, kes, ket, keu, kev, kew, kex, key, kez, kfa, kfb, kfc, kfd, kfe, kff, kfg, kfh, kfi, kfj, kfk, kfl, cutCells, kfm, kfn, kfo, kfp, kfq, kfr, kfs, kft, kfu, kfv, kfw, kfx, kfy, Nat.reduceAdd, Nat.reduceLeDiff, Nat.reduceLT, Nat.reduceMul, Nat.reduceSub, kfz, kga, kgb, kgc, kgd, kge, kgf, kgg, kgh, kgi, kgj, kgk, kgl, kgm, kgn, kgo, kgp, kgq, kgr, kgs, kgt, kgu, kgv, kgw, kgx, kgy, kgz, kha, khb, khc, khd, hj', e1, wr_i64, e4]
      exact ⟨i0 - (j + 1), by omega, j + 1, by omega, rfl, rfl, ex_env rfl⟩
    · obtain rfl : j = i0 := by omega
      have hj' : ¬ (0 : Int) < ((j - j : Nat) : Int) := by omega
      have e1 := bin_rem (k := .u64) (a := z >>> j) (b := 2) (by decide)
      have e2 : (((2 : Nat) : Int)) = 2 := rfl
      rw [e2, hfin] at e1
      cases hb : a.testBit i with
      | true =>
        rw [hb] at e1 h
        have e8 : (((if true = true then 1 else 0 : Nat)) : Int) = 1 := rfl
        rw [e8] at e1
        simp (disch := omega) only [kaa, kab, kac, kad, khm, khn, kho, khp, khq, khr, kae, kaf, kag, kah, kai, kaj, kak, kal, kam, kan, kao, khe, khf, khg, khh, khi, khj, khk, khl, kap, kaq, kar, kas, kat, kau, kav, kaw, kax, kay, kaz, kba, kbb, kbc, kbd, kbe, kbf, kbg, kbh, kbi, kbj, kbk, kbl, kbm, kbn, kbo, kbp, kbq, kbr, kbs, kbt, kbu, kbv, kbw, kbx, kby, kbz, kca, kcb, kcc, kcd, kce, kcf, kcg, kch, kci, kcj, kck, kcl, kcm, aop, kcn, kco, kcp, kcq, kcr, kcs, kct, kcu, kcv, kcw, resultsL, resultOf, kcx, Nat.reduceEqDiff, kcy, kcz, kda, reduceCtorEq, kdb, kdc, kdd, kde, kdf, kdg, kdh, kdi, kdj, kdk, kdl, kdm, kdn, kdo, eq1, kdp, kdq, kdr, kds, kdt, kdu, kdv, kdw, kdx, kdy, kdz, kea, keb, kec, apartOK, apart2, AObj.live, ked, kee, kef, keg, keh, kei, kej, kek, kel, Int.reduceEq, Int.reduceLT, Int.reduceLE, Int.reduceAdd, Int.reduceSub, Int.reduceMul, Int.reduceToNat, kem, ken, keo, kep, keq, ker, kes, ket, keu, kev, kew, kex, key, kez, kfa, kfb, kfc, kfd, kfe, kff, kfg, kfh, kfi, kfj, kfk, kfl, cutCells, kfm, kfn, kfo, kfp, kfq, kfr, kfs, kft, kfu, kfv, kfw, kfx, kfy, Nat.reduceAdd, Nat.reduceLeDiff, Nat.reduceLT, Nat.reduceMul, Nat.reduceSub, kfz, kga, kgb, kgc, kgd, kge, kgf, kgg, kgh, kgi, kgj, kgk, kgl, kgm, kgn, kgo, kgp, kgq, kgr, kgs, kgt, kgu, kgv, kgw, kgx, kgy, kgz, kha, khb, khc, khd, hj', e1]
        exact ⟨_, rfl, ⟨_, rfl⟩, .closed rfl, h⟩
      | false =>
        rw [hb] at e1 h
        have e8 : (((if false = true then 1 else 0 : Nat)) : Int) = 0 := rfl
        rw [e8] at e1
        simp (disch := omega) only [kaa, kab, kac, kad, khm, khn, kho, khp, khq, khr, kae, kaf, kag, kah, kai, kaj, kak, kal, kam, kan, kao, khe, khf, khg, khh, khi, khj, khk, khl, kap, kaq, kar, kas, kat, kau, kav, kaw, kax, kay, kaz, kba, kbb, kbc, kbd, kbe, kbf, kbg, kbh, kbi, kbj, kbk, kbl, kbm, kbn, kbo, kbp, kbq, kbr, kbs, kbt, kbu, kbv, kbw, kbx, kby, kbz, kca, kcb, kcc, kcd, kce, kcf, kcg, kch, kci, kcj, kck, kcl, kcm, aop, kcn, kco, kcp, kcq, kcr, kcs, kct, kcu, kcv, kcw, resultsL, resultOf, kcx, Nat.reduceEqDiff, kcy, kcz, kda, reduceCtorEq, kdb, kdc, kdd, kde, kdf, kdg, kdh, kdi, kdj, kdk, kdl, kdm, kdn, kdo, eq1, kdp, kdq, kdr, kds, kdt, kdu, kdv, kdw, kdx, kdy, kdz, kea, keb, kec, apartOK, apart2, AObj.live, ked, kee, kef, keg, keh, kei, kej, kek, kel, Int.reduceEq, Int.reduceLT, Int.reduceLE, Int.reduceAdd, Int.reduceSub, Int.reduceMul, Int.reduceToNat, kem, ken, keo, kep, keq, ker, kes, ket, keu, kev, kew, kex, key, kez, kfa, kfb, kfc, kfd, kfe, kff, kfg, kfh, kfi, kfj, kfk, kfl, cutCells, kfm, kfn, kfo, kfp, kfq, kfr, kfs, kft, kfu, kfv, kfw, kfx, kfy, Nat.reduceAdd, Nat.reduceLeDiff, Nat.reduceLT, Nat.reduceMul, Nat.reduceSub, kfz, kga, kgb, kgc, kgd, kge, kgf, kgg, kgh, kgi, kgj, kgk, kgl, kgm, kgn, kgo, kgp, kgq, kgr, kgs, kgt, kgu, kgv, kgw, kgx, kgy, kgz, kha, khb, khc, khd, hj', e1]
        exact ⟨_, rfl, ⟨_, rfl⟩, .closed rfl, h⟩
  obtain ⟨Z, hZ⟩ : ∃ Z, Z = WC T (g41.body.at [1, 1, 1]) := ⟨_, rfl⟩
  rw [← hZ] at key
  have hZ' := hZ.symm
  clear hZ
  simp only [AFunc.body, g41, ACode.at] at hZ'
  by_cases h64 : (63 : Int) < (i : Int)
  · have e1 : (i : Int) - 64 = ((i - 64 : Nat) : Int) := by omega
    simp (disch := omega) only [kaa, kab, kac, kad, khm, khn, kho, khp, khq, khr, kae, kaf, kag, kah, kai, kaj, kak, kal, kam, kan, kao, khe, khf, khg, khh, khi, khj, khk, khl, kap, kaq, kar, kas, kat, kau, kav, kaw, kax, kay, kaz, kba, kbb, kbc, kbd, kbe, kbf, kbg, kbh, kbi, kbj, kbk, kbl, kbm, kbn, kbo, kbp, kbq, kbr, kbs, kbt, kbu, kbv, kbw, kbx, kby, kbz, kca, kcb, kcc, kcd, kce, kcf, kcg, kch, kci, kcj, kck, kcl, kcm, aop, kcn, kco, kcp, kcq, kcr, kcs, kct, kcu, kcv, kcw, resultsL, resultOf, kcx, Nat.reduceEqDiff, kcy, kcz, kda, reduceCtorEq, kdb, kdc, kdd, kde, kdf, kdg, kdh, kdi, kdj, kdk, kdl, kdm, kdn, kdo, eq1, kdp, kdq, kdr, kds, kdt, kdu, kdv, kdw, kdx, kdy, kdz, kea, keb, kec, apartOK, apart2, AObj.live, ked, kee, kef, keg, keh, kei, kej, kek, kel, Int.reduceEq, Int.reduceLT, Int.reduceLE, Int.reduceAdd, Int.reduceSub, Int.reduceMul, Int.reduceToNat, kem, ken, keo, kep, keq, ker, kes, ket, keu, kev, kew, kex, key, kez, kfa, kfb, kfc, kfd, kfe, kff, kfg, kfh, kfi, kfj, kfk, kfl, cutCells, kfm, kfn, kfo, kfp, kfq, kfr, kfs, kft, kfu, kfv, kfw, kfx, kfy, Nat.reduceAdd, Nat.reduceLeDiff, Nat.reduceLT, Nat.reduceMul, Nat.reduceSub, kfz, kga, kgb, kgc, kgd, kge, kgf, kgg, kgh, kgi, kgj, kgk, kgl, kgm, kgn, kgo, kgp, kgq, kgr, kgs, kgt, kgu, kgv, kgw, kgx, kgy, kgz, kha, khb, khc, khd, h64, hZ', wr_i64, e1]
    refine key (a / W64) (i - 64) _ _ b1 (by omega) (by exact ex_env rfl) ?_
    rw [W64, ← Nat.shiftRight_eq_div_pow, ← Nat.shiftRight_add, show 64 + (i - 64) = i by omega]
    exact bit_shr
  · simp (disch := omega) only [kaa, kab, kac, kad, khm, khn, kho, khp, khq, khr, kae, kaf, kag, kah, kai, kaj, kak, kal, kam, kan, kao, khe, khf, khg, khh, khi, khj, khk, khl, kap, kaq, kar, kas, kat, kau, kav, kaw, kax, kay, kaz, kba, kbb, kbc, kbd, kbe, kbf, kbg, kbh, kbi, kbj, kbk, kbl, kbm, kbn, kbo, kbp, kbq, kbr, kbs, kbt, kbu, kbv, kbw, kbx, kby, kbz, kca, kcb, kcc, kcd, kce, kcf, kcg, kch, kci, kcj, kck, kcl, kcm, aop, kcn, kco, kcp, kcq, kcr, kcs, kct, kcu, kcv, kcw, resultsL, resultOf, kcx, Nat.reduceEqDiff, kcy, kcz, kda, reduceCtorEq, kdb, kdc, kdd, kde, kdf, kdg, kdh, kdi, kdj, kdk, kdl, kdm, kdn, kdo, eq1, kdp, kdq, kdr, kds, kdt, kdu, kdv, kdw, kdx, kdy, kdz, kea, keb, kec, apartOK, apart2, AObj.live, ked, kee, kef, keg, keh, kei, kej, kek, kel, Int.reduceEq, Int.reduceLT, Int.reduceLE, Int.reduceAdd, Int.reduceSub, Int.reduceMul, Int.reduceToNat, kem, ken, keo, kep, keq, ker, kes, ket, keu, kev, kew, kex, key, kez, kfa, kfb, kfc, kfd, kfe, kff, kfg, kfh, kfi, kfj, kfk, kfl, cutCells, kfm, kfn, kfo, kfp, kfq, kfr, kfs, kft, kfu, kfv, kfw, kfx, kfy, Nat.reduceAdd, Nat.reduceLeDiff, Nat.reduceLT, Nat.reduceMul, Nat.reduceSub, kfz, kga, kgb, kgc, kgd, kge, kgf, kgg, kgh, kgi, kgj, kgk, kgl, kgm, kgn, kgo, kgp, kgq, kgr, kgs, kgt, kgu, kgv, kgw, kgx, kgy, kgz, kha, khb, khc, khd, h64, hZ']
    refine key (a % W64) i _ _ b2 (by omega) (by exact ex_env rfl) ?_
    rw [bit_shr, W64, Nat.testBit_mod_two_pow, decide_eq_true (show i < 64 by omega), Bool.true_and]

end Go.Proofs.Yticgkaanaimllaa.Ev

/- The document's text of bits. -/
namespace Go.Proofs.Yticgkaanaimllaa.Ev
set_option maxRecDepth 100000
set_option linter.unusedSimpArgs false
set_option linter.unusedVariables false
variable {R : FRes → Heap → Prop} {H : Heap}

def u8c (b : UInt8) : Value := .int .u8 b.toNat
theorem bytes_u8 : ∀ l : List UInt8, bytesOf (l.map u8c) = some l
  | [] => rfl
  | b :: l => by
    rw [List.map_cons, u8c, bytesOf, bytes_u8 l]
    simp

/-- A number's bits as a text. -/
def bitC (b : Bool) : UInt8 := if b then 49 else 48
def bitS (w a : Nat) : List UInt8 := (List.range w).map fun i => bitC (a.testBit (w - 1 - i))
theorem bitS_len (w a : Nat) : (bitS w a).length = w := by simp [bitS]
theorem bitS_take {w a q : Nat} (hq : q < w) : (bitS w a).take (w - q) = (bitS w a).take (w - (q + 1)) ++ [bitC (a.testBit q)] := by
  rw [show w - q = (w - (q + 1)) + 1 by omega, List.take_add_one]
  congr 1
  have : w - (q + 1) < (bitS w a).length := by rw [bitS_len]; omega
  rw [List.getElem?_eq_getElem this]
  simp only [bitS, List.getElem_map, List.getElem_range, Option.toList_some]
  rw [show w - 1 - (w - (q + 1)) = q by omega]

/-- Bytes that were put together. -/
def BS (n0 : Nat) (G : Heap) (sv : Value) (L : List UInt8) : Prop :=
  (L = [] ∧ sv = .slice none 0 0) ∨ (L ≠ [] ∧ ∃ k, k ≠ 0 ∧ sv = .slice (some ⟨n0 + k, 0, none⟩) L.length L.length ∧ hget G k = .row (L.map u8c) 1 true)

def bitsI (w a : Nat) (H : Heap) : Nat → Env → Heap → Prop := fun n e H' =>
  ∃ (q : Nat) (G : Heap) (sv : Value), q ≤ 128 ∧ n = q ∧ H' = H ++ G ∧ hget G 0 = boxRow a ∧ BS H.length G sv ((bitS w a).take (w - q)) ∧ (∀ j, q ≤ j → w ≤ j → a.testBit j = false) ∧
    (∃ x : Nat → Value, e = [x 0, .int .i64 (w : Int), .pointer (some ⟨H.length, 0, none⟩), x 3, x 4, x 5, sv, .int .i64 ((q : Int) - 1), x 8, x 9, x 10, x 11, x 12, x 13, x 14, x 15, x 16, x 17, x 18, x 19, x 20, x 21, x 22, x 23, x 24, x 25, x 26, x 27, x 28, x 29, x 30, x 31, x 32])

theorem refbits_t {w a : Nat} (hw : 1 ≤ w) (hw2 : w ≤ 128) (ha : a < 2 ^ 128)
    (h : R (.ret (if a < 2 ^ w then .tuple #[.string (bs (bitS w a)), .bool true] else .tuple #[.string (bs []), .bool false])) H) : WD T 11 [bvA a, .int .i64 (w : Int)] H R := by
  refine WD.gc0 (WD.of follows t11 (by simp) ?_)
  simp (disch := omega) only [kaa, kab, kac, kad, khm, khn, kho, khp, khq, khr, kae, kaf, kag, kah, kai, kaj, kak, kal, kam, kan, kao, khe, khf, khg, khh, khi, khj, khk, khl, kap, kaq, kar, kas, kat, kau, kav, kaw, kax, kay, kaz, kba, kbb, kbc, kbd, kbe, kbf, kbg, kbh, kbi, kbj, kbk, kbl, kbm, kbn, kbo, kbp, kbq, kbr, kbs, kbt, kbu, kbv, kbw, kbx, kby, kbz, kca, kcb, kcc, kcd, kce, kcf, kcg, kch, kci, kcj, kck, kcl, kcm, aop, kcn, kco, kcp, kcq, kcr, kcs, kct, kcu, kcv, kcw, resultsL, resultOf, kcx, Nat.reduceEqDiff, kcy, kcz, kda, reduceCtorEq, kdb, kdc, kdd, kde, kdf, kdg, kdh, kdi, kdj, kdk, kdl, kdm, kdn, kdo, eq1, kdp, kdq, kdr, kds, kdt, kdu, kdv, kdw, kdx, kdy, kdz, kea, keb, kec, apartOK, apart2, AObj.live, ked, kee, kef, keg, keh, kei, kej, kek, kel, Int.reduceEq, Int.reduceLT, Int.reduceLE, Int.reduceAdd, Int.reduceSub, Int.reduceMul, Int.reduceToNat, kem, ken, keo, kep, keq, ker, kes, ket, keu, kev, kew, kex, key, kez, kfa, kfb, kfc, kfd, kfe, kff, kfg, kfh, kfi, kfj, kfk, kfl, cutCells, kfm, kfn, kfo, kfp, kfq, kfr, kfs, kft, kfu, kfv, kfw, kfx, kfy, Nat.reduceAdd, Nat.reduceLeDiff, Nat.reduceLT, Nat.reduceMul, Nat.reduceSub, kfz, kga, kgb, kgc, kgd, kge, kgf, kgg, kgh, kgi, kgj, kgk, kgl, kgm, kgn, kgo, kgp, kgq, kgr, kgs, kgt, kgu, kgv, kgw, kgx, kgy, kgz, kha, khb, khc, khd]
  refine WLoop.inv (bitsI w a H) ?_ 128 _ _ ⟨128, _, _, by omega, rfl, rfl, rfl, .inl ⟨by rw [show w - 128 = 0 by omega]; rfl, rfl⟩, fun j hj _ => lt_bit ha hj, ex_env rfl⟩
  rintro q e H' ⟨_, G, sv, hq, rfl, rfl, g0, hbs, hz, ⟨x, rfl⟩⟩
  have l0 := hget_lt g0 rfl
  cases q with
  | zero =>
    have hj : ¬ (0 : Int) ≤ ((0 : Nat) : Int) - 1 := by omega
    have hfit : a < 2 ^ w := Nat.lt_pow_two_of_testBit a fun i hi => hz i (by omega) hi
    rw [if_pos hfit] at h
    rw [Nat.sub_zero, List.take_of_length_le (by rw [bitS_len]; exact Nat.le_refl _)] at hbs
    rcases hbs with ⟨e1, _⟩ | ⟨_, k, k0, rfl, hk⟩
    · have := bitS_len w a
      rw [e1] at this
      simp at this
      omega
    · have hsrc : (srcCells (H ++ G) 1 (bitS w a).length (.slice (some ⟨H.length + k, 0, none⟩) (bitS w a).length (bitS w a).length)).bind bytesOf = some (bitS w a) := by
        simp only [srcCells, hget_base, hk, List.length_map, Nat.mul_one, Nat.zero_add, Nat.le_refl, if_true, List.drop_zero]
        rw [List.take_of_length_le (by simp)]
        exact bytes_u8 _
      simp (disch := omega) only [kaa, kab, kac, kad, khm, khn, kho, khp, khq, khr, kae, kaf, kag, kah, kai, kaj, kak, kal, kam, kan, kao, khe, khf, khg, khh, khi, khj, khk, khl, kap, kaq, kar, kas, kat, kau, kav, kaw, kax, kay, kaz, kba, kbb, kbc, kbd, kbe, kbf, kbg, kbh, kbi, kbj, kbk, kbl, kbm, kbn, kbo, kbp, kbq, kbr, kbs, kbt, kbu, kbv, kbw, kbx, kby, kbz, kca, kcb, kcc, kcd, kce, kcf, kcg, kch, kci, kcj, kck, kcl, kcm, aop, kcn, kco, kcp, kcq, kcr, kcs, kct, kcu, kcv, kcw, resultsL, resultOf, kcx, Nat.reduceEqDiff, kcy, kcz, kda, reduceCtorEq, kdb, kdc, kdd, kde, kdf, kdg, kdh, kdi, kdj, kdk, kdl, kdm, kdn, kdo, eq1, kdp, kdq, kdr, kds, kdt, kdu, kdv, kdw, kdx, kdy, kdz, kea, keb, kec, apartOK, apart2, AObj.live, ked, kee, kef, keg, keh, kei, kej, kek, kel, Int.reduceEq, Int.reduceLT, Int.reduceLE, Int.reduceAdd, Int.reduceSub, Int.reduceMul, Int.reduceToNat, kem, ken, keo, kep, keq, ker, kes, ket, keu, kev, kew, kex, key, kez, kfa, kfb, kfc, kfd, kfe, kff, kfg, kfh, kfi, kfj, kfk, kfl, cutCells, kfm, kfn, kfo, kfp, kfq, kfr, kfs, kft, kfu, kfv, kfw, kfx, kfy, Nat.reduceAdd, Nat.reduceLeDiff, Nat.reduceLT, Nat.reduceMul, Nat.reduceSub, kfz, kga, kgb, kgc, kgd, kge, kgf, kgg, kgh, kgi, kgj, kgk, kgl, kgm, kgn, kgo, kgp, kgq, kgr, kgs, kgt, kgu, kgv, kgw, kgx, kgy, kgz, kha, khb, khc, khd, hj, lenV, hsrc]
      exact ⟨_, rfl, ⟨_, rfl⟩, .tup2 .string (.closed rfl), h⟩
  | succ q =>
    have hj : (0 : Int) ≤ ((q + 1 : Nat) : Int) - 1 := by omega
    have e1 : ((q + 1 : Nat) : Int) - 1 = (q : Int) := by omega
    simp (disch := omega) only [kaa, kab, kac, kad, khm, khn, kho, khp, khq, khr, kae, kaf, kag, kah, kai, kaj, kak, kal, kam, kan, kao, khe, khf, khg, khh, khi, khj, khk, khl, kap, kaq, kar, kas, kat, kau, kav, kaw, kax, kay, kaz, kba, kbb, kbc, kbd, kbe, kbf, kbg, kbh, kbi, kbj, kbk, kbl, kbm, kbn, kbo, kbp, kbq, kbr, kbs, kbt, kbu, kbv, kbw, kbx, kby, kbz, kca, kcb, kcc, kcd, kce, kcf, kcg, kch, kci, kcj, kck, kcl, kcm, aop, kcn, kco, kcp, kcq, kcr, kcs, kct, kcu, kcv, kcw, resultsL, resultOf, kcx, Nat.reduceEqDiff, kcy, kcz, kda, reduceCtorEq, kdb, kdc, kdd, kde, kdf, kdg, kdh, kdi, kdj, kdk, kdl, kdm, kdn, kdo, eq1, kdp, kdq, kdr, kds, kdt, kdu, kdv, kdw, kdx, kdy, kdz, kea, keb, kec, apartOK, apart2, AObj.live, ked, kee, kef, keg, keh, kei, kej, kek, kel, Int.reduceEq, Int.reduceLT, Int.reduceLE, Int.reduceAdd, Int.reduceSub, Int.reduceMul, Int.reduceToNat, kem, ken, keo, kep, keq, ker, kes, ket, keu, kev, kew, kex, key, kez, kfa, kfb, kfc, kfd, kfe, kff, kfg, kfh, kfi, kfj, kfk, kfl, cutCells, kfm, kfn, kfo, kfp, kfq, kfr, kfs, kft, kfu, kfv, kfw, kfx, kfy, Nat.reduceAdd, Nat.reduceLeDiff, Nat.reduceLT, Nat.reduceMul, Nat.reduceSub, kfz, kga, kgb, kgc, kgd, kge, kgf, kgg, kgh, kgi, kgj, kgk, kgl, kgm, kgn, kgo, kgp, kgq, kgr, kgs, kgt, kgu, kgv, kgw, kgx, kgy, kgz, kha, khb, khc, khd, hj, e1, g0]
    refine refbit_t ha (by omega) ?_
    have e2 : ((q + 1 : Nat) : Int) - 1 - 1 = (q : Int) - 1 := by omega
    by_cases hwq : (w : Int) ≤ (q : Int)
    · cases hb : a.testBit q with
      | true =>
        have hfit : ¬ a < 2 ^ w := fun z => by rw [lt_bit z (by omega)] at hb; cases hb
        rw [if_neg hfit] at h
        simp (disch := omega) only [kaa, kab, kac, kad, khm, khn, kho, khp, khq, khr, kae, kaf, kag, kah, kai, kaj, kak, kal, kam, kan, kao, khe, khf, khg, khh, khi, khj, khk, khl, kap, kaq, kar, kas, kat, kau, kav, kaw, kax, kay, kaz, kba, kbb, kbc, kbd, kbe, kbf, kbg, kbh, kbi, kbj, kbk, kbl, kbm, kbn, kbo, kbp, kbq, kbr, kbs, kbt, kbu, kbv, kbw, kbx, kby, kbz, kca, kcb, kcc, kcd, kce, kcf, kcg, kch, kci, kcj, kck, kcl, kcm, aop, kcn, kco, kcp, kcq, kcr, kcs, kct, kcu, kcv, kcw, resultsL, resultOf, kcx, Nat.reduceEqDiff, kcy, kcz, kda, reduceCtorEq, kdb, kdc, kdd, kde, kdf, kdg, kdh, kdi, kdj, kdk, kdl, kdm, kdn, kdo, eq1, kdp, kdq, kdr, kds, kdt, kdu, kdv, kdw, kdx, kdy, kdz, kea, keb, kec, apartOK, apart2, AObj.live, ked, kee, kef, keg, keh, kei, kej, kek, kel, Int.reduceEq, Int.reduceLT, Int.reduceLE, Int.reduceAdd, Int.reduceSub, Int.reduceMul, Int.reduceToNat, kem, ken, keo, kep, keq, ker, kes, ket, keu, kev, kew, kex, key, kez, kfa, kfb, kfc, kfd, kfe, kff, kfg, kfh, kfi, kfj, kfk, kfl, cutCells, kfm, kfn, kfo, kfp, kfq, kfr, kfs, kft, kfu, kfv, kfw, kfx, kfy, Nat.reduceAdd, Nat.reduceLeDiff, Nat.reduceLT, Nat.reduceMul, Nat.reduceSub, kfz, kga, kgb, kgc, kgd, kge, kgf, kgg, kgh, kgi, kgj, kgk, kgl, kgm, kgn, kgo, kgp, kgq, kgr, kgs, kgt, kgu, kgv, kgw, kgx, kgy, kgz, kha, khb, khc, khd, hwq]
        exact ⟨_, rfl, ⟨_, rfl⟩, .tup2 .string (.closed rfl), h⟩
      | false =>
        have hwq2 : ¬ (q : Int) < (w : Int) := by omega
        simp (disch := omega) only [kaa, kab, kac, kad, khm, khn, kho, khp, khq, khr, kae, kaf, kag, kah, kai, kaj, kak, kal, kam, kan, kao, khe, khf, khg, khh, khi, khj, khk, khl, kap, kaq, kar, kas, kat, kau, kav, kaw, kax, kay, kaz, kba, kbb, kbc, kbd, kbe, kbf, kbg, kbh, kbi, kbj, kbk, kbl, kbm, kbn, kbo, kbp, kbq, kbr, kbs, kbt, kbu, kbv, kbw, kbx, kby, kbz, kca, kcb, kcc, kcd, kce, kcf, kcg, kch, kci, kcj, kck, kcl, kcm, aop, kcn, kco, kcp, kcq, kcr, kcs, kct, kcu, kcv, kcw, resultsL, resultOf, kcx, Nat.reduceEqDiff, kcy, kcz, kda, reduceCtorEq, kdb, kdc, kdd, kde, kdf, kdg, kdh, kdi, kdj, kdk, kdl, kdm, kdn, kdo, eq1, kdp, kdq, kdr, kds, kdt, kdu, kdv, kdw, kdx, kdy, kdz, kea, keb, kec, apartOK, apart2, AObj.live, ked, kee, kef, keg, keh, kei, kej, kek, kel, Int.reduceEq, Int.reduceLT, Int.reduceLE, Int.reduceAdd, Int.reduceSub, Int.reduceMul, Int.reduceToNat, kem, ken, keo, kep, keq, ker, kes, ket, keu, kev, kew, kex, key, kez, kfa, kfb, kfc, kfd, kfe, kff, kfg, kfh, kfi, kfj, kfk, kfl, cutCells, kfm, kfn, kfo, kfp, kfq, kfr, kfs, kft, kfu, kfv, kfw, kfx, kfy, Nat.reduceAdd, Nat.reduceLeDiff, Nat.reduceLT, Nat.reduceMul, Nat.reduceSub, kfz, kga, kgb, kgc, kgd, kge, kgf, kgg, kgh, kgi, kgj, kgk, kgl, kgm, kgn, kgo, kgp, kgq, kgr, kgs, kgt, kgu, kgv, kgw, kgx, kgy, kgz, kha, khb, khc, khd, hwq, hwq2, wr_i64]
        refine ⟨q, by omega, q, G, sv, by omega, rfl, rfl, g0, ?_, fun j h1 h2 => ?_, ex_env rfl⟩
        · rw [show w - q = 0 by omega]
          rwa [show w - (q + 1) = 0 by omega] at hbs
        · by_cases hjq : j = q
          · rw [hjq]; exact hb
          · exact hz j (by omega) h2
    · have hwq2 : (q : Int) < (w : Int) := by omega
      have htk := bitS_take (a := a) (show q < w by omega)
      generalize hL : (bitS w a).take (w - (q + 1)) = L at *
      have hLl : L.length ≤ 128 := by rw [← hL, List.length_take]; omega
      rcases hbs with ⟨rfl, rfl⟩ | ⟨hne, k, k0, rfl, hk⟩
      · cases hb : a.testBit q with
        | true =>
          have hap := append_nil (K := H ++ (G ++ [.row [.int .u8 49] 1 true])) (bx := H.length + G.length) (unit := 1) (bytes := 1) (u2 := 1) (w2 := true) (by rw [hget_base, hget_base0]; rfl) rfl (by decide)
          simp (disch := omega) only [kaa, kab, kac, kad, khm, khn, kho, khp, khq, khr, kae, kaf, kag, kah, kai, kaj, kak, kal, kam, kan, kao, khe, khf, khg, khh, khi, khj, khk, khl, kap, kaq, kar, kas, kat, kau, kav, kaw, kax, kay, kaz, kba, kbb, kbc, kbd, kbe, kbf, kbg, kbh, kbi, kbj, kbk, kbl, kbm, kbn, kbo, kbp, kbq, kbr, kbs, kbt, kbu, kbv, kbw, kbx, kby, kbz, kca, kcb, kcc, kcd, kce, kcf, kcg, kch, kci, kcj, kck, kcl, kcm, aop, kcn, kco, kcp, kcq, kcr, kcs, kct, kcu, kcv, kcw, resultsL, resultOf, kcx, Nat.reduceEqDiff, kcy, kcz, kda, reduceCtorEq, kdb, kdc, kdd, kde, kdf, kdg, kdh, kdi, kdj, kdk, kdl, kdm, kdn, kdo, eq1, kdp, kdq, kdr, kds, kdt, kdu, kdv, kdw, kdx, kdy, kdz, kea, keb, kec, apartOK, apart2, AObj.live, ked, kee, kef, keg, keh, kei, kej, kek, kel, Int.reduceEq, Int.reduceLT, Int.reduceLE, Int.reduceAdd, Int.reduceSub, Int.reduceMul, Int.reduceToNat, kem, ken, keo, kep, keq, ker, kes, ket, keu, kev, kew, kex, key, kez, kfa, kfb, kfc, kfd, kfe, kff, kfg, kfh, kfi, kfj, kfk, kfl, cutCells, kfm, kfn, kfo, kfp, kfq, kfr, kfs, kft, kfu, kfv, kfw, kfx, kfy, Nat.reduceAdd, Nat.reduceLeDiff, Nat.reduceLT, Nat.reduceMul, Nat.reduceSub, kfz, kga, kgb, kgc, kgd, kge, kgf, kgg, kgh, kgi, kgj, kgk, kgl, kgm, kgn, kgo, kgp, kgq, kgr, kgs, kgt, kgu, kgv, kgw, kgx, kgy, kgz, kha, khb, khc, khd, hwq, hwq2, hap, wr_i64]
          refine ⟨q, by omega, q, _, _, by omega, rfl, rfl, by rw [hget_old l0]; exact g0, .inr ⟨?_, G.length + 1, by omega, ?_, ?_⟩, fun j h1 h2 => hz j (by omega) h2, ex_env rfl⟩
          · rw [htk]; simp
          · rw [htk]; rfl
          · rw [htk, hb, hget_base]; rfl
        | false =>
          have hap := append_nil (K := H ++ (G ++ [.row [.int .u8 48] 1 true])) (bx := H.length + G.length) (unit := 1) (bytes := 1) (u2 := 1) (w2 := true) (by rw [hget_base, hget_base0]; rfl) rfl (by decide)
          simp (disch := omega) only [kaa, kab, kac, kad, khm, khn, kho, khp, khq, khr, kae, kaf, kag, kah, kai, kaj, kak, kal, kam, kan, kao, khe, khf, khg, khh, khi, khj, khk, khl, kap, kaq, kar, kas, kat, kau, kav, kaw, kax, kay, kaz, kba, kbb, kbc, kbd, kbe, kbf, kbg, kbh, kbi, kbj, kbk, kbl, kbm, kbn, kbo, kbp, kbq, kbr, kbs, kbt, kbu, kbv, kbw, kbx, kby, kbz, kca, kcb, kcc, kcd, kce, kcf, kcg, kch, kci, kcj, kck, kcl, kcm, aop, kcn, kco, kcp, kcq, kcr, kcs, kct, kcu, kcv, kcw, resultsL, resultOf, kcx, Nat.reduceEqDiff, kcy, kcz, kda, reduceCtorEq, kdb, kdc, kdd, kde, kdf, kdg, kdh, kdi, kdj, kdk, kdl, kdm, kdn, kdo, eq1, kdp, kdq, kdr, kds, kdt, kdu, kdv, kdw, kdx, kdy, kdz, kea, keb, kec, apartOK, apart2, AObj.live, ked, kee, kef, keg, keh, kei, kej, kek, kel, Int.reduceEq, Int.reduceLT, Int.reduceLE, Int.reduceAdd, Int.reduceSub, Int.reduceMul, Int.reduceToNat, kem, ken, keo, kep, keq, ker, kes, ket, keu, kev, kew, kex, key, kez, kfa, kfb, kfc, kfd, kfe, kff, kfg, kfh, kfi, kfj, kfk, kfl, cutCells, kfm, kfn, kfo, kfp, kfq, kfr, kfs, kft, kfu, kfv, kfw, kfx, kfy, Nat.reduceAdd, Nat.reduceLeDiff, Nat.reduceLT, Nat.reduceMul, Nat.reduceSub, kfz, kga, kgb, kgc, kgd, kge, kgf, kgg, kgh, kgi, kgj, kgk, kgl, kgm, kgn, kgo, kgp, kgq, kgr, kgs, kgt, kgu, kgv, kgw, kgx, kgy, kgz, kha, khb, khc, khd, hwq, hwq2, hap, wr_i64]
          refine ⟨q, by omega, q, _, _, by omega, rfl, rfl, by rw [hget_old l0]; exact g0, .inr ⟨?_, G.length + 1, by omega, ?_, ?_⟩, fun j h1 h2 => hz j (by omega) h2, ex_env rfl⟩
          · rw [htk]; simp
          · rw [htk]; rfl
          · rw [htk, hb, hget_base]; rfl
      · have lk := hget_lt hk rfl
        have hroom : (L.length + 1) * 1 ≤ roomMax ∧ L.length + 1 ≤ roomMax := by simp only [roomMax]; omega
        cases hb : a.testBit q with
        | true =>
          have hap := append_one (K := H ++ (G ++ [.row [.int .u8 49] 1 true])) (b := H.length + k) (bx := H.length + G.length) (l := L.length) (unit := 1) (bytes := 1) (cells := L.map u8c) (u2 := 1) (w2 := true) (by rw [hget_base, hget_old lk]; exact hk) (by simp) (by rw [hget_base, hget_base0]; rfl) rfl rfl hroom
          simp (disch := omega) only [kaa, kab, kac, kad, khm, khn, kho, khp, khq, khr, kae, kaf, kag, kah, kai, kaj, kak, kal, kam, kan, kao, khe, khf, khg, khh, khi, khj, khk, khl, kap, kaq, kar, kas, kat, kau, kav, kaw, kax, kay, kaz, kba, kbb, kbc, kbd, kbe, kbf, kbg, kbh, kbi, kbj, kbk, kbl, kbm, kbn, kbo, kbp, kbq, kbr, kbs, kbt, kbu, kbv, kbw, kbx, kby, kbz, kca, kcb, kcc, kcd, kce, kcf, kcg, kch, kci, kcj, kck, kcl, kcm, aop, kcn, kco, kcp, kcq, kcr, kcs, kct, kcu, kcv, kcw, resultsL, resultOf, kcx, Nat.reduceEqDiff, kcy, kcz, kda, reduceCtorEq, kdb, kdc, kdd, kde, kdf, kdg, kdh, kdi, kdj, kdk, kdl, kdm, kdn, kdo, eq1, kdp, kdq, kdr, kds, kdt, kdu, kdv, kdw, kdx, kdy, kdz, kea, keb, kec, apartOK, apart2, AObj.live, ked, kee, kef, keg, keh, kei, kej, kek, kel, Int.reduceEq, Int.reduceLT, Int.reduceLE, Int.reduceAdd, Int.reduceSub, Int.reduceMul, Int.reduceToNat, kem, ken, keo, kep, keq, ker, kes, ket, keu, kev, kew, kex, key, kez, kfa, kfb, kfc, kfd, kfe, kff, kfg, kfh, kfi, kfj, kfk, kfl, cutCells, kfm, kfn, kfo, kfp, kfq, kfr, kfs, kft, kfu, kfv, kfw, kfx, kfy, Nat.reduceAdd, Nat.reduceLeDiff, Nat.reduceLT, Nat.reduceMul, Nat.reduceSub, kfz, kga, kgb, kgc, kgd, kge, kgf, kgg, kgh, kgi, kgj, kgk, kgl, kgm, kgn, kgo, kgp, kgq, kgr, kgs, kgt, kgu, kgv, kgw, kgx, kgy, kgz, kha, khb, khc, khd, hwq, hwq2, hap, wr_i64]
          refine ⟨q, by omega, q, _, _, by omega, rfl, rfl, by rw [hget_oldS l0, hget_ne k0]; exact g0, .inr ⟨?_, G.length + 1, by omega, ?_, ?_⟩, fun j h1 h2 => hz j (by omega) h2, ex_env rfl⟩
          · rw [htk]; simp
          · rw [htk, List.length_append]; rfl
          · rw [htk, hb, hget_baseS, List.map_append]; rfl
        | false =>
          have hap := append_one (K := H ++ (G ++ [.row [.int .u8 48] 1 true])) (b := H.length + k) (bx := H.length + G.length) (l := L.length) (unit := 1) (bytes := 1) (cells := L.map u8c) (u2 := 1) (w2 := true) (by rw [hget_base, hget_old lk]; exact hk) (by simp) (by rw [hget_base, hget_base0]; rfl) rfl rfl hroom
          simp (disch := omega) only [kaa, kab, kac, kad, khm, khn, kho, khp, khq, khr, kae, kaf, kag, kah, kai, kaj, kak, kal, kam, kan, kao, khe, khf, khg, khh, khi, khj, khk, khl, kap, kaq, kar, kas, kat, kau, kav, kaw, kax, kay, kaz, kba, kbb, kbc, kbd, kbe, kbf, kbg, kbh, kbi, kbj, kbk, kbl, kbm, kbn, kbo, kbp, kbq, kbr, kbs, kbt, kbu, kbv, kbw, kbx, kby, kbz, kca, kcb, kcc, kcd, kce, kcf, kcg, kch, kci, kcj, kck, kcl, kcm, aop, kcn, kco, kcp, kcq, kcr, kcs, kct, kcu, kcv, kcw, resultsL, resultOf, kcx, Nat.reduceEqDiff, kcy, kcz, kda, reduceCtorEq, kdb, kdc, kdd, kde, kdf, kdg, kdh, kdi, kdj, kdk, kdl, kdm, kdn, kdo, eq1, kdp, kdq, kdr, kds, kdt, kdu, kdv, kdw, kdx, kdy, kdz, kea, keb, kec, apartOK, apart2, AObj.live, ked, kee, kef, keg, keh, kei, kej, kek, kel, Int.reduceEq, Int.reduceLT, Int.reduceLE, Int.reduceAdd, Int.reduceSub, Int.reduceMul, Int.reduceToNat, kem, ken, keo, kep, keq, ker, kes, ket, keu, kev, kew, kex, key, kez, kfa, kfb, kfc, kfd, kfe, kff, kfg, kfh, kfi, kfj, kfk, kfl, cutCells, kfm, kfn, kfo, kfp, kfq, kfr, kfs, kft, kfu, kfv, kfw, kfx, kfy, Nat.reduceAdd, Nat.reduceLeDiff, Nat.reduceLT, Nat.reduceMul, Nat.reduceSub, kfz, kga, kgb, kgc, kgd, kge, kgf, kgg, kgh, kgi, kgj, kgk, kgl, kgm, kgn, kgo, kgp, kgq, kgr, kgs, kgt, kgu, kgv, kgw, kgx, kgy, kgz, kha, khb, khc, khd, hwq, hwq2, hap, wr_i64]
          refine ⟨q, by omega, q, _, _, by omega, rfl, rfl, by rw [hget_oldS l0, hget_ne k0]; exact g0, .inr ⟨?_, G.length + 1, by omega, ?_, ?_⟩, fun j h1 h2 => hz j (by omega) h2, ex_env rfl⟩
          · rw [htk]; simp
          · rw [htk, List.length_append]; rfl
          · rw [htk, hb, hget_baseS, List.map_append]; rfl

end Go.Proofs.Yticgkaanaimllaa.Ev

/- The document's text of a prefix. -/
namespace Go.Proofs.Yticgkaanaimllaa.Ev
set_option maxRecDepth 100000
set_option linter.unusedSimpArgs false
set_option linter.unusedVariables false
variable {R : FRes → Heap → Prop} {H : Heap}

theorem rgt_iff {w a : Nat} {n : Int} (hw : w ≤ 128) : rgt w a n = true ↔ a < 2 ^ w ∧ 0 ≤ n ∧ n ≤ (w : Int) ∧ ∀ i, n.toNat ≤ i → i < w → a.testBit (w - 1 - i) = false := by
  simp only [rgt, Bool.and_eq_true, decide_eq_true_eq]
  constructor
  · rintro ⟨⟨⟨h1, h2⟩, h3⟩, h4⟩
    refine ⟨h3, h1, h2, fun i h5 h6 => ?_⟩
    have := congrArg (fun z => z.testBit (w - 1 - i)) h4
    simp only [Nat.testBit_and, testBit_mask hw (show n.toNat ≤ w by omega)] at this
    rw [decide_eq_false (show ¬ w - n.toNat ≤ w - 1 - i by omega), Bool.false_and, Bool.and_false] at this
    exact this.symm
  · rintro ⟨h3, h1, h2, h4⟩
    refine ⟨⟨⟨h1, h2⟩, h3⟩, Nat.eq_of_testBit_eq fun i => ?_⟩
    rw [Nat.testBit_and, testBit_mask hw (show n.toNat ≤ w by omega)]
    by_cases hi : i < w
    · by_cases hj : w - n.toNat ≤ i
      · simp [hi, hj]
      · have := h4 (w - 1 - i) (by omega) (by omega)
        rw [show w - 1 - (w - 1 - i) = i by omega] at this
        rw [this]; rfl
    · rw [lt_bit h3 (by omega)]; rfl

theorem bitS_get {w a i : Nat} (hi : i < w) : (bitS w a)[i]? = some (bitC (a.testBit (w - 1 - i))) := by
  simp [bitS, hi]

def textI (w a n : Nat) (H H0 : Heap) : Nat → Env → Heap → Prop := fun z e H' =>
  ∃ i : Nat, n ≤ i ∧ i ≤ w ∧ z = w - i ∧ H' = H0 ∧ (∀ j, n ≤ j → j < i → a.testBit (w - 1 - j) = false) ∧
    (∃ x : Nat → Value, e = [x 0, .int .i64 (n : Int), .int .i64 (w : Int), x 3, x 4, x 5, x 6, x 7, .string (bs (bitS w a)), x 9, .int .i64 (i : Int), x 11, x 12, x 13, x 14, x 15, x 16, x 17, x 18, x 19, x 20, x 21, x 22, x 23, x 24, x 25, x 26, x 27, x 28, x 29, x 30, x 31, x 32, x 33, x 34, x 35, x 36, x 37, x 38, x 39, x 40])

theorem reftext_t {w a : Nat} {n : Int} (hw : 1 ≤ w) (hw2 : w ≤ 128) (ha : a < 2 ^ 128)
    (h : R (.ret (if rgt w a n = true then .tuple #[.string (bs ((bitS w a).take n.toNat)), .bool true] else .tuple #[.string (bs []), .bool false])) H) : WD T 13 [bvA a, .int .i64 n, .int .i64 (w : Int)] H R := by
  refine WD.gc0 (WD.of follows t13 (by simp) ?_)
  have hno : rgt w a n = false → R (.ret (.tuple #[.string (bs []), .bool false])) H := fun q => by
    rw [if_neg (by rw [q]; simp)] at h
    exact h
  simp (disch := omega) only [kaa, kab, kac, kad, khm, khn, kho, khp, khq, khr, kae, kaf, kag, kah, kai, kaj, kak, kal, kam, kan, kao, khe, khf, khg, khh, khi, khj, khk, khl, kap, kaq, kar, kas, kat, kau, kav, kaw, kax, kay, kaz, kba, kbb, kbc, kbd, kbe, kbf, kbg, kbh, kbi, kbj, kbk, kbl, kbm, kbn, kbo, kbp, kbq, kbr, kbs, kbt, kbu, kbv, kbw, kbx, kby, kbz, kca, kcb, kcc, kcd, kce, kcf, kcg, kch, kci, kcj, kck, kcl, kcm, aop, kcn, kco, kcp, kcq, kcr, kcs, kct, kcu, kcv, kcw, resultsL, resultOf, kcx, Nat.reduceEqDiff, kcy, kcz, kda, reduceCtorEq, kdb, kdc, kdd, kde, kdf, kdg, kdh, kdi, kdj, kdk, kdl, kdm, kdn, kdo, eq1, kdp, kdq, kdr, kds, kdt, kdu, kdv, kdw, kdx, kdy, kdz, kea, keb, kec, apartOK, apart2, AObj.live, ked, kee, kef, keg, keh, kei, kej, kek, kel, Int.reduceEq, Int.reduceLT, Int.reduceLE, Int.reduceAdd, Int.reduceSub, Int.reduceMul, Int.reduceToNat, kem, ken, keo, kep, keq, ker, kes, ket, keu, kev, kew, kex, key, kez, kfa, kfb, kfc, kfd, kfe, kff, kfg, kfh, kfi, kfj, kfk, kfl, cutCells, kfm, kfn, kfo, kfp, kfq, kfr, kfs, kft, kfu, kfv, kfw, kfx, kfy, Nat.reduceAdd, Nat.reduceLeDiff, Nat.reduceLT, Nat.reduceMul, Nat.reduceSub, kfz, kga, kgb, kgc, kgd, kge, kgf, kgg, kgh, kgi, kgj, kgk, kgl, kgm, kgn, kgo, kgp, kgq, kgr, kgs, kgt, kgu, kgv, kgw, kgx, kgy, kgz, kha, khb, khc, khd]
  refine refbits_t hw hw2 ha ?_
  by_cases hfit : a < 2 ^ w
  case neg =>
    rw [if_neg hfit]
    have := hno (by cases hr : rgt w a n with | false => rfl | true => exact absurd ((rgt_iff hw2).1 hr).1 hfit)
    simp (disch := omega) only [kaa, kab, kac, kad, khm, khn, kho, khp, khq, khr, kae, kaf, kag, kah, kai, kaj, kak, kal, kam, kan, kao, khe, khf, khg, khh, khi, khj, khk, khl, kap, kaq, kar, kas, kat, kau, kav, kaw, kax, kay, kaz, kba, kbb, kbc, kbd, kbe, kbf, kbg, kbh, kbi, kbj, kbk, kbl, kbm, kbn, kbo, kbp, kbq, kbr, kbs, kbt, kbu, kbv, kbw, kbx, kby, kbz, kca, kcb, kcc, kcd, kce, kcf, kcg, kch, kci, kcj, kck, kcl, kcm, aop, kcn, kco, kcp, kcq, kcr, kcs, kct, kcu, kcv, kcw, resultsL, resultOf, kcx, Nat.reduceEqDiff, kcy, kcz, kda, reduceCtorEq, kdb, kdc, kdd, kde, kdf, kdg, kdh, kdi, kdj, kdk, kdl, kdm, kdn, kdo, eq1, kdp, kdq, kdr, kds, kdt, kdu, kdv, kdw, kdx, kdy, kdz, kea, keb, kec, apartOK, apart2, AObj.live, ked, kee, kef, keg, keh, kei, kej, kek, kel, Int.reduceEq, Int.reduceLT, Int.reduceLE, Int.reduceAdd, Int.reduceSub, Int.reduceMul, Int.reduceToNat, kem, ken, keo, kep, keq, ker, kes, ket, keu, kev, kew, kex, key, kez, kfa, kfb, kfc, kfd, kfe, kff, kfg, kfh, kfi, kfj, kfk, kfl, cutCells, kfm, kfn, kfo, kfp, kfq, kfr, kfs, kft, kfu, kfv, kfw, kfx, kfy, Nat.reduceAdd, Nat.reduceLeDiff, Nat.reduceLT, Nat.reduceMul, Nat.reduceSub, kfz, kga, kgb, kgc, kgd, kge, kgf, kgg, kgh, kgi, kgj, kgk, kgl, kgm, kgn, kgo, kgp, kgq, kgr, kgs, kgt, kgu, kgv, kgw, kgx, kgy, kgz, kha, khb, khc, khd]
    exact ⟨_, rfl, ⟨_, rfl⟩, .tup2 .string (.closed rfl), this⟩
  rw [if_pos hfit]
  by_cases h1 : n < 0
  · have := hno (by cases hr : rgt w a n with | false => rfl | true => exact absurd ((rgt_iff hw2).1 hr).2.1 (by omega))
    simp (disch := omega) only [kaa, kab, kac, kad, khm, khn, kho, khp, khq, khr, kae, kaf, kag, kah, kai, kaj, kak, kal, kam, kan, kao, khe, khf, khg, khh, khi, khj, khk, khl, kap, kaq, kar, kas, kat, kau, kav, kaw, kax, kay, kaz, kba, kbb, kbc, kbd, kbe, kbf, kbg, kbh, kbi, kbj, kbk, kbl, kbm, kbn, kbo, kbp, kbq, kbr, kbs, kbt, kbu, kbv, kbw, kbx, kby, kbz, kca, kcb, kcc, kcd, kce, kcf, kcg, kch, kci, kcj, kck, kcl, kcm, aop, kcn, kco, kcp, kcq, kcr, kcs, kct, kcu, kcv, kcw, resultsL, resultOf, kcx, Nat.reduceEqDiff, kcy, kcz, kda, reduceCtorEq, kdb, kdc, kdd, kde, kdf, kdg, kdh, kdi, kdj, kdk, kdl, kdm, kdn, kdo, eq1, kdp, kdq, kdr, kds, kdt, kdu, kdv, kdw, kdx, kdy, kdz, kea, keb, kec, apartOK, apart2, AObj.live, ked, kee, kef, keg, keh, kei, kej, kek, kel, Int.reduceEq, Int.reduceLT, Int.reduceLE, Int.reduceAdd, Int.reduceSub, Int.reduceMul, Int.reduceToNat, kem, ken, keo, kep, keq, ker, kes, ket, keu, kev, kew, kex, key, kez, kfa, kfb, kfc, kfd, kfe, kff, kfg, kfh, kfi, kfj, kfk, kfl, cutCells, kfm, kfn, kfo, kfp, kfq, kfr, kfs, kft, kfu, kfv, kfw, kfx, kfy, Nat.reduceAdd, Nat.reduceLeDiff, Nat.reduceLT, Nat.reduceMul, Nat.reduceSub, kfz, kga, kgb, kgc, kgd, kge, kgf, kgg, kgh, kgi, kgj, kgk, kgl, kgm, kgn, kgo, kgp, kgq, kgr, kgs, kgt, kgu, kgv, kgw, kgx, kgy, kgz, kha, khb, khc, khd, h1]
    exact ⟨_, rfl, ⟨_, rfl⟩, .tup2 .string (.closed rfl), this⟩
  by_cases h2 : (w : Int) < n
  · have := hno (by cases hr : rgt w a n with | false => rfl | true => exact absurd ((rgt_iff hw2).1 hr).2.2.1 (by omega))
    simp (disch := omega) only [kaa, kab, kac, kad, khm, khn, kho, khp, khq, khr, kae, kaf, kag, kah, kai, kaj, kak, kal, kam, kan, kao, khe, khf, khg, khh, khi, khj, khk, khl, kap, kaq, kar, kas, kat, kau, kav, kaw, kax, kay, kaz, kba, kbb, kbc, kbd, kbe, kbf, kbg, kbh, kbi, kbj, kbk, kbl, kbm, kbn, kbo, kbp, kbq, kbr, kbs, kbt, kbu, kbv, kbw, kbx, kby, kbz, kca, kcb, kcc, kcd, kce, kcf, kcg, kch, kci, kcj, kck, kcl, kcm, aop, kcn, kco, kcp, kcq, kcr, kcs, kct, kcu, kcv, kcw, resultsL, resultOf, kcx, Nat.reduceEqDiff, kcy, kcz, kda, reduceCtorEq, kdb, kdc, kdd, kde, kdf, kdg, kdh, kdi, kdj, kdk, kdl, kdm, kdn, kdo, eq1, kdp, kdq, kdr, kds, kdt, kdu, kdv, kdw, kdx, kdy, kdz, kea, keb, kec, apartOK, apart2, AObj.live, ked, kee, kef, keg, keh, kei, kej, kek, kel, Int.reduceEq, Int.reduceLT, Int.reduceLE, Int.reduceAdd, Int.reduceSub, Int.reduceMul, Int.reduceToNat, kem, ken, keo, kep, keq, ker, kes, ket, keu, kev, kew, kex, key, kez, kfa, kfb, kfc, kfd, kfe, kff, kfg, kfh, kfi, kfj, kfk, kfl, cutCells, kfm, kfn, kfo, kfp, kfq, kfr, kfs, kft, kfu, kfv, kfw, kfx, kfy, Nat.reduceAdd, Nat.reduceLeDiff, Nat.reduceLT, Nat.reduceMul, Nat.reduceSub, kfz, kga, kgb, kgc, kgd, kge, kgf, kgg, kgh, kgi, kgj, kgk, kgl, kgm, kgn, kgo, kgp, kgq, kgr, kgs, kgt, kgu, kgv, kgw, kgx, kgy, kgz, kha, khb, khc, khd, h1, h2]
    exact ⟨_, rfl, ⟨_, rfl⟩, .tup2 .string (.closed rfl), this⟩
  obtain ⟨k, rfl⟩ : ∃ k : Nat, n = k := ⟨n.toNat, by omega⟩
  simp only [Int.toNat_natCast] at h
  simp (disch := omega) only [kaa, kab, kac, kad, khm, khn, kho, khp, khq, khr, kae, kaf, kag, kah, kai, kaj, kak, kal, kam, kan, kao, khe, khf, khg, khh, khi, khj, khk, khl, kap, kaq, kar, kas, kat, kau, kav, kaw, kax, kay, kaz, kba, kbb, kbc, kbd, kbe, kbf, kbg, kbh, kbi, kbj, kbk, kbl, kbm, kbn, kbo, kbp, kbq, kbr, kbs, kbt, kbu, kbv, kbw, kbx, kby, kbz, kca, kcb, kcc, kcd, kce, kcf, kcg, kch, kci, kcj, kck, kcl, kcm, aop, kcn, kco, kcp, kcq, kcr, kcs, kct, kcu, kcv, kcw, resultsL, resultOf, kcx, Nat.reduceEqDiff, kcy, kcz, kda, reduceCtorEq, kdb, kdc, kdd, kde, kdf, kdg, kdh, kdi, kdj, kdk, kdl, kdm, kdn, kdo, eq1, kdp, kdq, kdr, kds, kdt, kdu, kdv, kdw, kdx, kdy, kdz, kea, keb, kec, apartOK, apart2, AObj.live, ked, kee, kef, keg, keh, kei, kej, kek, kel, Int.reduceEq, Int.reduceLT, Int.reduceLE, Int.reduceAdd, Int.reduceSub, Int.reduceMul, Int.reduceToNat, kem, ken, keo, kep, keq, ker, kes, ket, keu, kev, kew, kex, key, kez, kfa, kfb, kfc, kfd, kfe, kff, kfg, kfh, kfi, kfj, kfk, kfl, cutCells, kfm, kfn, kfo, kfp, kfq, kfr, kfs, kft, kfu, kfv, kfw, kfx, kfy, Nat.reduceAdd, Nat.reduceLeDiff, Nat.reduceLT, Nat.reduceMul, Nat.reduceSub, kfz, kga, kgb, kgc, kgd, kge, kgf, kgg, kgh, kgi, kgj, kgk, kgl, kgm, kgn, kgo, kgp, kgq, kgr, kgs, kgt, kgu, kgv, kgw, kgx, kgy, kgz, kha, khb, khc, khd, h1, h2]
  refine WLoop.inv (textI w a k H _) ?_ (w - k) _ _ ⟨k, by omega, by omega, rfl, rfl, fun j h1 h2 => by omega, ex_env rfl⟩
  rintro z e H' ⟨i, k1, k2, rfl, rfl, k3, ⟨x, rfl⟩⟩
  by_cases hi : i < w
  · have hi' : (i : Int) < (w : Int) := by omega
    have hg := bitS_get (a := a) hi
    have hi0 : (0 : Int) ≤ (i : Int) := by omega
    cases hb : a.testBit (w - 1 - i) with
    | true =>
      have := hno (by cases hr : rgt w a (k : Int) with | false => rfl | true => (have q := ((rgt_iff hw2).1 hr).2.2.2 i (by simpa using k1) hi; rw [hb] at q; cases q))
      rw [hb] at hg
      have hg2 : (bitS w a)[i]? = some 49 := hg
      have e49 : (((49 : UInt8).toNat : Nat) : Int) = 49 := rfl
      simp (disch := omega) only [kaa, kab, kac, kad, khm, khn, kho, khp, khq, khr, kae, kaf, kag, kah, kai, kaj, kak, kal, kam, kan, kao, khe, khf, khg, khh, khi, khj, khk, khl, kap, kaq, kar, kas, kat, kau, kav, kaw, kax, kay, kaz, kba, kbb, kbc, kbd, kbe, kbf, kbg, kbh, kbi, kbj, kbk, kbl, kbm, kbn, kbo, kbp, kbq, kbr, kbs, kbt, kbu, kbv, kbw, kbx, kby, kbz, kca, kcb, kcc, kcd, kce, kcf, kcg, kch, kci, kcj, kck, kcl, kcm, aop, kcn, kco, kcp, kcq, kcr, kcs, kct, kcu, kcv, kcw, resultsL, resultOf, kcx, Nat.reduceEqDiff, kcy, kcz, kda, reduceCtorEq, kdb, kdc, kdd, kde, kdf, kdg, kdh, kdi, kdj, kdk, kdl, kdm, kdn, kdo, eq1, kdp, kdq, kdr, kds, kdt, kdu, kdv, kdw, kdx, kdy, kdz, kea, keb, kec, apartOK, apart2, AObj.live, ked, kee, kef, keg, keh, kei, kej, kek, kel, Int.reduceEq, Int.reduceLT, Int.reduceLE, Int.reduceAdd, Int.reduceSub, Int.reduceMul, Int.reduceToNat, kem, ken, keo, kep, keq, ker, kes, ket, keu, kev, kew, kex, key, kez, kfa, kfb, kfc, kfd, kfe, kff, kfg, kfh, kfi, kfj, kfk, kfl, cutCells, kfm, kfn, kfo, kfp, kfq, kfr, kfs, kft, kfu, kfv, kfw, kfx, kfy, Nat.reduceAdd, Nat.reduceLeDiff, Nat.reduceLT, Nat.reduceMul, Nat.reduceSub, kfz, kga, kgb, kgc, kgd, kge, kgf, kgg, kgh, kgi, kgj, kgk, kgl, kgm, kgn, kgo, kgp, kgq, kgr, kgs, kgt, kgu, kgv, kgw, kgx, kgy, kgz, kha, khb, khc, khd, hi', hi0, hg2, e49]
      exact ⟨_, rfl, ⟨_, rfl⟩, .tup2 .string (.closed rfl), this⟩
    | false =>
      rw [hb] at hg
      have hg2 : (bitS w a)[i]? = some 48 := hg
      have e48 : (((48 : UInt8).toNat : Nat) : Int) = 48 := rfl
      simp (disch := omega) only [kaa, kab, kac, kad, khm, khn, kho, khp, khq, khr, kae, kaf, kag, kah, kai, kaj, kak, kal, kam, kan, kao, khe, khf, khg, khh, khi, khj, khk, khl, kap, kaq, kar, kas, kat, kau, kav, kaw, kax, kay, kaz, kba, kbb, kbc, kbd, kbe, kbf, kbg, kbh, kbi, kbj, kbk, kbl, kbm, kbn, kbo, kbp, kbq, kbr, kbs, kbt, kbu, kbv, kbw, kbx, kby, kbz, kca, kcb, kcc, kcd, kce, kcf, kcg, kch, kci, kcj, kck, kcl, kcm, aop, kcn, kco, kcp, kcq, kcr, kcs, kct, kcu, kcv, kcw, resultsL, resultOf, kcx, Nat.reduceEqDiff, kcy, kcz, kda, reduceCtorEq, kdb, kdc, kdd, kde, kdf, kdg, kdh, kdi, kdj, kdk, kdl, kdm, kdn, kdo, eq1, kdp, kdq, kdr, kds, kdt, kdu, kdv, kdw, kdx, kdy, kdz, kea, keb, kec, apartOK, apart2, AObj.live, ked, kee, kef, keg, keh, kei, kej, kek, kel, Int.reduceEq, Int.reduceLT, Int.reduceLE, Int.reduceAdd, Int.reduceSub, Int.reduceMul, Int.reduceToNat, kem, ken, keo, kep, keq, ker, kes, ket, keu, kev, kew, kex, key, kez, kfa, kfb, kfc, kfd, kfe, kff, kfg, kfh, kfi, kfj, kfk, kfl, cutCells, kfm, kfn, kfo, kfp, kfq, kfr, kfs, kft, kfu, kfv, kfw, kfx, kfy, Nat.reduceAdd, Nat.reduceLeDiff, Nat.reduceLT, Nat.reduceMul, Nat.reduceSub, kfz, kga, kgb, kgc, kgd, kge, kgf, kgg, kgh, kgi, kgj, kgk, kgl, kgm, kgn, kgo, kgp, kgq, kgr, kgs, kgt, kgu, kgv, kgw, kgx, kgy, kgz, kha, khb, khc, khd, hi', hi0, hg2, e48, wr_i64, nadd1]
      refine ⟨w - (i + 1), by omega, i + 1, by omega, by omega, rfl, rfl, fun j h1 h2 => ?_, ex_env rfl⟩
      by_cases hj : j = i
      · rw [hj]; exact hb
      · exact k3 j h1 (by omega)
  · obtain rfl : i = w := by omega
    have hi' : ¬ (i : Int) < (i : Int) := by omega
    have hr : rgt i a (k : Int) = true := (rgt_iff hw2).2 ⟨hfit, by omega, by omega, fun j h1 h2 => k3 j (by simpa using h1) h2⟩
    rw [if_pos hr] at h
    have hl := bitS_len i a
    simp (disch := omega) only [kaa, kab, kac, kad, khm, khn, kho, khp, khq, khr, kae, kaf, kag, kah, kai, kaj, kak, kal, kam, kan, kao, khe, khf, khg, khh, khi, khj, khk, khl, kap, kaq, kar, kas, kat, kau, kav, kaw, kax, kay, kaz, kba, kbb, kbc, kbd, kbe, kbf, kbg, kbh, kbi, kbj, kbk, kbl, kbm, kbn, kbo, kbp, kbq, kbr, kbs, kbt, kbu, kbv, kbw, kbx, kby, kbz, kca, kcb, kcc, kcd, kce, kcf, kcg, kch, kci, kcj, kck, kcl, kcm, aop, kcn, kco, kcp, kcq, kcr, kcs, kct, kcu, kcv, kcw, resultsL, resultOf, kcx, Nat.reduceEqDiff, kcy, kcz, kda, reduceCtorEq, kdb, kdc, kdd, kde, kdf, kdg, kdh, kdi, kdj, kdk, kdl, kdm, kdn, kdo, eq1, kdp, kdq, kdr, kds, kdt, kdu, kdv, kdw, kdx, kdy, kdz, kea, keb, kec, apartOK, apart2, AObj.live, ked, kee, kef, keg, keh, kei, kej, kek, kel, Int.reduceEq, Int.reduceLT, Int.reduceLE, Int.reduceAdd, Int.reduceSub, Int.reduceMul, Int.reduceToNat, kem, ken, keo, kep, keq, ker, kes, ket, keu, kev, kew, kex, key, kez, kfa, kfb, kfc, kfd, kfe, kff, kfg, kfh, kfi, kfj, kfk, kfl, cutCells, kfm, kfn, kfo, kfp, kfq, kfr, kfs, kft, kfu, kfv, kfw, kfx, kfy, Nat.reduceAdd, Nat.reduceLeDiff, Nat.reduceLT, Nat.reduceMul, Nat.reduceSub, kfz, kga, kgb, kgc, kgd, kge, kgf, kgg, kgh, kgi, kgj, kgk, kgl, kgm, kgn, kgo, kgp, kgq, kgr, kgs, kgt, kgu, kgv, kgw, kgx, kgy, kgz, kha, khb, khc, khd, hi', hl]
    exact ⟨_, rfl, ⟨_, rfl⟩, .tup2 .string (.closed rfl), h⟩

end Go.Proofs.Yticgkaanaimllaa.Ev

/- The law TrieLongest: the loop over the operations. -/
namespace Go.Proofs.Yticgkaanaimllaa.Ev
set_option maxRecDepth 100000
set_option linter.unusedSimpArgs false
set_option linter.unusedVariables false
variable {R : FRes → Heap → Prop} {H : Heap}

structure Opr where
  k : Int
  a : Nat
  n : Int
  v : Int
def opC (o : Opr) : List Value := [.int .i64 o.k, .int .u64 ((o.a / W64 : Nat) : Int), .int .u64 ((o.a % W64 : Nat) : Int), .int .i64 o.n, .int .i64 o.v]

/-- A list of operations, laid below a block. -/
def OpSl (H : Heap) (ad : Option Addr) (ops : List Opr) (lim : Nat) : Prop := ops ≠ [] → ∃ bl wr, ad = some ⟨bl, 0, none⟩ ∧ bl < lim ∧ hget H bl = .row (ops.map opC).flatten 0 wr

theorem op_flat (ops : List Opr) (i : Nat) (h : i < ops.length) : ((ops.map opC).flatten.drop (i * 5)).take 5 = opC ops[i] := by
  induction ops generalizing i with
  | nil => simp at h
  | cons o ops ih =>
    simp only [List.map_cons, List.flatten_cons]
    cases i with
    | zero => simp [opC]
    | succ i =>
      have : (opC o).length = 5 := rfl
      rw [List.drop_append, this, show (i + 1) * 5 - 5 = i * 5 by omega, List.drop_eq_nil_of_le (by omega), List.nil_append]
      simpa using ih i (by simpa using h)
theorem op_len (ops : List Opr) : (ops.map opC).flatten.length = ops.length * 5 := by
  induction ops with
  | nil => rfl
  | cons o ops ih => simp only [List.map_cons, List.flatten_cons, List.length_append, ih, List.length_cons]; simp [opC]; omega
theorem op_bits (ops : List Opr) (i : Nat) (h : i < ops.length) : ((ops.map opC).flatten.drop (i * 5 + 1)).take 2 = [.int .u64 ((ops[i].a / W64 : Nat) : Int), .int .u64 ((ops[i].a % W64 : Nat) : Int)] := by
  have := congrArg (fun l => (l.drop 1).take 2) (op_flat ops i h)
  simp only [List.drop_take, List.drop_drop, List.take_take] at this
  rw [show min 2 (5 - 1) = 2 by decide] at this
  rw [this]
  rfl
theorem op_n (ops : List Opr) (i : Nat) (h : i < ops.length) : (ops.map opC).flatten[i * 5 + 3]? = some (.int .i64 ops[i].n) := by
  have := congrArg (fun l => l[3]?) (op_flat ops i h)
  simp only [List.getElem?_take_of_lt (show 3 < 5 by decide), List.getElem?_drop] at this
  rw [this]
  rfl

theorem und_take {w c n a : Nat} (hn : n ≤ w) (hc : c < 2 ^ w) (ha : a < 2 ^ w) : (bitS w c).take n = (bitS w a).take n ↔ Und w c n a := by
  constructor
  · intro h
    refine Nat.eq_of_testBit_eq fun i => ?_
    rw [Nat.testBit_shiftRight, Nat.testBit_shiftRight]
    by_cases hi : i < n
    · have := congrArg (fun l => l[n - 1 - i]?) h
      simp only [List.getElem?_take_of_lt (show n - 1 - i < n by omega), bitS_get (show n - 1 - i < w by omega), Option.some.injEq] at this
      rw [show w - 1 - (n - 1 - i) = w - n + i by omega] at this
      cases q1 : c.testBit (w - n + i) <;> cases q2 : a.testBit (w - n + i) <;> rw [q1, q2] at this <;> first | rfl | (simp [bitC] at this)
    · rw [lt_bit hc (by omega), lt_bit ha (by omega)]
  · intro h
    refine List.ext_getElem? fun i => ?_
    by_cases hi : i < n
    · rw [List.getElem?_take_of_lt hi, List.getElem?_take_of_lt hi, bitS_get (by omega), bitS_get (by omega)]
      have := congrArg (fun z => z.testBit (n - 1 - i)) h
      simp only [Nat.testBit_shiftRight] at this
      rw [show w - n + (n - 1 - i) = w - 1 - i by omega] at this
      rw [this]
    · rw [List.getElem?_eq_none (by rw [List.length_take]; omega), List.getElem?_eq_none (by rw [List.length_take]; omega)]

/-- What stands in memory behind so many puts. -/
structure LI (H : Heap) (b w p5 a0 : Nat) (ad : Option Addr) (ops : List Opr) (t : Tr) (M : List Mem) : Prop where
  ti : TI H b w 4096 (M.length : Nat) t
  low : ∀ c ∈ t.blocks, b < c
  pw : PW w t.er
  perm : t.er.mem.Perm M
  box : hget H p5 = boxRow a0
  lt5 : p5 < b
  sl : OpSl H ad ops b

/-- Those whose prefix the number has. -/
def hitsM (w a0 : Nat) (M : List Mem) : List Mem := if a0 < 2 ^ w then M.filter (fun x => decide (Und w x.1 x.2.1 a0)) else []
/-- The longest of them, and what was put there. -/
def Best (L : List Mem) (best value : Int) : Prop := (L = [] ∧ best = -1 ∧ value = 0) ∨ ∃ x ∈ L, best = (x.2.1 : Nat) ∧ value = x.2.2 ∧ ∀ y ∈ L, y.2.1 ≤ x.2.1

theorem LI.app {G : Heap} {b w p5 a0 : Nat} {ad : Option Addr} {ops : List Opr} {t : Tr} {M : List Mem} (h : LI H b w p5 a0 ad ops t M) : LI (H ++ G) b w p5 a0 ad ops t M := by
  obtain ⟨⟨i1, i2, i3, i4, i5⟩, h2, h3, h4, h5, h6, h7⟩ := h
  refine ⟨⟨by rw [hget_old (hget_lt i1 rfl)]; exact i1, i2, i3.app, i4, i5⟩, h2, h3, h4, by rw [hget_old (hget_lt h5 rfl)]; exact h5, h6, fun q => ?_⟩
  obtain ⟨bl, wr, q1, q2, q3⟩ := h7 q
  exact ⟨bl, wr, q1, q2, by rw [hget_old (hget_lt q3 rfl)]; exact q3⟩

def longI (w b p5 a0 : Nat) (ad : Option Addr) (ops : List Opr) : Nat → Env → Heap → Prop := fun z e H' =>
  ∃ (i : Nat) (t : Tr) (M : List Mem) (best value : Int), i ≤ ops.length ∧ i ≤ 2000 ∧ z = 2000 - i ∧ M.length ≤ i ∧ LI H' b w p5 a0 ad ops t M ∧ Best (hitsM w a0 M) best value ∧
    (∃ x : Nat → Value, e = [.int .i64 (w : Int), .slice ad ops.length ops.length, x 2, x 3, x 4, .pointer (some ⟨p5, 0, none⟩), x 6, .bool true, .pointer (some ⟨b, 0, none⟩), x 9, .string (bs (if a0 < 2 ^ w then bitS w a0 else [])), .bool (decide (a0 < 2 ^ w)), .int .i64 best, .int .i64 value, .int .i64 ((hitsM w a0 M).length : Nat), .int .i64 (i : Int), x 16, x 17, x 18, x 19, x 20, x 21, x 22, x 23, x 24, x 25, x 26, x 27, x 28, x 29, x 30, x 31, x 32, x 33, x 34, x 35, x 36, x 37, x 38, x 39, x 40, x 41, x 42, x 43, x 44, x 45, x 46, x 47, x 48, x 49, x 50, x 51, x 52, x 53, x 54, x 55, x 56, x 57, x 58, x 59, x 60, x 61, x 62, x 63, x 64, x 65, x 66, x 67, x 68, x 69, x 70, x 71, x 72, x 73, x 74, x 75, x 76, x 77, x 78, x 79, x 80, x 81, x 82, x 83, x 84, x 85, x 86, x 87, x 88, x 89, x 90, x 91, x 92, x 93, x 94, x 95, x 96, x 97, x 98, x 99, x 100, x 101, x 102, x 103, x 104, x 105, x 106, x 107, x 108, x 109, x 110, x 111, x 112, x 113, x 114, x 115, x 116, x 117, x 118, x 119, x 120, x 121, x 122, x 123, x 124, x 125, x 126, x 127, x 128, x 129, x 130, x 131, x 132, x 133, x 134, x 135, x 136, x 137, x 138, x 139, x 140, x 141, x 142, x 143, x 144, x 145, x 146, x 147, x 148, x 149, x 150, x 151, x 152, x 153, x 154, x 155, x 156, x 157, x 158, x 159, x 160, x 161, x 162, x 163, x 164, x 165, x 166, x 167, x 168, x 169, x 170, x 171, x 172, x 173, x 174, x 175, x 176, x 177, x 178, x 179, x 180, x 181, x 182, x 183, x 184, x 185, x 186, x 187, x 188, x 189, x 190, x 191, x 192, x 193, x 194, x 195, x 196, x 197, x 198, x 199, x 200, x 201, x 202, x 203, x 204, x 205, x 206, x 207, x 208, x 209, x 210, x 211])

set_option maxHeartbeats 1000000 in
theorem long_loop {w b p5 a0 : Nat} {ad : Option Addr} {ops : List Opr} (hw : 1 ≤ w) (hw2 : w ≤ 128) (ha : a0 < 2 ^ 128) (hops : ∀ o ∈ ops, o.a < 2 ^ 128) (hlen : ops.length ≤ 4611686018427387904) {Q : Post}
    (hQ : ∀ e H' t M best value, LI H' b w p5 a0 ad ops t M → M.length ≤ 2000 → Best (hitsM w a0 M) best value →
      (∃ x : Nat → Value, e = [x 0, x 1, x 2, x 3, x 4, .pointer (some ⟨p5, 0, none⟩), x 6, x 7, .pointer (some ⟨b, 0, none⟩), x 9, x 10, x 11, .int .i64 best, .int .i64 value, .int .i64 ((hitsM w a0 M).length : Nat), x 15, x 16, x 17, x 18, x 19, x 20, x 21, x 22, x 23, x 24, x 25, x 26, x 27, x 28, x 29, x 30, x 31, x 32, x 33, x 34, x 35, x 36, x 37, x 38, x 39, x 40, x 41, x 42, x 43, x 44, x 45, x 46, x 47, x 48, x 49, x 50, x 51, x 52, x 53, x 54, x 55, x 56, x 57, x 58, x 59, x 60, x 61, x 62, x 63, x 64, x 65, x 66, x 67, x 68, x 69, x 70, x 71, x 72, x 73, x 74, x 75, x 76, x 77, x 78, x 79, x 80, x 81, x 82, x 83, x 84, x 85, x 86, x 87, x 88, x 89, x 90, x 91, x 92, x 93, x 94, x 95, x 96, x 97, x 98, x 99, x 100, x 101, x 102, x 103, x 104, x 105, x 106, x 107, x 108, x 109, x 110, x 111, x 112, x 113, x 114, x 115, x 116, x 117, x 118, x 119, x 120, x 121, x 122, x 123, x 124, x 125, x 126, x 127, x 128, x 129, x 130, x 131, x 132, x 133, x 134, x 135, x 136, x 137, x 138, x 139, x 140, x 141, x 142, x 143, x 144, x 145, x 146, x 147, x 148, x 149, x 150, x 151, x 152, x 153, x 154, x 155, x 156, x 157, x 158, x 159, x 160, x 161, x 162, x 163, x 164, x 165, x 166, x 167, x 168, x 169, x 170, x 171, x 172, x 173, x 174, x 175, x 176, x 177, x 178, x 179, x 180, x 181, x 182, x 183, x 184, x 185, x 186, x 187, x 188, x 189, x 190, x 191, x 192, x 193, x 194, x 195, x 196, x 197, x 198, x 199, x 200, x 201, x 202, x 203, x 204, x 205, x 206, x 207, x 208, x 209, x 210, x 211]) → Q (.exit 0) e H')
    {z : Nat} {e : Env} {H1 : Heap} (hI : longI w b p5 a0 ad ops z e H1) : WLoop T (g3.body.at [1, 1, 1, 1, 1, 1, 1, 1, 0, 1, 0, 0]) e H1 Q := by
  refine WLoop.inv (longI w b p5 a0 ad ops) ?_ _ _ _ hI
  clear hI
  rintro z e H' ⟨i, t, M, best, value, k1, k2, rfl, k3, hL, hB, ⟨x, rfl⟩⟩
  simp only [AFunc.body, g3, ACode.at]
  by_cases hi : (i : Int) < (ops.length : Nat)
  case neg =>
    simp (disch := omega) only [kaa, kab, kac, kad, khm, khn, kho, khp, khq, khr, kae, kaf, kag, kah, kai, kaj, kak, kal, kam, kan, kao, khe, khf, khg, khh, khi, khj, khk, khl, kap, kaq, kar, kas, kat, kau, kav, kaw, kax, kay, kaz, kba, kbb, kbc, kbd, kbe, kbf, kbg, kbh, kbi, kbj, kbk, kbl, kbm, kbn, kbo, kbp, kbq, kbr, kbs, kbt, kbu, kbv, kbw, kbx, kby, kbz, kca, kcb, kcc, kcd, kce, kcf, kcg, kch, kci, kcj, kck, kcl, kcm, aop, kcn, kco, kcp, kcq, kcr, kcs, kct, kcu, kcv, kcw, resultsL, resultOf, kcx, Nat.reduceEqDiff, kcy, kcz, kda, reduceCtorEq, kdb, kdc, kdd, kde, kdf, kdg, kdh, kdi, kdj, kdk, kdl, kdm, kdn, kdo, eq1, kdp, kdq, kdr, kds, kdt, kdu, kdv, kdw, kdx, kdy, kdz, kea, keb, kec, apartOK, apart2, AObj.live, ked, kee, kef, keg, keh, kei, kej, kek, kel, Int.reduceEq, Int.reduceLT, Int.reduceLE, Int.reduceAdd, Int.reduceSub, Int.reduceMul, Int.reduceToNat, kem, ken, keo, kep, keq, ker, kes, ket, keu, kev, kew, kex, key, kez, kfa, kfb, kfc, kfd, kfe, kff, kfg, kfh, kfi, kfj, kfk, kfl, cutCells, kfm, kfn, kfo, kfp, kfq, kfr, kfs, kft, kfu, kfv, kfw, kfx, kfy, Nat.reduceAdd, Nat.reduceLeDiff, Nat.reduceLT, Nat.reduceMul, Nat.reduceSub, kfz, kga, kgb, kgc, kgd, kge, kgf, kgg, kgh, kgi, kgj, kgk, kgl, kgm, kgn, kgo, kgp, kgq, kgr, kgs, kgt, kgu, kgv, kgw, kgx, kgy, kgz, kha, khb, khc, khd, hi]
    exact hQ _ _ _ _ _ _ hL (by omega) hB (by exact ex_env rfl)
  by_cases hi2 : (i : Int) < 2000
  case neg =>
    simp (disch := omega) only [kaa, kab, kac, kad, khm, khn, kho, khp, khq, khr, kae, kaf, kag, kah, kai, kaj, kak, kal, kam, kan, kao, khe, khf, khg, khh, khi, khj, khk, khl, kap, kaq, kar, kas, kat, kau, kav, kaw, kax, kay, kaz, kba, kbb, kbc, kbd, kbe, kbf, kbg, kbh, kbi, kbj, kbk, kbl, kbm, kbn, kbo, kbp, kbq, kbr, kbs, kbt, kbu, kbv, kbw, kbx, kby, kbz, kca, kcb, kcc, kcd, kce, kcf, kcg, kch, kci, kcj, kck, kcl, kcm, aop, kcn, kco, kcp, kcq, kcr, kcs, kct, kcu, kcv, kcw, resultsL, resultOf, kcx, Nat.reduceEqDiff, kcy, kcz, kda, reduceCtorEq, kdb, kdc, kdd, kde, kdf, kdg, kdh, kdi, kdj, kdk, kdl, kdm, kdn, kdo, eq1, kdp, kdq, kdr, kds, kdt, kdu, kdv, kdw, kdx, kdy, kdz, kea, keb, kec, apartOK, apart2, AObj.live, ked, kee, kef, keg, keh, kei, kej, kek, kel, Int.reduceEq, Int.reduceLT, Int.reduceLE, Int.reduceAdd, Int.reduceSub, Int.reduceMul, Int.reduceToNat, kem, ken, keo, kep, keq, ker, kes, ket, keu, kev, kew, kex, key, kez, kfa, kfb, kfc, kfd, kfe, kff, kfg, kfh, kfi, kfj, kfk, kfl, cutCells, kfm, kfn, kfo, kfp, kfq, kfr, kfs, kft, kfu, kfv, kfw, kfx, kfy, Nat.reduceAdd, Nat.reduceLeDiff, Nat.reduceLT, Nat.reduceMul, Nat.reduceSub, kfz, kga, kgb, kgc, kgd, kge, kgf, kgg, kgh, kgi, kgj, kgk, kgl, kgm, kgn, kgo, kgp, kgq, kgr, kgs, kgt, kgu, kgv, kgw, kgx, kgy, kgz, kha, khb, khc, khd, hi, hi2]
    exact hQ _ _ _ _ _ _ hL (by omega) hB (by exact ex_env rfl)
  have hil : i < ops.length := by omega
  obtain ⟨bl, wr, rfl, hbl, hrow⟩ := hL.sl (fun q => by rw [q] at hil; simp at hil)
  have o1 := op_bits ops i hil
  have o2 := op_n ops i hil
  have o3 := op_len ops
  have hoa := hops ops[i] (List.getElem_mem hil)
  simp (disch := omega) only [kaa, kab, kac, kad, khm, khn, kho, khp, khq, khr, kae, kaf, kag, kah, kai, kaj, kak, kal, kam, kan, kao, khe, khf, khg, khh, khi, khj, khk, khl, kap, kaq, kar, kas, kat, kau, kav, kaw, kax, kay, kaz, kba, kbb, kbc, kbd, kbe, kbf, kbg, kbh, kbi, kbj, kbk, kbl, kbm, kbn, kbo, kbp, kbq, kbr, kbs, kbt, kbu, kbv, kbw, kbx, kby, kbz, kca, kcb, kcc, kcd, kce, kcf, kcg, kch, kci, kcj, kck, kcl, kcm, aop, kcn, kco, kcp, kcq, kcr, kcs, kct, kcu, kcv, kcw, resultsL, resultOf, kcx, Nat.reduceEqDiff, kcy, kcz, kda, reduceCtorEq, kdb, kdc, kdd, kde, kdf, kdg, kdh, kdi, kdj, kdk, kdl, kdm, kdn, kdo, eq1, kdp, kdq, kdr, kds, kdt, kdu, kdv, kdw, kdx, kdy, kdz, kea, keb, kec, apartOK, apart2, AObj.live, ked, kee, kef, keg, keh, kei, kej, kek, kel, Int.reduceEq, Int.reduceLT, Int.reduceLE, Int.reduceAdd, Int.reduceSub, Int.reduceMul, Int.reduceToNat, kem, ken, keo, kep, keq, ker, kes, ket, keu, kev, kew, kex, key, kez, kfa, kfb, kfc, kfd, kfe, kff, kfg, kfh, kfi, kfj, kfk, kfl, cutCells, kfm, kfn, kfo, kfp, kfq, kfr, kfs, kft, kfu, kfv, kfw, kfx, kfy, Nat.reduceAdd, Nat.reduceLeDiff, Nat.reduceLT, Nat.reduceMul, Nat.reduceSub, kfz, kga, kgb, kgc, kgd, kge, kgf, kgg, kgh, kgi, kgj, kgk, kgl, kgm, kgn, kgo, kgp, kgq, kgr, kgs, kgt, kgu, kgv, kgw, kgx, kgy, kgz, kha, khb, khc, khd, hi, hi2, hrow, o1, o2, o3, if_pos]
  have lbl := hget_lt hrow rfl
  have hMl : (M.length : Int) < 2000 := by omega
  refine put_t hL.ti hw hw2 hoa (by omega) (fun hr g => ?_) (fun hr hat g => ?_) (fun hr hat hf => by omega) (fun hr hat _ t' H2 hlen2 hfr hti hown her => ?_)
  · simp (disch := omega) only [kaa, kab, kac, kad, khm, khn, kho, khp, khq, khr, kae, kaf, kag, kah, kai, kaj, kak, kal, kam, kan, kao, khe, khf, khg, khh, khi, khj, khk, khl, kap, kaq, kar, kas, kat, kau, kav, kaw, kax, kay, kaz, kba, kbb, kbc, kbd, kbe, kbf, kbg, kbh, kbi, kbj, kbk, kbl, kbm, kbn, kbo, kbp, kbq, kbr, kbs, kbt, kbu, kbv, kbw, kbx, kby, kbz, kca, kcb, kcc, kcd, kce, kcf, kcg, kch, kci, kcj, kck, kcl, kcm, aop, kcn, kco, kcp, kcq, kcr, kcs, kct, kcu, kcv, kcw, resultsL, resultOf, kcx, Nat.reduceEqDiff, kcy, kcz, kda, reduceCtorEq, kdb, kdc, kdd, kde, kdf, kdg, kdh, kdi, kdj, kdk, kdl, kdm, kdn, kdo, eq1, kdp, kdq, kdr, kds, kdt, kdu, kdv, kdw, kdx, kdy, kdz, kea, keb, kec, apartOK, apart2, AObj.live, ked, kee, kef, keg, keh, kei, kej, kek, kel, Int.reduceEq, Int.reduceLT, Int.reduceLE, Int.reduceAdd, Int.reduceSub, Int.reduceMul, Int.reduceToNat, kem, ken, keo, kep, keq, ker, kes, ket, keu, kev, kew, kex, key, kez, kfa, kfb, kfc, kfd, kfe, kff, kfg, kfh, kfi, kfj, kfk, kfl, cutCells, kfm, kfn, kfo, kfp, kfq, kfr, kfs, kft, kfu, kfv, kfw, kfx, kfy, Nat.reduceAdd, Nat.reduceLeDiff, Nat.reduceLT, Nat.reduceMul, Nat.reduceSub, kfz, kga, kgb, kgc, kgd, kge, kgf, kgg, kgh, kgi, kgj, kgk, kgl, kgm, kgn, kgo, kgp, kgq, kgr, kgs, kgt, kgu, kgv, kgw, kgx, kgy, kgz, kha, khb, khc, khd, hi, hi2, hrow, o1, o2, o3, if_pos]
    refine reftext_t hw hw2 hoa ?_
    rw [hr]
    simp (disch := omega) only [kaa, kab, kac, kad, khm, khn, kho, khp, khq, khr, kae, kaf, kag, kah, kai, kaj, kak, kal, kam, kan, kao, khe, khf, khg, khh, khi, khj, khk, khl, kap, kaq, kar, kas, kat, kau, kav, kaw, kax, kay, kaz, kba, kbb, kbc, kbd, kbe, kbf, kbg, kbh, kbi, kbj, kbk, kbl, kbm, kbn, kbo, kbp, kbq, kbr, kbs, kbt, kbu, kbv, kbw, kbx, kby, kbz, kca, kcb, kcc, kcd, kce, kcf, kcg, kch, kci, kcj, kck, kcl, kcm, aop, kcn, kco, kcp, kcq, kcr, kcs, kct, kcu, kcv, kcw, resultsL, resultOf, kcx, Nat.reduceEqDiff, kcy, kcz, kda, reduceCtorEq, kdb, kdc, kdd, kde, kdf, kdg, kdh, kdi, kdj, kdk, kdl, kdm, kdn, kdo, eq1, kdp, kdq, kdr, kds, kdt, kdu, kdv, kdw, kdx, kdy, kdz, kea, keb, kec, apartOK, apart2, AObj.live, ked, kee, kef, keg, keh, kei, kej, kek, kel, Int.reduceEq, Int.reduceLT, Int.reduceLE, Int.reduceAdd, Int.reduceSub, Int.reduceMul, Int.reduceToNat, kem, ken, keo, kep, keq, ker, kes, ket, keu, kev, kew, kex, key, kez, kfa, kfb, kfc, kfd, kfe, kff, kfg, kfh, kfi, kfj, kfk, kfl, cutCells, kfm, kfn, kfo, kfp, kfq, kfr, kfs, kft, kfu, kfv, kfw, kfx, kfy, Nat.reduceAdd, Nat.reduceLeDiff, Nat.reduceLT, Nat.reduceMul, Nat.reduceSub, kfz, kga, kgb, kgc, kgd, kge, kgf, kgg, kgh, kgi, kgj, kgk, kgl, kgm, kgn, kgo, kgp, kgq, kgr, kgs, kgt, kgu, kgv, kgw, kgx, kgy, kgz, kha, khb, khc, khd, wr_i64, nadd1]
    exact ⟨2000 - (i + 1), by omega, i + 1, t, M, best, value, by omega, by omega, rfl, by omega, hL.app, hB, ex_env rfl⟩
  · simp (disch := omega) only [kaa, kab, kac, kad, khm, khn, kho, khp, khq, khr, kae, kaf, kag, kah, kai, kaj, kak, kal, kam, kan, kao, khe, khf, khg, khh, khi, khj, khk, khl, kap, kaq, kar, kas, kat, kau, kav, kaw, kax, kay, kaz, kba, kbb, kbc, kbd, kbe, kbf, kbg, kbh, kbi, kbj, kbk, kbl, kbm, kbn, kbo, kbp, kbq, kbr, kbs, kbt, kbu, kbv, kbw, kbx, kby, kbz, kca, kcb, kcc, kcd, kce, kcf, kcg, kch, kci, kcj, kck, kcl, kcm, aop, kcn, kco, kcp, kcq, kcr, kcs, kct, kcu, kcv, kcw, resultsL, resultOf, kcx, Nat.reduceEqDiff, kcy, kcz, kda, reduceCtorEq, kdb, kdc, kdd, kde, kdf, kdg, kdh, kdi, kdj, kdk, kdl, kdm, kdn, kdo, eq1, kdp, kdq, kdr, kds, kdt, kdu, kdv, kdw, kdx, kdy, kdz, kea, keb, kec, apartOK, apart2, AObj.live, ked, kee, kef, keg, keh, kei, kej, kek, kel, Int.reduceEq, Int.reduceLT, Int.reduceLE, Int.reduceAdd, Int.reduceSub, Int.reduceMul, Int.reduceToNat, kem, ken, keo, kep, keq, ker, kes, ket, keu, kev, kew, kex, key, kez, kfa, kfb, kfc, kfd, kfe, kff, kfg, kfh, kfi, kfj, kfk, kfl, cutCells, kfm, kfn, kfo, kfp, kfq, kfr, kfs, kft, kfu, kfv, kfw, kfx, kfy, Nat.reduceAdd, Nat.reduceLeDiff, Nat.reduceLT, Nat.reduceMul, Nat.reduceSub, kfz, kga, kgb, kgc, kgd, kge, kgf, kgg, kgh, kgi, kgj, kgk, kgl, kgm, kgn, kgo, kgp, kgq, kgr, kgs, kgt, kgu, kgv, kgw, kgx, kgy, kgz, kha, khb, khc, khd, hi, hi2, hrow, o1, o2, o3, if_pos]
    refine reftext_t hw hw2 hoa ?_
    rw [hr]
    simp (disch := omega) only [kaa, kab, kac, kad, khm, khn, kho, khp, khq, khr, kae, kaf, kag, kah, kai, kaj, kak, kal, kam, kan, kao, khe, khf, khg, khh, khi, khj, khk, khl, kap, kaq, kar, kas, kat, kau, kav, kaw, kax, kay, kaz, kba, kbb, kbc, kbd, kbe, kbf, kbg, kbh, kbi, kbj, kbk, kbl, kbm, kbn, kbo, kbp, kbq, kbr, kbs, kbt, kbu, kbv, kbw, kbx, kby, kbz, kca, kcb, kcc, kcd, kce, kcf, kcg, kch, kci, kcj, kck, kcl, kcm, aop, kcn, kco, kcp, kcq, kcr, kcs, kct, kcu, kcv, kcw, resultsL, resultOf, kcx, Nat.reduceEqDiff, kcy, kcz, kda, reduceCtorEq, kdb, kdc, kdd, kde, kdf, kdg, kdh, kdi, kdj, kdk, kdl, kdm, kdn, kdo, eq1, kdp, kdq, kdr, kds, kdt, kdu, kdv, kdw, kdx, kdy, kdz, kea, keb, kec, apartOK, apart2, AObj.live, ked, kee, kef, keg, keh, kei, kej, kek, kel, Int.reduceEq, Int.reduceLT, Int.reduceLE, Int.reduceAdd, Int.reduceSub, Int.reduceMul, Int.reduceToNat, kem, ken, keo, kep, keq, ker, kes, ket, keu, kev, kew, kex, key, kez, kfa, kfb, kfc, kfd, kfe, kff, kfg, kfh, kfi, kfj, kfk, kfl, cutCells, kfm, kfn, kfo, kfp, kfq, kfr, kfs, kft, kfu, kfv, kfw, kfx, kfy, Nat.reduceAdd, Nat.reduceLeDiff, Nat.reduceLT, Nat.reduceMul, Nat.reduceSub, kfz, kga, kgb, kgc, kgd, kge, kgf, kgg, kgh, kgi, kgj, kgk, kgl, kgm, kgn, kgo, kgp, kgq, kgr, kgs, kgt, kgu, kgv, kgw, kgx, kgy, kgz, kha, khb, khc, khd, wr_i64, nadd1]
    exact ⟨2000 - (i + 1), by omega, i + 1, t, M, best, value, by omega, by omega, rfl, by omega, hL.app, hB, ex_env rfl⟩
  · obtain ⟨r1, r2, r3, r4⟩ := (rgt_iff hw2).1 hr
    obtain ⟨k, hk⟩ : ∃ k : Nat, ops[i].n = k := ⟨ops[i].n.toNat, by omega⟩
    rw [hk] at hr hat her r3
    simp only [Int.toNat_natCast] at hat her
    have hkw : k ≤ w := by omega
    have hm : ops[i].a &&& maskN w k = ops[i].a := by
      have := hr
      simp only [rgt, Bool.and_eq_true, decide_eq_true_eq, Int.toNat_natCast] at this
      exact this.2
    have hrow2 : hget H2 bl = .row (ops.map opC).flatten 0 wr := by
      rw [hfr bl lbl (by omega) (fun q => by have := hL.low _ q; omega)]; exact hrow
    have hperm : t'.er.mem.Perm ((ops[i].a, k, (i : Int)) :: M) := by
      rw [her]
      exact (with_mem hw2 r1 hkw hm hL.pw (tw_er.1 hL.ti.ok) (atV_none.1 hat)).trans (List.Perm.cons _ hL.perm)
    have hL2 : LI H2 b w p5 a0 (some ⟨bl, 0, none⟩) ops t' ((ops[i].a, k, (i : Int)) :: M) := by
      have hp5 := hget_lt hL.box rfl
      have hb := hget_lt hL.ti.hd rfl
      have l5 := hL.lt5
      refine ⟨by simpa using hti, fun c hc => ?_, by rw [her]; exact with_pw hw2 r1 hkw hm hL.pw, hperm, ?_, l5, fun q => ⟨bl, wr, rfl, hbl, hrow2⟩⟩
      · rcases hown c hc with q | q
        · exact hL.low c q
        · omega
      · rw [hfr p5 hp5 (by omega) (fun q => by have := hL.low _ q; omega)]; exact hL.box
    clear hfr hti hown
    rw [hk] at o2
    simp (disch := omega) only [kaa, kab, kac, kad, khm, khn, kho, khp, khq, khr, kae, kaf, kag, kah, kai, kaj, kak, kal, kam, kan, kao, khe, khf, khg, khh, khi, khj, khk, khl, kap, kaq, kar, kas, kat, kau, kav, kaw, kax, kay, kaz, kba, kbb, kbc, kbd, kbe, kbf, kbg, kbh, kbi, kbj, kbk, kbl, kbm, kbn, kbo, kbp, kbq, kbr, kbs, kbt, kbu, kbv, kbw, kbx, kby, kbz, kca, kcb, kcc, kcd, kce, kcf, kcg, kch, kci, kcj, kck, kcl, kcm, aop, kcn, kco, kcp, kcq, kcr, kcs, kct, kcu, kcv, kcw, resultsL, resultOf, kcx, Nat.reduceEqDiff, kcy, kcz, kda, reduceCtorEq, kdb, kdc, kdd, kde, kdf, kdg, kdh, kdi, kdj, kdk, kdl, kdm, kdn, kdo, eq1, kdp, kdq, kdr, kds, kdt, kdu, kdv, kdw, kdx, kdy, kdz, kea, keb, kec, apartOK, apart2, AObj.live, ked, kee, kef, keg, keh, kei, kej, kek, kel, Int.reduceEq, Int.reduceLT, Int.reduceLE, Int.reduceAdd, Int.reduceSub, Int.reduceMul, Int.reduceToNat, kem, ken, keo, kep, keq, ker, kes, ket, keu, kev, kew, kex, key, kez, kfa, kfb, kfc, kfd, kfe, kff, kfg, kfh, kfi, kfj, kfk, kfl, cutCells, kfm, kfn, kfo, kfp, kfq, kfr, kfs, kft, kfu, kfv, kfw, kfx, kfy, Nat.reduceAdd, Nat.reduceLeDiff, Nat.reduceLT, Nat.reduceMul, Nat.reduceSub, kfz, kga, kgb, kgc, kgd, kge, kgf, kgg, kgh, kgi, kgj, kgk, kgl, kgm, kgn, kgo, kgp, kgq, kgr, kgs, kgt, kgu, kgv, kgw, kgx, kgy, kgz, kha, khb, khc, khd, hi, hi2, hrow2, o1, o2, o3, if_pos]
    refine reftext_t hw hw2 hoa ?_
    rw [hr]
    try simp only [if_true, Int.toNat_natCast]
    by_cases hfit : a0 < 2 ^ w
    case neg =>
      simp (disch := omega) only [kaa, kab, kac, kad, khm, khn, kho, khp, khq, khr, kae, kaf, kag, kah, kai, kaj, kak, kal, kam, kan, kao, khe, khf, khg, khh, khi, khj, khk, khl, kap, kaq, kar, kas, kat, kau, kav, kaw, kax, kay, kaz, kba, kbb, kbc, kbd, kbe, kbf, kbg, kbh, kbi, kbj, kbk, kbl, kbm, kbn, kbo, kbp, kbq, kbr, kbs, kbt, kbu, kbv, kbw, kbx, kby, kbz, kca, kcb, kcc, kcd, kce, kcf, kcg, kch, kci, kcj, kck, kcl, kcm, aop, kcn, kco, kcp, kcq, kcr, kcs, kct, kcu, kcv, kcw, resultsL, resultOf, kcx, Nat.reduceEqDiff, kcy, kcz, kda, reduceCtorEq, kdb, kdc, kdd, kde, kdf, kdg, kdh, kdi, kdj, kdk, kdl, kdm, kdn, kdo, eq1, kdp, kdq, kdr, kds, kdt, kdu, kdv, kdw, kdx, kdy, kdz, kea, keb, kec, apartOK, apart2, AObj.live, ked, kee, kef, keg, keh, kei, kej, kek, kel, Int.reduceEq, Int.reduceLT, Int.reduceLE, Int.reduceAdd, Int.reduceSub, Int.reduceMul, Int.reduceToNat, kem, ken, keo, kep, keq, ker, kes, ket, keu, kev, kew, kex, key, kez, kfa, kfb, kfc, kfd, kfe, kff, kfg, kfh, kfi, kfj, kfk, kfl, cutCells, kfm, kfn, kfo, kfp, kfq, kfr, kfs, kft, kfu, kfv, kfw, kfx, kfy, Nat.reduceAdd, Nat.reduceLeDiff, Nat.reduceLT, Nat.reduceMul, Nat.reduceSub, kfz, kga, kgb, kgc, kgd, kge, kgf, kgg, kgh, kgi, kgj, kgk, kgl, kgm, kgn, kgo, kgp, kgq, kgr, kgs, kgt, kgu, kgv, kgw, kgx, kgy, kgz, kha, khb, khc, khd, hfit, wr_i64, nadd1]
      have e1 : hitsM w a0 ((ops[i].a, k, (i : Int)) :: M) = hitsM w a0 M := by simp only [hitsM, if_neg hfit]
      refine ⟨2000 - (i + 1), by omega, i + 1, t', (ops[i].a, k, (i : Int)) :: M, best, value, by omega, by omega, rfl, by simp; omega, hL2, by rw [e1]; exact hB, ?_⟩
      rw [e1, if_neg hfit, decide_eq_false hfit]
      exact ex_env rfl
    have hl1 : (List.take k (bitS w ops[i].a)).length = k := by rw [List.length_take, bitS_len]; omega
    have hl2 : (bitS w a0).length = w := bitS_len _ _
    by_cases hU : Und w ops[i].a k a0
    case neg =>
      have hne : ¬ List.take k (bitS w a0) = List.take k (bitS w ops[i].a) := fun q => hU ((und_take hkw hfit r1).1 q).symm
      have e1 : hitsM w a0 ((ops[i].a, k, (i : Int)) :: M) = hitsM w a0 M := by simp only [hitsM, if_pos hfit, List.filter_cons, decide_eq_false hU, Bool.false_eq_true, if_false]
      simp (disch := omega) only [kaa, kab, kac, kad, khm, khn, kho, khp, khq, khr, kae, kaf, kag, kah, kai, kaj, kak, kal, kam, kan, kao, khe, khf, khg, khh, khi, khj, khk, khl, kap, kaq, kar, kas, kat, kau, kav, kaw, kax, kay, kaz, kba, kbb, kbc, kbd, kbe, kbf, kbg, kbh, kbi, kbj, kbk, kbl, kbm, kbn, kbo, kbp, kbq, kbr, kbs, kbt, kbu, kbv, kbw, kbx, kby, kbz, kca, kcb, kcc, kcd, kce, kcf, kcg, kch, kci, kcj, kck, kcl, kcm, aop, kcn, kco, kcp, kcq, kcr, kcs, kct, kcu, kcv, kcw, resultsL, resultOf, kcx, Nat.reduceEqDiff, kcy, kcz, kda, reduceCtorEq, kdb, kdc, kdd, kde, kdf, kdg, kdh, kdi, kdj, kdk, kdl, kdm, kdn, kdo, eq1, kdp, kdq, kdr, kds, kdt, kdu, kdv, kdw, kdx, kdy, kdz, kea, keb, kec, apartOK, apart2, AObj.live, ked, kee, kef, keg, keh, kei, kej, kek, kel, Int.reduceEq, Int.reduceLT, Int.reduceLE, Int.reduceAdd, Int.reduceSub, Int.reduceMul, Int.reduceToNat, kem, ken, keo, kep, keq, ker, kes, ket, keu, kev, kew, kex, key, kez, kfa, kfb, kfc, kfd, kfe, kff, kfg, kfh, kfi, kfj, kfk, kfl, cutCells, kfm, kfn, kfo, kfp, kfq, kfr, kfs, kft, kfu, kfv, kfw, kfx, kfy, Nat.reduceAdd, Nat.reduceLeDiff, Nat.reduceLT, Nat.reduceMul, Nat.reduceSub, kfz, kga, kgb, kgc, kgd, kge, kgf, kgg, kgh, kgi, kgj, kgk, kgl, kgm, kgn, kgo, kgp, kgq, kgr, kgs, kgt, kgu, kgv, kgw, kgx, kgy, kgz, kha, khb, khc, khd, hfit, hl1, hl2, hne, wr_i64, nadd1]
      refine ⟨2000 - (i + 1), by omega, i + 1, t', (ops[i].a, k, (i : Int)) :: M, best, value, by omega, by omega, rfl, by simp; omega, hL2, by rw [e1]; exact hB, ?_⟩
      rw [e1, if_pos hfit, decide_eq_true hfit]
      exact ex_env rfl
    have heq : List.take k (bitS w a0) = List.take k (bitS w ops[i].a) := (und_take hkw hfit r1).2 hU.symm
    have e1 : hitsM w a0 ((ops[i].a, k, (i : Int)) :: M) = (ops[i].a, k, (i : Int)) :: hitsM w a0 M := by simp only [hitsM, if_pos hfit, List.filter_cons, decide_eq_true hU, if_true]
    have hhl : (hitsM w a0 M).length ≤ M.length := by
      unfold hitsM
      rw [if_pos hfit]
      exact List.length_filter_le _ _
    by_cases hgt : best < (k : Int)
    · simp (disch := omega) only [kaa, kab, kac, kad, khm, khn, kho, khp, khq, khr, kae, kaf, kag, kah, kai, kaj, kak, kal, kam, kan, kao, khe, khf, khg, khh, khi, khj, khk, khl, kap, kaq, kar, kas, kat, kau, kav, kaw, kax, kay, kaz, kba, kbb, kbc, kbd, kbe, kbf, kbg, kbh, kbi, kbj, kbk, kbl, kbm, kbn, kbo, kbp, kbq, kbr, kbs, kbt, kbu, kbv, kbw, kbx, kby, kbz, kca, kcb, kcc, kcd, kce, kcf, kcg, kch, kci, kcj, kck, kcl, kcm, aop, kcn, kco, kcp, kcq, kcr, kcs, kct, kcu, kcv, kcw, resultsL, resultOf, kcx, Nat.reduceEqDiff, kcy, kcz, kda, reduceCtorEq, kdb, kdc, kdd, kde, kdf, kdg, kdh, kdi, kdj, kdk, kdl, kdm, kdn, kdo, eq1, kdp, kdq, kdr, kds, kdt, kdu, kdv, kdw, kdx, kdy, kdz, kea, keb, kec, apartOK, apart2, AObj.live, ked, kee, kef, keg, keh, kei, kej, kek, kel, Int.reduceEq, Int.reduceLT, Int.reduceLE, Int.reduceAdd, Int.reduceSub, Int.reduceMul, Int.reduceToNat, kem, ken, keo, kep, keq, ker, kes, ket, keu, kev, kew, kex, key, kez, kfa, kfb, kfc, kfd, kfe, kff, kfg, kfh, kfi, kfj, kfk, kfl, cutCells, kfm, kfn, kfo, kfp, kfq, kfr, kfs, kft, kfu, kfv, kfw, kfx, kfy, Nat.reduceAdd, Nat.reduceLeDiff, Nat.reduceLT, Nat.reduceMul, Nat.reduceSub, kfz, kga, kgb, kgc, kgd, kge, kgf, kgg, kgh, kgi, kgj, kgk, kgl, kgm, kgn, kgo, kgp, kgq, kgr, kgs, kgt, kgu, kgv, kgw, kgx, kgy, kgz, kha, khb, khc, khd, hfit, hl1, hl2, heq, hgt, wr_i64, nadd1]
      refine ⟨2000 - (i + 1), by omega, i + 1, t', (ops[i].a, k, (i : Int)) :: M, (k : Int), (i : Int), by omega, by omega, rfl, by simp; omega, hL2, ?_, ?_⟩
      · rw [e1]
        refine .inr ⟨_, List.mem_cons_self, rfl, rfl, fun y hy => ?_⟩
        rcases List.mem_cons.1 hy with rfl | hy
        · exact Nat.le_refl _
        · rcases hB with ⟨q, _⟩ | ⟨x, q1, q2, q3, q4⟩
          · rw [q] at hy; cases hy
          · have := q4 y hy
            show y.2.1 ≤ k
            omega
      · rw [e1, if_pos hfit, decide_eq_true hfit]
        exact ex_env rfl
    · simp (disch := omega) only [kaa, kab, kac, kad, khm, khn, kho, khp, khq, khr, kae, kaf, kag, kah, kai, kaj, kak, kal, kam, kan, kao, khe, khf, khg, khh, khi, khj, khk, khl, kap, kaq, kar, kas, kat, kau, kav, kaw, kax, kay, kaz, kba, kbb, kbc, kbd, kbe, kbf, kbg, kbh, kbi, kbj, kbk, kbl, kbm, kbn, kbo, kbp, kbq, kbr, kbs, kbt, kbu, kbv, kbw, kbx, kby, kbz, kca, kcb, kcc, kcd, kce, kcf, kcg, kch, kci, kcj, kck, kcl, kcm, aop, kcn, kco, kcp, kcq, kcr, kcs, kct, kcu, kcv, kcw, resultsL, resultOf, kcx, Nat.reduceEqDiff, kcy, kcz, kda, reduceCtorEq, kdb, kdc, kdd, kde, kdf, kdg, kdh, kdi, kdj, kdk, kdl, kdm, kdn, kdo, eq1, kdp, kdq, kdr, kds, kdt, kdu, kdv, kdw, kdx, kdy, kdz, kea, keb, kec, apartOK, apart2, AObj.live, ked, kee, kef, keg, keh, kei, kej, kek, kel, Int.reduceEq, Int.reduceLT, Int.reduceLE, Int.reduceAdd, Int.reduceSub, Int.reduceMul, Int.reduceToNat, kem, ken, keo, kep, keq, ker, kes, ket, keu, kev, kew, kex, key, kez, kfa, kfb, kfc, kfd, kfe, kff, kfg, kfh, kfi, kfj, kfk, kfl, cutCells, kfm, kfn, kfo, kfp, kfq, kfr, kfs, kft, kfu, kfv, kfw, kfx, kfy, Nat.reduceAdd, Nat.reduceLeDiff, Nat.reduceLT, Nat.reduceMul, Nat.reduceSub, kfz, kga, kgb, kgc, kgd, kge, kgf, kgg, kgh, kgi, kgj, kgk, kgl, kgm, kgn, kgo, kgp, kgq, kgr, kgs, kgt, kgu, kgv, kgw, kgx, kgy, kgz, kha, khb, khc, khd, hfit, hl1, hl2, heq, hgt, wr_i64, nadd1]
      refine ⟨2000 - (i + 1), by omega, i + 1, t', (ops[i].a, k, (i : Int)) :: M, best, value, by omega, by omega, rfl, by simp; omega, hL2, ?_, ?_⟩
      · rw [e1]
        rcases hB with ⟨_, q, _⟩ | ⟨x, q1, q2, q3, q4⟩
        · omega
        · refine .inr ⟨x, List.mem_cons_of_mem _ q1, q2, q3, fun y hy => ?_⟩
          rcases List.mem_cons.1 hy with rfl | hy
          · show k ≤ x.2.1
            omega
          · exact q4 y hy
      · rw [e1, if_pos hfit, decide_eq_true hfit]
        exact ex_env rfl

end Go.Proofs.Yticgkaanaimllaa.Ev

/- The law TrieLongest. -/
namespace Go.Proofs.Yticgkaanaimllaa.Ev
set_option maxRecDepth 100000
set_option linter.unusedSimpArgs false
set_option linter.unusedVariables false
variable {R : FRes → Heap → Prop} {H : Heap}

theorem pfs_len : ∀ (L : List Tr), (∀ nd ∈ L, ∃ b c n v l r, nd = Tr.node b c n true v l r) → (pfs L).length = L.length * 3
  | [], _ => rfl
  | nd :: L, h => by
    obtain ⟨b, c, n, v, l, r, rfl⟩ := h nd (by simp)
    have := pfs_len L fun x hx => h x (by simp [hx])
    simp only [pfs, List.map_cons, List.flatten_cons, List.length_append, List.length_cons] at this ⊢
    rw [this]
    simp [pfC]
    omega
theorem pfs_cut {L : List Tr} (h : ∀ nd ∈ L, ∃ b c n v l r, nd = Tr.node b c n true v l r) (i : Nat) (hi : i < L.length) : ((pfs L).drop (i * 3)).take 3 = pfC L[i] := by
  induction L generalizing i with
  | nil => simp at hi
  | cons nd L ih =>
    obtain ⟨b, c, n, v, l, r, rfl⟩ := h nd (by simp)
    simp only [pfs, List.map_cons, List.flatten_cons]
    cases i with
    | zero => simp [pfC]
    | succ i =>
      have : (pfC (Tr.node b c n true v l r)).length = 3 := rfl
      rw [List.drop_append, this, show (i + 1) * 3 - 3 = i * 3 by omega, List.drop_eq_nil_of_le (by rw [this]; omega), List.nil_append]
      simpa [pfs] using ih (fun x hx => h x (by simp [hx])) i (by simpa using hi)

/-- What the way tells, told of what was put. -/
theorem way_hits {w a : Nat} {t : Tr} {M : List Mem} (hpw : PW w t.er) (hp : t.er.mem.Perm M) : ((if a < 2 ^ w then wayL w a t else []).map trip).Perm (hitsM w a M) ∧ ((if a < 2 ^ w then wayL w a t else []).map trip).Pairwise (fun x y => x.2.1 < y.2.1) := by
  unfold hitsM
  by_cases ha : a < 2 ^ w
  · simp only [if_pos ha]
    rw [way_er]
    refine ⟨?_, way_rise hpw⟩
    rw [way_filter ha hpw]
    exact hp.filter _
  · simp only [if_neg ha, List.map_nil]
    exact ⟨List.Perm.refl _, List.Pairwise.nil⟩

/-- The last of what rises is the longest. -/
theorem last_best {L : List Mem} {x : Mem} {best value : Int} {L2 : List Mem} (hp : L.Perm L2) (hr : L.Pairwise (fun x y => x.2.1 < y.2.1)) (hl : L.getLast? = some x) (hb : Best L2 best value) : best = (x.2.1 : Nat) ∧ value = x.2.2 := by
  obtain ⟨ys, rfl⟩ := List.getLast?_eq_some_iff.1 hl
  have hx : x ∈ L2 := hp.mem_iff.1 (by simp)
  rcases hb with ⟨q, _⟩ | ⟨y, q1, q2, q3, q4⟩
  · rw [q] at hx; cases hx
  · have hy : y ∈ ys ++ [x] := hp.mem_iff.2 q1
    rw [List.pairwise_append] at hr
    rcases List.mem_append.1 hy with hy | hy
    · have := hr.2.2 y hy x (by simp)
      have := q4 x hx
      omega
    · simp only [List.mem_cons, List.not_mem_nil, or_false] at hy
      subst hy
      exact ⟨q2, q3⟩

theorem way_le {w a : Nat} : ∀ {t : PT}, (wayP w a t).length ≤ t.mem.length
  | .nil => Nat.le_refl _
  | .node c n f v l r => by
    have i1 := way_le (w := w) (a := a) (t := l)
    have i2 := way_le (w := w) (a := a) (t := r)
    have hk : (if n = w then ([] : List Mem) else if sideN w a n = 0 then wayP w a l else wayP w a r).length ≤ l.mem.length + r.mem.length := by
      by_cases h1 : n = w
      · rw [if_pos h1]; exact Nat.zero_le _
      · rw [if_neg h1]
        by_cases h2 : sideN w a n = 0
        · rw [if_pos h2]; omega
        · rw [if_neg h2]; omega
    simp only [wayP, PT.mem, List.length_append]
    by_cases h3 : n ≤ cmn w c a
    · rw [if_pos h3, List.length_append]
      omega
    · rw [if_neg h3]
      exact Nat.zero_le _

theorem wayL_tw {w a : Nat} : ∀ {t : Tr}, TW w t → ∀ nd ∈ wayL w a t, TW w nd
  | .nil, _, nd, h => by cases h
  | .node b c n f v l r, ht, nd, h => by
    rw [wayL] at h
    split at h
    · rcases List.mem_append.1 h with h | h
      · cases f with
        | true =>
          simp only [if_true, List.mem_cons, List.not_mem_nil, or_false] at h
          subst h
          exact ht
        | false => simp at h
      · split at h
        · cases h
        · split at h
          · exact wayL_tw ht.2.2.2.1 nd h
          · exact wayL_tw ht.2.2.2.2 nd h
    · cases h

/-- What is told is found. -/
theorem way_get {w a b c n : Nat} {v : Int} {l r : Tr} {t : Tr} (hw2 : w ≤ 128) (hpw : PW w t.er) (htw : TW w t) (ha : a < 2 ^ w) (h : Tr.node b c n true v l r ∈ wayL w a t) : getR w c n t = .tuple #[.int .i64 v, .bool true] := by
  have h1 : (c, n, v) ∈ wayP w a t.er := by
    rw [← way_er]
    exact List.mem_map.2 ⟨_, h, rfl⟩
  rw [way_filter ha hpw] at h1
  have h2 := (List.mem_filter.1 h1).1
  obtain ⟨q1, q2⟩ := nodes_ok hpw _ (mem_nodes h2)
  have h3 := (at_mem q2 q1 hpw).2 h2
  have h4 := (wayL_tw htw _ h).2.2.1
  have h5 : rgt w c (n : Int) = true := by
    simp only [rgt, Bool.and_eq_true, decide_eq_true_eq, Int.toNat_natCast]
    exact ⟨⟨⟨by omega, by simp only at q1; omega⟩, q2⟩, h4⟩
  rw [getR_er, if_pos h5, Int.toNat_natCast, h3]

abbrev QL3 : Post := retK [.tmp 6] (fun r _ => r = .ret (.bool true))

set_option maxHeartbeats 1000000 in
theorem long_rest {w b p5 a0 : Nat} {ad : Option Addr} {ops : List Opr} {t : Tr} {M : List Mem} {best value : Int} (hw : 1 ≤ w) (hw2 : w ≤ 128) (ha : a0 < 2 ^ 128) (hL : LI H b w p5 a0 ad ops t M) (hM : M.length ≤ 2000) (hB : Best (hitsM w a0 M) best value) {e : Env}
    (he : (∃ x : Nat → Value, e = [x 0, x 1, x 2, x 3, x 4, .pointer (some ⟨p5, 0, none⟩), x 6, x 7, .pointer (some ⟨b, 0, none⟩), x 9, x 10, x 11, .int .i64 best, .int .i64 value, .int .i64 ((hitsM w a0 M).length : Nat), x 15, x 16, x 17, x 18, x 19, x 20, x 21, x 22, x 23, x 24, x 25, x 26, x 27, x 28, x 29, x 30, x 31, x 32, x 33, x 34, x 35, x 36, x 37, x 38, x 39, x 40, x 41, x 42, x 43, x 44, x 45, x 46, x 47, x 48, x 49, x 50, x 51, x 52, x 53, x 54, x 55, x 56, x 57, x 58, x 59, x 60, x 61, x 62, x 63, x 64, x 65, x 66, x 67, x 68, x 69, x 70, x 71, x 72, x 73, x 74, x 75, x 76, x 77, x 78, x 79, x 80, x 81, x 82, x 83, x 84, x 85, x 86, x 87, x 88, x 89, x 90, x 91, x 92, x 93, x 94, x 95, x 96, x 97, x 98, x 99, x 100, x 101, x 102, x 103, x 104, x 105, x 106, x 107, x 108, x 109, x 110, x 111, x 112, x 113, x 114, x 115, x 116, x 117, x 118, x 119, x 120, x 121, x 122, x 123, x 124, x 125, x 126, x 127, x 128, x 129, x 130, x 131, x 132, x 133, x 134, x 135, x 136, x 137, x 138, x 139, x 140, x 141, x 142, x 143, x 144, x 145, x 146, x 147, x 148, x 149, x 150, x 151, x 152, x 153, x 154, x 155, x 156, x 157, x 158, x 159, x 160, x 161, x 162, x 163, x 164, x 165, x 166, x 167, x 168, x 169, x 170, x 171, x 172, x 173, x 174, x 175, x 176, x 177, x 178, x 179, x 180, x 181, x 182, x 183, x 184, x 185, x 186, x 187, x 188, x 189, x 190, x 191, x 192, x 193, x 194, x 195, x 196, x 197, x 198, x 199, x 200, x 201, x 202, x 203, x 204, x 205, x 206, x 207, x 208, x 209, x 210, x 211])) :
    WC T (g3.body.at [1, 1, 1, 1, 1, 1, 1, 1, 1]) e H QL3 := by
  obtain ⟨x, rfl⟩ := he
  have hbox := hL.box
  obtain ⟨hwp, hrise⟩ := way_hits (w := w) (a := a0) hL.pw hL.perm
  have hlw : (if a0 < 2 ^ w then wayL w a0 t else []).length = (hitsM w a0 M).length := by
    have := hwp.length_eq
    simpa using this
  simp only [AFunc.body, g3, ACode.at]
  simp (disch := omega) only [kaa, kab, kac, kad, khm, khn, kho, khp, khq, khr, kae, kaf, kag, kah, kai, kaj, kak, kal, kam, kan, kao, khe, khf, khg, khh, khi, khj, khk, khl, kap, kaq, kar, kas, kat, kau, kav, kaw, kax, kay, kaz, kba, kbb, kbc, kbd, kbe, kbf, kbg, kbh, kbi, kbj, kbk, kbl, kbm, kbn, kbo, kbp, kbq, kbr, kbs, kbt, kbu, kbv, kbw, kbx, kby, kbz, kca, kcb, kcc, kcd, kce, kcf, kcg, kch, kci, kcj, kck, kcl, kcm, aop, kcn, kco, kcp, kcq, kcr, kcs, kct, kcu, kcv, kcw, resultsL, resultOf, kcx, Nat.reduceEqDiff, kcy, kcz, kda, reduceCtorEq, kdb, kdc, kdd, kde, kdf, kdg, kdh, kdi, kdj, kdk, kdl, kdm, kdn, kdo, eq1, kdp, kdq, kdr, kds, kdt, kdu, kdv, kdw, kdx, kdy, kdz, kea, keb, kec, apartOK, apart2, AObj.live, ked, kee, kef, keg, keh, kei, kej, kek, kel, Int.reduceEq, Int.reduceLT, Int.reduceLE, Int.reduceAdd, Int.reduceSub, Int.reduceMul, Int.reduceToNat, kem, ken, keo, kep, keq, ker, kes, ket, keu, kev, kew, kex, key, kez, kfa, kfb, kfc, kfd, kfe, kff, kfg, kfh, kfi, kfj, kfk, kfl, cutCells, kfm, kfn, kfo, kfp, kfq, kfr, kfs, kft, kfu, kfv, kfw, kfx, kfy, Nat.reduceAdd, Nat.reduceLeDiff, Nat.reduceLT, Nat.reduceMul, Nat.reduceSub, kfz, kga, kgb, kgc, kgd, kge, kgf, kgg, kgh, kgi, kgj, kgk, kgl, kgm, kgn, kgo, kgp, kgq, kgr, kgs, kgt, kgu, kgv, kgw, kgx, kgy, kgz, kha, khb, khc, khd, hbox]
  refine find_t hL.ti.hd hL.ti.lies.ta hL.ti.ok hw hw2 ha ?_
  have htk := fun (L : List Tr) (q : (if a0 < 2 ^ w then wayL w a0 t else []) = L) => q
  have hsz : (wayL w a0 t).length ≤ 1000000 := by
    by_cases hfit : a0 < 2 ^ w
    · rw [if_pos hfit] at hlw
      have : (hitsM w a0 M).length ≤ M.length := by
        unfold hitsM
        rw [if_pos hfit]
        exact List.length_filter_le _ _
      omega
    · have h1 : (wayL w a0 t).length ≤ t.er.mem.length := by
        rw [← List.length_map (f := trip), way_er]
        exact way_le
      have := hL.perm.length_eq
      omega
  have hall : ∀ nd ∈ (if a0 < 2 ^ w then wayL w a0 t else []), TA H nd ∧ ∃ b c n v l r, nd = Tr.node b c n true v l r := fun nd hn => by
    split at hn
    · exact wayL_mem hL.ti.lies.ta nd hn
    · cases hn
  have hd := hL.ti.hd
  have lb := hget_lt hd rfl
  have lp := hget_lt hbox rfl
  have n0 : ((0 : Nat) : Int) = 0 := rfl
  generalize hLL : (if a0 < 2 ^ w then wayL w a0 t else []) = L at *
  cases hlast : L.getLast? with
  | none =>
    have hL0 : L = [] := List.getLast?_eq_none_iff.1 hlast
    subst hL0
    have hbest : best = -1 := by
      rcases hB with ⟨_, q, _⟩ | ⟨y, q1, _⟩
      · exact q
      · have : hitsM w a0 M = [] := List.eq_nil_of_length_eq_zero (by simpa using hlw.symm)
        rw [this] at q1
        cases q1
    subst hbest
    have hf : findR [] = .tuple #[pfA 0 0 0, .int .i64 0, .bool false] := rfl
    rw [hf]
    simp (disch := omega) only [kaa, kab, kac, kad, khm, khn, kho, khp, khq, khr, kae, kaf, kag, kah, kai, kaj, kak, kal, kam, kan, kao, khe, khf, khg, khh, khi, khj, khk, khl, kap, kaq, kar, kas, kat, kau, kav, kaw, kax, kay, kaz, kba, kbb, kbc, kbd, kbe, kbf, kbg, kbh, kbi, kbj, kbk, kbl, kbm, kbn, kbo, kbp, kbq, kbr, kbs, kbt, kbu, kbv, kbw, kbx, kby, kbz, kca, kcb, kcc, kcd, kce, kcf, kcg, kch, kci, kcj, kck, kcl, kcm, aop, kcn, kco, kcp, kcq, kcr, kcs, kct, kcu, kcv, kcw, resultsL, resultOf, kcx, Nat.reduceEqDiff, kcy, kcz, kda, reduceCtorEq, kdb, kdc, kdd, kde, kdf, kdg, kdh, kdi, kdj, kdk, kdl, kdm, kdn, kdo, eq1, kdp, kdq, kdr, kds, kdt, kdu, kdv, kdw, kdx, kdy, kdz, kea, keb, kec, apartOK, apart2, AObj.live, ked, kee, kef, keg, keh, kei, kej, kek, kel, Int.reduceEq, Int.reduceLT, Int.reduceLE, Int.reduceAdd, Int.reduceSub, Int.reduceMul, Int.reduceToNat, kem, ken, keo, kep, keq, ker, kes, ket, keu, kev, kew, kex, key, kez, kfa, kfb, kfc, kfd, kfe, kff, kfg, kfh, kfi, kfj, kfk, kfl, cutCells, kfm, kfn, kfo, kfp, kfq, kfr, kfs, kft, kfu, kfv, kfw, kfx, kfy, Nat.reduceAdd, Nat.reduceLeDiff, Nat.reduceLT, Nat.reduceMul, Nat.reduceSub, kfz, kga, kgb, kgc, kgd, kge, kgf, kgg, kgh, kgi, kgj, kgk, kgl, kgm, kgn, kgo, kgp, kgq, kgr, kgs, kgt, kgu, kgv, kgw, kgx, kgy, kgz, kha, khb, khc, khd, hbox]
    refine every_t (by rw [hget_old lb]; exact hd) hL.ti.lies.app.ta hL.ti.ok hw hw2 ha hsz fun sv g hps => ?_
    rw [hLL] at hps
    rcases hps with ⟨_, rfl⟩ | ⟨q, _⟩
    · simp (disch := omega) only [kaa, kab, kac, kad, khm, khn, kho, khp, khq, khr, kae, kaf, kag, kah, kai, kaj, kak, kal, kam, kan, kao, khe, khf, khg, khh, khi, khj, khk, khl, kap, kaq, kar, kas, kat, kau, kav, kaw, kax, kay, kaz, kba, kbb, kbc, kbd, kbe, kbf, kbg, kbh, kbi, kbj, kbk, kbl, kbm, kbn, kbo, kbp, kbq, kbr, kbs, kbt, kbu, kbv, kbw, kbx, kby, kbz, kca, kcb, kcc, kcd, kce, kcf, kcg, kch, kci, kcj, kck, kcl, kcm, aop, kcn, kco, kcp, kcq, kcr, kcs, kct, kcu, kcv, kcw, resultsL, resultOf, kcx, Nat.reduceEqDiff, kcy, kcz, kda, reduceCtorEq, kdb, kdc, kdd, kde, kdf, kdg, kdh, kdi, kdj, kdk, kdl, kdm, kdn, kdo, eq1, kdp, kdq, kdr, kds, kdt, kdu, kdv, kdw, kdx, kdy, kdz, kea, keb, kec, apartOK, apart2, AObj.live, ked, kee, kef, keg, keh, kei, kej, kek, kel, Int.reduceEq, Int.reduceLT, Int.reduceLE, Int.reduceAdd, Int.reduceSub, Int.reduceMul, Int.reduceToNat, kem, ken, keo, kep, keq, ker, kes, ket, keu, kev, kew, kex, key, kez, kfa, kfb, kfc, kfd, kfe, kff, kfg, kfh, kfi, kfj, kfk, kfl, cutCells, kfm, kfn, kfo, kfp, kfq, kfr, kfs, kft, kfu, kfv, kfw, kfx, kfy, Nat.reduceAdd, Nat.reduceLeDiff, Nat.reduceLT, Nat.reduceMul, Nat.reduceSub, kfz, kga, kgb, kgc, kgd, kge, kgf, kgg, kgh, kgi, kgj, kgk, kgl, kgm, kgn, kgo, kgp, kgq, kgr, kgs, kgt, kgu, kgv, kgw, kgx, kgy, kgz, kha, khb, khc, khd, n0]
    · exact absurd rfl q
  | some nd =>
    obtain ⟨h1, b1, c, n, v, l1, r1, rfl⟩ := hall nd (List.mem_of_getLast? hlast)
    have hf : findR L = .tuple #[pfv c n, .int .i64 v, .bool true] := by simp only [findR, hlast]
    rw [hf]
    have hin := List.mem_of_getLast? hlast
    have hfit : a0 < 2 ^ w := by
      by_cases q : a0 < 2 ^ w
      · exact q
      · rw [if_neg q] at hLL
        rw [← hLL] at hin
        cases hin
    rw [if_pos hfit] at hLL
    have hgt := way_get hw2 hL.pw hL.ti.ok hfit (by rw [hLL]; exact hin)
    have hc128 : c < 2 ^ 128 := by
      have q0 : TW w (.node b1 c n true v l1 r1) := wayL_tw (a := a0) hL.ti.ok _ (by rw [hLL]; exact hin)
      have q := q0.2.1
      exact Nat.lt_of_lt_of_le q (Nat.pow_le_pow_right (by decide) hw2)
    obtain ⟨rfl, rfl⟩ := last_best hwp hrise (x := (c, n, v)) (by rw [List.getLast?_map, hlast]; rfl) hB
    simp (disch := omega) only [kaa, kab, kac, kad, khm, khn, kho, khp, khq, khr, kae, kaf, kag, kah, kai, kaj, kak, kal, kam, kan, kao, khe, khf, khg, khh, khi, khj, khk, khl, kap, kaq, kar, kas, kat, kau, kav, kaw, kax, kay, kaz, kba, kbb, kbc, kbd, kbe, kbf, kbg, kbh, kbi, kbj, kbk, kbl, kbm, kbn, kbo, kbp, kbq, kbr, kbs, kbt, kbu, kbv, kbw, kbx, kby, kbz, kca, kcb, kcc, kcd, kce, kcf, kcg, kch, kci, kcj, kck, kcl, kcm, aop, kcn, kco, kcp, kcq, kcr, kcs, kct, kcu, kcv, kcw, resultsL, resultOf, kcx, Nat.reduceEqDiff, kcy, kcz, kda, reduceCtorEq, kdb, kdc, kdd, kde, kdf, kdg, kdh, kdi, kdj, kdk, kdl, kdm, kdn, kdo, eq1, kdp, kdq, kdr, kds, kdt, kdu, kdv, kdw, kdx, kdy, kdz, kea, keb, kec, apartOK, apart2, AObj.live, ked, kee, kef, keg, keh, kei, kej, kek, kel, Int.reduceEq, Int.reduceLT, Int.reduceLE, Int.reduceAdd, Int.reduceSub, Int.reduceMul, Int.reduceToNat, kem, ken, keo, kep, keq, ker, kes, ket, keu, kev, kew, kex, key, kez, kfa, kfb, kfc, kfd, kfe, kff, kfg, kfh, kfi, kfj, kfk, kfl, cutCells, kfm, kfn, kfo, kfp, kfq, kfr, kfs, kft, kfu, kfv, kfw, kfx, kfy, Nat.reduceAdd, Nat.reduceLeDiff, Nat.reduceLT, Nat.reduceMul, Nat.reduceSub, kfz, kga, kgb, kgc, kgd, kge, kgf, kgg, kgh, kgi, kgj, kgk, kgl, kgm, kgn, kgo, kgp, kgq, kgr, kgs, kgt, kgu, kgv, kgw, kgx, kgy, kgz, kha, khb, khc, khd, hbox]
    refine every_t (by rw [hget_old lb]; exact hd) hL.ti.lies.app.ta hL.ti.ok hw hw2 ha hsz fun sv g hps => ?_
    rw [if_pos hfit, hLL] at hps
    rcases hps with ⟨q, _⟩ | ⟨hne, k, k0, rfl, hk, hkl⟩
    · subst q; cases hlast
    simp only [List.append_assoc, List.cons_append, List.nil_append] at hk
    simp (disch := omega) only [kaa, kab, kac, kad, khm, khn, kho, khp, khq, khr, kae, kaf, kag, kah, kai, kaj, kak, kal, kam, kan, kao, khe, khf, khg, khh, khi, khj, khk, khl, kap, kaq, kar, kas, kat, kau, kav, kaw, kax, kay, kaz, kba, kbb, kbc, kbd, kbe, kbf, kbg, kbh, kbi, kbj, kbk, kbl, kbm, kbn, kbo, kbp, kbq, kbr, kbs, kbt, kbu, kbv, kbw, kbx, kby, kbz, kca, kcb, kcc, kcd, kce, kcf, kcg, kch, kci, kcj, kck, kcl, kcm, aop, kcn, kco, kcp, kcq, kcr, kcs, kct, kcu, kcv, kcw, resultsL, resultOf, kcx, Nat.reduceEqDiff, kcy, kcz, kda, reduceCtorEq, kdb, kdc, kdd, kde, kdf, kdg, kdh, kdi, kdj, kdk, kdl, kdm, kdn, kdo, eq1, kdp, kdq, kdr, kds, kdt, kdu, kdv, kdw, kdx, kdy, kdz, kea, keb, kec, apartOK, apart2, AObj.live, ked, kee, kef, keg, keh, kei, kej, kek, kel, Int.reduceEq, Int.reduceLT, Int.reduceLE, Int.reduceAdd, Int.reduceSub, Int.reduceMul, Int.reduceToNat, kem, ken, keo, kep, keq, ker, kes, ket, keu, kev, kew, kex, key, kez, kfa, kfb, kfc, kfd, kfe, kff, kfg, kfh, kfi, kfj, kfk, kfl, cutCells, kfm, kfn, kfo, kfp, kfq, kfr, kfs, kft, kfu, kfv, kfw, kfx, kfy, Nat.reduceAdd, Nat.reduceLeDiff, Nat.reduceLT, Nat.reduceMul, Nat.reduceSub, kfz, kga, kgb, kgc, kgd, kge, kgf, kgg, kgh, kgi, kgj, kgk, kgl, kgm, kgn, kgo, kgp, kgq, kgr, kgs, kgt, kgu, kgv, kgw, kgx, kgy, kgz, kha, khb, khc, khd]
    refine get_t (by rw [hget_old lb]; exact hd) hL.ti.lies.app.ta hL.ti.ok hw hw2 hc128 ?_
    rw [hgt, ← hlw]
    have hpos : 0 < L.length := List.length_pos_iff.2 hne
    have hlast2 : L[L.length - 1] = .node b1 c n true value l1 r1 := by
      rw [List.getLast?_eq_getElem?, List.getElem?_eq_getElem (by omega)] at hlast
      exact Option.some.inj hlast
    have hcut := pfs_cut (fun nd hn => (hall nd hn).2) (L.length - 1) (by omega)
    rw [hlast2] at hcut
    have hLb : L.length ≤ 1000000 := by rw [← hLL]; exact hsz
    have e1 : (L.length : Int) - 1 = ((L.length - 1 : Nat) : Int) := by omega
    have hp : (0 : Int) < (L.length : Int) := by omega
    have e2 := eq_pf (a := c) (n := n) (c := c) (k := n)
    rw [decide_eq_true ⟨rfl, rfl⟩] at e2
    simp only [pfC] at hcut
    have c0 : (0 : Int) ≤ ((L.length - 1 : Nat) : Int) := by omega
    have c1 : ((L.length - 1 : Nat) : Int) < ((L.length : Nat) : Int) := by omega
    simp (disch := omega) only [kaa, kab, kac, kad, khm, khn, kho, khp, khq, khr, kae, kaf, kag, kah, kai, kaj, kak, kal, kam, kan, kao, khe, khf, khg, khh, khi, khj, khk, khl, kap, kaq, kar, kas, kat, kau, kav, kaw, kax, kay, kaz, kba, kbb, kbc, kbd, kbe, kbf, kbg, kbh, kbi, kbj, kbk, kbl, kbm, kbn, kbo, kbp, kbq, kbr, kbs, kbt, kbu, kbv, kbw, kbx, kby, kbz, kca, kcb, kcc, kcd, kce, kcf, kcg, kch, kci, kcj, kck, kcl, kcm, aop, kcn, kco, kcp, kcq, kcr, kcs, kct, kcu, kcv, kcw, resultsL, resultOf, kcx, Nat.reduceEqDiff, kcy, kcz, kda, reduceCtorEq, kdb, kdc, kdd, kde, kdf, kdg, kdh, kdi, kdj, kdk, kdl, kdm, kdn, kdo, eq1, kdp, kdq, kdr, kds, kdt, kdu, kdv, kdw, kdx, kdy, kdz, kea, keb, kec, apartOK, apart2, AObj.live, ked, kee, kef, keg, keh, kei, kej, kek, kel, Int.reduceEq, Int.reduceLT, Int.reduceLE, Int.reduceAdd, Int.reduceSub, Int.reduceMul, Int.reduceToNat, kem, ken, keo, kep, keq, ker, kes, ket, keu, kev, kew, kex, key, kez, kfa, kfb, kfc, kfd, kfe, kff, kfg, kfh, kfi, kfj, kfk, kfl, cutCells, kfm, kfn, kfo, kfp, kfq, kfr, kfs, kft, kfu, kfv, kfw, kfx, kfy, Nat.reduceAdd, Nat.reduceLeDiff, Nat.reduceLT, Nat.reduceMul, Nat.reduceSub, kfz, kga, kgb, kgc, kgd, kge, kgf, kgg, kgh, kgi, kgj, kgk, kgl, kgm, kgn, kgo, kgp, kgq, kgr, kgs, kgt, kgu, kgv, kgw, kgx, kgy, kgz, kha, khb, khc, khd, hk, e1, hkl, hcut, e2, wr_i64, if_pos, hp, c0, c1]
    have hat : ∀ (i : Nat) (hi : i < L.length), ∃ m : Nat, (pfs L)[i * 3 + 2]? = some (.int .i64 (m : Int)) ∧ (trip L[i]).2.1 = m := fun i hi => by
      obtain ⟨_, b2, c2, n2, v2, l2, r2, e⟩ := hall L[i] (List.getElem_mem hi)
      have q := congrArg (fun l => l[2]?) (pfs_cut (fun nd hn => (hall nd hn).2) i hi)
      simp only [List.getElem?_take_of_lt (show 2 < 3 by decide), List.getElem?_drop, e, pfC] at q
      exact ⟨n2, q, by rw [e]; rfl⟩
    refine WLoop.inv (fun z e H' => ∃ i : Nat, 1 ≤ i ∧ i ≤ L.length ∧ z = L.length - i ∧ H' = H ++ AObj.row [.int .u64 ((c / W64 : Nat) : Int), .int .u64 ((c % W64 : Nat) : Int), .int .i64 (n : Int)] 0 true :: g ∧
      (∃ x : Nat → Value, e = [x 0, x 1, x 2, x 3, x 4, x 5, x 6, x 7, x 8, x 9, x 10, x 11, .int .i64 (n : Int), .int .i64 value, x 14, x 15, x 16, x 17, x 18, .pointer (some ⟨H.length, 0, none⟩), .int .i64 value, x 21, .slice (some ⟨k, 0, none⟩) L.length L.length, .int .i64 value, .bool true, .bool true, .int .i64 (i : Int), x 27, x 28, x 29, x 30, x 31, x 32, x 33, x 34, x 35, x 36, x 37, x 38, x 39, x 40, x 41, x 42, x 43, x 44, x 45, x 46, x 47, x 48, x 49, x 50, x 51, x 52, x 53, x 54, x 55, x 56, x 57, x 58, x 59, x 60, x 61, x 62, x 63, x 64, x 65, x 66, x 67, x 68, x 69, x 70, x 71, x 72, x 73, x 74, x 75, x 76, x 77, x 78, x 79, x 80, x 81, x 82, x 83, x 84, x 85, x 86, x 87, x 88, x 89, x 90, x 91, x 92, x 93, x 94, x 95, x 96, x 97, x 98, x 99, x 100, x 101, x 102, x 103, x 104, x 105, x 106, x 107, x 108, x 109, x 110, x 111, x 112, x 113, x 114, x 115, x 116, x 117, x 118, x 119, x 120, x 121, x 122, x 123, x 124, x 125, x 126, x 127, x 128, x 129, x 130, x 131, x 132, x 133, x 134, x 135, x 136, x 137, x 138, x 139, x 140, x 141, x 142, x 143, x 144, x 145, x 146, x 147, x 148, x 149, x 150, x 151, x 152, x 153, x 154, x 155, x 156, x 157, x 158, x 159, x 160, x 161, x 162, x 163, x 164, x 165, x 166, x 167, x 168, x 169, x 170, x 171, x 172, x 173, x 174, x 175, x 176, x 177, x 178, x 179, x 180, x 181, x 182, x 183, x 184, x 185, x 186, x 187, x 188, x 189, x 190, x 191, x 192, x 193, x 194, x 195, x 196, x 197, x 198, x 199, x 200, x 201, x 202, x 203, x 204, x 205, x 206, x 207, x 208, x 209, x 210, x 211])) ?_ (L.length - 1) _ _ ⟨1, by omega, by omega, rfl, rfl, by exact ex_env rfl⟩
    clear x
    rintro z e H' ⟨i, i1, i2, rfl, rfl, ⟨x, rfl⟩⟩
    by_cases hi : (i : Int) < (L.length : Nat)
    · obtain ⟨m1, p1, p2⟩ := hat (i - 1) (by omega)
      obtain ⟨m2, p3, p4⟩ := hat i (by omega)
      have hlt := (List.pairwise_iff_getElem.1 hrise) (i - 1) i (by simp; omega) (by simp; omega) (by omega)
      simp only [List.getElem_map] at hlt
      rw [p2, p4] at hlt
      have hlt' : (m1 : Int) < (m2 : Int) := by omega
      have e3 : (i : Int) - 1 = ((i - 1 : Nat) : Int) := by omega
      have c2 : (0 : Int) ≤ ((i - 1 : Nat) : Int) := by omega
      have c3 : ((i - 1 : Nat) : Int) < ((L.length : Nat) : Int) := by omega
      simp (disch := omega) only [kaa, kab, kac, kad, khm, khn, kho, khp, khq, khr, kae, kaf, kag, kah, kai, kaj, kak, kal, kam, kan, kao, khe, khf, khg, khh, khi, khj, khk, khl, kap, kaq, kar, kas, kat, kau, kav, kaw, kax, kay, kaz, kba, kbb, kbc, kbd, kbe, kbf, kbg, kbh, kbi, kbj, kbk, kbl, kbm, kbn, kbo, kbp, kbq, kbr, kbs, kbt, kbu, kbv, kbw, kbx, kby, kbz, kca, kcb, kcc, kcd, kce, kcf, kcg, kch, kci, kcj, kck, kcl, kcm, aop, kcn, kco, kcp, kcq, kcr, kcs, kct, kcu, kcv, kcw, resultsL, resultOf, kcx, Nat.reduceEqDiff, kcy, kcz, kda, reduceCtorEq, kdb, kdc, kdd, kde, kdf, kdg, kdh, kdi, kdj, kdk, kdl, kdm, kdn, kdo, eq1, kdp, kdq, kdr, kds, kdt, kdu, kdv, kdw, kdx, kdy, kdz, kea, keb, kec, apartOK, apart2, AObj.live, ked, kee, kef, keg, keh, kei, kej, kek, kel, Int.reduceEq, Int.reduceLT, Int.reduceLE, Int.reduceAdd, Int.reduceSub, Int.reduceMul, Int.reduceToNat, kem, ken, keo, kep, keq, ker, kes, ket, keu, kev, kew, kex, key, kez, kfa, kfb, kfc, kfd, kfe, kff, kfg, kfh, kfi, kfj, kfk, kfl, cutCells, kfm, kfn, kfo, kfp, kfq, kfr, kfs, kft, kfu, kfv, kfw, kfx, kfy, Nat.reduceAdd, Nat.reduceLeDiff, Nat.reduceLT, Nat.reduceMul, Nat.reduceSub, kfz, kga, kgb, kgc, kgd, kge, kgf, kgg, kgh, kgi, kgj, kgk, kgl, kgm, kgn, kgo, kgp, kgq, kgr, kgs, kgt, kgu, kgv, kgw, kgx, kgy, kgz, kha, khb, khc, khd, hi, e3, hk, hkl, p1, p3, wr_i64, nadd1, if_pos, hlt', c2, c3]
      exact ⟨L.length - (i + 1), by omega, i + 1, by omega, by omega, rfl, ex_env rfl⟩
    · simp (disch := omega) only [kaa, kab, kac, kad, khm, khn, kho, khp, khq, khr, kae, kaf, kag, kah, kai, kaj, kak, kal, kam, kan, kao, khe, khf, khg, khh, khi, khj, khk, khl, kap, kaq, kar, kas, kat, kau, kav, kaw, kax, kay, kaz, kba, kbb, kbc, kbd, kbe, kbf, kbg, kbh, kbi, kbj, kbk, kbl, kbm, kbn, kbo, kbp, kbq, kbr, kbs, kbt, kbu, kbv, kbw, kbx, kby, kbz, kca, kcb, kcc, kcd, kce, kcf, kcg, kch, kci, kcj, kck, kcl, kcm, aop, kcn, kco, kcp, kcq, kcr, kcs, kct, kcu, kcv, kcw, resultsL, resultOf, kcx, Nat.reduceEqDiff, kcy, kcz, kda, reduceCtorEq, kdb, kdc, kdd, kde, kdf, kdg, kdh, kdi, kdj, kdk, kdl, kdm, kdn, kdo, eq1, kdp, kdq, kdr, kds, kdt, kdu, kdv, kdw, kdx, kdy, kdz, kea, keb, kec, apartOK, apart2, AObj.live, ked, kee, kef, keg, keh, kei, kej, kek, kel, Int.reduceEq, Int.reduceLT, Int.reduceLE, Int.reduceAdd, Int.reduceSub, Int.reduceMul, Int.reduceToNat, kem, ken, keo, kep, keq, ker, kes, ket, keu, kev, kew, kex, key, kez, kfa, kfb, kfc, kfd, kfe, kff, kfg, kfh, kfi, kfj, kfk, kfl, cutCells, kfm, kfn, kfo, kfp, kfq, kfr, kfs, kft, kfu, kfv, kfw, kfx, kfy, Nat.reduceAdd, Nat.reduceLeDiff, Nat.reduceLT, Nat.reduceMul, Nat.reduceSub, kfz, kga, kgb, kgc, kgd, kge, kgf, kgg, kgh, kgi, kgj, kgk, kgl, kgm, kgn, kgo, kgp, kgq, kgr, kgs, kgt, kgu, kgv, kgw, kgx, kgy, kgz, kha, khb, khc, khd, hi]

end Go.Proofs.Yticgkaanaimllaa.Ev

/- The law TrieLongest, whole. -/
namespace Go.Proofs.Yticgkaanaimllaa.Ev
set_option maxRecDepth 100000
set_option linter.unusedSimpArgs false
set_option linter.unusedVariables false
variable {R : FRes → Heap → Prop} {H : Heap}

set_option maxHeartbeats 1000000 in
theorem long_w {w : Int} {a0 : Nat} {ad : Option Addr} {ops : List Opr} (ha : a0 < 2 ^ 128) (hops : ∀ o ∈ ops, o.a < 2 ^ 128) (hlen : ops.length ≤ 4611686018427387904) (hsl : OpSl H ad ops H.length) :
    WD T 3 [.int .i64 w, .slice ad ops.length ops.length, bvA a0] H (fun r _ => r = .ret (.bool true)) := by
  obtain ⟨Z, hZ⟩ : ∃ Z, Z = WC T (g3.body.at [1, 1, 1, 1, 1, 1, 1, 1, 1]) := ⟨_, rfl⟩
  obtain ⟨Y, hY⟩ : ∃ Y, Y = WLoop T (g3.body.at [1, 1, 1, 1, 1, 1, 1, 1, 0, 1, 0, 0]) := ⟨_, rfl⟩
  have hZ' := hZ.symm
  have hY' := hY.symm
  have hrest : ∀ {w : Nat} {b p5 : Nat} {t M best value} {K : Heap} {e : Env}, 1 ≤ w → w ≤ 128 → LI K b w p5 a0 ad ops t M → M.length ≤ 2000 → Best (hitsM w a0 M) best value →
      (∃ x : Nat → Value, e = [x 0, x 1, x 2, x 3, x 4, .pointer (some ⟨p5, 0, none⟩), x 6, x 7, .pointer (some ⟨b, 0, none⟩), x 9, x 10, x 11, .int .i64 best, .int .i64 value, .int .i64 ((hitsM w a0 M).length : Nat), x 15, x 16, x 17, x 18, x 19, x 20, x 21, x 22, x 23, x 24, x 25, x 26, x 27, x 28, x 29, x 30, x 31, x 32, x 33, x 34, x 35, x 36, x 37, x 38, x 39, x 40, x 41, x 42, x 43, x 44, x 45, x 46, x 47, x 48, x 49, x 50, x 51, x 52, x 53, x 54, x 55, x 56, x 57, x 58, x 59, x 60, x 61, x 62, x 63, x 64, x 65, x 66, x 67, x 68, x 69, x 70, x 71, x 72, x 73, x 74, x 75, x 76, x 77, x 78, x 79, x 80, x 81, x 82, x 83, x 84, x 85, x 86, x 87, x 88, x 89, x 90, x 91, x 92, x 93, x 94, x 95, x 96, x 97, x 98, x 99, x 100, x 101, x 102, x 103, x 104, x 105, x 106, x 107, x 108, x 109, x 110, x 111, x 112, x 113, x 114, x 115, x 116, x 117, x 118, x 119, x 120, x 121, x 122, x 123, x 124, x 125, x 126, x 127, x 128, x 129, x 130, x 131, x 132, x 133, x 134, x 135, x 136, x 137, x 138, x 139, x 140, x 141, x 142, x 143, x 144, x 145, x 146, x 147, x 148, x 149, x 150, x 151, x 152, x 153, x 154, x 155, x 156, x 157, x 158, x 159, x 160, x 161, x 162, x 163, x 164, x 165, x 166, x 167, x 168, x 169, x 170, x 171, x 172, x 173, x 174, x 175, x 176, x 177, x 178, x 179, x 180, x 181, x 182, x 183, x 184, x 185, x 186, x 187, x 188, x 189, x 190, x 191, x 192, x 193, x 194, x 195, x 196, x 197, x 198, x 199, x 200, x 201, x 202, x 203, x 204, x 205, x 206, x 207, x 208, x 209, x 210, x 211]) → Z e K QL3 := fun h1 h2 h3 h4 h5 h6 => by rw [hZ]; exact long_rest h1 h2 ha h3 h4 h5 h6
  have hloop : ∀ {w : Nat} {b p5 : Nat} {K : Heap} {e : Env} {z : Nat} {Q : Post}, 1 ≤ w → w ≤ 128 → (∀ e H' t M best value, LI H' b w p5 a0 ad ops t M → M.length ≤ 2000 → Best (hitsM w a0 M) best value →
      (∃ x : Nat → Value, e = [x 0, x 1, x 2, x 3, x 4, .pointer (some ⟨p5, 0, none⟩), x 6, x 7, .pointer (some ⟨b, 0, none⟩), x 9, x 10, x 11, .int .i64 best, .int .i64 value, .int .i64 ((hitsM w a0 M).length : Nat), x 15, x 16, x 17, x 18, x 19, x 20, x 21, x 22, x 23, x 24, x 25, x 26, x 27, x 28, x 29, x 30, x 31, x 32, x 33, x 34, x 35, x 36, x 37, x 38, x 39, x 40, x 41, x 42, x 43, x 44, x 45, x 46, x 47, x 48, x 49, x 50, x 51, x 52, x 53, x 54, x 55, x 56, x 57, x 58, x 59, x 60, x 61, x 62, x 63, x 64, x 65, x 66, x 67, x 68, x 69, x 70, x 71, x 72, x 73, x 74, x 75, x 76, x 77, x 78, x 79, x 80, x 81, x 82, x 83, x 84, x 85, x 86, x 87, x 88, x 89, x 90, x 91, x 92, x 93, x 94, x 95, x 96, x 97, x 98, x 99, x 100, x 101, x 102, x 103, x 104, x 105, x 106, x 107, x 108, x 109, x 110, x 111, x 112, x 113, x 114, x 115, x 116, x 117, x 118, x 119, x 120, x 121, x 122, x 123, x 124, x 125, x 126, x 127, x 128, x 129, x 130, x 131, x 132, x 133, x 134, x 135, x 136, x 137, x 138, x 139, x 140, x 141, x 142, x 143, x 144, x 145, x 146, x 147, x 148, x 149, x 150, x 151, x 152, x 153, x 154, x 155, x 156, x 157, x 158, x 159, x 160, x 161, x 162, x 163, x 164, x 165, x 166, x 167, x 168, x 169, x 170, x 171, x 172, x 173, x 174, x 175, x 176, x 177, x 178, x 179, x 180, x 181, x 182, x 183, x 184, x 185, x 186, x 187, x 188, x 189, x 190, x 191, x 192, x 193, x 194, x 195, x 196, x 197, x 198, x 199, x 200, x 201, x 202, x 203, x 204, x 205, x 206, x 207, x 208, x 209, x 210, x 211]) → Q (.exit 0) e H') → longI w b p5 a0 ad ops z e K → Y e K Q := fun h1 h2 hQ hI => by
    rw [hY]; exact long_loop h1 h2 ha hops hlen hQ hI
  clear hZ hY
  simp only [AFunc.body, g3, ACode.at] at hZ' hY'
  refine WD.of follows t3 (by simp) ?_
  simp (disch := omega) only [kaa, kab, kac, kad, khm, khn, kho, khp, khq, khr, kae, kaf, kag, kah, kai, kaj, kak, kal, kam, kan, kao, khe, khf, khg, khh, khi, khj, khk, khl, kap, kaq, kar, kas, kat, kau, kav, kaw, kax, kay, kaz, kba, kbb, kbc, kbd, kbe, kbf, kbg, kbh, kbi, kbj, kbk, kbl, kbm, kbn, kbo, kbp, kbq, kbr, kbs, kbt, kbu, kbv, kbw, kbx, kby, kbz, kca, kcb, kcc, kcd, kce, kcf, kcg, kch, kci, kcj, kck, kcl, kcm, aop, kcn, kco, kcp, kcq, kcr, kcs, kct, kcu, kcv, kcw, resultsL, resultOf, kcx, Nat.reduceEqDiff, kcy, kcz, kda, reduceCtorEq, kdb, kdc, kdd, kde, kdf, kdg, kdh, kdi, kdj, kdk, kdl, kdm, kdn, kdo, eq1, kdp, kdq, kdr, kds, kdt, kdu, kdv, kdw, kdx, kdy, kdz, kea, keb, kec, apartOK, apart2, AObj.live, ked, kee, kef, keg, keh, kei, kej, kek, kel, Int.reduceEq, Int.reduceLT, Int.reduceLE, Int.reduceAdd, Int.reduceSub, Int.reduceMul, Int.reduceToNat, kem, ken, keo, kep, keq, ker, kes, ket, keu, kev, kew, kex, key, kez, kfa, kfb, kfc, kfd, kfe, kff, kfg, kfh, kfi, kfj, kfk, kfl, cutCells, kfm, kfn, kfo, kfp, kfq, kfr, kfs, kft, kfu, kfv, kfw, kfx, kfy, Nat.reduceAdd, Nat.reduceLeDiff, Nat.reduceLT, Nat.reduceMul, Nat.reduceSub, kfz, kga, kgb, kgc, kgd, kge, kgf, kgg, kgh, kgi, kgj, kgk, kgl, kgm, kgn, kgo, kgp, kgq, kgr, kgs, kgt, kgu, kgv, kgw, kgx, kgy, kgz, kha, khb, khc, khd, hZ', hY']
  refine live_s ?_
  simp (disch := omega) only [kaa, kab, kac, kad, khm, khn, kho, khp, khq, khr, kae, kaf, kag, kah, kai, kaj, kak, kal, kam, kan, kao, khe, khf, khg, khh, khi, khj, khk, khl, kap, kaq, kar, kas, kat, kau, kav, kaw, kax, kay, kaz, kba, kbb, kbc, kbd, kbe, kbf, kbg, kbh, kbi, kbj, kbk, kbl, kbm, kbn, kbo, kbp, kbq, kbr, kbs, kbt, kbu, kbv, kbw, kbx, kby, kbz, kca, kcb, kcc, kcd, kce, kcf, kcg, kch, kci, kcj, kck, kcl, kcm, aop, kcn, kco, kcp, kcq, kcr, kcs, kct, kcu, kcv, kcw, resultsL, resultOf, kcx, Nat.reduceEqDiff, kcy, kcz, kda, reduceCtorEq, kdb, kdc, kdd, kde, kdf, kdg, kdh, kdi, kdj, kdk, kdl, kdm, kdn, kdo, eq1, kdp, kdq, kdr, kds, kdt, kdu, kdv, kdw, kdx, kdy, kdz, kea, keb, kec, apartOK, apart2, AObj.live, ked, kee, kef, keg, keh, kei, kej, kek, kel, Int.reduceEq, Int.reduceLT, Int.reduceLE, Int.reduceAdd, Int.reduceSub, Int.reduceMul, Int.reduceToNat, kem, ken, keo, kep, keq, ker, kes, ket, keu, kev, kew, kex, key, kez, kfa, kfb, kfc, kfd, kfe, kff, kfg, kfh, kfi, kfj, kfk, kfl, cutCells, kfm, kfn, kfo, kfp, kfq, kfr, kfs, kft, kfu, kfv, kfw, kfx, kfy, Nat.reduceAdd, Nat.reduceLeDiff, Nat.reduceLT, Nat.reduceMul, Nat.reduceSub, kfz, kga, kgb, kgc, kgd, kge, kgf, kgg, kgh, kgi, kgj, kgk, kgl, kgm, kgn, kgo, kgp, kgq, kgr, kgs, kgt, kgu, kgv, kgw, kgx, kgy, kgz, kha, khb, khc, khd, hZ', hY']
  refine new_s ?_
  unfold rightN
  by_cases h1 : 1 ≤ w
  case neg =>
    have h1' : w < 1 := by omega
    simp only [h1, decide_false, Bool.false_and, Bool.false_eq_true, if_false]
    simp (disch := omega) only [kaa, kab, kac, kad, khm, khn, kho, khp, khq, khr, kae, kaf, kag, kah, kai, kaj, kak, kal, kam, kan, kao, khe, khf, khg, khh, khi, khj, khk, khl, kap, kaq, kar, kas, kat, kau, kav, kaw, kax, kay, kaz, kba, kbb, kbc, kbd, kbe, kbf, kbg, kbh, kbi, kbj, kbk, kbl, kbm, kbn, kbo, kbp, kbq, kbr, kbs, kbt, kbu, kbv, kbw, kbx, kby, kbz, kca, kcb, kcc, kcd, kce, kcf, kcg, kch, kci, kcj, kck, kcl, kcm, aop, kcn, kco, kcp, kcq, kcr, kcs, kct, kcu, kcv, kcw, resultsL, resultOf, kcx, Nat.reduceEqDiff, kcy, kcz, kda, reduceCtorEq, kdb, kdc, kdd, kde, kdf, kdg, kdh, kdi, kdj, kdk, kdl, kdm, kdn, kdo, eq1, kdp, kdq, kdr, kds, kdt, kdu, kdv, kdw, kdx, kdy, kdz, kea, keb, kec, apartOK, apart2, AObj.live, ked, kee, kef, keg, keh, kei, kej, kek, kel, Int.reduceEq, Int.reduceLT, Int.reduceLE, Int.reduceAdd, Int.reduceSub, Int.reduceMul, Int.reduceToNat, kem, ken, keo, kep, keq, ker, kes, ket, keu, kev, kew, kex, key, kez, kfa, kfb, kfc, kfd, kfe, kff, kfg, kfh, kfi, kfj, kfk, kfl, cutCells, kfm, kfn, kfo, kfp, kfq, kfr, kfs, kft, kfu, kfv, kfw, kfx, kfy, Nat.reduceAdd, Nat.reduceLeDiff, Nat.reduceLT, Nat.reduceMul, Nat.reduceSub, kfz, kga, kgb, kgc, kgd, kge, kgf, kgg, kgh, kgi, kgj, kgk, kgl, kgm, kgn, kgo, kgp, kgq, kgr, kgs, kgt, kgu, kgv, kgw, kgx, kgy, kgz, kha, khb, khc, khd, h1', eqP_nn, hZ', hY']
  by_cases h2 : w ≤ 128
  case neg =>
    have h1' : ¬ w < 1 := by omega
    have h2' : 128 < w := by omega
    simp only [h1, h2, decide_true, decide_false, Bool.and_false, Bool.false_and, Bool.false_eq_true, if_false]
    simp (disch := omega) only [kaa, kab, kac, kad, khm, khn, kho, khp, khq, khr, kae, kaf, kag, kah, kai, kaj, kak, kal, kam, kan, kao, khe, khf, khg, khh, khi, khj, khk, khl, kap, kaq, kar, kas, kat, kau, kav, kaw, kax, kay, kaz, kba, kbb, kbc, kbd, kbe, kbf, kbg, kbh, kbi, kbj, kbk, kbl, kbm, kbn, kbo, kbp, kbq, kbr, kbs, kbt, kbu, kbv, kbw, kbx, kby, kbz, kca, kcb, kcc, kcd, kce, kcf, kcg, kch, kci, kcj, kck, kcl, kcm, aop, kcn, kco, kcp, kcq, kcr, kcs, kct, kcu, kcv, kcw, resultsL, resultOf, kcx, Nat.reduceEqDiff, kcy, kcz, kda, reduceCtorEq, kdb, kdc, kdd, kde, kdf, kdg, kdh, kdi, kdj, kdk, kdl, kdm, kdn, kdo, eq1, kdp, kdq, kdr, kds, kdt, kdu, kdv, kdw, kdx, kdy, kdz, kea, keb, kec, apartOK, apart2, AObj.live, ked, kee, kef, keg, keh, kei, kej, kek, kel, Int.reduceEq, Int.reduceLT, Int.reduceLE, Int.reduceAdd, Int.reduceSub, Int.reduceMul, Int.reduceToNat, kem, ken, keo, kep, keq, ker, kes, ket, keu, kev, kew, kex, key, kez, kfa, kfb, kfc, kfd, kfe, kff, kfg, kfh, kfi, kfj, kfk, kfl, cutCells, kfm, kfn, kfo, kfp, kfq, kfr, kfs, kft, kfu, kfv, kfw, kfx, kfy, Nat.reduceAdd, Nat.reduceLeDiff, Nat.reduceLT, Nat.reduceMul, Nat.reduceSub, kfz, kga, kgb, kgc, kgd, kge, kgf, kgg, kgh, kgi, kgj, kgk, kgl, kgm, kgn, kgo, kgp, kgq, kgr, kgs, kgt, kgu, kgv, kgw, kgx, kgy, kgz, kha, khb, khc, khd, h1', h2', eqP_nn, hZ', hY']
  obtain ⟨n, rfl⟩ : ∃ n : Nat, w = n := ⟨w.toNat, by omega⟩
  have n1 : 1 ≤ n := by omega
  have n2 : n ≤ 128 := by omega
  have l1 : (1 : Int) ≤ 4096 := by decide
  have l2 : (4096 : Int) ≤ 4096 := by decide
  simp only [h1, h2, l1, l2, decide_true, Bool.and_self, if_true]
  simp (disch := omega) only [kaa, kab, kac, kad, khm, khn, kho, khp, khq, khr, kae, kaf, kag, kah, kai, kaj, kak, kal, kam, kan, kao, khe, khf, khg, khh, khi, khj, khk, khl, kap, kaq, kar, kas, kat, kau, kav, kaw, kax, kay, kaz, kba, kbb, kbc, kbd, kbe, kbf, kbg, kbh, kbi, kbj, kbk, kbl, kbm, kbn, kbo, kbp, kbq, kbr, kbs, kbt, kbu, kbv, kbw, kbx, kby, kbz, kca, kcb, kcc, kcd, kce, kcf, kcg, kch, kci, kcj, kck, kcl, kcm, aop, kcn, kco, kcp, kcq, kcr, kcs, kct, kcu, kcv, kcw, resultsL, resultOf, kcx, Nat.reduceEqDiff, kcy, kcz, kda, reduceCtorEq, kdb, kdc, kdd, kde, kdf, kdg, kdh, kdi, kdj, kdk, kdl, kdm, kdn, kdo, eq1, kdp, kdq, kdr, kds, kdt, kdu, kdv, kdw, kdx, kdy, kdz, kea, keb, kec, apartOK, apart2, AObj.live, ked, kee, kef, keg, keh, kei, kej, kek, kel, Int.reduceEq, Int.reduceLT, Int.reduceLE, Int.reduceAdd, Int.reduceSub, Int.reduceMul, Int.reduceToNat, kem, ken, keo, kep, keq, ker, kes, ket, keu, kev, kew, kex, key, kez, kfa, kfb, kfc, kfd, kfe, kff, kfg, kfh, kfi, kfj, kfk, kfl, cutCells, kfm, kfn, kfo, kfp, kfq, kfr, kfs, kft, kfu, kfv, kfw, kfx, kfy, Nat.reduceAdd, Nat.reduceLeDiff, Nat.reduceLT, Nat.reduceMul, Nat.reduceSub, kfz, kga, kgb, kgc, kgd, kge, kgf, kgg, kgh, kgi, kgj, kgk, kgl, kgm, kgn, kgo, kgp, kgq, kgr, kgs, kgt, kgu, kgv, kgw, kgx, kgy, kgz, kha, khb, khc, khd, eqP_sn, hZ', hY']
  refine refbits_t n1 n2 ha ?_
  have hbits : (if a0 < 2 ^ n then Value.tuple #[.string (bs (bitS n a0)), .bool true] else .tuple #[.string (bs []), .bool false]) = .tuple #[.string (bs (if a0 < 2 ^ n then bitS n a0 else [])), .bool (decide (a0 < 2 ^ n))] := by
    by_cases q : a0 < 2 ^ n
    · rw [if_pos q, if_pos q, decide_eq_true q]
    · rw [if_neg q, if_neg q, decide_eq_false q]
  rw [hbits]
  simp (disch := omega) only [kaa, kab, kac, kad, khm, khn, kho, khp, khq, khr, kae, kaf, kag, kah, kai, kaj, kak, kal, kam, kan, kao, khe, khf, khg, khh, khi, khj, khk, khl, kap, kaq, kar, kas, kat, kau, kav, kaw, kax, kay, kaz, kba, kbb, kbc, kbd, kbe, kbf, kbg, kbh, kbi, kbj, kbk, kbl, kbm, kbn, kbo, kbp, kbq, kbr, kbs, kbt, kbu, kbv, kbw, kbx, kby, kbz, kca, kcb, kcc, kcd, kce, kcf, kcg, kch, kci, kcj, kck, kcl, kcm, aop, kcn, kco, kcp, kcq, kcr, kcs, kct, kcu, kcv, kcw, resultsL, resultOf, kcx, Nat.reduceEqDiff, kcy, kcz, kda, reduceCtorEq, kdb, kdc, kdd, kde, kdf, kdg, kdh, kdi, kdj, kdk, kdl, kdm, kdn, kdo, eq1, kdp, kdq, kdr, kds, kdt, kdu, kdv, kdw, kdx, kdy, kdz, kea, keb, kec, apartOK, apart2, AObj.live, ked, kee, kef, keg, keh, kei, kej, kek, kel, Int.reduceEq, Int.reduceLT, Int.reduceLE, Int.reduceAdd, Int.reduceSub, Int.reduceMul, Int.reduceToNat, kem, ken, keo, kep, keq, ker, kes, ket, keu, kev, kew, kex, key, kez, kfa, kfb, kfc, kfd, kfe, kff, kfg, kfh, kfi, kfj, kfk, kfl, cutCells, kfm, kfn, kfo, kfp, kfq, kfr, kfs, kft, kfu, kfv, kfw, kfx, kfy, Nat.reduceAdd, Nat.reduceLeDiff, Nat.reduceLT, Nat.reduceMul, Nat.reduceSub, kfz, kga, kgb, kgc, kgd, kge, kgf, kgg, kgh, kgi, kgj, kgk, kgl, kgm, kgn, kgo, kgp, kgq, kgr, kgs, kgt, kgu, kgv, kgw, kgx, kgy, kgz, kha, khb, khc, khd, hZ', hY']
  have hL : LI (H ++ [boxRow a0, AObj.row [.int .i64 (n : Int), .int .i64 4096, .int .i64 0, .pointer none] 0 true]) (H.length + 1) n H.length a0 ad ops .nil [] := by
    refine ⟨⟨by rw [hget_base]; rfl, by simp [Tr.blocks], trivial, trivial, by simp [Tr.blocks]⟩, fun c hc => by simp [Tr.blocks] at hc, trivial, List.Perm.refl _, by rw [hget_base0]; rfl, by omega, fun q => ?_⟩
    obtain ⟨bl, wr, q1, q2, q3⟩ := hsl q
    exact ⟨bl, wr, q1, by omega, by rw [hget_old q2]; exact q3⟩
  have e0 : hitsM n a0 [] = [] := by unfold hitsM; split <;> rfl
  refine hloop n1 n2 (fun e K t M best value q1 q2 q3 q4 => ?_) ⟨0, .nil, [], -1, 0, by omega, by omega, rfl, by simp, hL, ?_, ?_⟩
  · simp only [blockK_exit, if_true]
    simp (disch := omega) only [kaa, kab, kac, kad, khm, khn, kho, khp, khq, khr, kae, kaf, kag, kah, kai, kaj, kak, kal, kam, kan, kao, khe, khf, khg, khh, khi, khj, khk, khl, kap, kaq, kar, kas, kat, kau, kav, kaw, kax, kay, kaz, kba, kbb, kbc, kbd, kbe, kbf, kbg, kbh, kbi, kbj, kbk, kbl, kbm, kbn, kbo, kbp, kbq, kbr, kbs, kbt, kbu, kbv, kbw, kbx, kby, kbz, kca, kcb, kcc, kcd, kce, kcf, kcg, kch, kci, kcj, kck, kcl, kcm, aop, kcn, kco, kcp, kcq, kcr, kcs, kct, kcu, kcv, kcw, resultsL, resultOf, kcx, Nat.reduceEqDiff, kcy, kcz, kda, reduceCtorEq, kdb, kdc, kdd, kde, kdf, kdg, kdh, kdi, kdj, kdk, kdl, kdm, kdn, kdo, eq1, kdp, kdq, kdr, kds, kdt, kdu, kdv, kdw, kdx, kdy, kdz, kea, keb, kec, apartOK, apart2, AObj.live, ked, kee, kef, keg, keh, kei, kej, kek, kel, Int.reduceEq, Int.reduceLT, Int.reduceLE, Int.reduceAdd, Int.reduceSub, Int.reduceMul, Int.reduceToNat, kem, ken, keo, kep, keq, ker, kes, ket, keu, kev, kew, kex, key, kez, kfa, kfb, kfc, kfd, kfe, kff, kfg, kfh, kfi, kfj, kfk, kfl, cutCells, kfm, kfn, kfo, kfp, kfq, kfr, kfs, kft, kfu, kfv, kfw, kfx, kfy, Nat.reduceAdd, Nat.reduceLeDiff, Nat.reduceLT, Nat.reduceMul, Nat.reduceSub, kfz, kga, kgb, kgc, kgd, kge, kgf, kgg, kgh, kgi, kgj, kgk, kgl, kgm, kgn, kgo, kgp, kgq, kgr, kgs, kgt, kgu, kgv, kgw, kgx, kgy, kgz, kha, khb, khc, khd, hZ']
    exact hrest n1 n2 q1 q2 q3 q4
  · rw [e0]; exact .inl ⟨rfl, rfl, rfl⟩
  · rw [e0]; exact ex_env rfl

end Go.Proofs.Yticgkaanaimllaa.Ev

/- A law's arguments as its row reads them: rows of cells that nothing writes, and what stands in them. Conditions: none. -/
namespace Go.Proofs.Yticgkaanaimllaa.Ev
open Go.RowKit Go.ChangeShapes Go.WideShapes

/-- What data stands in some cells. -/
inductive Rep (P : Program) (H : Heap) {X : Type} : TypeId → DataW X → List Value → Prop where
  | bool {t : TypeId} (b : Bool) (hu : P.underlying t = some .bool) : Rep P H t (.lit (.bool b)) [.bool b]
  | int {t : TypeId} (k : IntKind) (n : Int) (hu : P.underlying t = some (.int k)) (hw : (Lit.int k n).wf = true) : Rep P H t (.lit (.int k n)) [.int k n]
  | str {t : TypeId} (l : List UInt8) (hu : P.underlying t = some .string) (hl : l.length ≤ maxLen) : Rep P H t (.lit (.string l)) [.string (bs l)]
  | struct {t : TypeId} {fs : Array Field} {ds : List (DataW X)} {ass : List (List Value)} (hu : P.underlying t = some (.struct fs)) (h1 : ds.length = fs.size) (h2 : ass.length = fs.size)
      (h : ∀ (i : Nat) (f : Field) (d : DataW X) (cz : List Value), fs[i]? = some f → ds[i]? = some d → ass[i]? = some cz → Rep P H f.type d cz)
      (hl : ∀ (i : Nat) (f : Field) (cz : List Value), fs[i]? = some f → ass[i]? = some cz → cz.length = P.cellsOf f.type) : Rep P H t (.agg ds) ass.flatten
  | nilS {t e : TypeId} (hu : P.underlying t = some (.slice e)) : Rep P H t .nil [.slice none 0 0]
  | empty {t e : TypeId} {sp : List (DataW X)} (hu : P.underlying t = some (.slice e)) : Rep P H t (.slice [] sp) [.slice (some ⟨0, 0, some 0⟩) 0 0]
  | slice {t e : TypeId} {b : Nat} {ds sp : List (DataW X)} {ass : List (List Value)} (hu : P.underlying t = some (.slice e)) (hne : ds ≠ []) (hb : hget H b = .row ass.flatten 0 false) (h2 : ass.length = ds.length)
      (h : ∀ (i : Nat) (d : DataW X) (cz : List Value), ds[i]? = some d → ass[i]? = some cz → Rep P H e d cz)
      (hl : ∀ (i : Nat) (cz : List Value), ass[i]? = some cz → cz.length = P.cellsOf e) : Rep P H t (.slice ds sp) [.slice (some ⟨b, 0, none⟩) ds.length ds.length]

theorem Rep.mono {P : Program} {H g : Heap} {X : Type} {t : TypeId} {d : DataW X} {cz : List Value} (h : Rep P H t d cz) : Rep P (H ++ g) t d cz := by
  induction h with
  | bool b hu => exact .bool b hu
  | int k n hu hw => exact .int k n hu hw
  | str l hu hl => exact .str l hu hl
  | struct hu h1 h2 h hl ih => exact .struct hu h1 h2 ih hl
  | nilS hu => exact .nilS hu
  | empty hu => exact .empty hu
  | slice hu hne hb h2 h hl ih => exact .slice hu hne (by rw [hget_old (hget_lt hb rfl)]; exact hb) h2 ih hl

/-- A set of types of plain data: numbers, texts, structs and lists of them. -/
def plainSet (P : Program) (L : List TypeId) : Bool := L.all fun t => decide (t < P.types.size) && match P.underlying t with
  | some .bool | some (.int _) | some .string => true
  | some (.struct fs) => fs.toList.all fun f => L.contains f.type
  | some (.slice e) => L.contains e && decide (0 < P.cellsOf e)
  | _ => false

def chunks : List Nat → List Value → List (List Value)
  | [], _ => []
  | n :: ns, cs => cs.take n :: chunks ns (cs.drop n)

theorem chunks_flat : ∀ (ns : List Nat) (cs : List Value), cs.length = ns.sum → (chunks ns cs).flatten = cs
  | [], cs, h => by simp at h; simp [chunks, h]
  | n :: ns, cs, h => by
    rw [chunks, List.flatten_cons, chunks_flat ns _ (by simp at h ⊢; omega), List.take_append_drop]

theorem chunks_len : ∀ (ns : List Nat) (cs : List Value), (chunks ns cs).length = ns.length
  | [], _ => rfl
  | n :: ns, cs => by rw [chunks, List.length_cons, List.length_cons, chunks_len ns]

theorem chunks_get : ∀ (ns : List Nat) (cs : List Value) (j n : Nat), ns[j]? = some n → (chunks ns cs)[j]? = some ((cs.drop (ns.take j).sum).take n)
  | [], _, j, n, h => by simp at h
  | m :: ns, cs, 0, n, h => by simp at h; simp [chunks, h]
  | m :: ns, cs, j + 1, n, h => by
    have h' : ns[j]? = some n := by simpa using h
    have := chunks_get ns (cs.drop m) j n h'
    simp only [chunks, List.getElem?_cons_succ, List.take_succ_cons, List.sum_cons]
    rw [this, List.drop_drop]

theorem VL.flat {n : Nat} {ρ : Nat → Place} : ∀ (xss yss : List (List Value)), xss.length = yss.length → (∀ (i : Nat) (xs ys : List Value), xss[i]? = some xs → yss[i]? = some ys → VL n ρ xs ys) → VL n ρ xss.flatten yss.flatten
  | [], [], _, _ => VL.nil
  | [], _ :: _, h, _ => by simp at h
  | _ :: _, [], h, _ => by simp at h
  | xs :: xss, ys :: yss, h, hh => by
    rw [List.flatten_cons, List.flatten_cons]
    exact (hh 0 xs ys rfl rfl).append (VL.flat xss yss (by simpa using h) fun i a b ha hb => hh (i + 1) a b (by simpa using ha) (by simpa using hb))

section
variable {X : Type} {enc : TypeId × Value → X} {P : Program} {G : Nat} {W : World} {base : Nat} {sp : Nat → Bool} {held : Bool} {L : List TypeId}

/-- Some cells can be told in a heap of the evaluator's. -/
def Opens (P : Program) (G : Nat) (W : World) (t : TypeId) (cs : List Value) (d : DataW X) : Prop :=
  ∀ (H : Heap) (ρ : Nat → Place), (∀ o ∈ H, o.wrt = false) → Rel G ρ H W → ∃ (g : Heap) (ρ' : Nat → Place) (cz : List Value), Rel G ρ' (H ++ g) W ∧ (∀ b, b < H.length → ρ' b = ρ b) ∧ (∀ o ∈ g, ∃ c, o = .row c 0 false) ∧ VL (H ++ g).length ρ' cz cs ∧ Rep P (H ++ g) t d cz

theorem ro_app {H g : Heap} (h : ∀ o ∈ H, o.wrt = false) (hg : ∀ o ∈ g, ∃ c, o = .row c 0 false) : ∀ o ∈ H ++ g, o.wrt = false := fun o ho => by
  rcases List.mem_append.1 ho with ho | ho
  · exact h o ho
  · obtain ⟨c, rfl⟩ := hg o ho; rfl

theorem opens_list : ∀ (l : List (TypeId × List Value × DataW X)), (∀ q ∈ l, Opens P G W q.1 q.2.1 q.2.2) → ∀ (H : Heap) (ρ : Nat → Place), (∀ o ∈ H, o.wrt = false) → Rel G ρ H W →
    ∃ (g : Heap) (ρ' : Nat → Place) (ass : List (List Value)), Rel G ρ' (H ++ g) W ∧ (∀ b, b < H.length → ρ' b = ρ b) ∧ (∀ o ∈ g, ∃ c, o = .row c 0 false) ∧ ass.length = l.length ∧
      ∀ (i : Nat) (q : TypeId × List Value × DataW X) (cz : List Value), l[i]? = some q → ass[i]? = some cz → VL (H ++ g).length ρ' cz q.2.1 ∧ Rep P (H ++ g) q.1 q.2.2 cz
  | [], _, H, ρ, _, hr => ⟨[], ρ, [], by simpa using hr, fun _ _ => rfl, fun o ho => (by cases ho), rfl, fun i q cz h => by simp at h⟩
  | q :: l, h, H, ρ, hro, hr => by
    obtain ⟨g, ρ1, cz, hr1, hs1, hg1, hv1, hp1⟩ := h q (by simp) H ρ hro hr
    obtain ⟨g2, ρ2, ass, hr2, hs2, hg2, hl2, hh⟩ := opens_list l (fun q hq => h q (by simp [hq])) (H ++ g) ρ1 (ro_app hro hg1) hr1
    rw [List.append_assoc] at hr2 hh
    refine ⟨g ++ g2, ρ2, cz :: ass, hr2, fun b hb => (hs2 b (by simp; omega)).trans (hs1 b hb), fun o ho => ?_, by simp [hl2], fun i q' cz' hq has => ?_⟩
    · rcases List.mem_append.1 ho with ho | ho
      · exact hg1 o ho
      · exact hg2 o ho
    · cases i with
      | zero =>
        simp at hq has
        subst hq; subst has
        refine ⟨hv1.mono (by simp) hs2, ?_⟩
        rw [← List.append_assoc]
        exact hp1.mono
      | succ i => exact hh i q' cz' (by simpa using hq) (by simpa using has)

theorem mem_plain (hP : plainSet P L = true) {t : TypeId} (ht : L.contains t = true) : (decide (t < P.types.size) && (match P.underlying t with
    | some .bool | some (.int _) | some .string => true
    | some (.struct fs) => fs.toList.all fun f => L.contains f.type
    | some (.slice e) => L.contains e && decide (0 < P.cellsOf e)
    | _ => false)) = true := by
  unfold plainSet at hP
  exact List.all_eq_true.1 hP t (List.contains_iff_mem.1 ht)

theorem flat_get {c : Nat} (hc : 0 < c) : ∀ (css : List (List Value)) (k j : Nat) (cs : List Value), (∀ (i : Nat) (cz : List Value), css[i]? = some cz → cz.length = c) → css[k]? = some cs → j < c → css.flatten[k * c + j]? = cs[j]?
  | [], k, j, cs, _, h, _ => by simp at h
  | a :: css, 0, j, cs, hl, h, hj => by
    have h1 := hl 0 a rfl
    simp at h
    subst h
    rw [List.flatten_cons, Nat.zero_mul, Nat.zero_add, List.getElem?_append_left (by omega)]
  | a :: css, k + 1, j, cs, hl, h, hj => by
    have h1 := hl 0 a rfl
    have := flat_get hc css k j cs (fun i cz hi => hl (i + 1) cz (by simpa using hi)) (by simpa using h) hj
    rw [List.flatten_cons, List.getElem?_append_right (by rw [h1, Nat.add_mul]; omega), h1, show (k + 1) * c + j - c = k * c + j by rw [Nat.add_mul]; omega]
    exact this

theorem flat_len {c : Nat} : ∀ (css : List (List Value)), (∀ (i : Nat) (cz : List Value), css[i]? = some cz → cz.length = c) → css.flatten.length = css.length * c
  | [], _ => by simp
  | a :: css, hl => by
    rw [List.flatten_cons, List.length_append, hl 0 a rfl, flat_len css (fun i cz hi => hl (i + 1) cz (by simpa using hi)), List.length_cons, Nat.add_mul]
    omega

/-- A row that nothing writes, new in the evaluator's heap. -/
theorem rel_row {H : Heap} {ρ : Nat → Place} (hro : ∀ o ∈ H, o.wrt = false) (hr : Rel G ρ H W) {a : Addr} {cs : List Value} {cells : Array Value} {t : TypeId} {fr : Nat × Nat} {ext0 : Nat} (hh : W.heap[a.block]? = some (.cells cells t fr))
    (hc : ∀ (i : Nat) (v : Value), cs[i]? = some v → ∃ v', cells[a.off + i]? = some v' ∧ VR H.length ρ v v') : Rel G (ext ρ H.length ⟨a.block, a.off, ext0⟩) (H ++ [.row cs 0 false]) W := by
  have cases_ : ∀ b u, (H ++ [AObj.row cs 0 false])[b]? = some u → (b < H.length ∧ H[b]? = some u) ∨ (b = H.length ∧ u = .row cs 0 false) := fun b u h => by
    by_cases hb : b < H.length
    · rw [List.getElem?_append_left hb] at h; exact .inl ⟨hb, h⟩
    · rw [List.getElem?_append_right (by omega)] at h
      obtain ⟨h1, h2⟩ := List.getElem?_eq_some_iff.1 h
      simp at h1
      have : b = H.length := by omega
      subst this
      simp at h2
      exact .inr ⟨rfl, h2.symm⟩
  have hlen : (H ++ [AObj.row cs 0 false]).length = H.length + 1 := by simp
  refine ⟨fun b u hu => ?_, fun b c u v hu hv hne hw hl => ?_, fun g hg => ?_, by rw [hlen]; have := hr.many; omega⟩
  · rcases cases_ b u hu with ⟨hb, hu⟩ | ⟨rfl, rfl⟩
    · exact (hr.obj b u hu).mono (by omega) (ext_lt hb) (fun c hc => ext_lt hc) (fun _ => rfl)
    · rw [OR, ext_same]
      refine ⟨cells, t, fr, hh, fun i v hi => ?_, fun h => by cases h⟩
      obtain ⟨v', h1, h2⟩ := hc i v hi
      exact ⟨v', h1, h2.mono (by omega) fun b hb => ext_lt hb⟩
  · rcases cases_ b u hu with ⟨hb, hu2⟩ | ⟨rfl, rfl⟩
    · rw [hro u (List.mem_of_getElem? hu2)] at hw
      cases hw
    · cases hw
  · rw [ext_lt (Nat.lt_of_lt_of_le hg hr.many)]; exact hr.glob g hg

theorem opens_trod (hl : laidOutB P = true) (hm : mapsRowed P = true) (hP : plainSet P L = true) : ∀ (n : Nat) (t : TypeId) (cs : List Value) (x : DataW X × List MemPlace), L.contains t = true →
    DataW.trod enc P W base (fun _ => true) held n t cs = some x → Opens P G W t cs x.1 := by
  intro n
  induction n with
  | zero => intro t cs x _ h; simp [DataW.trod] at h
  | succ n ih =>
    intro t cs x ht h
    have hk := mem_plain hP ht
    simp only [Bool.and_eq_true, decide_eq_true_eq] at hk
    obtain ⟨htp, hk⟩ := hk
    have K := kids_rows hl hm
    intro H ρ hro hr
    split at hk
    · rename_i hu
      obtain ⟨b, rfl, rfl⟩ := DataW.trod_bool hu h
      exact ⟨[], ρ, [.bool b], by simpa using hr, fun _ _ => rfl, fun o ho => (by cases ho), VL.cons (.bool b) VL.nil, .bool b hu⟩
    · rename_i k hu
      obtain ⟨m, rfl, rfl, hw⟩ := DataW.trod_int hu h
      exact ⟨[], ρ, [.int k m], by simpa using hr, fun _ _ => rfl, fun o ho => (by cases ho), VL.cons (.int k m) VL.nil, .int k m hu hw⟩
    · rename_i hu
      obtain ⟨s, rfl, rfl, hs⟩ := DataW.trod_string hu h
      exact ⟨[], ρ, [.string s], by simpa using hr, fun _ _ => rfl, fun o ho => (by cases ho), VL.cons (.string s) VL.nil, .str s.data.toList hu (by simpa using hs)⟩
    · rename_i fs hu
      obtain ⟨xs, m, hm1, rfl, hlen, hxl, hf⟩ := DataW.trod_struct hu h
      cases hm1
      obtain ⟨_, hsum, hoff⟩ := K.struct htp hu
      -- the fields, one by one
      have hget : ∀ (i : Nat) (f : Field) (y : DataW X × List MemPlace), fs[i]? = some f → xs[i]? = some y → DataW.trod enc P W base (fun _ => true) held n f.type ((cs.drop f.offset).take (P.cellsOf f.type)) = some y := fun i f y hfi hy => by
        rw [hf i f hfi, hy]
      let l : List (TypeId × List Value × DataW X) := (List.range fs.size).map fun i => ((fs[i]?.map (·.type)).getD 0, ((chunks (fs.toList.map fun f => P.cellsOf f.type) cs)[i]?).getD [], (xs[i]?.map (·.1)).getD .nil)
      have hl1 : ∀ i, i < fs.size → ∃ f y, fs[i]? = some f ∧ xs[i]? = some y ∧ l[i]? = some (f.type, (cs.drop f.offset).take (P.cellsOf f.type), y.1) := fun i hi => by
        have e1 : fs[i]? = some fs[i] := Array.getElem?_eq_getElem hi
        have e2 : xs[i]? = some (xs[i]'(by omega)) := List.getElem?_eq_getElem (by omega)
        refine ⟨_, _, e1, e2, ?_⟩
        have e3 : fs.toList[i]? = some fs[i] := by rw [Array.getElem?_toList]; exact e1
        have e4 := chunks_get (fs.toList.map fun f => P.cellsOf f.type) cs i (P.cellsOf fs[i].type) (by simp [hi])
        have e5 := hoff i _ e3
        rw [List.map_take] at e5
        rw [← e5] at e4
        simp only [l, List.getElem?_map, List.getElem?_range hi, Option.map_some, e1, e2, e4, Option.getD_some]
      have hlL : l.length = fs.size := by simp [l]
      obtain ⟨g, ρ', ass, hr', hs', hg', hal, hh⟩ := opens_list l (fun q hq => by
        obtain ⟨i, hi⟩ := List.getElem?_of_mem hq
        have hi2 : i < fs.size := by rw [← hlL]; exact (List.getElem?_eq_some_iff.1 hi).1
        obtain ⟨f, y, h1, h2, h3⟩ := hl1 i hi2
        rw [hi] at h3
        cases h3
        refine ih f.type _ y ?_ (hget i f y h1 h2)
        have hmem : f ∈ fs.toList := by
          have : fs.toList[i]? = some f := by simpa using h1
          exact List.mem_of_getElem? this
        exact List.all_eq_true.1 hk f hmem) H ρ hro hr
      refine ⟨g, ρ', ass.flatten, hr', hs', hg', ?_, ?_⟩
      · have hflat := chunks_flat (fs.toList.map fun f => P.cellsOf f.type) cs (by rw [hlen, hsum])
        rw [← hflat]
        refine VL.flat _ _ (by rw [hal, hlL, chunks_len]; simp) fun i a b ha hb => ?_
        have hi : i < fs.size := by rw [← hlL, ← hal]; exact (List.getElem?_eq_some_iff.1 ha).1
        obtain ⟨f, y, h1, h2, h3⟩ := hl1 i hi
        have e4 := chunks_get (fs.toList.map fun f => P.cellsOf f.type) cs i (P.cellsOf f.type) (by
          have : fs.toList[i]? = some f := by simpa using h1
          simp [this])
        have e5 := hoff i f (by simpa using h1)
        rw [List.map_take] at e5
        rw [← e5] at e4
        rw [hb] at e4
        cases e4
        exact (hh i _ a h3 ha).1
      · refine .struct hu (by simpa using hxl) (by rw [hal, hlL]) (fun i f d cz hfi hd ha => ?_) (fun i f cz hfi ha => ?_)
        · have hi : i < fs.size := (Array.getElem?_eq_some_iff.1 hfi).1
          obtain ⟨f', y, h1, h2, h3⟩ := hl1 i hi
          rw [hfi] at h1
          cases h1
          rw [List.getElem?_map, h2] at hd
          cases hd
          exact (hh i _ cz h3 ha).2
        · have hi : i < fs.size := (Array.getElem?_eq_some_iff.1 hfi).1
          obtain ⟨f', y, h1, h2, h3⟩ := hl1 i hi
          rw [hfi] at h1
          cases h1
          have := (hh i _ cz h3 ha).1.1
          rw [this]
          have e5 := hoff i f (by simpa using hfi)
          have hle : f.offset + P.cellsOf f.type ≤ cs.length := by
            rw [hlen, hsum, e5]
            have : fs.toList[i]? = some f := by simpa using hfi
            obtain ⟨h7, h8⟩ := List.getElem?_eq_some_iff.1 this
            have e6 : fs.toList = fs.toList.take i ++ f :: fs.toList.drop (i + 1) := by
              rw [← h8, ← List.drop_eq_getElem_cons h7, List.take_append_drop]
            conv => rhs; rw [e6]
            rw [List.map_append, List.sum_append, List.map_cons, List.sum_cons]
            omega
          rw [List.length_take, List.length_drop]
          omega
    · rename_i e hu
      simp only [Bool.and_eq_true, decide_eq_true_eq] at hk
      rcases DataW.trod_slice hu h with ⟨rfl, rfl⟩ | ⟨a, len, cap, elems, rest, m, hm1, rfl, rfl, hbase, hlc, hcm, hel, hge, _, _⟩
      · exact ⟨[], ρ, [.slice none 0 0], by simpa using hr, fun _ _ => rfl, fun o ho => (by cases ho), VL.cons .slNil VL.nil, .nilS hu⟩
      cases hm1
      by_cases h0 : elems = []
      · subst h0
        obtain rfl : len = 0 := by simpa using hel.symm
        exact ⟨[], ρ, [.slice (some ⟨0, 0, some 0⟩) 0 0], by simpa using hr, fun _ _ => rfl, fun o ho => (by cases ho), VL.cons (.slE 0 0 0 a cap) VL.nil, .empty hu⟩
      have hlen0 : 0 < len := by rw [← hel]; exact List.length_pos_iff.2 h0
      have hcell : ∀ i, i < len → ∃ csi y, W.cells? base (a.add (i * P.cellsOf e)) (P.cellsOf e) = some csi ∧ elems[i]? = some y ∧ DataW.trod enc P W base (fun _ => true) held n e csi = some y := fun i hi => by
        have h1 := hge i hi
        have h2 : elems[i]? = some (elems[i]'(by omega)) := List.getElem?_eq_getElem (by omega)
        rw [h2] at h1
        obtain ⟨csi, h3, h4⟩ := Option.bind_eq_some_iff.1 h1
        exact ⟨csi, _, h3, h2, h4⟩
      let css : List (List Value) := (List.range len).map fun i => (W.cells? base (a.add (i * P.cellsOf e)) (P.cellsOf e)).getD []
      have hcss : ∀ i, i < len → ∃ csi y, css[i]? = some csi ∧ W.cells? base (a.add (i * P.cellsOf e)) (P.cellsOf e) = some csi ∧ elems[i]? = some y ∧ DataW.trod enc P W base (fun _ => true) held n e csi = some y := fun i hi => by
        obtain ⟨csi, y, h1, h2, h3⟩ := hcell i hi
        exact ⟨csi, y, by simp [css, hi, h1], h1, h2, h3⟩
      have hcssL : css.length = len := by simp [css]
      let l : List (TypeId × List Value × DataW X) := (List.range len).map fun i => (e, (css[i]?).getD [], (elems[i]?.map (·.1)).getD .nil)
      have hl1 : ∀ i, i < len → ∃ csi y, css[i]? = some csi ∧ W.cells? base (a.add (i * P.cellsOf e)) (P.cellsOf e) = some csi ∧ elems[i]? = some y ∧ DataW.trod enc P W base (fun _ => true) held n e csi = some y ∧ l[i]? = some (e, csi, y.1) := fun i hi => by
        obtain ⟨csi, y, h1, h2, h3, h4⟩ := hcss i hi
        exact ⟨csi, y, h1, h2, h3, h4, by simp [l, hi, h1, h3]⟩
      have hlL : l.length = len := by simp [l]
      obtain ⟨g, ρ', ass, hr', hs', hg', hal, hh⟩ := opens_list l (fun q hq => by
        obtain ⟨i, hi⟩ := List.getElem?_of_mem hq
        have hi2 : i < len := by rw [← hlL]; exact (List.getElem?_eq_some_iff.1 hi).1
        obtain ⟨csi, y, h1, h2, h3, h4, h5⟩ := hl1 i hi2
        rw [hi] at h5
        cases h5
        exact ih e _ y hk.1 h4) H ρ hro hr
      have hasl : ∀ (i : Nat) (cz : List Value), ass[i]? = some cz → cz.length = P.cellsOf e := fun i cz ha => by
        have hi : i < len := by rw [← hlL, ← hal]; exact (List.getElem?_eq_some_iff.1 ha).1
        obtain ⟨csi, y, h1, h2, h3, h4, h5⟩ := hl1 i hi
        rw [(hh i _ cz h5 ha).1.1]
        exact (World.cells?_some h2).2.1
      -- the block itself
      obtain ⟨cs0, y0, g1, g2, _⟩ := hcell 0 hlen0
      obtain ⟨_, gl, gc⟩ := World.cells?_some g1
      have gc0 := gc 0 hk.2
      rw [Nat.zero_mul] at gc0
      have hadd : ∀ (k j : Nat), ((a.add k).add j) = if k + j = 0 then a else ⟨a.block, a.off + (k + j), none⟩ := fun k j => by
        unfold Addr.add
        by_cases hk0 : k = 0
        · subst hk0
          by_cases hj0 : j = 0
          · subst hj0; rfl
          · simp [hj0]
        · by_cases hj0 : j = 0
          · subst hj0; simp [hk0]
          · simp only [if_neg hk0, if_neg hj0, if_neg (show ¬ k + j = 0 by omega), Nat.add_assoc]
      have hblk : ∃ cells ty fr, W.heap[a.block]? = some (.cells cells ty fr) ∧ a.spot = none := by
        have h7 : W.cell? a = cs0[0]? := by simpa [hadd] using gc0
        have h8 : cs0[0]? = some (cs0[0]'(by omega)) := List.getElem?_eq_getElem (by omega)
        rw [h8] at h7
        unfold World.cell? at h7
        split at h7
        · rename_i c ty fr hc
          split at h7
          · cases h7
          · rename_i hsp
            exact ⟨c, ty, fr, hc, by simpa using hsp⟩
        · cases h7
      obtain ⟨cells, ty, fr, hh0, hsp⟩ := hblk
      have hcellat : ∀ (i : Nat) (v : Value), ass.flatten[i]? = some v → ∃ v', cells[a.off + i]? = some v' ∧ VR (H ++ g).length ρ' v v' := fun i v hv => by
        have hi : i < ass.flatten.length := (List.getElem?_eq_some_iff.1 hv).1
        rw [flat_len ass hasl, hal, hlL] at hi
        have hq : i / P.cellsOf e < len := (Nat.div_lt_iff_lt_mul hk.2).2 hi
        have hm2 : i % P.cellsOf e < P.cellsOf e := Nat.mod_lt _ hk.2
        have hid : i / P.cellsOf e * P.cellsOf e + i % P.cellsOf e = i := Nat.div_add_mod' i (P.cellsOf e)
        obtain ⟨csi, y, h1, h2, h3, h4, h5⟩ := hl1 _ hq
        have ha : ass[i / P.cellsOf e]? = some (ass[i / P.cellsOf e]'(by rw [hal, hlL]; exact hq)) := List.getElem?_eq_getElem _
        obtain ⟨hv1, _⟩ := hh _ _ _ h5 ha
        have hfg := flat_get hk.2 ass _ _ _ hasl ha hm2
        rw [hid, hv] at hfg
        obtain ⟨v', hv', hvr⟩ := hv1.get hfg.symm
        refine ⟨v', ?_, hvr⟩
        have h9 := (World.cells?_some h2).2.2 _ hm2
        rw [hadd, hid, hv'] at h9
        by_cases hi0 : i = 0
        · subst hi0
          simp only [if_true] at h9
          unfold World.cell? at h9
          rw [hh0, hsp] at h9
          simpa using h9
        · rw [if_neg hi0] at h9
          unfold World.cell? at h9
          simpa [hh0] using h9
      have hr2 := rel_row (a := a) (cs := ass.flatten) (ext0 := cap - len) (ro_app hro hg') hr' hh0 hcellat
      refine ⟨g ++ [.row ass.flatten 0 false], ext ρ' (H ++ g).length ⟨a.block, a.off, cap - len⟩, [.slice (some ⟨(H ++ g).length, 0, none⟩) len len], by rw [← List.append_assoc]; exact hr2, fun b hb => ?_, fun o ho => ?_, ?_, ?_⟩
      · rw [ext_lt (by rw [List.length_append]; omega)]; exact hs' b hb
      · rcases List.mem_append.1 ho with ho | ho
        · exact hg' o ho
        · rw [List.mem_singleton.1 ho]; exact ⟨_, rfl⟩
      · have := VR.sl (n := (H ++ (g ++ [AObj.row ass.flatten 0 false])).length) (ρ := ext ρ' (H ++ g).length ⟨a.block, a.off, cap - len⟩) (H ++ g).length 0 len len cap (by simp only [List.length_append, List.length_cons, List.length_nil]; omega) (Nat.le_refl _) hlc (by rw [ext_same]; show cap ≤ len + (cap - len); omega)
        rw [ext_same, Nat.add_zero] at this
        have ha2 : (⟨a.block, a.off, none⟩ : Addr) = a := by rw [← hsp]
        rw [ha2] at this
        exact VL.cons this VL.nil
      · have := Rep.slice (P := P) (H := H ++ (g ++ [AObj.row ass.flatten 0 false])) (t := t) (e := e) (b := (H ++ g).length) (ds := elems.map (·.1)) (sp := rest.map (·.1)) (ass := ass) hu (by simpa using h0) (by rw [← List.append_assoc]; exact hget_last _ _) (by rw [hal, hlL, List.length_map, hel])
          (fun i d cz hd ha => by
            have hi : i < len := by rw [← hlL, ← hal]; exact (List.getElem?_eq_some_iff.1 ha).1
            obtain ⟨csi, y, h1, h2, h3, h4, h5⟩ := hl1 i hi
            rw [List.getElem?_map, h3] at hd
            cases hd
            have := (hh i _ cz h5 ha).2
            rw [← List.append_assoc]
            exact this.mono) hasl
        rw [List.length_map, hel] at this
        exact this
    · cases hk

/-! ### The call's end -/

def slicesPos (P : Program) : Bool := (List.range P.types.size).all fun t => match P.underlying t with
  | some (.slice e) => decide (0 < P.cellsOf e)
  | _ => true

theorem args_stay {W' : World} (hl : laidOutB P = true) (hm : mapsRowed P = true) (hp : slicesPos P = true) (bel : Below W.heap.size W W') :
    ∀ {ts : List TypeId} {vs : List Value} {ds : List (DataW X)} {ps : List MemPlace}, (∀ t ∈ ts, t < P.types.size) → DataW.TrodAll enc P W 0 (fun _ => true) true ts vs ds ps →
      DataW.TrodAll enc P W' 0 (fun b => decide (b < W.heap.size)) true ts vs ds ps
  | [], vs, ds, ps, _, h => by
    obtain ⟨rfl, rfl, rfl⟩ := trodAll_nil h
    rfl
  | t :: ts, vs, ds, ps, ht, h => by
    obtain ⟨v, vs1, d, ds1, p, q, rfl, rfl, rfl, ⟨fuel, h1⟩, h2⟩ := trodAll_cons h
    have hlt := DataW.trod_lt fuel t v.cells.toList _ h1
    refine ⟨p, q, ⟨fuel, DataW.trod_stays (kids_rows hl hm) (fun {t e} htt hu => ?_) (fun h => by cases h) (ht t (by simp)) h1 (fun x hx => bel.same (hlt x hx)) (fun x hx => by simpa using hlt x hx)⟩, args_stay hl hm hp bel (fun u hu => ht u (by simp [hu])) h2, rfl⟩
    have := List.all_eq_true.1 hp t (List.mem_range.2 htt)
    simpa [hu] using this

/-! ### The call's arguments -/

/-- An argument tells some data. -/
def ArgRep (P : Program) (H : Heap) (t : TypeId) (d : DataW X) (a : Value) : Prop := ∃ cz, Rep P H t d cz ∧ (((∃ fs, P.underlying t = some (.struct fs)) ∧ a = .agg cz.toArray) ∨ cz = [a])

theorem ArgRep.mono {H g : Heap} {t : TypeId} {d : DataW X} {a : Value} (h : ArgRep P H t d a) : ArgRep P (H ++ g) t d a := by
  obtain ⟨cz, h1, h2⟩ := h
  exact ⟨cz, h1.mono, h2⟩

theorem vr_single {n : Nat} {ρ : Nat → Place} {a : Value} {v : Value} (h : VL n ρ [a] v.cells.toList) (hv : ∀ cs, v ≠ .agg cs) : VR n ρ a v := by
  have : v.cells.toList = [v] := by
    cases v <;> first | rfl | exact absurd rfl (hv _)
  rw [this] at h
  exact h.head

theorem open_args (hl : laidOutB P = true) (hm : mapsRowed P = true) (hP : plainSet P L = true) {r : Reach} {b0 : Nat} : ∀ {ts : List TypeId} {vs : List Value} {ds : List (DataW X)} {ps : List MemPlace},
    (∀ t ∈ ts, L.contains t = true) → DataW.TrodAll enc P W base (fun _ => true) held ts vs ds ps → (∀ (j : Nat) t v, ts[j]? = some t → vs[j]? = some v → Value.okWide P W r b0 t v) →
    ∀ (H : Heap) (ρ : Nat → Place), (∀ o ∈ H, o.wrt = false) → Rel G ρ H W → ∃ (g : Heap) (ρ' : Nat → Place) (avs : List Value), Rel G ρ' (H ++ g) W ∧ (∀ b, b < H.length → ρ' b = ρ b) ∧ (∀ o ∈ g, ∃ c, o = .row c 0 false) ∧
      VL (H ++ g).length ρ' avs vs ∧ avs.length = ts.length ∧ ∀ (j : Nat) t d a, ts[j]? = some t → ds[j]? = some d → avs[j]? = some a → ArgRep P (H ++ g) t d a
  | [], vs, ds, ps, _, h, _, H, ρ, hro, hr => by
    obtain ⟨rfl, rfl, rfl⟩ := trodAll_nil h
    exact ⟨[], ρ, [], by simpa using hr, fun _ _ => rfl, fun o ho => (by cases ho), VL.nil, rfl, fun j t d a h => by simp at h⟩
  | t :: ts, vs, ds, ps, hts, h, hok, H, ρ, hro, hr => by
    obtain ⟨v, vs1, d, ds1, p, q, rfl, rfl, rfl, ⟨fuel, h1⟩, h2⟩ := trodAll_cons h
    have htc := hts t (by simp)
    obtain ⟨g, ρ1, cz, hr1, hs1, hg1, hv1, hp1⟩ := opens_trod (G := G) hl hm hP fuel t _ _ htc h1 H ρ hro hr
    obtain ⟨g2, ρ2, avs, hr2, hs2, hg2, hv2, hl2, hh⟩ := open_args hl hm hP (fun u hu => hts u (by simp [hu])) h2 (fun j t v hj hv => hok (j + 1) t v (by simpa using hj) (by simpa using hv)) (H ++ g) ρ1 (ro_app hro hg1) hr1
    rw [List.append_assoc] at hr2 hh hv2
    have hval := hok 0 t v rfl rfl
    have hk := mem_plain hP htc
    simp only [Bool.and_eq_true, decide_eq_true_eq] at hk
    obtain ⟨_, hk⟩ := hk
    have single : (∀ cs, v ≠ .agg cs) → (∃ a, cz = [a]) → ∃ a, VR (H ++ g).length ρ1 a v ∧ ArgRep P (H ++ g) t d a := fun hna ⟨a, ha⟩ => by
      subst ha
      exact ⟨a, vr_single hv1 hna, [a], hp1, .inr rfl⟩
    have one : (∀ cs, v ≠ .agg cs) → ∃ a, cz = [a] := fun hna => by
      have : v.cells.toList = [v] := by
        cases v <;> first | rfl | exact absurd rfl (hna _)
      have h3 := hv1.1
      rw [this] at h3
      match cz, h3 with
      | [a], _ => exact ⟨a, rfl⟩
    have hex : ∃ a, VR (H ++ g).length ρ1 a v ∧ ArgRep P (H ++ g) t d a := by
      split at hk
      · rename_i hu
        obtain ⟨b, rfl⟩ := okWide_bool hu hval
        exact single (fun _ h => by cases h) (one fun _ h => by cases h)
      · rename_i k hu
        obtain ⟨b, rfl⟩ := okWide_int hu hval
        exact single (fun _ h => by cases h) (one fun _ h => by cases h)
      · rename_i hu
        obtain ⟨b, rfl⟩ := okWide_string hu hval
        exact single (fun _ h => by cases h) (one fun _ h => by cases h)
      · rename_i fs hu
        obtain ⟨cs, rfl, _⟩ := okWide_struct hu hval
        refine ⟨.agg cz.toArray, ?_, cz, hp1, .inl ⟨⟨fs, hu⟩, rfl⟩⟩
        have := hv1.agg
        simpa [Value.cells] using this
      · rename_i e hu
        obtain ⟨a, l, c, rfl⟩ := okWide_slice hu hval
        exact single (fun _ h => by cases h) (one fun _ h => by cases h)
      · cases hk
    obtain ⟨a, ha1, ha2⟩ := hex
    refine ⟨g ++ g2, ρ2, a :: avs, hr2, fun b hb => (hs2 b (by simp; omega)).trans (hs1 b hb), fun o ho => ?_, VL.cons (ha1.mono (by simp) hs2) hv2, by simp [hl2], fun j t' d' a' hj hd ha => ?_⟩
    · rcases List.mem_append.1 ho with ho | ho
      · exact hg1 o ho
      · exact hg2 o ho
    · cases j with
      | zero =>
        simp at hj hd ha
        subst hj; subst hd; subst ha
        rw [← List.append_assoc]
        exact ha2.mono
      | succ j => exact hh j t' d' a' (by simpa using hj) (by simpa using hd) (by simpa using ha)

/-! ### What an argument is -/

theorem Rep.inv_int {H : Heap} {t : TypeId} {k : IntKind} {d : DataW X} {cz : List Value} (hu : P.underlying t = some (.int k)) (h : Rep P H t d cz) : ∃ n, d = .lit (.int k n) ∧ cz = [.int k n] ∧ (Lit.int k n).wf = true := by
  cases h with
  | int k' n hu' hw => rw [hu] at hu'; cases hu'; exact ⟨n, rfl, rfl, hw⟩
  | bool b hu' => rw [hu] at hu'; cases hu'
  | str l hu' hl => rw [hu] at hu'; cases hu'
  | struct hu' => rw [hu] at hu'; cases hu'
  | nilS hu' => rw [hu] at hu'; cases hu'
  | empty hu' => rw [hu] at hu'; cases hu'
  | slice hu' => rw [hu] at hu'; cases hu'

theorem Rep.inv_bool {H : Heap} {t : TypeId} {d : DataW X} {cz : List Value} (hu : P.underlying t = some .bool) (h : Rep P H t d cz) : ∃ b, d = .lit (.bool b) ∧ cz = [.bool b] := by
  cases h with
  | int k' n hu' hw => rw [hu] at hu'; cases hu'
  | bool b hu' => exact ⟨b, rfl, rfl⟩
  | str l hu' hl => rw [hu] at hu'; cases hu'
  | struct hu' => rw [hu] at hu'; cases hu'
  | nilS hu' => rw [hu] at hu'; cases hu'
  | empty hu' => rw [hu] at hu'; cases hu'
  | slice hu' => rw [hu] at hu'; cases hu'

theorem Rep.inv_str {H : Heap} {t : TypeId} {d : DataW X} {cz : List Value} (hu : P.underlying t = some .string) (h : Rep P H t d cz) : ∃ l, d = .lit (.string l) ∧ cz = [.string (bs l)] ∧ l.length ≤ maxLen := by
  cases h with
  | int k' n hu' hw => rw [hu] at hu'; cases hu'
  | bool b hu' => rw [hu] at hu'; cases hu'
  | str l hu' hl => exact ⟨l, rfl, rfl, hl⟩
  | struct hu' => rw [hu] at hu'; cases hu'
  | nilS hu' => rw [hu] at hu'; cases hu'
  | empty hu' => rw [hu] at hu'; cases hu'
  | slice hu' => rw [hu] at hu'; cases hu'

theorem Rep.inv_struct {H : Heap} {t : TypeId} {fs : Array Field} {d : DataW X} {cz : List Value} (hu : P.underlying t = some (.struct fs)) (h : Rep P H t d cz) : ∃ (ds : List (DataW X)) (ass : List (List Value)), d = .agg ds ∧ cz = ass.flatten ∧ ds.length = fs.size ∧ ass.length = fs.size ∧
    ∀ (i : Nat) (f : Field) (d : DataW X) (cz : List Value), fs[i]? = some f → ds[i]? = some d → ass[i]? = some cz → Rep P H f.type d cz := by
  cases h with
  | int k' n hu' hw => rw [hu] at hu'; cases hu'
  | bool b hu' => rw [hu] at hu'; cases hu'
  | str l hu' hl => rw [hu] at hu'; cases hu'
  | struct hu' h1 h2 h3 h4 => rw [hu] at hu'; cases hu'; exact ⟨_, _, rfl, rfl, h1, h2, h3⟩
  | nilS hu' => rw [hu] at hu'; cases hu'
  | empty hu' => rw [hu] at hu'; cases hu'
  | slice hu' => rw [hu] at hu'; cases hu'

theorem Rep.inv_slice {H : Heap} {t e : TypeId} {d : DataW X} {cz : List Value} (hu : P.underlying t = some (.slice e)) (h : Rep P H t d cz) : (d = .nil ∧ cz = [.slice none 0 0]) ∨ (∃ sp, d = .slice [] sp ∧ cz = [.slice (some ⟨0, 0, some 0⟩) 0 0]) ∨
    ∃ (b : Nat) (ds sp : List (DataW X)) (ass : List (List Value)), d = .slice ds sp ∧ ds ≠ [] ∧ cz = [.slice (some ⟨b, 0, none⟩) ds.length ds.length] ∧ hget H b = .row ass.flatten 0 false ∧ ass.length = ds.length ∧
      (∀ (i : Nat) (d : DataW X) (cz : List Value), ds[i]? = some d → ass[i]? = some cz → Rep P H e d cz) ∧ (∀ (i : Nat) (cz : List Value), ass[i]? = some cz → cz.length = P.cellsOf e) := by
  cases h with
  | int k' n hu' hw => rw [hu] at hu'; cases hu'
  | bool b hu' => rw [hu] at hu'; cases hu'
  | str l hu' hl => rw [hu] at hu'; cases hu'
  | struct hu' => rw [hu] at hu'; cases hu'
  | nilS hu' => exact .inl ⟨rfl, rfl⟩
  | empty hu' => exact .inr (.inl ⟨_, rfl, rfl⟩)
  | slice hu' hne hb h2 h3 h4 => rw [hu] at hu'; cases hu'; exact .inr (.inr ⟨_, _, _, _, rfl, hne, rfl, hb, h2, h3, h4⟩)

/-- A struct of two fields. -/
theorem Rep.inv_two {H : Heap} {t : TypeId} {f0 f1 : Field} {d : DataW X} {cz : List Value} (hu : P.underlying t = some (.struct #[f0, f1])) (h : Rep P H t d cz) : ∃ d0 d1 a0 a1, d = .agg [d0, d1] ∧ cz = a0 ++ a1 ∧ Rep P H f0.type d0 a0 ∧ Rep P H f1.type d1 a1 := by
  obtain ⟨ds, ass, rfl, rfl, h1, h2, h3⟩ := h.inv_struct hu
  match ds, ass, h1, h2, h3 with
  | [d0, d1], [a0, a1], _, _, h3 => exact ⟨d0, d1, a0, a1, rfl, by simp, h3 0 f0 d0 a0 rfl rfl rfl, h3 1 f1 d1 a1 rfl rfl rfl⟩

/-- An unsigned number of 64 bits. -/
theorem Rep.inv_u64 {H : Heap} {t : TypeId} {d : DataW X} {cz : List Value} (hu : P.underlying t = some (.int .u64)) (h : Rep P H t d cz) : ∃ n : Nat, d = .lit (.int .u64 n) ∧ cz = [.int .u64 (n : Int)] ∧ n < 18446744073709551616 := by
  obtain ⟨n, rfl, rfl, hw⟩ := h.inv_int hu
  have hw : (0 : Int) ≤ n ∧ n ≤ 18446744073709551615 := by
    simpa [Lit.wf, IntKind.min, IntKind.max, IntKind.signed, IntKind.bits] using hw
  refine ⟨n.toNat, ?_, ?_, by omega⟩ <;> rw [Int.toNat_of_nonneg hw.1]

/-- A number of 64 bits. -/
theorem Rep.inv_i64 {H : Heap} {t : TypeId} {d : DataW X} {cz : List Value} (hu : P.underlying t = some (.int .i64)) (h : Rep P H t d cz) : ∃ n : Int, d = .lit (.int .i64 n) ∧ cz = [.int .i64 n] ∧ -9223372036854775808 ≤ n ∧ n < 9223372036854775808 := by
  obtain ⟨n, rfl, rfl, hw⟩ := h.inv_int hu
  have hw : (-9223372036854775808 : Int) ≤ n ∧ n ≤ 9223372036854775807 := by
    simpa [Lit.wf, IntKind.min, IntKind.max, IntKind.signed, IntKind.bits] using hw
  exact ⟨n, rfl, rfl, hw.1, by omega⟩

end

end Go.Proofs.Yticgkaanaimllaa.Ev

/- Arguments of the trie's laws as their rows read them: numbers, values of 128 bits, operations and lists of them. Conditions: none. -/
namespace Go.Proofs.Yticgkaanaimllaa.Ev
open Go.ChangeShapes Go.WideShapes Go.ChangeAt Go.RowKit

theorem own : ownKnob Try.prog.godebug = none := by kernel_rfl

theorem VL.narrow {n m : Nat} {ρ ρ' : Nat → Place} {xs ys : List Value} (h : VL m ρ' xs ys) (hs : ∀ x ∈ xs, Scoped n x) (he : ∀ b, b < n → ρ' b = ρ b) : VL n ρ xs ys :=
  ⟨h.1, fun i x y hx hy => ((h.2 i x y hx hy).narrow (hs x (List.mem_of_getElem? hx))).mono (Nat.le_refl _) fun b hb => (he b hb).symm⟩

theorem int_arg {P : Program} {H : Heap} {X : Type} {t : TypeId} {d : DataW X} {a : Value} (hu : P.underlying t = some (.int .i64)) (h : ArgRep P H t d a) : ∃ n : Int, d = .lit (.int .i64 n) ∧ a = .int .i64 n := by
  obtain ⟨cs, hr, hcase⟩ := h
  obtain ⟨n, rfl, rfl, _⟩ := hr.inv_i64 hu
  rcases hcase with ⟨⟨fs, hf⟩, _⟩ | h
  · rw [hu] at hf; cases hf
  · simp at h; exact ⟨n, rfl, h.symm⟩

theorem Rep.inv_four {P : Program} {X : Type} {H : Heap} {t : TypeId} {f0 f1 f2 f3 : Field} {d : DataW X} {cz : List Value} (hu : P.underlying t = some (.struct #[f0, f1, f2, f3])) (h : Rep P H t d cz) :
    ∃ d0 d1 d2 d3 a0 a1 a2 a3, d = .agg [d0, d1, d2, d3] ∧ cz = a0 ++ (a1 ++ (a2 ++ a3)) ∧ Rep P H f0.type d0 a0 ∧ Rep P H f1.type d1 a1 ∧ Rep P H f2.type d2 a2 ∧ Rep P H f3.type d3 a3 := by
  obtain ⟨ds, ass, rfl, rfl, h1, h2, h3⟩ := h.inv_struct hu
  match ds, ass, h1, h2, h3 with
  | [d0, d1, d2, d3], [a0, a1, a2, a3], _, _, h3 => exact ⟨d0, d1, d2, d3, a0, a1, a2, a3, rfl, by simp, h3 0 f0 d0 a0 rfl rfl rfl, h3 1 f1 d1 a1 rfl rfl rfl, h3 2 f2 d2 a2 rfl rfl rfl, h3 3 f3 d3 a3 rfl rfl rfl⟩

theorem halves {hi lo : Nat} (h1 : hi < 18446744073709551616) (h2 : lo < 18446744073709551616) : ∃ a, a < 2 ^ 128 ∧ a / W64 = hi ∧ a % W64 = lo := by
  refine ⟨hi * W64 + lo, ?_, ?_, ?_⟩ <;> unfold W64 <;> omega

theorem bits_rep {X : Type} {H : Heap} {d : DataW X} {cz : List Value} (h : Rep Try.prog H 25 d cz) : ∃ a, a < 2 ^ 128 ∧ cz = [.int .u64 ((a / W64 : Nat) : Int), .int .u64 ((a % W64 : Nat) : Int)] := by
  obtain ⟨e0, e1, b0, b1, rfl, rfl, s0, s1⟩ := h.inv_two Try.underlying25
  obtain ⟨x, rfl, rfl, hx⟩ := s0.inv_u64 Try.underlying23
  obtain ⟨y, rfl, rfl, hy⟩ := s1.inv_u64 Try.underlying23
  obtain ⟨a, h1, rfl, rfl⟩ := halves hx hy
  exact ⟨a, h1, rfl⟩

/-- An operation's cells. -/
theorem op_rep {X : Type} {H : Heap} {d : DataW X} {cz : List Value} (h : Rep Try.prog H 35 d cz) : ∃ o : Opr, cz = opC o ∧ o.a < 2 ^ 128 ∧ -9223372036854775808 ≤ o.n ∧ o.n < 9223372036854775808 ∧ -9223372036854775808 ≤ o.v ∧ o.v < 9223372036854775808 ∧ -9223372036854775808 ≤ o.k ∧ o.k < 9223372036854775808 := by
  obtain ⟨d0, d1, d2, d3, a0, a1, a2, a3, rfl, rfl, r0, r1, r2, r3⟩ := h.inv_four Try.underlying35
  obtain ⟨k, rfl, rfl, hk⟩ := r0.inv_i64 Try.underlying3
  obtain ⟨a, ha, rfl⟩ := bits_rep r1
  obtain ⟨n, rfl, rfl, hn⟩ := r2.inv_i64 Try.underlying3
  obtain ⟨v, rfl, rfl, hv⟩ := r3.inv_i64 Try.underlying3
  exact ⟨⟨k, a, n, v⟩, rfl, ha, hn.1, hn.2, hv.1, hv.2, hk.1, hk.2⟩

/-- The numbers of an operation fit their cells. -/
def OprOk (o : Opr) : Prop := o.a < 2 ^ 128 ∧ -9223372036854775808 ≤ o.n ∧ o.n < 9223372036854775808 ∧ -9223372036854775808 ≤ o.v ∧ o.v < 9223372036854775808 ∧ -9223372036854775808 ≤ o.k ∧ o.k < 9223372036854775808

theorem ops_rep {X : Type} {H : Heap} : ∀ (ds : List (DataW X)) (ass : List (List Value)), ass.length = ds.length → (∀ (i : Nat) (d : DataW X) (cz : List Value), ds[i]? = some d → ass[i]? = some cz → Rep Try.prog H 35 d cz) →
    ∃ ops : List Opr, ass = ops.map opC ∧ ∀ o ∈ ops, OprOk o
  | [], [], _, _ => ⟨[], rfl, fun o ho => by cases ho⟩
  | [], _ :: _, h, _ => by simp at h
  | _ :: _, [], h, _ => by simp at h
  | d :: ds, cz :: ass, hl, h => by
    obtain ⟨o, rfl, ho⟩ := op_rep (h 0 d cz rfl rfl)
    obtain ⟨ops, rfl, h2⟩ := ops_rep ds ass (by simpa using hl) fun i d cz h1 h2 => h (i + 1) d cz (by simpa using h1) (by simpa using h2)
    exact ⟨o :: ops, rfl, fun q hq => by
      rcases List.mem_cons.1 hq with rfl | hq
      · exact ho
      · exact h2 q hq⟩

theorem bits_arg {X : Type} {H : Heap} {d : DataW X} {a : Value} (h : ArgRep Try.prog H 25 d a) : ∃ n, n < 2 ^ 128 ∧ a = bvA n := by
  obtain ⟨cs, hr, hcase⟩ := h
  obtain ⟨n, hn, rfl⟩ := bits_rep hr
  rcases hcase with ⟨_, rfl⟩ | h
  · exact ⟨n, hn, rfl⟩
  · simp at h

theorem opr_arg {X : Type} {H : Heap} {d : DataW X} {a : Value} (h : ArgRep Try.prog H 35 d a) : ∃ o, OprOk o ∧ a = .agg (opC o).toArray := by
  obtain ⟨cs, hr, hcase⟩ := h
  obtain ⟨o, rfl, ho⟩ := op_rep hr
  rcases hcase with ⟨_, rfl⟩ | h
  · exact ⟨o, ho, rfl⟩
  · simp [opC] at h

/-- A list of operations. -/
theorem ops_arg {X : Type} {H : Heap} {d : DataW X} {a : Value} (h : ArgRep Try.prog H 22 d a) :
    ∃ (ad : Option Addr) (ops : List Opr), a = .slice ad ops.length ops.length ∧ (∀ o ∈ ops, OprOk o) ∧ OpSl H ad ops H.length ∧ (d = .nil ∧ ops = [] ∨ ∃ ds sp, d = .slice ds sp ∧ ops.length = ds.length) := by
  obtain ⟨cs, hr, hcase⟩ := h
  have hne : ∀ {l}, cs = [l] → a = l := fun e => by
    rcases hcase with ⟨⟨fs, hf⟩, _⟩ | h
    · have := Try.underlying22
      rw [this] at hf; cases hf
    · rw [e] at h; simpa using h.symm
  rcases hr.inv_slice Try.underlying22 with ⟨rfl, e⟩ | ⟨sp, rfl, e⟩ | ⟨b, ds, sp, ass, rfl, hds, e, hb, h2, h3, h4⟩
  · exact ⟨none, [], hne e, (fun o ho => by cases ho), fun q => absurd rfl q, .inl ⟨rfl, rfl⟩⟩
  · exact ⟨some ⟨0, 0, some 0⟩, [], hne e, (fun o ho => by cases ho), fun q => absurd rfl q, .inr ⟨[], sp, rfl, rfl⟩⟩
  · obtain ⟨ops, rfl, hops⟩ := ops_rep ds ass h2 h3
    have hl : ops.length = ds.length := by simpa using h2
    refine ⟨some ⟨b, 0, none⟩, ops, by rw [hne e, hl], hops, fun _ => ⟨b, false, rfl, hget_lt hb rfl, hb⟩, .inr ⟨ds, sp, rfl, hl⟩⟩

theorem rel_nil {ρ : Nat → Place} (w : World) : Rel 0 ρ [] w := ⟨fun b o h => by simp at h, fun b c o u h => by simp at h, fun g h => absurd h (Nat.not_lt_zero _), Nat.le_refl _⟩

theorem rel_globs {ρ : Nat → Place} (w : World) : Rel T.G ρ [] w := by
  have : T.G = 0 := by unfold T; kernel_rfl
  rw [this]
  exact rel_nil w
end Go.Proofs.Yticgkaanaimllaa.Ev

/- TrieLongest: what is found is the longest of what was put there, and Every tells just those whose prefix the value has: whatever the inputs, the law answers true. Conditions: none. -/
namespace Go.Proofs.Yticgkaanaimllaa.Ev
open Go.ChangeShapes Go.WideShapes Go.ChangeAt Go.RowKit

set_option maxRecDepth 100000 in
theorem trieLongest_lifted (os : Os) (started : os.Started) (H : Type) (enc : TypeId × Value → H) :
    ReturnsInHanded {} Try.checked os 3 .any (Rows.trieLongestSpec.pre6 enc Try.prog Try.f3 [] false)
      (Rows.trieLongestSpec.post enc Try.prog Try.f3 false true false false) := by
  refine returnsInHanded_of_change_sized (C := Try.checked) own started (by kernel_rfl) Try.func3
    (ChangeSpec.witness6 (enc := enc) (C := Try.checked) (os := os) false ⟨#[], #[.int .i64 0, .slice none 0 0, .agg #[.int .u64 0, .int .u64 0]], []⟩ 8 (by kernel_rfl) (by kernel_rfl) (by kernel_rfl) (by kernel_rfl)) ?_
  intro W base args ds gs before hval0 hW _ hsz _
  have hval : ∀ (j : Nat) t v, Try.f3.params[j]? = some t → args[j]? = some v → Value.okWide Try.prog W .any base t v := hval0
  have hW' := hW
  obtain ⟨p, q, hA0, hV, rfl, hfz, hnd⟩ := hW
  have hA : DataW.TrodAll enc Try.prog W 0 (fun _ => true) true Try.f3.params.toList args.toList ds p := hA0
  have hsz' : (DataW.weightsEach Try.prog (Try.f3.params.toList ++ Rows.trieLongestSpec.plain.varTypes Try.prog) (ds ++ gs)).all (· ≤ reachBytes) = true := hsz
  rw [Try.params3] at hA hval hsz'
  obtain ⟨rfl, rfl⟩ := trodVars_none hV
  obtain ⟨g, ρ', avs, hr, hs, hg, hvl, hlen, hrep⟩ := open_args (G := 0) (L := [3, 22, 35, 25, 23]) (by kernel_rfl) (by kernel_rfl) (by kernel_rfl) (by decide) hA (fun j t v h1 h2 => hval j t v (by simpa using h1) (by simpa using h2)) [] (fun _ => ⟨0, 0, 0⟩) (fun o ho => by cases ho) (rel_nil W)
  have hA1 := hA
  obtain ⟨v0, vs0, d0, ds0, p0, q0, hargs, rfl, rfl, h0, r0⟩ := trodAll_cons hA1
  obtain ⟨v1, vs1, d1, ds1, p1, q1, rfl, rfl, rfl, h1, r1⟩ := trodAll_cons r0
  obtain ⟨v2, vs2, d2, ds2, p2, q2, rfl, rfl, rfl, h2, r2⟩ := trodAll_cons r1
  obtain ⟨rfl, rfl, rfl⟩ := trodAll_nil r2
  obtain rfl : args = #[v0, v1, v2] := by cases args; simp_all
  match avs, hlen with
  | [a0, a1, a2], _ =>
  obtain ⟨w, rfl, rfl⟩ := int_arg Try.underlying3 (hrep 0 3 d0 a0 rfl rfl rfl)
  obtain ⟨ad, ops, rfl, hops, hsl, hds⟩ := ops_arg (hrep 1 22 d1 a1 rfl rfl rfl)
  obtain ⟨n, hn, rfl⟩ := bits_arg (hrep 2 25 d2 a2 rfl rfl rfl)
  have hlen : ops.length ≤ 4611686018427387904 := by
    rcases hds with ⟨_, rfl⟩ | ⟨ds, sp, rfl, e⟩
    · simp
    · have := sized_slice hsz' (j := 1) (t := 22) rfl rfl Try.underlying22
      have hb : Try.prog.bytesOf 35 = 40 := by kernel_rfl
      have hlt := reachBytes_lt
      rw [hb] at this
      omega
  have hG : T.G = 0 := by unfold T; kernel_rfl
  simp only [List.nil_append] at hr hvl hsl
  refine (wd_true t3 (H := g) (long_w hn (fun o ho => (hops o ho).1) hlen hsl) (by rw [hG]; exact hr) (args' := #[v0, v1, v2]) hvl (fun o ho => by obtain ⟨c, rfl⟩ := hg o ho; rfl)).mono fun e W' ⟨he, bel⟩ => ?_
  subst he
  exact ⟨_, rfl, _, _, _, [], _, [], hW', trodAll_mk1 (shut_bool Try.underlying4 _), args_stay (by kernel_rfl) (by kernel_rfl) (by kernel_rfl) bel (by decide) hA, rfl, bel.frame _, fun h => by cases h⟩

theorem trieLongest_holds : Rows.TrieLongestSaid :=
  OpenClaim.holds_of_wide 3 Try.f3 rfl rfl rfl rfl rfl rfl rfl ⟨rfl, rfl, rfl, rfl, rfl⟩ rfl rfl rfl rfl rfl (by kernel_rfl) Try.func3 (by kernel_rfl)
    (of_decide_eq_true (by kernel_rfl)) (by unfold Func.isWrapper; first | (rw [if_pos (by decide +kernel)]; kernel_rfl) | (rw [if_neg (by decide +kernel)]; exact ⟨rfl, rfl⟩))
    (fun os started H enc _ => trieLongest_lifted os started H enc)

#print axioms trieLongest_holds
end Go.Proofs.Yticgkaanaimllaa.Ev
