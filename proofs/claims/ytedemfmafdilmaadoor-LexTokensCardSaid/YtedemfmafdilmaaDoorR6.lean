/- The document's numbers: eight parts of 16 bits. -/
import Derived.Test.YtedemfmafdilmaaDoorR5
namespace Go.Proofs.YtedemfmafdilmaaDoor.Ev
set_option maxRecDepth 100000
set_option linter.unusedSimpArgs false
set_option linter.unusedVariables false
variable {R : FRes → Heap → Prop} {H : Heap}

theorem bin_quo {k : IntKind} {a b : Nat} (hb : 0 < b) : binV .quo (.int k (a : Int)) (.int k (b : Int)) = some (.int k (k.wrap ((a / b : Nat) : Int))) := by
  have h0 : ¬ (b : Int) = 0 := by omega
  have : pr (Op.intDiv .quo k (a : Int) (b : Int)) = some (.int k (k.wrap ((a : Int).tdiv (b : Int)))) := by unfold Op.intDiv; rw [if_neg h0]; rfl
  simp only [binV, intBin, if_true, if_neg h0, this]
  rfl
theorem bin_rem {k : IntKind} {a b : Nat} (hb : 0 < b) : binV .rem (.int k (a : Int)) (.int k (b : Int)) = some (.int k ((a % b : Nat) : Int)) := by
  have h0 : ¬ (b : Int) = 0 := by omega
  have : pr (Op.intDiv .rem k (a : Int) (b : Int)) = some (.int k ((a : Int).tmod (b : Int))) := by unfold Op.intDiv; rw [if_neg h0]; rfl
  simp only [binV, intBin, if_true, if_neg h0, this]
  rfl
theorem bin_quo16 {k : IntKind} {a : Nat} : binV .quo (.int k (a : Int)) (.int k 65536) = some (.int k (k.wrap ((a / 65536 : Nat) : Int))) := bin_quo (b := 65536) (by decide)
theorem bin_rem16 {k : IntKind} {a : Nat} : binV .rem (.int k (a : Int)) (.int k 65536) = some (.int k ((a % 65536 : Nat) : Int)) := bin_rem (b := 65536) (by decide)
theorem nmul (a b : Nat) : (a : Int) * (b : Int) = ((a * b : Nat) : Int) := rfl

/-- The first so many parts of a number. -/
def dgN (w : Nat) : Nat → List Value
  | 0 => []
  | n + 1 => dgN w n ++ [.int .i64 ((w / 65536 ^ n % 65536 : Nat) : Int)]
theorem dgN_len (w : Nat) : ∀ n, (dgN w n).length = n
  | 0 => rfl
  | n + 1 => by simp [dgN, dgN_len w n]
theorem dgN_get (w : Nat) : ∀ n i, i < n → (dgN w n)[i]? = some (.int .i64 ((w / 65536 ^ i % 65536 : Nat) : Int))
  | n + 1, i, h => by
    by_cases hi : i < n
    · rw [dgN, List.getElem?_append_left (by rw [dgN_len]; exact hi)]
      exact dgN_get w n i hi
    · obtain rfl : i = n := by omega
      rw [dgN, List.getElem?_append_right (by rw [dgN_len]; exact Nat.le_refl _), dgN_len, Nat.sub_self]
      rfl

theorem dgN_closed (w : Nat) {m : Nat} : ∀ n, ∀ v ∈ dgN w n, Scoped m v
  | 0, v, h => by simp [dgN] at h
  | n + 1, v, h => by
    rw [dgN, List.mem_append] at h
    rcases h with h | h
    · exact dgN_closed w n v h
    · simp at h; subst h; exact .int

/-- A carry. -/
theorem carry_step (v base d0 i : Nat) :
    ((v % 65536 ^ i * base + d0) / 65536 ^ i + v / 65536 ^ i % 65536 * base) % 65536 = (v * base + d0) / 65536 ^ i % 65536 ∧
    ((v % 65536 ^ i * base + d0) / 65536 ^ i + v / 65536 ^ i % 65536 * base) / 65536 = (v % 65536 ^ (i + 1) * base + d0) / 65536 ^ (i + 1) := by
  have hB : 0 < 65536 ^ i := Nat.pow_pos (by decide)
  have hv : v = v / 65536 ^ i * 65536 ^ i + v % 65536 ^ i := (Nat.div_add_mod' v (65536 ^ i)).symm
  have hm : v % 65536 ^ (i + 1) = v / 65536 ^ i % 65536 * 65536 ^ i + v % 65536 ^ i := by
    rw [Nat.pow_succ, Nat.mod_mul, Nat.mul_comm (65536 ^ i), Nat.add_comm]
  generalize hP : 65536 ^ i = P at *
  constructor
  · have e : v * base + d0 = v / P * base * P + (v % P * base + d0) := by
      conv => lhs; rw [hv]
      rw [Nat.add_mul, Nat.mul_right_comm, Nat.add_assoc]
    rw [e, Nat.add_comm (v / P * base * P), Nat.add_mul_div_right _ _ hB, Nat.add_mod, Nat.add_mod ((v % P * base + d0) / P) (v / P * base)]
    congr 2
    rw [Nat.mul_mod, Nat.mod_mod, ← Nat.mul_mod]
  · have e : v % 65536 ^ (i + 1) * base + d0 = v / P % 65536 * base * P + (v % P * base + d0) := by
      rw [hm, Nat.add_mul, Nat.mul_right_comm, Nat.add_assoc]
    rw [e, Nat.pow_succ, hP, ← Nat.div_div_eq_div_mul, Nat.add_comm (v / P % 65536 * base * P), Nat.add_mul_div_right _ _ hB]

theorem carry_bound {v base d0 i : Nat} (hb : base ≤ 16) (hd : d0 < 16) : (v % 65536 ^ i * base + d0) / 65536 ^ i ≤ 16 := by
  have hB : 0 < 65536 ^ i := Nat.pow_pos (by decide)
  have h1 : v % 65536 ^ i < 65536 ^ i := Nat.mod_lt _ hB
  have h2 : v % 65536 ^ i * base ≤ v % 65536 ^ i * 16 := Nat.mul_le_mul_left _ hb
  have h3 : (v % 65536 ^ i * base + d0) < (16 + 1) * 65536 ^ i := by
    generalize 65536 ^ i = P at *
    generalize v % P = q at *
    generalize q * base = r at *
    omega
  exact Nat.le_of_lt_succ (Nat.div_lt_of_lt_mul (by rw [Nat.mul_comm (65536 ^ i)]; exact h3))

def grownI (v base d0 b : Nat) (H : Heap) : Nat → Env → Heap → Prop := fun n e H' =>
  ∃ (G : Heap) (i : Nat) (s8 : Value), i ≤ 8 ∧ n = 8 - i ∧ H' = H ++ G ∧ SL G H.length s8 1 (dgN (v * base + d0) i) ∧
    (∃ x : Nat → Value, e = [.slice (some ⟨b, 0, none⟩) 8 8, .int .i64 base, .int .i64 (((v % 65536 ^ i * base + d0) / 65536 ^ i : Nat) : Int), x 3, x 4, x 5, x 6, x 7, s8, .int .i64 i, x 10, x 11, x 12, x 13, x 14, x 15, x 16, x 17, x 18, x 19, x 20, x 21, x 22, x 23, x 24, x 25, x 26, x 27, x 28, x 29, x 30, x 31])

theorem grown_s {v base d0 b : Nat} (hb : hget H b = .row (dgN v 8) 1 true) (hv : v < 65536 ^ 8) (hbase : base ≤ 16) (hd0 : d0 < 16)
    (h : R (.ret (.tuple #[.slice (some ⟨H.length, 0, none⟩) 8 8, .bool (decide (v * base + d0 < 65536 ^ 8))])) (H ++ [.row (dgN (v * base + d0) 8) 1 true])) :
    WD T 57 [.slice (some ⟨b, 0, none⟩) 8 8, .int .i64 base, .int .i64 d0] H R := by
  have hlt := hget_lt hb rfl
  refine WD.gc1 (WD.of follows t57 (by simp) ?_)
  simp (disch := omega) only [kaa, kab, kac, kad, kae, kaf, kag, kah, kai, kaj, kak, kal, kam, kan, kao, kap, kaq, kar, kas, kat, kau, kav, kaw, kax, kay, kaz, kba, kbb, kbc, kbd, kbe, kbf, kbg, kbh, kbi, kbj, kbk, kbl, kbm, kbn, kbo, kbp, kbq, kbr, kbs, kbt, kbu, kbv, kbw, kbx, kby, kbz, kca, kcb, kcc, kcd, kce, kcf, kcg, kch, kci, kcj, kck, kcl, kcm, aop, kcn, kco, kcp, kcq, kcr, kcs, kct, kcu, kcv, kcw, resultsL, resultOf, kcx, Nat.reduceEqDiff, kcy, kcz, kda, reduceCtorEq, kdb, kdc, kdd, kde, kdf, kdg, kdh, kdi, kdj, kdk, kdl, kdm, kdn, kdo, eq1, kdp, kdq, kdr, kds, kdt, kdu, kdv, kdw, kdx, kdy, kdz, kea, keb, kec, apartOK, apart2, AObj.live, ked, kee, kef, keg, keh, kei, kej, kek, kel, Int.reduceEq, Int.reduceLT, Int.reduceLE, Int.reduceAdd, Int.reduceSub, Int.reduceMul, Int.reduceToNat, kem, ken, keo, kep, keq, ker, kes, ket, keu, kev, kew, kex, key, kez, kfa, kfb, kfc, kfd, kfe, kff, kfg, kfh, kfi, kfj, kfk, kfl, cutCells, kfm, kfn, kfo, kfp, kfq, kfr, kfs, kft, kfu, kfv, kfw, kfx, kfy, Nat.reduceAdd, Nat.reduceLeDiff, Nat.reduceLT, Nat.reduceMul, Nat.reduceSub, kfz, kga, kgb, kgc, kgd, kge, kgf, kgg, kgh, kgi, kgj, kgk, kgl, kgm, kgn, kgo, kgp, kgq, kgr, kgs, kgt, kgu, kgv, kgw, kgx, kgy, kgz, kha, khb, khc, khd]
  refine WLoop.inv (grownI v base d0 b H) ?_ 8 _ _ ⟨[], 0, .slice none 0 0, by omega, rfl, by simp, .inl ⟨rfl, rfl⟩, by simp only [Nat.pow_zero, Nat.mod_one, Nat.zero_mul, Nat.zero_add, Nat.div_one]; exact ex_env rfl⟩
  rintro n e H' ⟨G, i, s8, k1, rfl, rfl, hsl, ⟨x, rfl⟩⟩
  by_cases hi : i < 8
  · have hi' : (i : Int) < 8 := by omega
    have hi2 : (i : Int) < ((8 : Nat) : Int) := by omega
    have hg := dgN_get v 8 i hi
    have hcb := carry_bound (v := v) (i := i) hbase hd0
    obtain ⟨c1, c2⟩ := carry_step v base d0 i
    have hm : v / 65536 ^ i % 65536 * base ≤ 65535 * 16 := Nat.mul_le_mul (by omega) hbase
    have hbG : hget (H ++ G) b = .row (dgN v 8) 1 true := by rw [hget_old hlt]; exact hb
    generalize hW : (v * base + d0) / 65536 ^ i % 65536 = W at c1
    generalize hC : (v % 65536 ^ (i + 1) * base + d0) / 65536 ^ (i + 1) = C at c2
    generalize (v % 65536 ^ i * base + d0) / 65536 ^ i = D at *
    generalize hV : v / 65536 ^ i % 65536 = V at *
    have hcat : dgN (v * base + d0) (i + 1) = dgN (v * base + d0) i ++ [.int .i64 ((W : Nat) : Int)] := by rw [dgN, hW]
    rcases hsl with ⟨rfl, hcs⟩ | ⟨k, l, rfl, hk, hkl, hl0⟩
    · have ha := append_nil (K := H ++ (G ++ [.row [.int .i64 (W : Int)] 1 true])) (bx := H.length + G.length) (unit := 1) (bytes := 8) (xs := [.int .i64 (W : Int)]) (u2 := 1) (w2 := true) (by rw [hget_base, hget_base0]; rfl) rfl (by decide)
      simp (disch := omega) only [kaa, kab, kac, kad, kae, kaf, kag, kah, kai, kaj, kak, kal, kam, kan, kao, kap, kaq, kar, kas, kat, kau, kav, kaw, kax, kay, kaz, kba, kbb, kbc, kbd, kbe, kbf, kbg, kbh, kbi, kbj, kbk, kbl, kbm, kbn, kbo, kbp, kbq, kbr, kbs, kbt, kbu, kbv, kbw, kbx, kby, kbz, kca, kcb, kcc, kcd, kce, kcf, kcg, kch, kci, kcj, kck, kcl, kcm, aop, kcn, kco, kcp, kcq, kcr, kcs, kct, kcu, kcv, kcw, resultsL, resultOf, kcx, Nat.reduceEqDiff, kcy, kcz, kda, reduceCtorEq, kdb, kdc, kdd, kde, kdf, kdg, kdh, kdi, kdj, kdk, kdl, kdm, kdn, kdo, eq1, kdp, kdq, kdr, kds, kdt, kdu, kdv, kdw, kdx, kdy, kdz, kea, keb, kec, apartOK, apart2, AObj.live, ked, kee, kef, keg, keh, kei, kej, kek, kel, Int.reduceEq, Int.reduceLT, Int.reduceLE, Int.reduceAdd, Int.reduceSub, Int.reduceMul, Int.reduceToNat, kem, ken, keo, kep, keq, ker, kes, ket, keu, kev, kew, kex, key, kez, kfa, kfb, kfc, kfd, kfe, kff, kfg, kfh, kfi, kfj, kfk, kfl, cutCells, kfm, kfn, kfo, kfp, kfq, kfr, kfs, kft, kfu, kfv, kfw, kfx, kfy, Nat.reduceAdd, Nat.reduceLeDiff, Nat.reduceLT, Nat.reduceMul, Nat.reduceSub, kfz, kga, kgb, kgc, kgd, kge, kgf, kgg, kgh, kgi, kgj, kgk, kgl, kgm, kgn, kgo, kgp, kgq, kgr, kgs, kgt, kgu, kgv, kgw, kgx, kgy, kgz, kha, khb, khc, khd, hi', hi2, if_pos, hbG, hg, nmul, nadd, wr_i64, bin_rem16, bin_quo16, c1, c2, ha]
      refine ⟨8 - (i + 1), by omega, _, i + 1, _, by omega, rfl, rfl, .inr ⟨G.length + 1, 1, rfl, ?_, by rw [dgN_len]; have := congrArg List.length hcs; rw [dgN_len] at this; simp at this; omega, by omega⟩, ?_⟩
      · simp (disch := omega) only [kaa, kab, kac, kad, kae, kaf, kag, kah, kai, kaj, kak, kal, kam, kan, kao, kap, kaq, kar, kas, kat, kau, kav, kaw, kax, kay, kaz, kba, kbb, kbc, kbd, kbe, kbf, kbg, kbh, kbi, kbj, kbk, kbl, kbm, kbn, kbo, kbp, kbq, kbr, kbs, kbt, kbu, kbv, kbw, kbx, kby, kbz, kca, kcb, kcc, kcd, kce, kcf, kcg, kch, kci, kcj, kck, kcl, kcm, aop, kcn, kco, kcp, kcq, kcr, kcs, kct, kcu, kcv, kcw, resultsL, resultOf, kcx, Nat.reduceEqDiff, kcy, kcz, kda, reduceCtorEq, kdb, kdc, kdd, kde, kdf, kdg, kdh, kdi, kdj, kdk, kdl, kdm, kdn, kdo, eq1, kdp, kdq, kdr, kds, kdt, kdu, kdv, kdw, kdx, kdy, kdz, kea, keb, kec, apartOK, apart2, AObj.live, ked, kee, kef, keg, keh, kei, kej, kek, kel, Int.reduceEq, Int.reduceLT, Int.reduceLE, Int.reduceAdd, Int.reduceSub, Int.reduceMul, Int.reduceToNat, kem, ken, keo, kep, keq, ker, kes, ket, keu, kev, kew, kex, key, kez, kfa, kfb, kfc, kfd, kfe, kff, kfg, kfh, kfi, kfj, kfk, kfl, cutCells, kfm, kfn, kfo, kfp, kfq, kfr, kfs, kft, kfu, kfv, kfw, kfx, kfy, Nat.reduceAdd, Nat.reduceLeDiff, Nat.reduceLT, Nat.reduceMul, Nat.reduceSub, kfz, kga, kgb, kgc, kgd, kge, kgf, kgg, kgh, kgi, kgj, kgk, kgl, kgm, kgn, kgo, kgp, kgq, kgr, kgs, kgt, kgu, kgv, kgw, kgx, kgy, kgz, kha, khb, khc, khd, hcat, hcs]
      · rw [hC]
        exact ex_env rfl
    · have ha := append_one (K := H ++ (G ++ [.row [.int .i64 (W : Int)] 1 true])) (b := H.length + k) (bx := H.length + G.length) (l := l) (unit := 1) (bytes := 8) (cells := dgN (v * base + d0) i) (xs := [.int .i64 (W : Int)]) (u2 := 1) (w2 := true) (by rw [hget_base, hget_old (hget_lt hk rfl)]; exact hk) hkl (by rw [hget_base, hget_base0]; rfl) rfl rfl (by rw [dgN_len] at hkl; simp only [roomMax]; omega)
      have hkG : k < G.length := hget_lt hk rfl
      rw [dgN_len] at hkl
      simp (disch := omega) only [kaa, kab, kac, kad, kae, kaf, kag, kah, kai, kaj, kak, kal, kam, kan, kao, kap, kaq, kar, kas, kat, kau, kav, kaw, kax, kay, kaz, kba, kbb, kbc, kbd, kbe, kbf, kbg, kbh, kbi, kbj, kbk, kbl, kbm, kbn, kbo, kbp, kbq, kbr, kbs, kbt, kbu, kbv, kbw, kbx, kby, kbz, kca, kcb, kcc, kcd, kce, kcf, kcg, kch, kci, kcj, kck, kcl, kcm, aop, kcn, kco, kcp, kcq, kcr, kcs, kct, kcu, kcv, kcw, resultsL, resultOf, kcx, Nat.reduceEqDiff, kcy, kcz, kda, reduceCtorEq, kdb, kdc, kdd, kde, kdf, kdg, kdh, kdi, kdj, kdk, kdl, kdm, kdn, kdo, eq1, kdp, kdq, kdr, kds, kdt, kdu, kdv, kdw, kdx, kdy, kdz, kea, keb, kec, apartOK, apart2, AObj.live, ked, kee, kef, keg, keh, kei, kej, kek, kel, Int.reduceEq, Int.reduceLT, Int.reduceLE, Int.reduceAdd, Int.reduceSub, Int.reduceMul, Int.reduceToNat, kem, ken, keo, kep, keq, ker, kes, ket, keu, kev, kew, kex, key, kez, kfa, kfb, kfc, kfd, kfe, kff, kfg, kfh, kfi, kfj, kfk, kfl, cutCells, kfm, kfn, kfo, kfp, kfq, kfr, kfs, kft, kfu, kfv, kfw, kfx, kfy, Nat.reduceAdd, Nat.reduceLeDiff, Nat.reduceLT, Nat.reduceMul, Nat.reduceSub, kfz, kga, kgb, kgc, kgd, kge, kgf, kgg, kgh, kgi, kgj, kgk, kgl, kgm, kgn, kgo, kgp, kgq, kgr, kgs, kgt, kgu, kgv, kgw, kgx, kgy, kgz, kha, khb, khc, khd, hi', hi2, if_pos, hbG, hg, nmul, nadd, wr_i64, bin_rem16, bin_quo16, c1, c2, ha]
      refine ⟨8 - (i + 1), by omega, _, i + 1, _, by omega, rfl, rfl, .inr ⟨G.length + 1, l + 1, rfl, ?_, by rw [dgN_len]; omega, by omega⟩, ?_⟩
      · simp (disch := omega) only [kaa, kab, kac, kad, kae, kaf, kag, kah, kai, kaj, kak, kal, kam, kan, kao, kap, kaq, kar, kas, kat, kau, kav, kaw, kax, kay, kaz, kba, kbb, kbc, kbd, kbe, kbf, kbg, kbh, kbi, kbj, kbk, kbl, kbm, kbn, kbo, kbp, kbq, kbr, kbs, kbt, kbu, kbv, kbw, kbx, kby, kbz, kca, kcb, kcc, kcd, kce, kcf, kcg, kch, kci, kcj, kck, kcl, kcm, aop, kcn, kco, kcp, kcq, kcr, kcs, kct, kcu, kcv, kcw, resultsL, resultOf, kcx, Nat.reduceEqDiff, kcy, kcz, kda, reduceCtorEq, kdb, kdc, kdd, kde, kdf, kdg, kdh, kdi, kdj, kdk, kdl, kdm, kdn, kdo, eq1, kdp, kdq, kdr, kds, kdt, kdu, kdv, kdw, kdx, kdy, kdz, kea, keb, kec, apartOK, apart2, AObj.live, ked, kee, kef, keg, keh, kei, kej, kek, kel, Int.reduceEq, Int.reduceLT, Int.reduceLE, Int.reduceAdd, Int.reduceSub, Int.reduceMul, Int.reduceToNat, kem, ken, keo, kep, keq, ker, kes, ket, keu, kev, kew, kex, key, kez, kfa, kfb, kfc, kfd, kfe, kff, kfg, kfh, kfi, kfj, kfk, kfl, cutCells, kfm, kfn, kfo, kfp, kfq, kfr, kfs, kft, kfu, kfv, kfw, kfx, kfy, Nat.reduceAdd, Nat.reduceLeDiff, Nat.reduceLT, Nat.reduceMul, Nat.reduceSub, kfz, kga, kgb, kgc, kgd, kge, kgf, kgg, kgh, kgi, kgj, kgk, kgl, kgm, kgn, kgo, kgp, kgq, kgr, kgs, kgt, kgu, kgv, kgw, kgx, kgy, kgz, kha, khb, khc, khd, hcat]
      · rw [hC]
        exact ex_env rfl
  · have hi' : ¬ (i : Int) < 8 := by omega
    obtain rfl : i = 8 := by omega
    have hz : ((((v % 65536 ^ 8 * base + d0) / 65536 ^ 8 : Nat) : Int) = 0) ↔ v * base + d0 < 65536 ^ 8 := by
      rw [Nat.mod_eq_of_lt hv]
      have := Nat.div_eq_zero_iff (a := v * base + d0) (b := 65536 ^ 8)
      constructor
      · intro q
        have q2 : (v * base + d0) / 65536 ^ 8 = 0 := by omega
        exact (this.1 q2).resolve_left (by decide)
      · intro q
        rw [this.2 (.inr q)]
        rfl
    rcases hsl with ⟨rfl, hcs⟩ | ⟨k, l, rfl, hk, hkl, hl0⟩
    · have := congrArg List.length hcs
      rw [dgN_len] at this
      simp at this
    · rw [dgN_len] at hkl
      obtain rfl : l = 8 := by omega
      simp (disch := omega) only [kaa, kab, kac, kad, kae, kaf, kag, kah, kai, kaj, kak, kal, kam, kan, kao, kap, kaq, kar, kas, kat, kau, kav, kaw, kax, kay, kaz, kba, kbb, kbc, kbd, kbe, kbf, kbg, kbh, kbi, kbj, kbk, kbl, kbm, kbn, kbo, kbp, kbq, kbr, kbs, kbt, kbu, kbv, kbw, kbx, kby, kbz, kca, kcb, kcc, kcd, kce, kcf, kcg, kch, kci, kcj, kck, kcl, kcm, aop, kcn, kco, kcp, kcq, kcr, kcs, kct, kcu, kcv, kcw, resultsL, resultOf, kcx, Nat.reduceEqDiff, kcy, kcz, kda, reduceCtorEq, kdb, kdc, kdd, kde, kdf, kdg, kdh, kdi, kdj, kdk, kdl, kdm, kdn, kdo, eq1, kdp, kdq, kdr, kds, kdt, kdu, kdv, kdw, kdx, kdy, kdz, kea, keb, kec, apartOK, apart2, AObj.live, ked, kee, kef, keg, keh, kei, kej, kek, kel, Int.reduceEq, Int.reduceLT, Int.reduceLE, Int.reduceAdd, Int.reduceSub, Int.reduceMul, Int.reduceToNat, kem, ken, keo, kep, keq, ker, kes, ket, keu, kev, kew, kex, key, kez, kfa, kfb, kfc, kfd, kfe, kff, kfg, kfh, kfi, kfj, kfk, kfl, cutCells, kfm, kfn, kfo, kfp, kfq, kfr, kfs, kft, kfu, kfv, kfw, kfx, kfy, Nat.reduceAdd, Nat.reduceLeDiff, Nat.reduceLT, Nat.reduceMul, Nat.reduceSub, kfz, kga, kgb, kgc, kgd, kge, kgf, kgg, kgh, kgi, kgj, kgk, kgl, kgm, kgn, kgo, kgp, kgq, kgr, kgs, kgt, kgu, kgv, kgw, kgx, kgy, kgz, kha, khb, khc, khd, hi']
      have hz2 : decide ((((v % 65536 ^ 8 * base + d0) / 65536 ^ 8 : Nat) : Int) = 0) = decide (v * base + d0 < 65536 ^ 8) := decide_eq_decide.2 hz
      rw [hz2]
      exact ⟨_, _, _, _, _, G, k, rfl, rfl, hget_some hk rfl, dgN_closed _ _, VS.pair (VS.sl (i := 0) rfl) (.old .bool), h⟩

end Go.Proofs.YtedemfmafdilmaaDoor.Ev
