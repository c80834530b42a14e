/- TrieUnder: of what All tells, Under tells just those that begin so, in the same order, each with what is kept there: whatever the inputs, the law answers true. Conditions: none. -/
import Derived.Test.YticgkaanaimllaaUnder4
import Derived.ChangeArms
import Derived.ChangeStays
import Derived.ChangeOld
import Derived.ChangeShapes
import Derived.WideShapes
import Derived.DataReads
import Derived.RowKit
import Derived.Test.YticgkaanaimllaaRows
import Derived.ProofKit
import Derived.OpenShut
import Derived.SizedLaws
import Derived.JoinedOf
import Derived.MakeChecks
import Derived.Stop.Joined
/- The law TrieUnder: a round over All. -/
namespace Go.Proofs.Yticgkaanaimllaa.Ev
set_option maxRecDepth 100000
set_option linter.unusedSimpArgs false
set_option linter.unusedVariables false
variable {R : FRes → Heap → Prop} {H : Heap}

theorem bin_str_geq (l m : List UInt8) : binV .geq (.string (bs l)) (.string (bs m)) = some (.bool !(Op.bytesLess l m)) := rfl

/-- A slice in a cell of its own grows. -/
theorem app_box {u n0 bytes p : Nat} {K : Heap} {sv : Value} {css : List (List Value)} {xs : List Value} (hp : hget K p = .row [sv] 0 true) (h : SLs u n0 K sv css) (hn : n0 ≤ K.length) (hu : 0 < u) (hl : xs.length = u) (hall : xs.all oneCell = true)
    (hr : (css.length + 1) * bytes ≤ roomMax ∧ css.length + 1 ≤ roomMax) : ∃ ad K', appendV (K ++ [.row xs u true]) u bytes sv (.slice (some ⟨K.length, 0, none⟩) 1 1) = .val (.slice ad (css.length + 1) (css.length + 1)) K' ∧ hget K' p = .row [sv] 0 true ∧
      SLs u n0 (K'.set p (.row [.slice ad (css.length + 1) (css.length + 1)] 0 true)) (.slice ad (css.length + 1) (css.length + 1)) (css ++ [xs]) ∧ K.length ≤ K'.length ∧ p < K'.length ∧
      (∀ c, blk (.slice ad (css.length + 1) (css.length + 1)) = some c → K.length ≤ c) ∧
      ∀ c, c < K.length → c ≠ p → blk sv ≠ some c → hget (K'.set p (.row [.slice ad (css.length + 1) (css.length + 1)] 0 true)) c = hget K c := by
  have lp := hget_lt hp rfl
  obtain ⟨sv', K', h1, h2, h3, h4, h5⟩ := app_sl (K := K ++ [.row xs u true]) (bytes := bytes) (bx := K.length) (xs := xs) (u2 := u) (w2 := true) h.app (by simp; omega) (by rw [hget_last]) hl hall hr
  simp only [List.length_append, List.length_cons, List.length_nil, Nat.zero_add] at h3 h4
  obtain ⟨ad, rfl⟩ := h2.len
  generalize hln : (css ++ [xs]).length = ln at h1 h2 h4
  have hln2 : ln = css.length + 1 := by rw [← hln]; simp
  subst hln2
  refine ⟨ad, K', h1, ?_, h2.same fun c hc => ?_, by omega, by omega, fun c hc => ?_, fun c h6 h7 h8 => ?_⟩
  · rw [h5 p (by simp; omega) (h.ne hp (by omega)), hget_old lp]
    exact hp
  · rw [h4] at hc
    cases hc
    rw [hget_ne (by omega)]
  · rw [h4] at hc
    cases hc
    omega
  · rw [hget_ne (Ne.symm h7), h5 c (by simp; omega) h8, hget_old h6]

def ACode.cz : ACode → ACode
  | .range _ _ c _ => c
  | c => c
def ACode.bd : ACode → ACode
  | .range _ _ _ c => c
  | c => c

def pfM (x : Mem) : List Value := [.int .u64 ((x.1 / W64 : Nat) : Int), .int .u64 ((x.1 % W64 : Nat) : Int), .int .i64 (x.2.1 : Int)]

theorem pfM_u {L : List Mem} : ∀ cs ∈ L.map pfM, cs.length = 3 := by
  intro cs h
  obtain ⟨x, _, rfl⟩ := List.mem_map.1 h
  rfl

theorem pfM_bits {L : List Mem} (i : Nat) (hi : i < L.length) : (((L.map pfM).flatten).drop (i * 3)).take 2 = [.int .u64 ((L[i].1 / W64 : Nat) : Int), .int .u64 ((L[i].1 % W64 : Nat) : Int)] := by
  have := congrArg (fun q => q.take 2) (flat_cut (css := L.map pfM) (u := 3) i pfM_u (by simpa using hi))
  simp only [List.take_take, List.getElem_map] at this
  exact this
theorem pfM_len {L : List Mem} (i : Nat) (hi : i < L.length) : ((L.map pfM).flatten)[i * 3 + 2]? = some (.int .i64 (L[i].2.1 : Int)) := by
  have := congrArg (fun q => q[2]?) (flat_cut (css := L.map pfM) (u := 3) i pfM_u (by simpa using hi))
  simp only [List.getElem?_take_of_lt (show 2 < 3 by decide), List.getElem?_drop, List.getElem_map] at this
  exact this
theorem pfM_all {L : List Mem} (i : Nat) (hi : i < L.length) : (((L.map pfM).flatten).drop (i * 3)).take 3 = pfM L[i] := by
  have := flat_cut (css := L.map pfM) (u := 3) i pfM_u (by simpa using hi)
  rw [this, List.getElem_map]
theorem pfM_flat {L : List Mem} : ((L.map pfM).flatten).length = L.length * 3 := by
  rw [flat_len_u (u := 3) pfM_u, List.length_map]

/-- What a range over All has told so far. -/
structure RI (H1 : Heap) (N p w : Nat) (rg : Bool) (hd : List UInt8) (L : List Mem) (K : Heap) : Prop where
  len : N + 1 ≤ K.length
  fr : ∀ c, c < p → hget K c = hget H1 c
  sl : ∃ s1 s2, hget K p = .row [s1] 0 true ∧ hget K (p + 1) = .row [s2] 0 true ∧ SLs 3 (N + 1) K s1 ((L.filter fun x => inHead rg hd (txt w (x.1, x.2.1))).map pfM) ∧ SLs 3 (N + 1) K s2 (L.map pfM) ∧ ∀ c, blk s1 = some c → blk s2 ≠ some c

theorem und_tail {H1 K KB : Heap} {N p b w i c n : Nat} {v : Int} {rg : Bool} {hd : List UInt8} {L : List Mem} {ev e : Env} {Q : Post} (hN : N = p + 2) (h11 : b + 1 < p) (ht : hget H1 b = .row [.string (bs hd)] 0 true) (ho : hget H1 (b + 1) = .row [.bool rg] 0 true)
    (hi : i < L.length) (hx : L[i] = (c, n, v)) (hL : L.length ≤ 100000) (len : N + 1 ≤ K.length) (fr : ∀ c, c < p → hget K c = hget H1 c)
    (he : (∃ x : Nat → Value, e = [x 0, x 1, x 2, x 3, x 4, x 5, x 6, x 7, x 8, x 9, x 10, .pointer (some ⟨b, 0, none⟩), .pointer (some ⟨b + 1, 0, none⟩), x 13, x 14, x 15, .pointer (some ⟨p, 0, none⟩), .pointer (some ⟨p + 1, 0, none⟩), .pointer (some ⟨K.length, 0, none⟩), .string (bs (txt w (c, n))), x 20, x 21, x 22, x 23, x 24, x 25, x 26, x 27, x 28, x 29, x 30, x 31, x 32, x 33, x 34, x 35, x 36, x 37, x 38, x 39, x 40, x 41, x 42, x 43, x 44, x 45, x 46, x 47, x 48, x 49, x 50, x 51, x 52, x 53, x 54, x 55, x 56, x 57, x 58, x 59, x 60, x 61, x 62, x 63, x 64, x 65, x 66, x 67, x 68, x 69, x 70, x 71, x 72, x 73, x 74, x 75, x 76, x 77, x 78, x 79, x 80, x 81, x 82, x 83, x 84, x 85, x 86, x 87, x 88, x 89, x 90, x 91, x 92, x 93, x 94, x 95, x 96, x 97, x 98, x 99, x 100, x 101, x 102, x 103, x 104, x 105, x 106, x 107, x 108, x 109, x 110, x 111, x 112, x 113, x 114, x 115, x 116, x 117, x 118, x 119, x 120, x 121, x 122, x 123, x 124, x 125, x 126, x 127, x 128, x 129, x 130, x 131, x 132, x 133, x 134, x 135, x 136, x 137, x 138, x 139, x 140, x 141, x 142, x 143, x 144, x 145, x 146, x 147, x 148, x 149, x 150, x 151, x 152, x 153, x 154, x 155, x 156, x 157, x 158, x 159, x 160, x 161, x 162, x 163, x 164, x 165, x 166, x 167, x 168, x 169, x 170, x 171, x 172, x 173, x 174, x 175, x 176, x 177, x 178, x 179, x 180, x 181, x 182, x 183, x 184, x 185, x 186, x 187, x 188, x 189, x 190, x 191, x 192, x 193, x 194, x 195, x 196, x 197, x 198, x 199, x 200, x 201, x 202, x 203, x 204, x 205, x 206, x 207, x 208, x 209, x 210, x 211, x 212, x 213, x 214, x 215, x 216, x 217, x 218, x 219, x 220, x 221, x 222, x 223, x 224, x 225, x 226, x 227, x 228, x 229]))
    {s1 s2 : Value} (e1 : hget K p = .row [s1] 0 true) (e2 : hget K (p + 1) = .row [s2] 0 true) (l1 : SLs 3 (N + 1) K s1 (((L.take i).filter fun x => inHead rg hd (txt w (x.1, x.2.1))).map pfM)) (l2 : SLs 3 (N + 1) K s2 ((L.take i).map pfM)) (dj : ∀ c, blk s1 = some c → blk s2 ≠ some c)
    (hkb : Keep N KB (K ++ [.row (pfM (c, n, v)) 0 true])) :
    WC T ((g4.body.at [1, 1, 1, 1, 1, 1, 1, 1, 1, 1, 1, 1, 0, 1, 0]).bd.at [0, 1, 1, 1]) e (K ++ [.row (pfM (c, n, v)) 0 true]) (blockK 3 (bodyK N Q ev (RI H1 N p w rg hd (L.take (i + 1))) KB)) := by
  obtain ⟨y, rfl⟩ := he
  obtain ⟨K0, hK0⟩ : ∃ K0, K0 = K ++ [AObj.row (pfM (c, n, v)) 0 true] := ⟨_, rfl⟩
  have lK : K0.length = K.length + 1 := by rw [hK0]; simp
  have f0 : ∀ c, c < K.length → hget K0 c = hget K c := fun c hc => by rw [hK0, hget_old hc]
  have h18 : hget K0 K.length = .row (pfM (c, n, v)) 0 true := by rw [hK0, hget_last]
  have m1 : hget K0 p = .row [s1] 0 true := (f0 p (hget_lt e1 rfl)).trans e1
  have m2 : hget K0 (p + 1) = .row [s2] 0 true := (f0 _ (hget_lt e2 rfl)).trans e2
  have kt : hget K0 b = .row [.string (bs hd)] 0 true := by rw [f0 _ (by omega), fr b (by omega)]; exact ht
  have ko : hget K0 (b + 1) = .row [.bool rg] 0 true := by rw [f0 _ (by omega), fr _ h11]; exact ho
  have j1 : SLs 3 (N + 1) K0 s1 (((L.take i).filter fun x => inHead rg hd (txt w (x.1, x.2.1))).map pfM) := by rw [hK0]; exact l1.app
  have j2 : SLs 3 (N + 1) K0 s2 ((L.take i).map pfM) := by rw [hK0]; exact l2.app
  have fr0 : ∀ c, c < p → hget K0 c = hget H1 c := fun c hc => (f0 c (by omega)).trans (fr c hc)
  rw [← hK0] at hkb ⊢
  have hK1 : K.length < K0.length := by omega
  generalize hq : K.length = kq at *
  clear l1 l2 e1 e2 f0 fr hK0 hq K
  have hlen1 : ((L.take i).map pfM).length = i := by rw [List.length_map, List.length_take]; omega
  have hlen2 : (((L.take i).filter fun x => inHead rg hd (txt w (x.1, x.2.1))).map pfM).length ≤ i := by
    rw [List.length_map]
    exact Nat.le_trans (List.length_filter_le _ _) (by rw [List.length_take]; omega)
  obtain ⟨ad', K2, a1, a2, a3, a4, a5, a6, a7⟩ := app_box (bytes := 24) (xs := pfM (c, n, v)) m2 j2 (by omega) (by decide) rfl rfl (by rw [hlen1]; simp only [roomMax]; omega)
  obtain ⟨K3, hK3⟩ : ∃ K3, K3 = K2.set (p + 1) (.row [.slice ad' (((L.take i).map pfM).length + 1) (((L.take i).map pfM).length + 1)] 0 true) := ⟨_, rfl⟩
  have hK3' := hK3.symm
  rw [← hK3] at a3 a7
  have nb1 : ∀ {c : Nat} {cs : List Value}, hget K0 c = .row cs 0 true → blk s2 ≠ some c := fun q => j2.ne q (by decide)
  have n11 : hget K3 b = .row [.string (bs hd)] 0 true := by rw [a7 _ (by omega) (by omega) (nb1 kt)]; exact kt
  have n12 : hget K3 (b + 1) = .row [.bool rg] 0 true := by rw [a7 _ (by omega) (by omega) (nb1 ko)]; exact ko
  have n16 : hget K3 p = .row [s1] 0 true := by rw [a7 _ (by omega) (by omega) (nb1 m1)]; exact m1
  have n17 : hget K3 (p + 1) = .row [.slice ad' (((L.take i).map pfM).length + 1) (((L.take i).map pfM).length + 1)] 0 true := by rw [hK3, hget_set' a5]
  have n18 : hget K3 kq = .row (pfM (c, n, v)) 0 true := by rw [a7 _ (by omega) (by omega) (nb1 h18)]; exact h18
  have lK3 : K0.length ≤ K3.length := by rw [hK3]; simpa using a4
  have frK : ∀ c, c < p → hget K3 c = hget H1 c := fun c hc => by
    rw [a7 c (by omega) (by omega) (fun q => by have := (j2.lt q).2; omega)]
    exact fr0 c hc
  have j3 : SLs 3 (N + 1) K3 s1 (((L.take i).filter fun x => inHead rg hd (txt w (x.1, x.2.1))).map pfM) := j1.same fun c hc => a7 c (j1.lt hc).1 (by have := (j1.lt hc).2; omega) (dj c hc)
  have dj3 : ∀ c, blk s1 = some c → blk (.slice ad' (((L.take i).map pfM).length + 1) (((L.take i).map pfM).length + 1)) ≠ some c := fun c hc q => by
    have := a6 c q
    have := (j1.lt hc).1
    omega
  have kp : Keep N K0 K3 := ⟨lK3, fun c cs h1 h2 => by
    rw [a7 c (hget_lt h2 rfl) (fun q => by rw [q, m2] at h2; cases h2) (j2.ne h2 (by decide))]
    exact h2⟩
  have e1 : L.take (i + 1) = L.take i ++ [(c, n, v)] := by rw [List.take_add_one, List.getElem?_eq_getElem hi, hx]; rfl
  simp only [pfM] at h18 a1 n18
  clear hK3
  generalize hs : txt w (c, n) = sx at *
  simp only [AFunc.body, g4, ACode.at, ACode.cz, ACode.bd]
  have done : ∀ e', inHead rg hd sx = false → bodyK N Q ev (RI H1 N p w rg hd (L.take (i + 1))) KB .norm e' K3 := fun e' hno => by
    refine ⟨⟨by omega, frK, s1, _, n16, n17, ?_, ?_, dj3⟩, hkb.trans kp⟩
    · rw [e1, List.filter_append]
      have : List.filter (fun x => inHead rg hd (txt w (x.1, x.2.1))) [(c, n, v)] = [] := by simp [List.filter_cons, hs, hno]
      rw [this, List.append_nil]
      exact j3
    · rw [e1, List.map_append]
      exact a3
  cases rg with
  | false =>
    simp (disch := omega) only [kaa, kab, kac, kad, khm, khn, kho, khp, khq, khr, kae, kaf, kag, kah, kai, kaj, kak, kal, kam, kan, kao, khe, khf, khg, khh, khi, khj, khk, khl, kap, kaq, kar, kas, kat, kau, kav, kaw, kax, kay, kaz, kba, kbb, kbc, kbd, kbe, kbf, kbg, kbh, kbi, kbj, kbk, kbl, kbm, kbn, kbo, kbp, kbq, kbr, kbs, kbt, kbu, kbv, kbw, kbx, kby, kbz, kca, kcb, kcc, kcd, kce, kcf, kcg, kch, kci, kcj, kck, kcl, kcm, aop, kcn, kco, kcp, kcq, kcr, kcs, kct, kcu, kcv, kcw, resultsL, resultOf, kcx, Nat.reduceEqDiff, kcy, kcz, kda, reduceCtorEq, kdb, kdc, kdd, kde, kdf, kdg, kdh, kdi, kdj, kdk, kdl, kdm, kdn, kdo, eq1, kdp, kdq, kdr, kds, kdt, kdu, kdv, kdw, kdx, kdy, kdz, kea, keb, kec, apartOK, apart2, AObj.live, ked, kee, kef, keg, keh, kei, kej, kek, kel, Int.reduceEq, Int.reduceLT, Int.reduceLE, Int.reduceAdd, Int.reduceSub, Int.reduceMul, Int.reduceToNat, kem, ken, keo, kep, keq, ker, kes, ket, keu, kev, kew, kex, key, kez, kfa, kfb, kfc, kfd, kfe, kff, kfg, kfh, kfi, kfj, kfk, kfl, cutCells, kfm, kfn, kfo, kfp, kfq, kfr, kfs, kft, kfu, kfv, kfw, kfx, kfy, Nat.reduceAdd, Nat.reduceLeDiff, Nat.reduceLT, Nat.reduceMul, Nat.reduceSub, kfz, kga, kgb, kgc, kgd, kge, kgf, kgg, kgh, kgi, kgj, kgk, kgl, kgm, kgn, kgo, kgp, kgq, kgr, kgs, kgt, kgu, kgv, kgw, kgx, kgy, kgz, kha, khb, khc, khd, m2, h18, a1, a2, hK3', n11, n12]
    exact done _ rfl
  | true =>
  by_cases hle : (hd.length : Int) ≤ (sx.length : Nat)
  case neg =>
    simp (disch := omega) only [kaa, kab, kac, kad, khm, khn, kho, khp, khq, khr, kae, kaf, kag, kah, kai, kaj, kak, kal, kam, kan, kao, khe, khf, khg, khh, khi, khj, khk, khl, kap, kaq, kar, kas, kat, kau, kav, kaw, kax, kay, kaz, kba, kbb, kbc, kbd, kbe, kbf, kbg, kbh, kbi, kbj, kbk, kbl, kbm, kbn, kbo, kbp, kbq, kbr, kbs, kbt, kbu, kbv, kbw, kbx, kby, kbz, kca, kcb, kcc, kcd, kce, kcf, kcg, kch, kci, kcj, kck, kcl, kcm, aop, kcn, kco, kcp, kcq, kcr, kcs, kct, kcu, kcv, kcw, resultsL, resultOf, kcx, Nat.reduceEqDiff, kcy, kcz, kda, reduceCtorEq, kdb, kdc, kdd, kde, kdf, kdg, kdh, kdi, kdj, kdk, kdl, kdm, kdn, kdo, eq1, kdp, kdq, kdr, kds, kdt, kdu, kdv, kdw, kdx, kdy, kdz, kea, keb, kec, apartOK, apart2, AObj.live, ked, kee, kef, keg, keh, kei, kej, kek, kel, Int.reduceEq, Int.reduceLT, Int.reduceLE, Int.reduceAdd, Int.reduceSub, Int.reduceMul, Int.reduceToNat, kem, ken, keo, kep, keq, ker, kes, ket, keu, kev, kew, kex, key, kez, kfa, kfb, kfc, kfd, kfe, kff, kfg, kfh, kfi, kfj, kfk, kfl, cutCells, kfm, kfn, kfo, kfp, kfq, kfr, kfs, kft, kfu, kfv, kfw, kfx, kfy, Nat.reduceAdd, Nat.reduceLeDiff, Nat.reduceLT, Nat.reduceMul, Nat.reduceSub, kfz, kga, kgb, kgc, kgd, kge, kgf, kgg, kgh, kgi, kgj, kgk, kgl, kgm, kgn, kgo, kgp, kgq, kgr, kgs, kgt, kgu, kgv, kgw, kgx, kgy, kgz, kha, khb, khc, khd, m2, h18, a1, a2, hK3', n11, n12, hle]
    exact done _ (by simp only [inHead, decide_eq_false (show ¬ hd.length ≤ sx.length by omega), Bool.and_false, Bool.false_and])
  have hle2 : hd.length ≤ sx.length := by omega
  by_cases hpre : List.take hd.length sx = hd
  case neg =>
    simp (disch := omega) only [kaa, kab, kac, kad, khm, khn, kho, khp, khq, khr, kae, kaf, kag, kah, kai, kaj, kak, kal, kam, kan, kao, khe, khf, khg, khh, khi, khj, khk, khl, kap, kaq, kar, kas, kat, kau, kav, kaw, kax, kay, kaz, kba, kbb, kbc, kbd, kbe, kbf, kbg, kbh, kbi, kbj, kbk, kbl, kbm, kbn, kbo, kbp, kbq, kbr, kbs, kbt, kbu, kbv, kbw, kbx, kby, kbz, kca, kcb, kcc, kcd, kce, kcf, kcg, kch, kci, kcj, kck, kcl, kcm, aop, kcn, kco, kcp, kcq, kcr, kcs, kct, kcu, kcv, kcw, resultsL, resultOf, kcx, Nat.reduceEqDiff, kcy, kcz, kda, reduceCtorEq, kdb, kdc, kdd, kde, kdf, kdg, kdh, kdi, kdj, kdk, kdl, kdm, kdn, kdo, eq1, kdp, kdq, kdr, kds, kdt, kdu, kdv, kdw, kdx, kdy, kdz, kea, keb, kec, apartOK, apart2, AObj.live, ked, kee, kef, keg, keh, kei, kej, kek, kel, Int.reduceEq, Int.reduceLT, Int.reduceLE, Int.reduceAdd, Int.reduceSub, Int.reduceMul, Int.reduceToNat, kem, ken, keo, kep, keq, ker, kes, ket, keu, kev, kew, kex, key, kez, kfa, kfb, kfc, kfd, kfe, kff, kfg, kfh, kfi, kfj, kfk, kfl, cutCells, kfm, kfn, kfo, kfp, kfq, kfr, kfs, kft, kfu, kfv, kfw, kfx, kfy, Nat.reduceAdd, Nat.reduceLeDiff, Nat.reduceLT, Nat.reduceMul, Nat.reduceSub, kfz, kga, kgb, kgc, kgd, kge, kgf, kgg, kgh, kgi, kgj, kgk, kgl, kgm, kgn, kgo, kgp, kgq, kgr, kgs, kgt, kgu, kgv, kgw, kgx, kgy, kgz, kha, khb, khc, khd, m2, h18, a1, a2, hK3', n11, n12, hle, hle2, hpre, if_pos]
    exact done _ (by simp only [inHead, decide_eq_false hpre, Bool.and_false])
  obtain ⟨ad2', K4, b1, b2, b3, b4, b5, b6, b7⟩ := app_box (bytes := 24) (xs := pfM (c, n, v)) n16 j3 (by omega) (by decide) rfl rfl (by simp only [roomMax]; omega)
  have b1' := b1
  simp only [pfM] at b1
  simp (disch := omega) only [kaa, kab, kac, kad, khm, khn, kho, khp, khq, khr, kae, kaf, kag, kah, kai, kaj, kak, kal, kam, kan, kao, khe, khf, khg, khh, khi, khj, khk, khl, kap, kaq, kar, kas, kat, kau, kav, kaw, kax, kay, kaz, kba, kbb, kbc, kbd, kbe, kbf, kbg, kbh, kbi, kbj, kbk, kbl, kbm, kbn, kbo, kbp, kbq, kbr, kbs, kbt, kbu, kbv, kbw, kbx, kby, kbz, kca, kcb, kcc, kcd, kce, kcf, kcg, kch, kci, kcj, kck, kcl, kcm, aop, kcn, kco, kcp, kcq, kcr, kcs, kct, kcu, kcv, kcw, resultsL, resultOf, kcx, Nat.reduceEqDiff, kcy, kcz, kda, reduceCtorEq, kdb, kdc, kdd, kde, kdf, kdg, kdh, kdi, kdj, kdk, kdl, kdm, kdn, kdo, eq1, kdp, kdq, kdr, kds, kdt, kdu, kdv, kdw, kdx, kdy, kdz, kea, keb, kec, apartOK, apart2, AObj.live, ked, kee, kef, keg, keh, kei, kej, kek, kel, Int.reduceEq, Int.reduceLT, Int.reduceLE, Int.reduceAdd, Int.reduceSub, Int.reduceMul, Int.reduceToNat, kem, ken, keo, kep, keq, ker, kes, ket, keu, kev, kew, kex, key, kez, kfa, kfb, kfc, kfd, kfe, kff, kfg, kfh, kfi, kfj, kfk, kfl, cutCells, kfm, kfn, kfo, kfp, kfq, kfr, kfs, kft, kfu, kfv, kfw, kfx, kfy, Nat.reduceAdd, Nat.reduceLeDiff, Nat.reduceLT, Nat.reduceMul, Nat.reduceSub, kfz, kga, kgb, kgc, kgd, kge, kgf, kgg, kgh, kgi, kgj, kgk, kgl, kgm, kgn, kgo, kgp, kgq, kgr, kgs, kgt, kgu, kgv, kgw, kgx, kgy, kgz, kha, khb, khc, khd, m2, h18, a1, a2, hK3', n11, n12, hle, hle2, hpre, if_pos, n16, n18, b1, b2]
  have nb2 : ∀ {c : Nat} {cs : List Value}, hget K3 c = .row cs 0 true → blk s1 ≠ some c := fun q => j3.ne q (by decide)
  have hyes : inHead true hd sx = true := by simp [inHead, hle2, hpre]
  refine ⟨⟨by rw [List.length_set]; omega, fun c hc => ?_, _, _, by rw [hget_set' b5], by rw [b7 _ (by omega) (by omega) (nb2 n17)]; exact n17, ?_, ?_, fun c hc q => ?_⟩, (hkb.trans kp).trans ⟨by simpa using b4, fun c cs h1 h2 => ?_⟩⟩
  · rw [b7 c (by omega) (by omega) (fun q => by have := (j3.lt q).2; omega)]
    exact frK c hc
  · have : List.filter (fun x => inHead true hd (txt w (x.1, x.2.1))) (L.take i ++ [(c, n, v)]) = List.filter (fun x => inHead true hd (txt w (x.1, x.2.1))) (L.take i) ++ [(c, n, v)] := by
      rw [List.filter_append]
      congr 1
      simp [List.filter_cons, hs, hyes]
    rw [e1, this, List.map_append]
    exact b3
  · rw [e1, List.map_append]
    refine a3.same fun c hc => b7 c (a3.lt hc).1 (by have := (a3.lt hc).2; omega) fun q => dj3 c q hc
  · have := b6 c hc
    have := (a3.lt q).1
    omega
  · rw [b7 c (hget_lt h2 rfl) (fun q => by rw [q, n16] at h2; cases h2) (j3.ne h2 (by decide))]
    exact h2

theorem und_body {H1 K : Heap} {N p q b w i : Nat} {rg : Bool} {hd : List UInt8} {L : List Mem} {x : Mem} {ev ev0 : Env} {Q : Post} (hw : 1 ≤ w) (hw2 : w ≤ 128) (hN : N = p + 2) (hqp : q < p) (hp2 : 2 ≤ p)
    (h0 : hget H1 q = .row [.int .i64 (w : Int)] 0 true) (h11 : b + 1 < p) (ht : hget H1 b = .row [.string (bs hd)] 0 true) (ho : hget H1 (b + 1) = .row [.bool rg] 0 true)
    (hi : i < L.length) (hx : L[i] = x) (hL : L.length ≤ 100000) (hok : ∀ x ∈ L, rgt w x.1 (x.2.1 : Nat) = true) (hr : L.Pairwise (fun x y => Op.bytesLess (txt w (x.1, x.2.1)) (txt w (y.1, y.2.1)) = true))
    (he : (fun e => (∃ x : Nat → Value, e = [x 0, x 1, x 2, .pointer (some ⟨q, 0, none⟩), x 4, x 5, x 6, x 7, x 8, x 9, x 10, .pointer (some ⟨b, 0, none⟩), .pointer (some ⟨b + 1, 0, none⟩), x 13, x 14, x 15, .pointer (some ⟨p, 0, none⟩), .pointer (some ⟨p + 1, 0, none⟩), x 18, x 19, x 20, x 21, x 22, x 23, x 24, x 25, x 26, x 27, x 28, x 29, x 30, x 31, x 32, x 33, x 34, x 35, x 36, x 37, x 38, x 39, x 40, x 41, x 42, x 43, x 44, x 45, x 46, x 47, x 48, x 49, x 50, x 51, x 52, x 53, x 54, x 55, x 56, x 57, x 58, x 59, x 60, x 61, x 62, x 63, x 64, x 65, x 66, x 67, x 68, x 69, x 70, x 71, x 72, x 73, x 74, x 75, x 76, x 77, x 78, x 79, x 80, x 81, x 82, x 83, x 84, x 85, x 86, x 87, x 88, x 89, x 90, x 91, x 92, x 93, x 94, x 95, x 96, x 97, x 98, x 99, x 100, x 101, x 102, x 103, x 104, x 105, x 106, x 107, x 108, x 109, x 110, x 111, x 112, x 113, x 114, x 115, x 116, x 117, x 118, x 119, x 120, x 121, x 122, x 123, x 124, x 125, x 126, x 127, x 128, x 129, x 130, x 131, x 132, x 133, x 134, x 135, x 136, x 137, x 138, x 139, x 140, x 141, x 142, x 143, x 144, x 145, x 146, x 147, x 148, x 149, x 150, x 151, x 152, x 153, x 154, x 155, x 156, x 157, x 158, x 159, x 160, x 161, x 162, x 163, x 164, x 165, x 166, x 167, x 168, x 169, x 170, x 171, x 172, x 173, x 174, x 175, x 176, x 177, x 178, x 179, x 180, x 181, x 182, x 183, x 184, x 185, x 186, x 187, x 188, x 189, x 190, x 191, x 192, x 193, x 194, x 195, x 196, x 197, x 198, x 199, x 200, x 201, x 202, x 203, x 204, x 205, x 206, x 207, x 208, x 209, x 210, x 211, x 212, x 213, x 214, x 215, x 216, x 217, x 218, x 219, x 220, x 221, x 222, x 223, x 224, x 225, x 226, x 227, x 228, x 229])) ev)
    (hI : RI H1 N p w rg hd (L.take i) K) :
    WC T (g4.body.at [1, 1, 1, 1, 1, 1, 1, 1, 1, 1, 1, 1, 0, 1, 0]).cz (putL ev [103, 104] [pfv x.1 (x.2.1 : Nat), .int .i64 x.2.2]) K
      (asK T (g4.body.at [1, 1, 1, 1, 1, 1, 1, 1, 1, 1, 1, 1, 0, 1, 0]).bd (bodyK N Q ev0 (RI H1 N p w rg hd (L.take (i + 1))) K)) := by
  obtain ⟨y, rfl⟩ := he
  obtain ⟨len, fr, s1, s2, e1, e2, l1, l2, dj⟩ := hI
  obtain ⟨c, n, v⟩ := x
  have hrg : rgt w c (n : Int) = true := hok (c, n, v) (by rw [← hx]; exact List.getElem_mem hi)
  obtain ⟨c1, c2, c3, c4⟩ := (rgt_iff hw2).1 hrg
  have hc128 : c < 2 ^ 128 := Nat.lt_of_lt_of_le c1 (Nat.pow_le_pow_right (by decide) hw2)
  have hnw : n ≤ w := by omega
  have k0 : hget K q = .row [.int .i64 (w : Int)] 0 true := (fr q hqp).trans h0
  have kt : hget K b = .row [.string (bs hd)] 0 true := (fr b (by omega)).trans ht
  have ko : hget K (b + 1) = .row [.bool rg] 0 true := (fr (b + 1) h11).trans ho
  obtain ⟨Z, hZ⟩ : ∃ Z, Z = WC T ((g4.body.at [1, 1, 1, 1, 1, 1, 1, 1, 1, 1, 1, 1, 0, 1, 0]).bd.at [0, 1, 1, 1]) := ⟨_, rfl⟩
  have hZ' := hZ.symm
  simp only [AFunc.body, g4, ACode.at, ACode.cz, ACode.bd] at hZ'
  simp only [AFunc.body, g4, ACode.at, ACode.cz, ACode.bd]
  simp (disch := omega) only [kaa, kab, kac, kad, khm, khn, kho, khp, khq, khr, kae, kaf, kag, kah, kai, kaj, kak, kal, kam, kan, kao, khe, khf, khg, khh, khi, khj, khk, khl, kap, kaq, kar, kas, kat, kau, kav, kaw, kax, kay, kaz, kba, kbb, kbc, kbd, kbe, kbf, kbg, kbh, kbi, kbj, kbk, kbl, kbm, kbn, kbo, kbp, kbq, kbr, kbs, kbt, kbu, kbv, kbw, kbx, kby, kbz, kca, kcb, kcc, kcd, kce, kcf, kcg, kch, kci, kcj, kck, kcl, kcm, aop, kcn, kco, kcp, kcq, kcr, kcs, kct, kcu, kcv, kcw, resultsL, resultOf, kcx, Nat.reduceEqDiff, kcy, kcz, kda, reduceCtorEq, kdb, kdc, kdd, kde, kdf, kdg, kdh, kdi, kdj, kdk, kdl, kdm, kdn, kdo, eq1, kdp, kdq, kdr, kds, kdt, kdu, kdv, kdw, kdx, kdy, kdz, kea, keb, kec, apartOK, apart2, AObj.live, ked, kee, kef, keg, keh, kei, kej, kek, kel, Int.reduceEq, Int.reduceLT, Int.reduceLE, Int.reduceAdd, Int.reduceSub, Int.reduceMul, Int.reduceToNat, kem, ken, keo, kep, keq, ker, kes, ket, keu, kev, kew, kex, key, kez, kfa, kfb, kfc, kfd, kfe, kff, kfg, kfh, kfi, kfj, kfk, kfl, cutCells, kfm, kfn, kfo, kfp, kfq, kfr, kfs, kft, kfu, kfv, kfw, kfx, kfy, Nat.reduceAdd, Nat.reduceLeDiff, Nat.reduceLT, Nat.reduceMul, Nat.reduceSub, kfz, kga, kgb, kgc, kgd, kge, kgf, kgg, kgh, kgi, kgj, kgk, kgl, kgm, kgn, kgo, kgp, kgq, kgr, kgs, kgt, kgu, kgv, kgw, kgx, kgy, kgz, kha, khb, khc, khd, k0, e1, e2, kt, ko, hZ']
  refine reftext_t hw hw2 hc128 ?_
  rw [hrg]
  obtain ⟨ad2, rfl⟩ := l2.len
  obtain ⟨ad1, rfl⟩ := l1.len
  simp (disch := omega) only [kaa, kab, kac, kad, khm, khn, kho, khp, khq, khr, kae, kaf, kag, kah, kai, kaj, kak, kal, kam, kan, kao, khe, khf, khg, khh, khi, khj, khk, khl, kap, kaq, kar, kas, kat, kau, kav, kaw, kax, kay, kaz, kba, kbb, kbc, kbd, kbe, kbf, kbg, kbh, kbi, kbj, kbk, kbl, kbm, kbn, kbo, kbp, kbq, kbr, kbs, kbt, kbu, kbv, kbw, kbx, kby, kbz, kca, kcb, kcc, kcd, kce, kcf, kcg, kch, kci, kcj, kck, kcl, kcm, aop, kcn, kco, kcp, kcq, kcr, kcs, kct, kcu, kcv, kcw, resultsL, resultOf, kcx, Nat.reduceEqDiff, kcy, kcz, kda, reduceCtorEq, kdb, kdc, kdd, kde, kdf, kdg, kdh, kdi, kdj, kdk, kdl, kdm, kdn, kdo, eq1, kdp, kdq, kdr, kds, kdt, kdu, kdv, kdw, kdx, kdy, kdz, kea, keb, kec, apartOK, apart2, AObj.live, ked, kee, kef, keg, keh, kei, kej, kek, kel, Int.reduceEq, Int.reduceLT, Int.reduceLE, Int.reduceAdd, Int.reduceSub, Int.reduceMul, Int.reduceToNat, kem, ken, keo, kep, keq, ker, kes, ket, keu, kev, kew, kex, key, kez, kfa, kfb, kfc, kfd, kfe, kff, kfg, kfh, kfi, kfj, kfk, kfl, cutCells, kfm, kfn, kfo, kfp, kfq, kfr, kfs, kft, kfu, kfv, kfw, kfx, kfy, Nat.reduceAdd, Nat.reduceLeDiff, Nat.reduceLT, Nat.reduceMul, Nat.reduceSub, kfz, kga, kgb, kgc, kgd, kge, kgf, kgg, kgh, kgi, kgj, kgk, kgl, kgm, kgn, kgo, kgp, kgq, kgr, kgs, kgt, kgu, kgv, kgw, kgx, kgy, kgz, kha, khb, khc, khd, k0, e1, e2, kt, ko, hZ']
  have hpf : [Value.int .u64 ((c / W64 : Nat) : Int), .int .u64 ((c % W64 : Nat) : Int), .int .i64 (n : Int)] = pfM (c, n, v) := rfl
  have htx : List.take n (bitS w c) = txt w (c, n) := rfl
  have fin : ∀ e, (∃ x : Nat → Value, e = [x 0, x 1, x 2, x 3, x 4, x 5, x 6, x 7, x 8, x 9, x 10, .pointer (some ⟨b, 0, none⟩), .pointer (some ⟨b + 1, 0, none⟩), x 13, x 14, x 15, .pointer (some ⟨p, 0, none⟩), .pointer (some ⟨p + 1, 0, none⟩), .pointer (some ⟨K.length, 0, none⟩), .string (bs (txt w (c, n))), x 20, x 21, x 22, x 23, x 24, x 25, x 26, x 27, x 28, x 29, x 30, x 31, x 32, x 33, x 34, x 35, x 36, x 37, x 38, x 39, x 40, x 41, x 42, x 43, x 44, x 45, x 46, x 47, x 48, x 49, x 50, x 51, x 52, x 53, x 54, x 55, x 56, x 57, x 58, x 59, x 60, x 61, x 62, x 63, x 64, x 65, x 66, x 67, x 68, x 69, x 70, x 71, x 72, x 73, x 74, x 75, x 76, x 77, x 78, x 79, x 80, x 81, x 82, x 83, x 84, x 85, x 86, x 87, x 88, x 89, x 90, x 91, x 92, x 93, x 94, x 95, x 96, x 97, x 98, x 99, x 100, x 101, x 102, x 103, x 104, x 105, x 106, x 107, x 108, x 109, x 110, x 111, x 112, x 113, x 114, x 115, x 116, x 117, x 118, x 119, x 120, x 121, x 122, x 123, x 124, x 125, x 126, x 127, x 128, x 129, x 130, x 131, x 132, x 133, x 134, x 135, x 136, x 137, x 138, x 139, x 140, x 141, x 142, x 143, x 144, x 145, x 146, x 147, x 148, x 149, x 150, x 151, x 152, x 153, x 154, x 155, x 156, x 157, x 158, x 159, x 160, x 161, x 162, x 163, x 164, x 165, x 166, x 167, x 168, x 169, x 170, x 171, x 172, x 173, x 174, x 175, x 176, x 177, x 178, x 179, x 180, x 181, x 182, x 183, x 184, x 185, x 186, x 187, x 188, x 189, x 190, x 191, x 192, x 193, x 194, x 195, x 196, x 197, x 198, x 199, x 200, x 201, x 202, x 203, x 204, x 205, x 206, x 207, x 208, x 209, x 210, x 211, x 212, x 213, x 214, x 215, x 216, x 217, x 218, x 219, x 220, x 221, x 222, x 223, x 224, x 225, x 226, x 227, x 228, x 229]) →
      WC T ((g4.body.at [1, 1, 1, 1, 1, 1, 1, 1, 1, 1, 1, 1, 0, 1, 0]).bd.at [0, 1, 1, 1]) e (K ++ [.row (pfM (c, n, v)) 0 true]) (blockK 3 (bodyK N Q ev0 (RI H1 N p w rg hd (L.take (i + 1))) K)) := fun e he => by
    exact und_tail (ev := ev0) (Q := Q) hN h11 ht ho hi hx hL len fr he e1 e2 l1 l2 dj Keep.app
  by_cases h0i : 0 < (((List.map pfM (List.take i L)).length : Nat) : Int)
  case neg =>
    simp (disch := omega) only [kaa, kab, kac, kad, khm, khn, kho, khp, khq, khr, kae, kaf, kag, kah, kai, kaj, kak, kal, kam, kan, kao, khe, khf, khg, khh, khi, khj, khk, khl, kap, kaq, kar, kas, kat, kau, kav, kaw, kax, kay, kaz, kba, kbb, kbc, kbd, kbe, kbf, kbg, kbh, kbi, kbj, kbk, kbl, kbm, kbn, kbo, kbp, kbq, kbr, kbs, kbt, kbu, kbv, kbw, kbx, kby, kbz, kca, kcb, kcc, kcd, kce, kcf, kcg, kch, kci, kcj, kck, kcl, kcm, aop, kcn, kco, kcp, kcq, kcr, kcs, kct, kcu, kcv, kcw, resultsL, resultOf, kcx, Nat.reduceEqDiff, kcy, kcz, kda, reduceCtorEq, kdb, kdc, kdd, kde, kdf, kdg, kdh, kdi, kdj, kdk, kdl, kdm, kdn, kdo, eq1, kdp, kdq, kdr, kds, kdt, kdu, kdv, kdw, kdx, kdy, kdz, kea, keb, kec, apartOK, apart2, AObj.live, ked, kee, kef, keg, keh, kei, kej, kek, kel, Int.reduceEq, Int.reduceLT, Int.reduceLE, Int.reduceAdd, Int.reduceSub, Int.reduceMul, Int.reduceToNat, kem, ken, keo, kep, keq, ker, kes, ket, keu, kev, kew, kex, key, kez, kfa, kfb, kfc, kfd, kfe, kff, kfg, kfh, kfi, kfj, kfk, kfl, cutCells, kfm, kfn, kfo, kfp, kfq, kfr, kfs, kft, kfu, kfv, kfw, kfx, kfy, Nat.reduceAdd, Nat.reduceLeDiff, Nat.reduceLT, Nat.reduceMul, Nat.reduceSub, kfz, kga, kgb, kgc, kgd, kge, kgf, kgg, kgh, kgi, kgj, kgk, kgl, kgm, kgn, kgo, kgp, kgq, kgr, kgs, kgt, kgu, kgv, kgw, kgx, kgy, kgz, kha, khb, khc, khd, h0i, hZ']
    rw [hpf, htx, hZ]
    exact fin _ (by exact ex_env rfl)
  have hlen1 : (List.map pfM (List.take i L)).length = i := by rw [List.length_map, List.length_take]; omega
  rw [hlen1] at h0i
  have hi0 : 0 < i := by omega
  have hi1 : i - 1 < (List.take i L).length := by rw [List.length_take]; omega
  have hi2 : i - 1 < L.length := by omega
  rcases l2 with ⟨q, _⟩ | ⟨hne, k, k0', hk, hk2, hk3⟩
  · rw [q] at hlen1; simp at hlen1; omega
  simp only [Value.slice.injEq] at hk
  obtain ⟨rfl, _⟩ := hk
  have p1 := pfM_bits (L := List.take i L) (i - 1) hi1
  have p2 := pfM_len (L := List.take i L) (i - 1) hi1
  have p3 := pfM_flat (L := List.take i L)
  rw [List.getElem_take] at p1 p2
  have p4 : (List.take i L).length = i := by rw [List.length_take]; omega
  rw [p4] at p3
  obtain ⟨⟨c9, n9, v9⟩, hx9⟩ : ∃ x9, L[i - 1] = x9 := ⟨_, rfl⟩
  rw [hx9] at p1 p2
  have hrg9 : rgt w c9 (n9 : Int) = true := hok (c9, n9, v9) (by rw [← hx9]; exact List.getElem_mem hi2)
  have hc9 : c9 < 2 ^ 128 := Nat.lt_of_lt_of_le ((rgt_iff hw2).1 hrg9).1 (Nat.pow_le_pow_right (by decide) hw2)
  have hless : Op.bytesLess (txt w (c9, n9)) (txt w (c, n)) = true := by
    have := (List.pairwise_iff_getElem.1 hr) (i - 1) i hi2 hi (by omega)
    rw [hx9, hx] at this
    exact this
  have e3 : (i : Int) - 1 = ((i - 1 : Nat) : Int) := by omega
  have c0 : (0 : Int) ≤ ((i - 1 : Nat) : Int) := by omega
  have c1 : ((i - 1 : Nat) : Int) < (i : Int) := by omega
  have lk := hget_lt hk2 rfl
  have h9 : 0 < (i : Int) := by omega
  simp (disch := omega) only [kaa, kab, kac, kad, khm, khn, kho, khp, khq, khr, kae, kaf, kag, kah, kai, kaj, kak, kal, kam, kan, kao, khe, khf, khg, khh, khi, khj, khk, khl, kap, kaq, kar, kas, kat, kau, kav, kaw, kax, kay, kaz, kba, kbb, kbc, kbd, kbe, kbf, kbg, kbh, kbi, kbj, kbk, kbl, kbm, kbn, kbo, kbp, kbq, kbr, kbs, kbt, kbu, kbv, kbw, kbx, kby, kbz, kca, kcb, kcc, kcd, kce, kcf, kcg, kch, kci, kcj, kck, kcl, kcm, aop, kcn, kco, kcp, kcq, kcr, kcs, kct, kcu, kcv, kcw, resultsL, resultOf, kcx, Nat.reduceEqDiff, kcy, kcz, kda, reduceCtorEq, kdb, kdc, kdd, kde, kdf, kdg, kdh, kdi, kdj, kdk, kdl, kdm, kdn, kdo, eq1, kdp, kdq, kdr, kds, kdt, kdu, kdv, kdw, kdx, kdy, kdz, kea, keb, kec, apartOK, apart2, AObj.live, ked, kee, kef, keg, keh, kei, kej, kek, kel, Int.reduceEq, Int.reduceLT, Int.reduceLE, Int.reduceAdd, Int.reduceSub, Int.reduceMul, Int.reduceToNat, kem, ken, keo, kep, keq, ker, kes, ket, keu, kev, kew, kex, key, kez, kfa, kfb, kfc, kfd, kfe, kff, kfg, kfh, kfi, kfj, kfk, kfl, cutCells, kfm, kfn, kfo, kfp, kfq, kfr, kfs, kft, kfu, kfv, kfw, kfx, kfy, Nat.reduceAdd, Nat.reduceLeDiff, Nat.reduceLT, Nat.reduceMul, Nat.reduceSub, kfz, kga, kgb, kgc, kgd, kge, kgf, kgg, kgh, kgi, kgj, kgk, kgl, kgm, kgn, kgo, kgp, kgq, kgr, kgs, kgt, kgu, kgv, kgw, kgx, kgy, kgz, kha, khb, khc, khd, k0, e2, hlen1, e3, hk2, p1, p2, p3, if_pos, c0, c1, wr_i64, h9, hZ']
  refine reftext_t hw hw2 hc9 ?_
  rw [hrg9]
  have hless' : Op.bytesLess (List.take n9 (bitS w c9)) (List.take n (bitS w c)) = true := hless
  simp (disch := omega) only [kaa, kab, kac, kad, khm, khn, kho, khp, khq, khr, kae, kaf, kag, kah, kai, kaj, kak, kal, kam, kan, kao, khe, khf, khg, khh, khi, khj, khk, khl, kap, kaq, kar, kas, kat, kau, kav, kaw, kax, kay, kaz, kba, kbb, kbc, kbd, kbe, kbf, kbg, kbh, kbi, kbj, kbk, kbl, kbm, kbn, kbo, kbp, kbq, kbr, kbs, kbt, kbu, kbv, kbw, kbx, kby, kbz, kca, kcb, kcc, kcd, kce, kcf, kcg, kch, kci, kcj, kck, kcl, kcm, aop, kcn, kco, kcp, kcq, kcr, kcs, kct, kcu, kcv, kcw, resultsL, resultOf, kcx, Nat.reduceEqDiff, kcy, kcz, kda, reduceCtorEq, kdb, kdc, kdd, kde, kdf, kdg, kdh, kdi, kdj, kdk, kdl, kdm, kdn, kdo, eq1, kdp, kdq, kdr, kds, kdt, kdu, kdv, kdw, kdx, kdy, kdz, kea, keb, kec, apartOK, apart2, AObj.live, ked, kee, kef, keg, keh, kei, kej, kek, kel, Int.reduceEq, Int.reduceLT, Int.reduceLE, Int.reduceAdd, Int.reduceSub, Int.reduceMul, Int.reduceToNat, kem, ken, keo, kep, keq, ker, kes, ket, keu, kev, kew, kex, key, kez, kfa, kfb, kfc, kfd, kfe, kff, kfg, kfh, kfi, kfj, kfk, kfl, cutCells, kfm, kfn, kfo, kfp, kfq, kfr, kfs, kft, kfu, kfv, kfw, kfx, kfy, Nat.reduceAdd, Nat.reduceLeDiff, Nat.reduceLT, Nat.reduceMul, Nat.reduceSub, kfz, kga, kgb, kgc, kgd, kge, kgf, kgg, kgh, kgi, kgj, kgk, kgl, kgm, kgn, kgo, kgp, kgq, kgr, kgs, kgt, kgu, kgv, kgw, kgx, kgy, kgz, kha, khb, khc, khd, bin_str_geq, hless', hZ']
  rw [hpf, htx, hZ]
  exact fin _ (by exact ex_env rfl)

end Go.Proofs.Yticgkaanaimllaa.Ev

/- The law TrieUnder: rounds over Under. -/
namespace Go.Proofs.Yticgkaanaimllaa.Ev
set_option maxRecDepth 100000
set_option linter.unusedSimpArgs false
set_option linter.unusedVariables false
variable {R : FRes → Heap → Prop} {H : Heap}

/-- A counter stands so, all else as it was. -/
structure CI (H2 : Heap) (N p : Nat) (i : Nat) (K : Heap) : Prop where
  len : N ≤ K.length
  fr : ∀ c, c < N → c ≠ p → hget K c = hget H2 c
  ct : hget K p = .row [.int .i64 (i : Int)] 0 true

theorem CI.app {H2 K G : Heap} {N p i : Nat} (hp : p < N) (h : CI H2 N p i K) : CI H2 N p i (K ++ G) := by
  obtain ⟨h1, h2, h3⟩ := h
  exact ⟨by simp; omega, fun c hc hn => by rw [hget_old (by omega)]; exact h2 c hc hn, by rw [hget_old (by omega)]; exact h3⟩
theorem CI.set {H2 K : Heap} {N p i : Nat} {o : AObj} (hp : p < N) (h : CI H2 N p i K) : CI H2 N p i (K.set N o) := by
  obtain ⟨h1, h2, h3⟩ := h
  exact ⟨by simpa using h1, fun c hc hn => by rw [hget_ne (by omega)]; exact h2 c hc hn, by rw [hget_ne (by omega)]; exact h3⟩

theorem get_mem {w c n : Nat} {v : Int} {t : Tr} (hw2 : w ≤ 128) (pw : PW w t.er) (hm : (c, n, v) ∈ t.er.mem) (hr : rgt w c (n : Int) = true) : getR w c (n : Nat) t = .tuple #[.int .i64 v, .bool true] := by
  obtain ⟨q1, q2⟩ := nodes_ok pw _ (mem_nodes hm)
  have h3 := (at_mem q2 q1 pw).2 hm
  rw [getR_er, if_pos hr, Int.toNat_natCast, h3]

theorem get_body {H2 K : Heap} {N p b w i q8 p16 n1 : Nat} {mx l : Int} {t : Tr} {W : List Mem} {c n : Nat} {v : Int} {ev ev0 : Env} {Q : Post} {s1 : Value} (hw : 1 ≤ w) (hw2 : w ≤ 128) (hN : H2.length = N) (hp : p < N)
    (h8 : hget H2 q8 = .row [.pointer (some ⟨b, 0, none⟩)] 0 true) (hd : hget H2 b = .row [.int .i64 (w : Int), .int .i64 mx, .int .i64 l, t.ptr] 0 true) (lies : TAw H2 t) (ok : TW w t) (pw : PW w t.er) (n8 : q8 ≠ p) (nb : b ≠ p) (nt : p ∉ t.blocks) (n16 : p16 ≠ p)
    (h16 : hget H2 p16 = .row [s1] 0 true) (l1 : SLs 3 n1 H2 s1 (W.map pfM)) (hs1 : blk s1 ≠ some p) (hi : i < W.length) (hWl : W.length ≤ 100000) (hx : W[i] = (c, n, v)) (hm : (c, n, v) ∈ t.er.mem) (hrg : rgt w c (n : Int) = true)
    (he : (fun e => (∃ x : Nat → Value, e = [x 0, x 1, x 2, x 3, x 4, x 5, x 6, x 7, .pointer (some ⟨q8, 0, none⟩), x 9, x 10, x 11, x 12, x 13, x 14, x 15, .pointer (some ⟨p16, 0, none⟩), x 17, x 18, x 19, x 20, x 21, x 22, .pointer (some ⟨p, 0, none⟩), x 24, x 25, x 26, x 27, x 28, x 29, x 30, x 31, x 32, x 33, x 34, x 35, x 36, x 37, x 38, x 39, x 40, x 41, x 42, x 43, x 44, x 45, x 46, x 47, x 48, x 49, x 50, x 51, x 52, x 53, x 54, x 55, x 56, x 57, x 58, x 59, x 60, x 61, x 62, x 63, x 64, x 65, x 66, x 67, x 68, x 69, x 70, x 71, x 72, x 73, x 74, x 75, x 76, x 77, x 78, x 79, x 80, x 81, x 82, x 83, x 84, x 85, x 86, x 87, x 88, x 89, x 90, x 91, x 92, x 93, x 94, x 95, x 96, x 97, x 98, x 99, x 100, x 101, x 102, x 103, x 104, x 105, x 106, x 107, x 108, x 109, x 110, x 111, x 112, x 113, x 114, x 115, x 116, x 117, x 118, x 119, x 120, x 121, x 122, x 123, x 124, x 125, x 126, x 127, x 128, x 129, x 130, x 131, x 132, x 133, x 134, x 135, x 136, x 137, x 138, x 139, x 140, x 141, x 142, x 143, x 144, x 145, x 146, x 147, x 148, x 149, x 150, x 151, x 152, x 153, x 154, x 155, x 156, x 157, x 158, x 159, x 160, x 161, x 162, x 163, x 164, x 165, x 166, x 167, x 168, x 169, x 170, x 171, x 172, x 173, x 174, x 175, x 176, x 177, x 178, x 179, x 180, x 181, x 182, x 183, x 184, x 185, x 186, x 187, x 188, x 189, x 190, x 191, x 192, x 193, x 194, x 195, x 196, x 197, x 198, x 199, x 200, x 201, x 202, x 203, x 204, x 205, x 206, x 207, x 208, x 209, x 210, x 211, x 212, x 213, x 214, x 215, x 216, x 217, x 218, x 219, x 220, x 221, x 222, x 223, x 224, x 225, x 226, x 227, x 228, x 229])) ev) (hI : CI H2 N p i K) :
    WC T (g4.body.at [1, 1, 1, 1, 1, 1, 1, 1, 1, 1, 1, 1, 1, 1, 0, 1, 0]).cz (putL ev [166, 167] [pfv c (n : Nat), .int .i64 v]) K
      (asK T (g4.body.at [1, 1, 1, 1, 1, 1, 1, 1, 1, 1, 1, 1, 1, 1, 0, 1, 0]).bd (bodyK N Q ev0 (CI H2 N p (i + 1)) K)) := by
  obtain ⟨y, rfl⟩ := he
  obtain ⟨len, fr, ct⟩ := hI
  have l8 := hget_lt h8 rfl
  have ld := hget_lt hd rfl
  have l16 := hget_lt h16 rfl
  have hc128 : c < 2 ^ 128 := Nat.lt_of_lt_of_le ((rgt_iff hw2).1 hrg).1 (Nat.pow_le_pow_right (by decide) hw2)
  have k8 : hget K q8 = .row [.pointer (some ⟨b, 0, none⟩)] 0 true := (fr _ (by omega) n8).trans h8
  have kd : hget K b = .row [.int .i64 (w : Int), .int .i64 mx, .int .i64 l, t.ptr] 0 true := (fr _ (by omega) nb).trans hd
  have k16 : hget K p16 = .row [s1] 0 true := (fr _ (by omega) n16).trans h16
  have kt : TAw K t := lies.same fun d hd => fr d (by have := lies.lt d hd; omega) (fun q => nt (by rw [← q]; exact hd))
  have kl : SLs 3 n1 K s1 (W.map pfM) := l1.same fun d hd => fr d (by have := (l1.lt hd).1; omega) (fun q => hs1 (by rw [← q]; exact hd))
  have lp := hget_lt ct rfl
  have lb := hget_lt kd rfl
  have hget1 := get_mem hw2 pw hm hrg
  simp only [AFunc.body, g4, ACode.at, ACode.cz, ACode.bd]
  simp (disch := omega) only [kaa, kab, kac, kad, khm, khn, kho, khp, khq, khr, kae, kaf, kag, kah, kai, kaj, kak, kal, kam, kan, kao, khe, khf, khg, khh, khi, khj, khk, khl, kap, kaq, kar, kas, kat, kau, kav, kaw, kax, kay, kaz, kba, kbb, kbc, kbd, kbe, kbf, kbg, kbh, kbi, kbj, kbk, kbl, kbm, kbn, kbo, kbp, kbq, kbr, kbs, kbt, kbu, kbv, kbw, kbx, kby, kbz, kca, kcb, kcc, kcd, kce, kcf, kcg, kch, kci, kcj, kck, kcl, kcm, aop, kcn, kco, kcp, kcq, kcr, kcs, kct, kcu, kcv, kcw, resultsL, resultOf, kcx, Nat.reduceEqDiff, kcy, kcz, kda, reduceCtorEq, kdb, kdc, kdd, kde, kdf, kdg, kdh, kdi, kdj, kdk, kdl, kdm, kdn, kdo, eq1, kdp, kdq, kdr, kds, kdt, kdu, kdv, kdw, kdx, kdy, kdz, kea, keb, kec, apartOK, apart2, AObj.live, ked, kee, kef, keg, keh, kei, kej, kek, kel, Int.reduceEq, Int.reduceLT, Int.reduceLE, Int.reduceAdd, Int.reduceSub, Int.reduceMul, Int.reduceToNat, kem, ken, keo, kep, keq, ker, kes, ket, keu, kev, kew, kex, key, kez, kfa, kfb, kfc, kfd, kfe, kff, kfg, kfh, kfi, kfj, kfk, kfl, cutCells, kfm, kfn, kfo, kfp, kfq, kfr, kfs, kft, kfu, kfv, kfw, kfx, kfy, Nat.reduceAdd, Nat.reduceLeDiff, Nat.reduceLT, Nat.reduceMul, Nat.reduceSub, kfz, kga, kgb, kgc, kgd, kge, kgf, kgg, kgh, kgi, kgj, kgk, kgl, kgm, kgn, kgo, kgp, kgq, kgr, kgs, kgt, kgu, kgv, kgw, kgx, kgy, kgz, kha, khb, khc, khd, k8]
  refine get_t (by rw [hget_old lb]; exact kd) kt.app.ta ok hw hw2 hc128 ?_
  rw [hget1]
  rcases kl with ⟨q, _⟩ | ⟨hne, k, k0', rfl, hk2, hk3⟩
  · have := congrArg List.length q
    simp at this
    rw [this] at hi
    simp at hi
  have p1 := pfM_all (L := W) i hi
  have p3 := pfM_flat (L := W)
  have hWm : (W.map pfM).length = W.length := by simp
  rw [hx] at p1
  simp only [pfM] at p1
  have lk := hget_lt hk2 rfl
  have hi' : (i : Int) < (W.length : Nat) := by omega
  have c0 : (0 : Int) ≤ (i : Int) := by omega
  have hge : ¬ ((W.length : Nat) : Int) ≤ (i : Int) := by omega
  have e2 := eq_pf (a := c) (n := n) (c := c) (k := n)
  rw [decide_eq_true ⟨rfl, rfl⟩] at e2
  simp (disch := omega) only [kaa, kab, kac, kad, khm, khn, kho, khp, khq, khr, kae, kaf, kag, kah, kai, kaj, kak, kal, kam, kan, kao, khe, khf, khg, khh, khi, khj, khk, khl, kap, kaq, kar, kas, kat, kau, kav, kaw, kax, kay, kaz, kba, kbb, kbc, kbd, kbe, kbf, kbg, kbh, kbi, kbj, kbk, kbl, kbm, kbn, kbo, kbp, kbq, kbr, kbs, kbt, kbu, kbv, kbw, kbx, kby, kbz, kca, kcb, kcc, kcd, kce, kcf, kcg, kch, kci, kcj, kck, kcl, kcm, aop, kcn, kco, kcp, kcq, kcr, kcs, kct, kcu, kcv, kcw, resultsL, resultOf, kcx, Nat.reduceEqDiff, kcy, kcz, kda, reduceCtorEq, kdb, kdc, kdd, kde, kdf, kdg, kdh, kdi, kdj, kdk, kdl, kdm, kdn, kdo, eq1, kdp, kdq, kdr, kds, kdt, kdu, kdv, kdw, kdx, kdy, kdz, kea, keb, kec, apartOK, apart2, AObj.live, ked, kee, kef, keg, keh, kei, kej, kek, kel, Int.reduceEq, Int.reduceLT, Int.reduceLE, Int.reduceAdd, Int.reduceSub, Int.reduceMul, Int.reduceToNat, kem, ken, keo, kep, keq, ker, kes, ket, keu, kev, kew, kex, key, kez, kfa, kfb, kfc, kfd, kfe, kff, kfg, kfh, kfi, kfj, kfk, kfl, cutCells, kfm, kfn, kfo, kfp, kfq, kfr, kfs, kft, kfu, kfv, kfw, kfx, kfy, Nat.reduceAdd, Nat.reduceLeDiff, Nat.reduceLT, Nat.reduceMul, Nat.reduceSub, kfz, kga, kgb, kgc, kgd, kge, kgf, kgg, kgh, kgi, kgj, kgk, kgl, kgm, kgn, kgo, kgp, kgq, kgr, kgs, kgt, kgu, kgv, kgw, kgx, kgy, kgz, kha, khb, khc, khd, k8, ct, k16, hWm, hk2, p1, p3, if_pos, c0, hi', hge, e2, wr_i64, nadd1]
  exact ⟨⟨by simp; omega, fun d hd hn => by rw [hget_oldS (by omega), hget_ne (Ne.symm hn)]; exact fr d hd hn, by rw [hget_oldS lp, hget_set' lp]⟩, Keep.trans (Keep.set (fun cs q => by rw [ct] at q; cases q)) Keep.app⟩

theorem all_body {H2 K : Heap} {N p i p16 n1 : Nat} {W : List Mem} {c n : Nat} {v : Int} {ev ev0 : Env} {Q : Post} {s1 : Value} (hN : H2.length = N) (hp : p < N) (n16 : p16 ≠ p)
    (h16 : hget H2 p16 = .row [s1] 0 true) (l1 : SLs 3 n1 H2 s1 (W.map pfM)) (hs1 : blk s1 ≠ some p) (hi : i < W.length) (hWl : W.length ≤ 100000) (hx : W[i] = (c, n, v))
    (he : (fun e => (∃ x : Nat → Value, e = [x 0, x 1, x 2, x 3, x 4, x 5, x 6, x 7, x 8, x 9, x 10, x 11, x 12, x 13, x 14, x 15, x 16, .pointer (some ⟨p16, 0, none⟩), x 18, x 19, x 20, x 21, x 22, x 23, x 24, x 25, x 26, x 27, .pointer (some ⟨p, 0, none⟩), x 29, x 30, x 31, x 32, x 33, x 34, x 35, x 36, x 37, x 38, x 39, x 40, x 41, x 42, x 43, x 44, x 45, x 46, x 47, x 48, x 49, x 50, x 51, x 52, x 53, x 54, x 55, x 56, x 57, x 58, x 59, x 60, x 61, x 62, x 63, x 64, x 65, x 66, x 67, x 68, x 69, x 70, x 71, x 72, x 73, x 74, x 75, x 76, x 77, x 78, x 79, x 80, x 81, x 82, x 83, x 84, x 85, x 86, x 87, x 88, x 89, x 90, x 91, x 92, x 93, x 94, x 95, x 96, x 97, x 98, x 99, x 100, x 101, x 102, x 103, x 104, x 105, x 106, x 107, x 108, x 109, x 110, x 111, x 112, x 113, x 114, x 115, x 116, x 117, x 118, x 119, x 120, x 121, x 122, x 123, x 124, x 125, x 126, x 127, x 128, x 129, x 130, x 131, x 132, x 133, x 134, x 135, x 136, x 137, x 138, x 139, x 140, x 141, x 142, x 143, x 144, x 145, x 146, x 147, x 148, x 149, x 150, x 151, x 152, x 153, x 154, x 155, x 156, x 157, x 158, x 159, x 160, x 161, x 162, x 163, x 164, x 165, x 166, x 167, x 168, x 169, x 170, x 171, x 172, x 173, x 174, x 175, x 176, x 177, x 178, x 179, x 180, x 181, x 182, x 183, x 184, x 185, x 186, x 187, x 188, x 189, x 190, x 191, x 192, x 193, x 194, x 195, x 196, x 197, x 198, x 199, x 200, x 201, x 202, x 203, x 204, x 205, x 206, x 207, x 208, x 209, x 210, x 211, x 212, x 213, x 214, x 215, x 216, x 217, x 218, x 219, x 220, x 221, x 222, x 223, x 224, x 225, x 226, x 227, x 228, x 229])) ev) (hI : CI H2 N p i K) :
    WC T (g4.body.at [1, 1, 1, 1, 1, 1, 1, 1, 1, 1, 1, 1, 1, 1, 1, 1, 0, 1, 0]).cz (putL ev [198, 199] [pfv c (n : Nat), .int .i64 v]) K
      (asK T (g4.body.at [1, 1, 1, 1, 1, 1, 1, 1, 1, 1, 1, 1, 1, 1, 1, 1, 0, 1, 0]).bd (bodyK N Q ev0 (CI H2 N p (i + 1)) K)) := by
  obtain ⟨y, rfl⟩ := he
  obtain ⟨len, fr, ct⟩ := hI
  have l16 := hget_lt h16 rfl
  have k16 : hget K p16 = .row [s1] 0 true := (fr _ (by omega) n16).trans h16
  have kl : SLs 3 n1 K s1 (W.map pfM) := l1.same fun d hd => fr d (by have := (l1.lt hd).1; omega) (fun q => hs1 (by rw [← q]; exact hd))
  have lp := hget_lt ct rfl
  rcases kl with ⟨q, _⟩ | ⟨hne, k, k0', rfl, hk2, hk3⟩
  · have := congrArg List.length q
    simp at this
    rw [this] at hi
    simp at hi
  have p1 := pfM_all (L := W) i hi
  have p3 := pfM_flat (L := W)
  have hWm : (W.map pfM).length = W.length := by simp
  rw [hx] at p1
  simp only [pfM] at p1
  have lk := hget_lt hk2 rfl
  have hi' : (i : Int) < (W.length : Nat) := by omega
  have c0 : (0 : Int) ≤ (i : Int) := by omega
  have hge : ¬ ((W.length : Nat) : Int) ≤ (i : Int) := by omega
  have e2 := eq_pf (a := c) (n := n) (c := c) (k := n)
  rw [decide_eq_true ⟨rfl, rfl⟩] at e2
  simp only [AFunc.body, g4, ACode.at, ACode.cz, ACode.bd]
  simp (disch := omega) only [kaa, kab, kac, kad, khm, khn, kho, khp, khq, khr, kae, kaf, kag, kah, kai, kaj, kak, kal, kam, kan, kao, khe, khf, khg, khh, khi, khj, khk, khl, kap, kaq, kar, kas, kat, kau, kav, kaw, kax, kay, kaz, kba, kbb, kbc, kbd, kbe, kbf, kbg, kbh, kbi, kbj, kbk, kbl, kbm, kbn, kbo, kbp, kbq, kbr, kbs, kbt, kbu, kbv, kbw, kbx, kby, kbz, kca, kcb, kcc, kcd, kce, kcf, kcg, kch, kci, kcj, kck, kcl, kcm, aop, kcn, kco, kcp, kcq, kcr, kcs, kct, kcu, kcv, kcw, resultsL, resultOf, kcx, Nat.reduceEqDiff, kcy, kcz, kda, reduceCtorEq, kdb, kdc, kdd, kde, kdf, kdg, kdh, kdi, kdj, kdk, kdl, kdm, kdn, kdo, eq1, kdp, kdq, kdr, kds, kdt, kdu, kdv, kdw, kdx, kdy, kdz, kea, keb, kec, apartOK, apart2, AObj.live, ked, kee, kef, keg, keh, kei, kej, kek, kel, Int.reduceEq, Int.reduceLT, Int.reduceLE, Int.reduceAdd, Int.reduceSub, Int.reduceMul, Int.reduceToNat, kem, ken, keo, kep, keq, ker, kes, ket, keu, kev, kew, kex, key, kez, kfa, kfb, kfc, kfd, kfe, kff, kfg, kfh, kfi, kfj, kfk, kfl, cutCells, kfm, kfn, kfo, kfp, kfq, kfr, kfs, kft, kfu, kfv, kfw, kfx, kfy, Nat.reduceAdd, Nat.reduceLeDiff, Nat.reduceLT, Nat.reduceMul, Nat.reduceSub, kfz, kga, kgb, kgc, kgd, kge, kgf, kgg, kgh, kgi, kgj, kgk, kgl, kgm, kgn, kgo, kgp, kgq, kgr, kgs, kgt, kgu, kgv, kgw, kgx, kgy, kgz, kha, khb, khc, khd, ct, k16, hWm, hk2, p1, p3, if_pos, c0, hi', hge, e2, wr_i64, nadd1]
  exact ⟨⟨by simp; omega, fun d hd hn => by rw [hget_oldS (by omega), hget_ne (Ne.symm hn)]; exact fr d hd hn, by rw [hget_oldS lp, hget_set' lp]⟩, Keep.trans (Keep.set (fun cs q => by rw [ct] at q; cases q)) Keep.app⟩

end Go.Proofs.Yticgkaanaimllaa.Ev

/- The law TrieUnder: behind the puts. -/
namespace Go.Proofs.Yticgkaanaimllaa.Ev
set_option maxRecDepth 100000
set_option linter.unusedSimpArgs false
set_option linter.unusedVariables false
variable {R : FRes → Heap → Prop} {H : Heap}

abbrev QU : Post := retK [.cell1 6] (fun r _ => r = .ret (.bool true))

/-- What stands when all has been told. -/
structure US (K : Heap) (q w n0 : Nat) (o : Opr) (t : Tr) (M W : List Mem) : Prop where
  ti : TI K (q + 3) w 4096 (M.length : Nat) t
  low : q + 4 < n0 ∧ ∀ c ∈ t.blocks, c < n0
  pw : PW w t.er
  perm : t.er.mem.Perm M
  few : t.er.nodes.length ≤ 2 * M.length
  len : n0 + 14 ≤ K.length
  b2 : hget K (q + 2) = .row [.bool false] 0 true
  b4 : hget K (q + 4) = .row [.pointer (some ⟨q + 3, 0, none⟩)] 0 true
  p4 : hget K (n0 + 4) = .row [.pointer (some ⟨q + 3, 0, none⟩)] 0 true
  p5 : hget K (n0 + 4 + 1) = .row [.int .u64 ((o.a / W64 : Nat) : Int), .int .u64 ((o.a % W64 : Nat) : Int), .int .i64 o.n] 0 true
  p6 : hget K (n0 + 4 + 2) = .row [.pointer (some ⟨q + 3, 0, none⟩)] 0 true
  p7 : hget K (n0 + 4 + 3) = .row [.func (.func 50) #[] #[.pointer (some ⟨n0 + 4, 0, none⟩), .pointer (some ⟨n0 + 4 + 1, 0, none⟩)]] 0 true
  p8 : hget K (n0 + 8) = .row [.pointer (some ⟨q + 3, 0, none⟩)] 0 true
  p9 : hget K (n0 + 8 + 1) = .row [.int .u64 ((0 / W64 : Nat) : Int), .int .u64 ((0 % W64 : Nat) : Int), .int .i64 0] 0 true
  p10 : hget K (n0 + 8 + 2) = .row [.pointer (some ⟨q + 3, 0, none⟩)] 0 true
  p11 : hget K (n0 + 8 + 3) = .row [.func (.func 50) #[] #[.pointer (some ⟨n0 + 8, 0, none⟩), .pointer (some ⟨n0 + 8 + 1, 0, none⟩)]] 0 true
  sl : ∃ s1 s2, hget K (n0 + 12) = .row [s1] 0 true ∧ hget K (n0 + 13) = .row [s2] 0 true ∧ SLs 3 (n0 + 15) K s1 (W.map pfM) ∧ SLs 3 (n0 + 15) K s2 (t.er.mem.map pfM)

theorem US.same {K K2 : Heap} {q w n0 : Nat} {o : Opr} {t : Tr} {M W : List Mem} (h : US K q w n0 o t M W) (hl : K.length ≤ K2.length) (hs : ∀ c, c < K.length → hget K2 c = hget K c) : US K2 q w n0 o t M W := by
  obtain ⟨⟨i1, i2, i3, i4, i5⟩, ⟨h2, h2'⟩, h3, h4, h5, len, b2, b4, p4, p5, p6, p7, p8, p9, p10, p11, s1, s2, s3, s4, s5, s6⟩ := h
  refine ⟨⟨by rw [hs _ (by omega)]; exact i1, i2, i3.same fun c hc => hs c (i3.lt c hc), i4, i5⟩, ⟨h2, h2'⟩, h3, h4, h5, by omega, by rw [hs _ (by omega)]; exact b2, by rw [hs _ (by omega)]; exact b4, by rw [hs _ (by omega)]; exact p4, by rw [hs _ (by omega)]; exact p5, by rw [hs _ (by omega)]; exact p6,
    by rw [hs _ (by omega)]; exact p7, by rw [hs _ (by omega)]; exact p8, by rw [hs _ (by omega)]; exact p9, by rw [hs _ (by omega)]; exact p10, by rw [hs _ (by omega)]; exact p11, s1, s2, by rw [hs _ (by omega)]; exact s3, by rw [hs _ (by omega)]; exact s4, s5.same fun c hc => hs c (s5.lt hc).1, s6.same fun c hc => hs c (s6.lt hc).1⟩

theorem mem_rgt {w : Nat} {t : Tr} (ok : TW w t) (pw : PW w t.er) : ∀ x ∈ t.er.mem, rgt w x.1 (x.2.1 : Nat) = true := by
  intro x hx
  have h1 := nodes_ok pw _ (mem_nodes hx)
  have h2 : ∀ {t : Tr}, TW w t → ∀ y ∈ t.er.mem, y.1 &&& maskN w y.2.1 = y.1 := by
    intro t
    induction t with
    | nil => intro _ y hy; cases hy
    | node b c n f v l r ihl ihr =>
      rintro ⟨_, _, q1, q2, q3⟩ y hy
      simp only [Tr.er, PT.mem, List.mem_append] at hy
      rcases hy with hy | hy | hy
      · cases f with
        | true => simp at hy; subst hy; exact q1
        | false => simp at hy
      · exact ihl q2 y hy
      · exact ihr q3 y hy
  simp only [rgt, Bool.and_eq_true, decide_eq_true_eq, Int.toNat_natCast]
  exact ⟨⟨⟨by omega, by simp only at h1; omega⟩, h1.2⟩, h2 ok x hx⟩

theorem und_rest3 {w q n0 p2 : Nat} {K : Heap} {o : Opr} {t : Tr} {M : List Mem} (hw : 1 ≤ w) (hw2 : w ≤ 128) (hL : US K q w n0 o t M (selP (undM w o.a o.n) t)) (hM : M.length ≤ 2000) (hp2 : hget K p2 = .row [.int .i64 ((selP (undM w o.a o.n) t).length : Nat)] 0 true) (hp : n0 + 14 ≤ p2) {e : Env}
    (he : (∃ x : Nat → Value, e = [x 0, x 1, x 2, x 3, x 4, x 5, .pointer (some ⟨q + 2, 0, none⟩), x 7, .pointer (some ⟨q + 4, 0, none⟩), x 9, x 10, x 11, x 12, x 13, x 14, .func (.func 79) #[] #[.pointer (some ⟨n0 + 8 + 2, 0, none⟩), .pointer (some ⟨n0 + 8 + 3, 0, none⟩)], .pointer (some ⟨n0 + 12, 0, none⟩), .pointer (some ⟨n0 + 13, 0, none⟩), x 18, x 19, x 20, x 21, x 22, .pointer (some ⟨p2, 0, none⟩), x 24, x 25, x 26, x 27, x 28, x 29, x 30, x 31, x 32, x 33, x 34, x 35, x 36, x 37, x 38, x 39, x 40, x 41, x 42, x 43, x 44, x 45, x 46, x 47, x 48, x 49, x 50, x 51, x 52, x 53, x 54, x 55, x 56, x 57, x 58, x 59, x 60, x 61, x 62, x 63, x 64, x 65, x 66, x 67, x 68, x 69, x 70, x 71, x 72, x 73, x 74, x 75, x 76, x 77, x 78, x 79, x 80, x 81, x 82, x 83, x 84, x 85, x 86, x 87, x 88, x 89, x 90, x 91, x 92, x 93, x 94, x 95, x 96, x 97, x 98, x 99, x 100, x 101, x 102, x 103, x 104, x 105, x 106, x 107, x 108, x 109, x 110, x 111, x 112, x 113, x 114, x 115, x 116, x 117, x 118, x 119, x 120, x 121, x 122, x 123, x 124, x 125, x 126, x 127, x 128, x 129, x 130, x 131, x 132, x 133, x 134, x 135, x 136, x 137, x 138, x 139, x 140, x 141, x 142, x 143, x 144, x 145, x 146, x 147, x 148, x 149, x 150, x 151, x 152, x 153, x 154, x 155, x 156, x 157, x 158, x 159, x 160, x 161, x 162, x 163, x 164, x 165, x 166, x 167, x 168, x 169, x 170, x 171, x 172, x 173, x 174, x 175, x 176, x 177, x 178, x 179, x 180, x 181, x 182, x 183, x 184, x 185, x 186, x 187, x 188, x 189, x 190, x 191, x 192, x 193, x 194, x 195, x 196, x 197, x 198, x 199, x 200, x 201, x 202, x 203, x 204, x 205, x 206, x 207, x 208, x 209, x 210, x 211, x 212, x 213, x 214, x 215, x 216, x 217, x 218, x 219, x 220, x 221, x 222, x 223, x 224, x 225, x 226, x 227, x 228, x 229])) :
    WC T (g4.body.at [1, 1, 1, 1, 1, 1, 1, 1, 1, 1, 1, 1, 1, 1, 1]) e K QU := by
  obtain ⟨x, rfl⟩ := he
  have hLlen := hL.len
  have lp2 := hget_lt hp2 rfl
  have hml : t.er.mem.length = M.length := hL.perm.length_eq
  have hinL : t.inL.length ≤ 1000000 := by
    have := hL.few
    rw [inL_len]
    omega
  have hall : selP (undM w 0 0) t = t.er.mem := List.filter_eq_self.2 fun x _ => undM_zero
  obtain ⟨Z, hZ⟩ : ∃ Z, Z = WC T (g4.body.at [1, 1, 1, 1, 1, 1, 1, 1, 1, 1, 1, 1, 1, 1, 1, 1, 1]) := ⟨_, rfl⟩
  have hZ' := hZ.symm
  simp only [AFunc.body, g4, ACode.at] at hZ'
  simp only [AFunc.body, g4, ACode.at]
  simp (disch := omega) only [kaa, kab, kac, kad, khm, khn, kho, khp, khq, khr, kae, kaf, kag, kah, kai, kaj, kak, kal, kam, kan, kao, khe, khf, khg, khh, khi, khj, khk, khl, kap, kaq, kar, kas, kat, kau, kav, kaw, kax, kay, kaz, kba, kbb, kbc, kbd, kbe, kbf, kbg, kbh, kbi, kbj, kbk, kbl, kbm, kbn, kbo, kbp, kbq, kbr, kbs, kbt, kbu, kbv, kbw, kbx, kby, kbz, kca, kcb, kcc, kcd, kce, kcf, kcg, kch, kci, kcj, kck, kcl, kcm, aop, kcn, kco, kcp, kcq, kcr, kcs, kct, kcu, kcv, kcw, resultsL, resultOf, kcx, Nat.reduceEqDiff, kcy, kcz, kda, reduceCtorEq, kdb, kdc, kdd, kde, kdf, kdg, kdh, kdi, kdj, kdk, kdl, kdm, kdn, kdo, eq1, kdp, kdq, kdr, kds, kdt, kdu, kdv, kdw, kdx, kdy, kdz, kea, keb, kec, apartOK, apart2, AObj.live, ked, kee, kef, keg, keh, kei, kej, kek, kel, Int.reduceEq, Int.reduceLT, Int.reduceLE, Int.reduceAdd, Int.reduceSub, Int.reduceMul, Int.reduceToNat, kem, ken, keo, kep, keq, ker, kes, ket, keu, kev, kew, kex, key, kez, kfa, kfb, kfc, kfd, kfe, kff, kfg, kfh, kfi, kfj, kfk, kfl, cutCells, kfm, kfn, kfo, kfp, kfq, kfr, kfs, kft, kfu, kfv, kfw, kfx, kfy, Nat.reduceAdd, Nat.reduceLeDiff, Nat.reduceLT, Nat.reduceMul, Nat.reduceSub, kfz, kga, kgb, kgc, kgd, kge, kgf, kgg, kgh, kgi, kgj, kgk, kgl, kgm, kgn, kgo, kgp, kgq, kgr, kgs, kgt, kgu, kgv, kgw, kgx, kgy, kgz, kha, khb, khc, khd, hZ']
  have hH : US (K ++ [.row [.int .i64 0] 0 true]) q w n0 o t M (selP (undM w o.a o.n) t) := hL.same (by simp) fun c hc => hget_old hc
  obtain ⟨s1, s2, f12, f13, l1, l2⟩ := hH.sl
  have hlen1 : (K ++ [AObj.row [.int .i64 0] 0 true]).length = K.length + 1 := by simp
  refine range_t (w := w) (t := t) hH.p10 hH.ti.hd hH.p11 (may_underS (a := 0) (k := 0) hw hw2 (by decide) ⟨_, _, _, _, hH.ti.hd⟩ hH.p8 hH.p9) hH.ti.lies.ta hH.ti.ok hinL rfl (CI (K ++ [.row [.int .i64 0] 0 true]) (K.length + 1) K.length)
    (fun g => ⟨by simp, fun c hc hn => hget_old (by simp; omega), by rw [hget_old (by simp), hget_last]; rfl⟩) (fun i K' o h => ?_) (fun i K' g h => h.app (by omega)) (fun i K' x hx hl h => ?_) (fun K' h hl => ?_)
  · have := h.set (o := o) (show K.length < K.length + 1 by omega)
    simpa using this
  · obtain ⟨c, n, v⟩ := x
    rw [hall] at hx
    obtain ⟨hi, hx2⟩ := List.getElem?_eq_some_iff.1 hx
    rw [hlen1]
    exact all_body (N := K.length + 1) (by simp) (by omega) (by omega) f13 l2 (l2.ne (hget_last _ _) (by decide)) hi (by omega) hx2 (by exact ex_env rfl) h
  · rw [hall] at h
    simp (disch := omega) only [kaa, kab, kac, kad, khm, khn, kho, khp, khq, khr, kae, kaf, kag, kah, kai, kaj, kak, kal, kam, kan, kao, khe, khf, khg, khh, khi, khj, khk, khl, kap, kaq, kar, kas, kat, kau, kav, kaw, kax, kay, kaz, kba, kbb, kbc, kbd, kbe, kbf, kbg, kbh, kbi, kbj, kbk, kbl, kbm, kbn, kbo, kbp, kbq, kbr, kbs, kbt, kbu, kbv, kbw, kbx, kby, kbz, kca, kcb, kcc, kcd, kce, kcf, kcg, kch, kci, kcj, kck, kcl, kcm, aop, kcn, kco, kcp, kcq, kcr, kcs, kct, kcu, kcv, kcw, resultsL, resultOf, kcx, Nat.reduceEqDiff, kcy, kcz, kda, reduceCtorEq, kdb, kdc, kdd, kde, kdf, kdg, kdh, kdi, kdj, kdk, kdl, kdm, kdn, kdo, eq1, kdp, kdq, kdr, kds, kdt, kdu, kdv, kdw, kdx, kdy, kdz, kea, keb, kec, apartOK, apart2, AObj.live, ked, kee, kef, keg, keh, kei, kej, kek, kel, Int.reduceEq, Int.reduceLT, Int.reduceLE, Int.reduceAdd, Int.reduceSub, Int.reduceMul, Int.reduceToNat, kem, ken, keo, kep, keq, ker, kes, ket, keu, kev, kew, kex, key, kez, kfa, kfb, kfc, kfd, kfe, kff, kfg, kfh, kfi, kfj, kfk, kfl, cutCells, kfm, kfn, kfo, kfp, kfq, kfr, kfs, kft, kfu, kfv, kfw, kfx, kfy, Nat.reduceAdd, Nat.reduceLeDiff, Nat.reduceLT, Nat.reduceMul, Nat.reduceSub, kfz, kga, kgb, kgc, kgd, kge, kgf, kgg, kgh, kgi, kgj, kgk, kgl, kgm, kgn, kgo, kgp, kgq, kgr, kgs, kgt, kgu, kgv, kgw, kgx, kgy, kgz, kha, khb, khc, khd, hZ']
    obtain ⟨h1, h2, h3⟩ := h
    have hs : ∀ c, c < K.length → hget K' c = hget K c := fun c hc => by rw [h2 c (by omega) (by omega), hget_old hc]
    have hK := hL.same (by omega) hs
    obtain ⟨s1, s2, g12, g13, k1, k2⟩ := hK.sl
    obtain ⟨ad1, rfl⟩ := k1.len
    obtain ⟨ad2, rfl⟩ := k2.len
    have g23 : hget K' p2 = .row [.int .i64 ((selP (undM w o.a o.n) t).length : Nat)] 0 true := by rw [hs _ (by omega)]; exact hp2
    have e1 : (List.map pfM (selP (undM w o.a o.n) t)).length = (selP (undM w o.a o.n) t).length := by simp
    have e2 : (List.map pfM t.er.mem).length = M.length := by rw [List.length_map, hml]
    rw [hml] at h3
    rw [hZ]
    simp only [AFunc.body, g4, ACode.at]
    have b2 := hK.b2
    have b4 := hK.b4
    have l2' := hget_lt b2 rfl
    simp (disch := omega) only [kaa, kab, kac, kad, khm, khn, kho, khp, khq, khr, kae, kaf, kag, kah, kai, kaj, kak, kal, kam, kan, kao, khe, khf, khg, khh, khi, khj, khk, khl, kap, kaq, kar, kas, kat, kau, kav, kaw, kax, kay, kaz, kba, kbb, kbc, kbd, kbe, kbf, kbg, kbh, kbi, kbj, kbk, kbl, kbm, kbn, kbo, kbp, kbq, kbr, kbs, kbt, kbu, kbv, kbw, kbx, kby, kbz, kca, kcb, kcc, kcd, kce, kcf, kcg, kch, kci, kcj, kck, kcl, kcm, aop, kcn, kco, kcp, kcq, kcr, kcs, kct, kcu, kcv, kcw, resultsL, resultOf, kcx, Nat.reduceEqDiff, kcy, kcz, kda, reduceCtorEq, kdb, kdc, kdd, kde, kdf, kdg, kdh, kdi, kdj, kdk, kdl, kdm, kdn, kdo, eq1, kdp, kdq, kdr, kds, kdt, kdu, kdv, kdw, kdx, kdy, kdz, kea, keb, kec, apartOK, apart2, AObj.live, ked, kee, kef, keg, keh, kei, kej, kek, kel, Int.reduceEq, Int.reduceLT, Int.reduceLE, Int.reduceAdd, Int.reduceSub, Int.reduceMul, Int.reduceToNat, kem, ken, keo, kep, keq, ker, kes, ket, keu, kev, kew, kex, key, kez, kfa, kfb, kfc, kfd, kfe, kff, kfg, kfh, kfi, kfj, kfk, kfl, cutCells, kfm, kfn, kfo, kfp, kfq, kfr, kfs, kft, kfu, kfv, kfw, kfx, kfy, Nat.reduceAdd, Nat.reduceLeDiff, Nat.reduceLT, Nat.reduceMul, Nat.reduceSub, kfz, kga, kgb, kgc, kgd, kge, kgf, kgg, kgh, kgi, kgj, kgk, kgl, kgm, kgn, kgo, kgp, kgq, kgr, kgs, kgt, kgu, kgv, kgw, kgx, kgy, kgz, kha, khb, khc, khd, g12, g13, g23, h3, e1, e2, b2, b4]
    refine WV.of (fun c hc => ?_) ?_
    · simp only [List.mem_cons, List.not_mem_nil, or_false] at hc
      subst hc
      rw [h3]
      rfl
    obtain ⟨wr, hfz⟩ := row_frz (bs := [K.length]) hK.ti.hd
    refine len_t hfz ?_
    rw [thaw_frz0]
    simp (disch := omega) only [kaa, kab, kac, kad, khm, khn, kho, khp, khq, khr, kae, kaf, kag, kah, kai, kaj, kak, kal, kam, kan, kao, khe, khf, khg, khh, khi, khj, khk, khl, kap, kaq, kar, kas, kat, kau, kav, kaw, kax, kay, kaz, kba, kbb, kbc, kbd, kbe, kbf, kbg, kbh, kbi, kbj, kbk, kbl, kbm, kbn, kbo, kbp, kbq, kbr, kbs, kbt, kbu, kbv, kbw, kbx, kby, kbz, kca, kcb, kcc, kcd, kce, kcf, kcg, kch, kci, kcj, kck, kcl, kcm, aop, kcn, kco, kcp, kcq, kcr, kcs, kct, kcu, kcv, kcw, resultsL, resultOf, kcx, Nat.reduceEqDiff, kcy, kcz, kda, reduceCtorEq, kdb, kdc, kdd, kde, kdf, kdg, kdh, kdi, kdj, kdk, kdl, kdm, kdn, kdo, eq1, kdp, kdq, kdr, kds, kdt, kdu, kdv, kdw, kdx, kdy, kdz, kea, keb, kec, apartOK, apart2, AObj.live, ked, kee, kef, keg, keh, kei, kej, kek, kel, Int.reduceEq, Int.reduceLT, Int.reduceLE, Int.reduceAdd, Int.reduceSub, Int.reduceMul, Int.reduceToNat, kem, ken, keo, kep, keq, ker, kes, ket, keu, kev, kew, kex, key, kez, kfa, kfb, kfc, kfd, kfe, kff, kfg, kfh, kfi, kfj, kfk, kfl, cutCells, kfm, kfn, kfo, kfp, kfq, kfr, kfs, kft, kfu, kfv, kfw, kfx, kfy, Nat.reduceAdd, Nat.reduceLeDiff, Nat.reduceLT, Nat.reduceMul, Nat.reduceSub, kfz, kga, kgb, kgc, kgd, kge, kgf, kgg, kgh, kgi, kgj, kgk, kgl, kgm, kgn, kgo, kgp, kgq, kgr, kgs, kgt, kgu, kgv, kgw, kgx, kgy, kgz, kha, khb, khc, khd, h3, b2]

theorem und_rest2 {w q n0 : Nat} {K : Heap} {o : Opr} {t : Tr} {M : List Mem} (hw : 1 ≤ w) (hw2 : w ≤ 128) (hoa : o.a < 2 ^ 128) (hL : US K q w n0 o t M (selP (undM w o.a o.n) t)) (hM : M.length ≤ 2000) {e : Env}
    (he : (∃ x : Nat → Value, e = [x 0, x 1, x 2, x 3, x 4, x 5, .pointer (some ⟨q + 2, 0, none⟩), x 7, .pointer (some ⟨q + 4, 0, none⟩), x 9, x 10, x 11, x 12, x 13, .func (.func 79) #[] #[.pointer (some ⟨n0 + 4 + 2, 0, none⟩), .pointer (some ⟨n0 + 4 + 3, 0, none⟩)], .func (.func 79) #[] #[.pointer (some ⟨n0 + 8 + 2, 0, none⟩), .pointer (some ⟨n0 + 8 + 3, 0, none⟩)], .pointer (some ⟨n0 + 12, 0, none⟩), .pointer (some ⟨n0 + 13, 0, none⟩), x 18, x 19, x 20, x 21, x 22, x 23, x 24, x 25, x 26, x 27, x 28, x 29, x 30, x 31, x 32, x 33, x 34, x 35, x 36, x 37, x 38, x 39, x 40, x 41, x 42, x 43, x 44, x 45, x 46, x 47, x 48, x 49, x 50, x 51, x 52, x 53, x 54, x 55, x 56, x 57, x 58, x 59, x 60, x 61, x 62, x 63, x 64, x 65, x 66, x 67, x 68, x 69, x 70, x 71, x 72, x 73, x 74, x 75, x 76, x 77, x 78, x 79, x 80, x 81, x 82, x 83, x 84, x 85, x 86, x 87, x 88, x 89, x 90, x 91, x 92, x 93, x 94, x 95, x 96, x 97, x 98, x 99, x 100, x 101, x 102, x 103, x 104, x 105, x 106, x 107, x 108, x 109, x 110, x 111, x 112, x 113, x 114, x 115, x 116, x 117, x 118, x 119, x 120, x 121, x 122, x 123, x 124, x 125, x 126, x 127, x 128, x 129, x 130, x 131, x 132, x 133, x 134, x 135, x 136, x 137, x 138, x 139, x 140, x 141, x 142, x 143, x 144, x 145, x 146, x 147, x 148, x 149, x 150, x 151, x 152, x 153, x 154, x 155, x 156, x 157, x 158, x 159, x 160, x 161, x 162, x 163, x 164, x 165, x 166, x 167, x 168, x 169, x 170, x 171, x 172, x 173, x 174, x 175, x 176, x 177, x 178, x 179, x 180, x 181, x 182, x 183, x 184, x 185, x 186, x 187, x 188, x 189, x 190, x 191, x 192, x 193, x 194, x 195, x 196, x 197, x 198, x 199, x 200, x 201, x 202, x 203, x 204, x 205, x 206, x 207, x 208, x 209, x 210, x 211, x 212, x 213, x 214, x 215, x 216, x 217, x 218, x 219, x 220, x 221, x 222, x 223, x 224, x 225, x 226, x 227, x 228, x 229])) :
    WC T (g4.body.at [1, 1, 1, 1, 1, 1, 1, 1, 1, 1, 1, 1, 1]) e K QU := by
  obtain ⟨x, rfl⟩ := he
  have hLlen := hL.len
  have hml : t.er.mem.length = M.length := hL.perm.length_eq
  have hWl : (selP (undM w o.a o.n) t).length ≤ 2000 := by
    exact Nat.le_trans (List.length_filter_le _ _) (by omega)
  have hinL : t.inL.length ≤ 1000000 := by
    have := hL.few
    rw [inL_len]
    omega
  have hrg := mem_rgt hL.ti.ok hL.pw
  obtain ⟨Z, hZ⟩ : ∃ Z, Z = WC T (g4.body.at [1, 1, 1, 1, 1, 1, 1, 1, 1, 1, 1, 1, 1, 1, 1]) := ⟨_, rfl⟩
  have hZ' := hZ.symm
  simp only [AFunc.body, g4, ACode.at] at hZ'
  simp only [AFunc.body, g4, ACode.at]
  simp (disch := omega) only [kaa, kab, kac, kad, khm, khn, kho, khp, khq, khr, kae, kaf, kag, kah, kai, kaj, kak, kal, kam, kan, kao, khe, khf, khg, khh, khi, khj, khk, khl, kap, kaq, kar, kas, kat, kau, kav, kaw, kax, kay, kaz, kba, kbb, kbc, kbd, kbe, kbf, kbg, kbh, kbi, kbj, kbk, kbl, kbm, kbn, kbo, kbp, kbq, kbr, kbs, kbt, kbu, kbv, kbw, kbx, kby, kbz, kca, kcb, kcc, kcd, kce, kcf, kcg, kch, kci, kcj, kck, kcl, kcm, aop, kcn, kco, kcp, kcq, kcr, kcs, kct, kcu, kcv, kcw, resultsL, resultOf, kcx, Nat.reduceEqDiff, kcy, kcz, kda, reduceCtorEq, kdb, kdc, kdd, kde, kdf, kdg, kdh, kdi, kdj, kdk, kdl, kdm, kdn, kdo, eq1, kdp, kdq, kdr, kds, kdt, kdu, kdv, kdw, kdx, kdy, kdz, kea, keb, kec, apartOK, apart2, AObj.live, ked, kee, kef, keg, keh, kei, kej, kek, kel, Int.reduceEq, Int.reduceLT, Int.reduceLE, Int.reduceAdd, Int.reduceSub, Int.reduceMul, Int.reduceToNat, kem, ken, keo, kep, keq, ker, kes, ket, keu, kev, kew, kex, key, kez, kfa, kfb, kfc, kfd, kfe, kff, kfg, kfh, kfi, kfj, kfk, kfl, cutCells, kfm, kfn, kfo, kfp, kfq, kfr, kfs, kft, kfu, kfv, kfw, kfx, kfy, Nat.reduceAdd, Nat.reduceLeDiff, Nat.reduceLT, Nat.reduceMul, Nat.reduceSub, kfz, kga, kgb, kgc, kgd, kge, kgf, kgg, kgh, kgi, kgj, kgk, kgl, kgm, kgn, kgo, kgp, kgq, kgr, kgs, kgt, kgu, kgv, kgw, kgx, kgy, kgz, kha, khb, khc, khd, hZ']
  have hH : US (K ++ [.row [.int .i64 0] 0 true]) q w n0 o t M (selP (undM w o.a o.n) t) := hL.same (by simp) fun c hc => hget_old hc
  obtain ⟨s1, s2, f12, f13, l1, l2⟩ := hH.sl
  refine range_t (w := w) (t := t) hH.p6 hH.ti.hd hH.p7 (may_underS hw hw2 hoa ⟨_, _, _, _, hH.ti.hd⟩ hH.p4 hH.p5) hH.ti.lies.ta hH.ti.ok hinL rfl (CI (K ++ [.row [.int .i64 0] 0 true]) (K.length + 1) K.length)
    (fun g => ⟨by simp, fun c hc hn => hget_old (by simp; omega), by rw [hget_old (by simp), hget_last]; rfl⟩) (fun i K' o h => ?_) (fun i K' g h => h.app (by omega)) (fun i K' x hx hl h => ?_) (fun K' h hl => ?_)
  · have := h.set (o := o) (show K.length < K.length + 1 by omega)
    simpa using this
  · obtain ⟨c, n, v⟩ := x
    obtain ⟨hi, hx2⟩ := List.getElem?_eq_some_iff.1 hx
    have hm := (List.mem_filter.1 (List.mem_of_getElem? hx)).1
    have hlen1 : (K ++ [AObj.row [.int .i64 0] 0 true]).length = K.length + 1 := by simp
    rw [hlen1]
    exact get_body hw hw2 (N := K.length + 1) (by simp) (by omega) hH.b4 hH.ti.hd hH.ti.lies hH.ti.ok hH.pw (by have := hL.low.1; omega) (by have := hL.low.1; omega) (fun q => by have := hL.low.2 _ q; omega) (by omega) f12 l1 (l1.ne (hget_last _ _) (by decide)) hi (by omega) hx2 hm (hrg _ hm) (by exact ex_env rfl) h
  · obtain ⟨h1, h2, h3⟩ := h
    have hs : ∀ c, c < K.length → hget K' c = hget K c := fun c hc => by rw [h2 c (by omega) (by omega), hget_old hc]
    simp (disch := omega) only [kaa, kab, kac, kad, khm, khn, kho, khp, khq, khr, kae, kaf, kag, kah, kai, kaj, kak, kal, kam, kan, kao, khe, khf, khg, khh, khi, khj, khk, khl, kap, kaq, kar, kas, kat, kau, kav, kaw, kax, kay, kaz, kba, kbb, kbc, kbd, kbe, kbf, kbg, kbh, kbi, kbj, kbk, kbl, kbm, kbn, kbo, kbp, kbq, kbr, kbs, kbt, kbu, kbv, kbw, kbx, kby, kbz, kca, kcb, kcc, kcd, kce, kcf, kcg, kch, kci, kcj, kck, kcl, kcm, aop, kcn, kco, kcp, kcq, kcr, kcs, kct, kcu, kcv, kcw, resultsL, resultOf, kcx, Nat.reduceEqDiff, kcy, kcz, kda, reduceCtorEq, kdb, kdc, kdd, kde, kdf, kdg, kdh, kdi, kdj, kdk, kdl, kdm, kdn, kdo, eq1, kdp, kdq, kdr, kds, kdt, kdu, kdv, kdw, kdx, kdy, kdz, kea, keb, kec, apartOK, apart2, AObj.live, ked, kee, kef, keg, keh, kei, kej, kek, kel, Int.reduceEq, Int.reduceLT, Int.reduceLE, Int.reduceAdd, Int.reduceSub, Int.reduceMul, Int.reduceToNat, kem, ken, keo, kep, keq, ker, kes, ket, keu, kev, kew, kex, key, kez, kfa, kfb, kfc, kfd, kfe, kff, kfg, kfh, kfi, kfj, kfk, kfl, cutCells, kfm, kfn, kfo, kfp, kfq, kfr, kfs, kft, kfu, kfv, kfw, kfx, kfy, Nat.reduceAdd, Nat.reduceLeDiff, Nat.reduceLT, Nat.reduceMul, Nat.reduceSub, kfz, kga, kgb, kgc, kgd, kge, kgf, kgg, kgh, kgi, kgj, kgk, kgl, kgm, kgn, kgo, kgp, kgq, kgr, kgs, kgt, kgu, kgv, kgw, kgx, kgy, kgz, kha, khb, khc, khd, hZ']
    rw [hZ]
    exact und_rest3 hw hw2 (hL.same (by omega) hs) hM h3 (by omega) (by exact ex_env rfl)

theorem RI.app {H1 K G : Heap} {N p w : Nat} {rg : Bool} {hd : List UInt8} {L : List Mem} (hp : p + 2 ≤ N) (h : RI H1 N p w rg hd L K) : RI H1 N p w rg hd L (K ++ G) := by
  obtain ⟨len, fr, s1, s2, h1, h2, h3, h4, h5⟩ := h
  exact ⟨by simp; omega, fun c hc => by rw [hget_old (by omega)]; exact fr c hc, s1, s2, by rw [hget_old (by omega)]; exact h1, by rw [hget_old (by omega)]; exact h2, h3.app, h4.app, h5⟩
theorem RI.set {H1 K : Heap} {N p w : Nat} {rg : Bool} {hd : List UInt8} {L : List Mem} {o : AObj} (hp : p + 2 ≤ N) (h : RI H1 N p w rg hd L K) : RI H1 N p w rg hd L (K.set N o) := by
  obtain ⟨len, fr, s1, s2, h1, h2, h3, h4, h5⟩ := h
  exact ⟨by simpa using len, fun c hc => by rw [hget_ne (by omega)]; exact fr c hc, s1, s2, by rw [hget_ne (by omega)]; exact h1, by rw [hget_ne (by omega)]; exact h2, h3.same fun c hc => hget_ne (by have := (h3.lt hc).2; omega), h4.same fun c hc => hget_ne (by have := (h4.lt hc).2; omega), h5⟩

def usRows (n0 q : Nat) (o : Opr) (hd : List UInt8) (rg : Bool) : Heap :=
  [.row [.string (bs hd)] 0 true, .row [.bool rg] 0 true, .row [.pointer (some ⟨q + 3, 0, none⟩)] 0 true, .row [.func (.func 49) #[] #[]] 0 true,
   .row [.pointer (some ⟨q + 3, 0, none⟩)] 0 true, .row [.int .u64 ((o.a / W64 : Nat) : Int), .int .u64 ((o.a % W64 : Nat) : Int), .int .i64 o.n] 0 true, .row [.pointer (some ⟨q + 3, 0, none⟩)] 0 true,
   .row [.func (.func 50) #[] #[.pointer (some ⟨n0 + 4, 0, none⟩), .pointer (some ⟨n0 + 4 + 1, 0, none⟩)]] 0 true,
   .row [.pointer (some ⟨q + 3, 0, none⟩)] 0 true, .row [.int .u64 ((0 / W64 : Nat) : Int), .int .u64 ((0 % W64 : Nat) : Int), .int .i64 0] 0 true, .row [.pointer (some ⟨q + 3, 0, none⟩)] 0 true,
   .row [.func (.func 50) #[] #[.pointer (some ⟨n0 + 8, 0, none⟩), .pointer (some ⟨n0 + 8 + 1, 0, none⟩)]] 0 true,
   .row [.slice none 0 0] 0 true, .row [.slice none 0 0] 0 true]

theorem und_rest {w q : Nat} {K0 : Heap} {ad : Option Addr} {ops : List Opr} {o : Opr} {t : Tr} {M : List Mem} (hw : 1 ≤ w) (hw2 : w ≤ 128) (hoa : o.a < 2 ^ 128) (hL : LU K0 q w ad ops o t M) (hM : M.length ≤ 2000) {e : Env}
    (he : (∃ x : Nat → Value, e = [x 0, x 1, x 2, .pointer (some ⟨q, 0, none⟩), x 4, .pointer (some ⟨q + 1, 0, none⟩), .pointer (some ⟨q + 2, 0, none⟩), x 7, .pointer (some ⟨q + 4, 0, none⟩), x 9, x 10, x 11, x 12, x 13, x 14, x 15, x 16, x 17, x 18, x 19, x 20, x 21, x 22, x 23, x 24, x 25, x 26, x 27, x 28, x 29, x 30, x 31, x 32, x 33, x 34, x 35, x 36, x 37, x 38, x 39, x 40, x 41, x 42, x 43, x 44, x 45, x 46, x 47, x 48, x 49, x 50, x 51, x 52, x 53, x 54, x 55, x 56, x 57, x 58, x 59, x 60, x 61, x 62, x 63, x 64, x 65, x 66, x 67, x 68, x 69, x 70, x 71, x 72, x 73, x 74, x 75, x 76, x 77, x 78, x 79, x 80, x 81, x 82, x 83, x 84, x 85, x 86, x 87, x 88, x 89, x 90, x 91, x 92, x 93, x 94, x 95, x 96, x 97, x 98, x 99, x 100, x 101, x 102, x 103, x 104, x 105, x 106, x 107, x 108, x 109, x 110, x 111, x 112, x 113, x 114, x 115, x 116, x 117, x 118, x 119, x 120, x 121, x 122, x 123, x 124, x 125, x 126, x 127, x 128, x 129, x 130, x 131, x 132, x 133, x 134, x 135, x 136, x 137, x 138, x 139, x 140, x 141, x 142, x 143, x 144, x 145, x 146, x 147, x 148, x 149, x 150, x 151, x 152, x 153, x 154, x 155, x 156, x 157, x 158, x 159, x 160, x 161, x 162, x 163, x 164, x 165, x 166, x 167, x 168, x 169, x 170, x 171, x 172, x 173, x 174, x 175, x 176, x 177, x 178, x 179, x 180, x 181, x 182, x 183, x 184, x 185, x 186, x 187, x 188, x 189, x 190, x 191, x 192, x 193, x 194, x 195, x 196, x 197, x 198, x 199, x 200, x 201, x 202, x 203, x 204, x 205, x 206, x 207, x 208, x 209, x 210, x 211, x 212, x 213, x 214, x 215, x 216, x 217, x 218, x 219, x 220, x 221, x 222, x 223, x 224, x 225, x 226, x 227, x 228, x 229])) :
    WC T (g4.body.at [1, 1, 1, 1, 1]) e K0 QU := by
  obtain ⟨x, rfl⟩ := he
  have b0 := hL.b0
  have b1 := hL.b1
  have b2 := hL.b2
  have b4 := hL.b4
  have hd := hL.ti.hd
  have l4 := hget_lt b4 rfl
  have l0 : q < K0.length := by omega
  have l1 : q + 1 < K0.length := by omega
  have l2 : q + 2 < K0.length := by omega
  unfold opC at b1
  have hrt : (if rgt w o.a o.n = true then Value.tuple #[.string (bs ((bitS w o.a).take o.n.toNat)), .bool true] else .tuple #[.string (bs []), .bool false]) = .tuple #[.string (bs (headT w o.a o.n)), .bool (rgt w o.a o.n)] := by
    unfold headT
    cases rgt w o.a o.n <;> rfl
  obtain ⟨Z, hZ⟩ : ∃ Z, Z = WC T (g4.body.at [1, 1, 1, 1, 1, 1, 1, 1, 1, 1, 1, 1, 1]) := ⟨_, rfl⟩
  have hZ' := hZ.symm
  simp only [AFunc.body, g4, ACode.at] at hZ'
  simp only [AFunc.body, g4, ACode.at]
  simp (disch := omega) only [kaa, kab, kac, kad, khm, khn, kho, khp, khq, khr, kae, kaf, kag, kah, kai, kaj, kak, kal, kam, kan, kao, khe, khf, khg, khh, khi, khj, khk, khl, kap, kaq, kar, kas, kat, kau, kav, kaw, kax, kay, kaz, kba, kbb, kbc, kbd, kbe, kbf, kbg, kbh, kbi, kbj, kbk, kbl, kbm, kbn, kbo, kbp, kbq, kbr, kbs, kbt, kbu, kbv, kbw, kbx, kby, kbz, kca, kcb, kcc, kcd, kce, kcf, kcg, kch, kci, kcj, kck, kcl, kcm, aop, kcn, kco, kcp, kcq, kcr, kcs, kct, kcu, kcv, kcw, resultsL, resultOf, kcx, Nat.reduceEqDiff, kcy, kcz, kda, reduceCtorEq, kdb, kdc, kdd, kde, kdf, kdg, kdh, kdi, kdj, kdk, kdl, kdm, kdn, kdo, eq1, kdp, kdq, kdr, kds, kdt, kdu, kdv, kdw, kdx, kdy, kdz, kea, keb, kec, apartOK, apart2, AObj.live, ked, kee, kef, keg, keh, kei, kej, kek, kel, Int.reduceEq, Int.reduceLT, Int.reduceLE, Int.reduceAdd, Int.reduceSub, Int.reduceMul, Int.reduceToNat, kem, ken, keo, kep, keq, ker, kes, ket, keu, kev, kew, kex, key, kez, kfa, kfb, kfc, kfd, kfe, kff, kfg, kfh, kfi, kfj, kfk, kfl, cutCells, kfm, kfn, kfo, kfp, kfq, kfr, kfs, kft, kfu, kfv, kfw, kfx, kfy, Nat.reduceAdd, Nat.reduceLeDiff, Nat.reduceLT, Nat.reduceMul, Nat.reduceSub, kfz, kga, kgb, kgc, kgd, kge, kgf, kgg, kgh, kgi, kgj, kgk, kgl, kgm, kgn, kgo, kgp, kgq, kgr, kgs, kgt, kgu, kgv, kgw, kgx, kgy, kgz, kha, khb, khc, khd, b0, b1, b2, b4, hZ']
  refine reftext_t hw hw2 hoa ?_
  rw [hrt]
  simp (disch := omega) only [kaa, kab, kac, kad, khm, khn, kho, khp, khq, khr, kae, kaf, kag, kah, kai, kaj, kak, kal, kam, kan, kao, khe, khf, khg, khh, khi, khj, khk, khl, kap, kaq, kar, kas, kat, kau, kav, kaw, kax, kay, kaz, kba, kbb, kbc, kbd, kbe, kbf, kbg, kbh, kbi, kbj, kbk, kbl, kbm, kbn, kbo, kbp, kbq, kbr, kbs, kbt, kbu, kbv, kbw, kbx, kby, kbz, kca, kcb, kcc, kcd, kce, kcf, kcg, kch, kci, kcj, kck, kcl, kcm, aop, kcn, kco, kcp, kcq, kcr, kcs, kct, kcu, kcv, kcw, resultsL, resultOf, kcx, Nat.reduceEqDiff, kcy, kcz, kda, reduceCtorEq, kdb, kdc, kdd, kde, kdf, kdg, kdh, kdi, kdj, kdk, kdl, kdm, kdn, kdo, eq1, kdp, kdq, kdr, kds, kdt, kdu, kdv, kdw, kdx, kdy, kdz, kea, keb, kec, apartOK, apart2, AObj.live, ked, kee, kef, keg, keh, kei, kej, kek, kel, Int.reduceEq, Int.reduceLT, Int.reduceLE, Int.reduceAdd, Int.reduceSub, Int.reduceMul, Int.reduceToNat, kem, ken, keo, kep, keq, ker, kes, ket, keu, kev, kew, kex, key, kez, kfa, kfb, kfc, kfd, kfe, kff, kfg, kfh, kfi, kfj, kfk, kfl, cutCells, kfm, kfn, kfo, kfp, kfq, kfr, kfs, kft, kfu, kfv, kfw, kfx, kfy, Nat.reduceAdd, Nat.reduceLeDiff, Nat.reduceLT, Nat.reduceMul, Nat.reduceSub, kfz, kga, kgb, kgc, kgd, kge, kgf, kgg, kgh, kgi, kgj, kgk, kgl, kgm, kgn, kgo, kgp, kgq, kgr, kgs, kgt, kgu, kgv, kgw, kgx, kgy, kgz, kha, khb, khc, khd, b0, b1, b2, b4, hZ']
  refine all_t ?_
  simp (disch := omega) only [kaa, kab, kac, kad, khm, khn, kho, khp, khq, khr, kae, kaf, kag, kah, kai, kaj, kak, kal, kam, kan, kao, khe, khf, khg, khh, khi, khj, khk, khl, kap, kaq, kar, kas, kat, kau, kav, kaw, kax, kay, kaz, kba, kbb, kbc, kbd, kbe, kbf, kbg, kbh, kbi, kbj, kbk, kbl, kbm, kbn, kbo, kbp, kbq, kbr, kbs, kbt, kbu, kbv, kbw, kbx, kby, kbz, kca, kcb, kcc, kcd, kce, kcf, kcg, kch, kci, kcj, kck, kcl, kcm, aop, kcn, kco, kcp, kcq, kcr, kcs, kct, kcu, kcv, kcw, resultsL, resultOf, kcx, Nat.reduceEqDiff, kcy, kcz, kda, reduceCtorEq, kdb, kdc, kdd, kde, kdf, kdg, kdh, kdi, kdj, kdk, kdl, kdm, kdn, kdo, eq1, kdp, kdq, kdr, kds, kdt, kdu, kdv, kdw, kdx, kdy, kdz, kea, keb, kec, apartOK, apart2, AObj.live, ked, kee, kef, keg, keh, kei, kej, kek, kel, Int.reduceEq, Int.reduceLT, Int.reduceLE, Int.reduceAdd, Int.reduceSub, Int.reduceMul, Int.reduceToNat, kem, ken, keo, kep, keq, ker, kes, ket, keu, kev, kew, kex, key, kez, kfa, kfb, kfc, kfd, kfe, kff, kfg, kfh, kfi, kfj, kfk, kfl, cutCells, kfm, kfn, kfo, kfp, kfq, kfr, kfs, kft, kfu, kfv, kfw, kfx, kfy, Nat.reduceAdd, Nat.reduceLeDiff, Nat.reduceLT, Nat.reduceMul, Nat.reduceSub, kfz, kga, kgb, kgc, kgd, kge, kgf, kgg, kgh, kgi, kgj, kgk, kgl, kgm, kgn, kgo, kgp, kgq, kgr, kgs, kgt, kgu, kgv, kgw, kgx, kgy, kgz, kha, khb, khc, khd, b0, b1, b2, b4, hZ']
  refine under_t ?_
  unfold unR
  simp (disch := omega) only [kaa, kab, kac, kad, khm, khn, kho, khp, khq, khr, kae, kaf, kag, kah, kai, kaj, kak, kal, kam, kan, kao, khe, khf, khg, khh, khi, khj, khk, khl, kap, kaq, kar, kas, kat, kau, kav, kaw, kax, kay, kaz, kba, kbb, kbc, kbd, kbe, kbf, kbg, kbh, kbi, kbj, kbk, kbl, kbm, kbn, kbo, kbp, kbq, kbr, kbs, kbt, kbu, kbv, kbw, kbx, kby, kbz, kca, kcb, kcc, kcd, kce, kcf, kcg, kch, kci, kcj, kck, kcl, kcm, aop, kcn, kco, kcp, kcq, kcr, kcs, kct, kcu, kcv, kcw, resultsL, resultOf, kcx, Nat.reduceEqDiff, kcy, kcz, kda, reduceCtorEq, kdb, kdc, kdd, kde, kdf, kdg, kdh, kdi, kdj, kdk, kdl, kdm, kdn, kdo, eq1, kdp, kdq, kdr, kds, kdt, kdu, kdv, kdw, kdx, kdy, kdz, kea, keb, kec, apartOK, apart2, AObj.live, ked, kee, kef, keg, keh, kei, kej, kek, kel, Int.reduceEq, Int.reduceLT, Int.reduceLE, Int.reduceAdd, Int.reduceSub, Int.reduceMul, Int.reduceToNat, kem, ken, keo, kep, keq, ker, kes, ket, keu, kev, kew, kex, key, kez, kfa, kfb, kfc, kfd, kfe, kff, kfg, kfh, kfi, kfj, kfk, kfl, cutCells, kfm, kfn, kfo, kfp, kfq, kfr, kfs, kft, kfu, kfv, kfw, kfx, kfy, Nat.reduceAdd, Nat.reduceLeDiff, Nat.reduceLT, Nat.reduceMul, Nat.reduceSub, kfz, kga, kgb, kgc, kgd, kge, kgf, kgg, kgh, kgi, kgj, kgk, kgl, kgm, kgn, kgo, kgp, kgq, kgr, kgs, kgt, kgu, kgv, kgw, kgx, kgy, kgz, kha, khb, khc, khd, b0, b1, b2, b4, hZ']
  refine under_t (a := 0) (k := 0) ?_
  unfold unR
  simp (disch := omega) only [kaa, kab, kac, kad, khm, khn, kho, khp, khq, khr, kae, kaf, kag, kah, kai, kaj, kak, kal, kam, kan, kao, khe, khf, khg, khh, khi, khj, khk, khl, kap, kaq, kar, kas, kat, kau, kav, kaw, kax, kay, kaz, kba, kbb, kbc, kbd, kbe, kbf, kbg, kbh, kbi, kbj, kbk, kbl, kbm, kbn, kbo, kbp, kbq, kbr, kbs, kbt, kbu, kbv, kbw, kbx, kby, kbz, kca, kcb, kcc, kcd, kce, kcf, kcg, kch, kci, kcj, kck, kcl, kcm, aop, kcn, kco, kcp, kcq, kcr, kcs, kct, kcu, kcv, kcw, resultsL, resultOf, kcx, Nat.reduceEqDiff, kcy, kcz, kda, reduceCtorEq, kdb, kdc, kdd, kde, kdf, kdg, kdh, kdi, kdj, kdk, kdl, kdm, kdn, kdo, eq1, kdp, kdq, kdr, kds, kdt, kdu, kdv, kdw, kdx, kdy, kdz, kea, keb, kec, apartOK, apart2, AObj.live, ked, kee, kef, keg, keh, kei, kej, kek, kel, Int.reduceEq, Int.reduceLT, Int.reduceLE, Int.reduceAdd, Int.reduceSub, Int.reduceMul, Int.reduceToNat, kem, ken, keo, kep, keq, ker, kes, ket, keu, kev, kew, kex, key, kez, kfa, kfb, kfc, kfd, kfe, kff, kfg, kfh, kfi, kfj, kfk, kfl, cutCells, kfm, kfn, kfo, kfp, kfq, kfr, kfs, kft, kfu, kfv, kfw, kfx, kfy, Nat.reduceAdd, Nat.reduceLeDiff, Nat.reduceLT, Nat.reduceMul, Nat.reduceSub, kfz, kga, kgb, kgc, kgd, kge, kgf, kgg, kgh, kgi, kgj, kgk, kgl, kgm, kgn, kgo, kgp, kgq, kgr, kgs, kgt, kgu, kgv, kgw, kgx, kgy, kgz, kha, khb, khc, khd, b0, b1, b2, b4, eqF_n, hZ']
  have hml : t.er.mem.length = M.length := hL.perm.length_eq
  have hinL : t.inL.length ≤ 1000000 := by
    have := hL.few
    rw [inL_len]
    omega
  have hall : selP (fun _ _ => true) t = t.er.mem := List.filter_eq_self.2 fun x _ => rfl
  have hrg := mem_rgt hL.ti.ok hL.pw
  have hris := mem_rise hL.pw
  generalize hn0 : K0.length = n0 at *
  obtain ⟨H1, hH1⟩ : ∃ H1, K0 ++ usRows n0 q o (headT w o.a o.n) (rgt w o.a o.n) = H1 := ⟨_, rfl⟩
  have hH1' := hH1
  unfold usRows at hH1'
  rw [hH1']
  clear hH1'
  have hlen : H1.length = n0 + 14 := by rw [← hH1, List.length_append, hn0]; rfl
  have hat : ∀ j r, (usRows n0 q o (headT w o.a o.n) (rgt w o.a o.n))[j]? = some r → hget H1 (n0 + j) = r := fun j r h => by
    rw [← hH1, ← hn0, hget_base, hn0]
    unfold hget
    rw [h]
  have hold : ∀ c, c < n0 → hget H1 c = hget K0 c := fun c hc => by rw [← hH1, hget_old (by omega)]
  have lies1 : TAw H1 t := hL.ti.lies.same fun c hc => hold c (by have := hL.ti.lies.lt c hc; omega)
  have hd1 : hget H1 (q + 3) = .row [.int .i64 (w : Int), .int .i64 4096, .int .i64 (M.length : Nat), t.ptr] 0 true := by rw [hold _ (by omega)]; exact hd
  refine range_t (w := w) (t := t) (hat 2 _ rfl) hd1 (hat 3 _ rfl) may_allS lies1.ta hL.ti.ok hinL rfl (fun i => RI H1 (n0 + 14) (n0 + 12) w (rgt w o.a o.n) (headT w o.a o.n) (t.er.mem.take i))
    (fun g => ⟨by simp; omega, fun c hc => hget_old (by omega), .slice none 0 0, .slice none 0 0, by rw [hget_old (by omega)]; exact hat 12 _ rfl, by rw [hget_old (by omega)]; exact hat 13 _ rfl, .inl ⟨rfl, rfl⟩, .inl ⟨rfl, rfl⟩, fun c h => by cases h⟩) (fun i K' o' h => ?_) (fun i K' g h => h.app (by omega)) (fun i K' x' hx hl h => ?_) (fun K' h hl => ?_)
  · rw [hlen]; exact h.set (by omega)
  · obtain ⟨c, n, v⟩ := x'
    rw [hall] at hx
    obtain ⟨hi, hx2⟩ := List.getElem?_eq_some_iff.1 hx
    rw [hlen]
    exact und_body hw hw2 (N := n0 + 14) (p := n0 + 12) (q := q) (b := n0) (by omega) (by omega) (by omega) (by rw [hold _ (by omega)]; exact b0) (by omega) (hat 0 _ rfl) (hat 1 _ rfl) hi hx2 (by omega) hrg hris (by exact ex_env rfl) h
  · rw [hall, List.take_of_length_le (Nat.le_refl _)] at h
    simp (disch := omega) only [kaa, kab, kac, kad, khm, khn, kho, khp, khq, khr, kae, kaf, kag, kah, kai, kaj, kak, kal, kam, kan, kao, khe, khf, khg, khh, khi, khj, khk, khl, kap, kaq, kar, kas, kat, kau, kav, kaw, kax, kay, kaz, kba, kbb, kbc, kbd, kbe, kbf, kbg, kbh, kbi, kbj, kbk, kbl, kbm, kbn, kbo, kbp, kbq, kbr, kbs, kbt, kbu, kbv, kbw, kbx, kby, kbz, kca, kcb, kcc, kcd, kce, kcf, kcg, kch, kci, kcj, kck, kcl, kcm, aop, kcn, kco, kcp, kcq, kcr, kcs, kct, kcu, kcv, kcw, resultsL, resultOf, kcx, Nat.reduceEqDiff, kcy, kcz, kda, reduceCtorEq, kdb, kdc, kdd, kde, kdf, kdg, kdh, kdi, kdj, kdk, kdl, kdm, kdn, kdo, eq1, kdp, kdq, kdr, kds, kdt, kdu, kdv, kdw, kdx, kdy, kdz, kea, keb, kec, apartOK, apart2, AObj.live, ked, kee, kef, keg, keh, kei, kej, kek, kel, Int.reduceEq, Int.reduceLT, Int.reduceLE, Int.reduceAdd, Int.reduceSub, Int.reduceMul, Int.reduceToNat, kem, ken, keo, kep, keq, ker, kes, ket, keu, kev, kew, kex, key, kez, kfa, kfb, kfc, kfd, kfe, kff, kfg, kfh, kfi, kfj, kfk, kfl, cutCells, kfm, kfn, kfo, kfp, kfq, kfr, kfs, kft, kfu, kfv, kfw, kfx, kfy, Nat.reduceAdd, Nat.reduceLeDiff, Nat.reduceLT, Nat.reduceMul, Nat.reduceSub, kfz, kga, kgb, kgc, kgd, kge, kgf, kgg, kgh, kgi, kgj, kgk, kgl, kgm, kgn, kgo, kgp, kgq, kgr, kgs, kgt, kgu, kgv, kgw, kgx, kgy, kgz, kha, khb, khc, khd, hZ']
    rw [hZ]
    obtain ⟨h1, h2, s1, s2, h3, h4, h5, h6, h7⟩ := h
    have hfil : List.filter (fun x => inHead (rgt w o.a o.n) (headT w o.a o.n) (txt w (x.1, x.2.1))) t.er.mem = selP (undM w o.a o.n) t := by
      refine List.filter_congr fun x hx => ?_
      have hk := nodes_ok hL.pw _ (mem_nodes hx)
      exact (undM_head hw2 hk.2 hk.1).symm
    rw [hfil] at h5
    have hsm : ∀ c, c < n0 → hget K' c = hget K0 c := fun c hc => (h2 c (by omega)).trans (hold c hc)
    have hat' : ∀ j r, j < 12 → (usRows n0 q o (headT w o.a o.n) (rgt w o.a o.n))[j]? = some r → hget K' (n0 + j) = r := fun j r hj h => (h2 _ (by omega)).trans (hat j r h)
    refine und_rest2 (n0 := n0) hw hw2 hoa ⟨⟨by rw [hsm _ (by omega)]; exact hd, hL.ti.nb, hL.ti.lies.same fun c hc => hsm c (by have := hL.ti.lies.lt c hc; omega), hL.ti.ok, hL.ti.nd⟩, ⟨by omega, fun c hc => by have := hL.ti.lies.lt c hc; omega⟩, hL.pw, hL.perm, hL.few, by omega, by rw [hsm _ (by omega)]; exact b2, by rw [hsm _ (by omega)]; exact b4,
      hat' 4 _ (by omega) rfl, hat' 5 _ (by omega) rfl, hat' 6 _ (by omega) rfl, hat' 7 _ (by omega) rfl, hat' 8 _ (by omega) rfl, hat' 9 _ (by omega) rfl, hat' 10 _ (by omega) rfl, hat' 11 _ (by omega) rfl, s1, s2, h3, h4, h5, h6⟩ hM (by exact ex_env rfl)

end Go.Proofs.Yticgkaanaimllaa.Ev

/- The law TrieUnder, whole. -/
namespace Go.Proofs.Yticgkaanaimllaa.Ev
set_option maxRecDepth 100000
set_option linter.unusedSimpArgs false
set_option linter.unusedVariables false
variable {R : FRes → Heap → Prop} {H : Heap}

theorem und_w {w : Int} {o : Opr} {ad : Option Addr} {ops : List Opr} (ha : o.a < 2 ^ 128) (hops : ∀ o ∈ ops, o.a < 2 ^ 128) (hlen : ops.length ≤ 4611686018427387904) (hsl : OpSl H ad ops H.length) :
    WD T 4 [.int .i64 w, .slice ad ops.length ops.length, .agg (opC o).toArray] H (fun r _ => r = .ret (.bool true)) := by
  obtain ⟨Z, hZ⟩ : ∃ Z, Z = WC T (g4.body.at [1, 1, 1, 1, 1]) := ⟨_, rfl⟩
  obtain ⟨Y, hY⟩ : ∃ Y, Y = WLoop T (g4.body.at [1, 1, 1, 1, 0, 1, 0, 0]) := ⟨_, rfl⟩
  have hZ' := hZ.symm
  have hY' := hY.symm
  have hrest : ∀ {w q : Nat} {t M} {K : Heap} {e : Env}, 1 ≤ w → w ≤ 128 → LU K q w ad ops o t M → M.length ≤ 2000 →
      (∃ x : Nat → Value, e = [x 0, x 1, x 2, .pointer (some ⟨q, 0, none⟩), x 4, .pointer (some ⟨q + 1, 0, none⟩), .pointer (some ⟨q + 2, 0, none⟩), x 7, .pointer (some ⟨q + 4, 0, none⟩), x 9, x 10, x 11, x 12, x 13, x 14, x 15, x 16, x 17, x 18, x 19, x 20, x 21, x 22, x 23, x 24, x 25, x 26, x 27, x 28, x 29, x 30, x 31, x 32, x 33, x 34, x 35, x 36, x 37, x 38, x 39, x 40, x 41, x 42, x 43, x 44, x 45, x 46, x 47, x 48, x 49, x 50, x 51, x 52, x 53, x 54, x 55, x 56, x 57, x 58, x 59, x 60, x 61, x 62, x 63, x 64, x 65, x 66, x 67, x 68, x 69, x 70, x 71, x 72, x 73, x 74, x 75, x 76, x 77, x 78, x 79, x 80, x 81, x 82, x 83, x 84, x 85, x 86, x 87, x 88, x 89, x 90, x 91, x 92, x 93, x 94, x 95, x 96, x 97, x 98, x 99, x 100, x 101, x 102, x 103, x 104, x 105, x 106, x 107, x 108, x 109, x 110, x 111, x 112, x 113, x 114, x 115, x 116, x 117, x 118, x 119, x 120, x 121, x 122, x 123, x 124, x 125, x 126, x 127, x 128, x 129, x 130, x 131, x 132, x 133, x 134, x 135, x 136, x 137, x 138, x 139, x 140, x 141, x 142, x 143, x 144, x 145, x 146, x 147, x 148, x 149, x 150, x 151, x 152, x 153, x 154, x 155, x 156, x 157, x 158, x 159, x 160, x 161, x 162, x 163, x 164, x 165, x 166, x 167, x 168, x 169, x 170, x 171, x 172, x 173, x 174, x 175, x 176, x 177, x 178, x 179, x 180, x 181, x 182, x 183, x 184, x 185, x 186, x 187, x 188, x 189, x 190, x 191, x 192, x 193, x 194, x 195, x 196, x 197, x 198, x 199, x 200, x 201, x 202, x 203, x 204, x 205, x 206, x 207, x 208, x 209, x 210, x 211, x 212, x 213, x 214, x 215, x 216, x 217, x 218, x 219, x 220, x 221, x 222, x 223, x 224, x 225, x 226, x 227, x 228, x 229]) → Z e K QU := fun h1 h2 h3 h4 h6 => by rw [hZ]; exact und_rest h1 h2 ha h3 h4 h6
  have hloop : ∀ {w q : Nat} {K : Heap} {e : Env} {z : Nat} {Q : Post}, 1 ≤ w → w ≤ 128 → (∀ e H' t M, LU H' q w ad ops o t M → M.length ≤ 2000 →
      (∃ x : Nat → Value, e = [x 0, x 1, x 2, .pointer (some ⟨q, 0, none⟩), x 4, .pointer (some ⟨q + 1, 0, none⟩), .pointer (some ⟨q + 2, 0, none⟩), x 7, .pointer (some ⟨q + 4, 0, none⟩), x 9, x 10, x 11, x 12, x 13, x 14, x 15, x 16, x 17, x 18, x 19, x 20, x 21, x 22, x 23, x 24, x 25, x 26, x 27, x 28, x 29, x 30, x 31, x 32, x 33, x 34, x 35, x 36, x 37, x 38, x 39, x 40, x 41, x 42, x 43, x 44, x 45, x 46, x 47, x 48, x 49, x 50, x 51, x 52, x 53, x 54, x 55, x 56, x 57, x 58, x 59, x 60, x 61, x 62, x 63, x 64, x 65, x 66, x 67, x 68, x 69, x 70, x 71, x 72, x 73, x 74, x 75, x 76, x 77, x 78, x 79, x 80, x 81, x 82, x 83, x 84, x 85, x 86, x 87, x 88, x 89, x 90, x 91, x 92, x 93, x 94, x 95, x 96, x 97, x 98, x 99, x 100, x 101, x 102, x 103, x 104, x 105, x 106, x 107, x 108, x 109, x 110, x 111, x 112, x 113, x 114, x 115, x 116, x 117, x 118, x 119, x 120, x 121, x 122, x 123, x 124, x 125, x 126, x 127, x 128, x 129, x 130, x 131, x 132, x 133, x 134, x 135, x 136, x 137, x 138, x 139, x 140, x 141, x 142, x 143, x 144, x 145, x 146, x 147, x 148, x 149, x 150, x 151, x 152, x 153, x 154, x 155, x 156, x 157, x 158, x 159, x 160, x 161, x 162, x 163, x 164, x 165, x 166, x 167, x 168, x 169, x 170, x 171, x 172, x 173, x 174, x 175, x 176, x 177, x 178, x 179, x 180, x 181, x 182, x 183, x 184, x 185, x 186, x 187, x 188, x 189, x 190, x 191, x 192, x 193, x 194, x 195, x 196, x 197, x 198, x 199, x 200, x 201, x 202, x 203, x 204, x 205, x 206, x 207, x 208, x 209, x 210, x 211, x 212, x 213, x 214, x 215, x 216, x 217, x 218, x 219, x 220, x 221, x 222, x 223, x 224, x 225, x 226, x 227, x 228, x 229]) → Q (.exit 0) e H') → undI w q ad ops o z e K → Y e K Q := fun h1 h2 hQ hI => by
    rw [hY]; exact und_loop h1 h2 hops hlen hQ hI
  clear hZ hY
  simp only [AFunc.body, g4, ACode.at] at hZ' hY'
  unfold opC
  refine WD.of follows t4 (by simp) ?_
  simp (disch := omega) only [kaa, kab, kac, kad, khm, khn, kho, khp, khq, khr, kae, kaf, kag, kah, kai, kaj, kak, kal, kam, kan, kao, khe, khf, khg, khh, khi, khj, khk, khl, kap, kaq, kar, kas, kat, kau, kav, kaw, kax, kay, kaz, kba, kbb, kbc, kbd, kbe, kbf, kbg, kbh, kbi, kbj, kbk, kbl, kbm, kbn, kbo, kbp, kbq, kbr, kbs, kbt, kbu, kbv, kbw, kbx, kby, kbz, kca, kcb, kcc, kcd, kce, kcf, kcg, kch, kci, kcj, kck, kcl, kcm, aop, kcn, kco, kcp, kcq, kcr, kcs, kct, kcu, kcv, kcw, resultsL, resultOf, kcx, Nat.reduceEqDiff, kcy, kcz, kda, reduceCtorEq, kdb, kdc, kdd, kde, kdf, kdg, kdh, kdi, kdj, kdk, kdl, kdm, kdn, kdo, eq1, kdp, kdq, kdr, kds, kdt, kdu, kdv, kdw, kdx, kdy, kdz, kea, keb, kec, apartOK, apart2, AObj.live, ked, kee, kef, keg, keh, kei, kej, kek, kel, Int.reduceEq, Int.reduceLT, Int.reduceLE, Int.reduceAdd, Int.reduceSub, Int.reduceMul, Int.reduceToNat, kem, ken, keo, kep, keq, ker, kes, ket, keu, kev, kew, kex, key, kez, kfa, kfb, kfc, kfd, kfe, kff, kfg, kfh, kfi, kfj, kfk, kfl, cutCells, kfm, kfn, kfo, kfp, kfq, kfr, kfs, kft, kfu, kfv, kfw, kfx, kfy, Nat.reduceAdd, Nat.reduceLeDiff, Nat.reduceLT, Nat.reduceMul, Nat.reduceSub, kfz, kga, kgb, kgc, kgd, kge, kgf, kgg, kgh, kgi, kgj, kgk, kgl, kgm, kgn, kgo, kgp, kgq, kgr, kgs, kgt, kgu, kgv, kgw, kgx, kgy, kgz, kha, khb, khc, khd, hZ', hY']
  refine live_s ?_
  simp (disch := omega) only [kaa, kab, kac, kad, khm, khn, kho, khp, khq, khr, kae, kaf, kag, kah, kai, kaj, kak, kal, kam, kan, kao, khe, khf, khg, khh, khi, khj, khk, khl, kap, kaq, kar, kas, kat, kau, kav, kaw, kax, kay, kaz, kba, kbb, kbc, kbd, kbe, kbf, kbg, kbh, kbi, kbj, kbk, kbl, kbm, kbn, kbo, kbp, kbq, kbr, kbs, kbt, kbu, kbv, kbw, kbx, kby, kbz, kca, kcb, kcc, kcd, kce, kcf, kcg, kch, kci, kcj, kck, kcl, kcm, aop, kcn, kco, kcp, kcq, kcr, kcs, kct, kcu, kcv, kcw, resultsL, resultOf, kcx, Nat.reduceEqDiff, kcy, kcz, kda, reduceCtorEq, kdb, kdc, kdd, kde, kdf, kdg, kdh, kdi, kdj, kdk, kdl, kdm, kdn, kdo, eq1, kdp, kdq, kdr, kds, kdt, kdu, kdv, kdw, kdx, kdy, kdz, kea, keb, kec, apartOK, apart2, AObj.live, ked, kee, kef, keg, keh, kei, kej, kek, kel, Int.reduceEq, Int.reduceLT, Int.reduceLE, Int.reduceAdd, Int.reduceSub, Int.reduceMul, Int.reduceToNat, kem, ken, keo, kep, keq, ker, kes, ket, keu, kev, kew, kex, key, kez, kfa, kfb, kfc, kfd, kfe, kff, kfg, kfh, kfi, kfj, kfk, kfl, cutCells, kfm, kfn, kfo, kfp, kfq, kfr, kfs, kft, kfu, kfv, kfw, kfx, kfy, Nat.reduceAdd, Nat.reduceLeDiff, Nat.reduceLT, Nat.reduceMul, Nat.reduceSub, kfz, kga, kgb, kgc, kgd, kge, kgf, kgg, kgh, kgi, kgj, kgk, kgl, kgm, kgn, kgo, kgp, kgq, kgr, kgs, kgt, kgu, kgv, kgw, kgx, kgy, kgz, kha, khb, khc, khd, hZ', hY']
  refine new_s ?_
  unfold rightN
  by_cases h1 : 1 ≤ w
  case neg =>
    have h1' : w < 1 := by omega
    simp only [h1, decide_false, Bool.false_and, Bool.false_eq_true, if_false]
    simp (disch := omega) only [kaa, kab, kac, kad, khm, khn, kho, khp, khq, khr, kae, kaf, kag, kah, kai, kaj, kak, kal, kam, kan, kao, khe, khf, khg, khh, khi, khj, khk, khl, kap, kaq, kar, kas, kat, kau, kav, kaw, kax, kay, kaz, kba, kbb, kbc, kbd, kbe, kbf, kbg, kbh, kbi, kbj, kbk, kbl, kbm, kbn, kbo, kbp, kbq, kbr, kbs, kbt, kbu, kbv, kbw, kbx, kby, kbz, kca, kcb, kcc, kcd, kce, kcf, kcg, kch, kci, kcj, kck, kcl, kcm, aop, kcn, kco, kcp, kcq, kcr, kcs, kct, kcu, kcv, kcw, resultsL, resultOf, kcx, Nat.reduceEqDiff, kcy, kcz, kda, reduceCtorEq, kdb, kdc, kdd, kde, kdf, kdg, kdh, kdi, kdj, kdk, kdl, kdm, kdn, kdo, eq1, kdp, kdq, kdr, kds, kdt, kdu, kdv, kdw, kdx, kdy, kdz, kea, keb, kec, apartOK, apart2, AObj.live, ked, kee, kef, keg, keh, kei, kej, kek, kel, Int.reduceEq, Int.reduceLT, Int.reduceLE, Int.reduceAdd, Int.reduceSub, Int.reduceMul, Int.reduceToNat, kem, ken, keo, kep, keq, ker, kes, ket, keu, kev, kew, kex, key, kez, kfa, kfb, kfc, kfd, kfe, kff, kfg, kfh, kfi, kfj, kfk, kfl, cutCells, kfm, kfn, kfo, kfp, kfq, kfr, kfs, kft, kfu, kfv, kfw, kfx, kfy, Nat.reduceAdd, Nat.reduceLeDiff, Nat.reduceLT, Nat.reduceMul, Nat.reduceSub, kfz, kga, kgb, kgc, kgd, kge, kgf, kgg, kgh, kgi, kgj, kgk, kgl, kgm, kgn, kgo, kgp, kgq, kgr, kgs, kgt, kgu, kgv, kgw, kgx, kgy, kgz, kha, khb, khc, khd, h1', eqP_nn, hZ', hY']
  by_cases h2 : w ≤ 128
  case neg =>
    have h1' : ¬ w < 1 := by omega
    have h2' : 128 < w := by omega
    simp only [h1, h2, decide_true, decide_false, Bool.and_false, Bool.false_and, Bool.false_eq_true, if_false]
    simp (disch := omega) only [kaa, kab, kac, kad, khm, khn, kho, khp, khq, khr, kae, kaf, kag, kah, kai, kaj, kak, kal, kam, kan, kao, khe, khf, khg, khh, khi, khj, khk, khl, kap, kaq, kar, kas, kat, kau, kav, kaw, kax, kay, kaz, kba, kbb, kbc, kbd, kbe, kbf, kbg, kbh, kbi, kbj, kbk, kbl, kbm, kbn, kbo, kbp, kbq, kbr, kbs, kbt, kbu, kbv, kbw, kbx, kby, kbz, kca, kcb, kcc, kcd, kce, kcf, kcg, kch, kci, kcj, kck, kcl, kcm, aop, kcn, kco, kcp, kcq, kcr, kcs, kct, kcu, kcv, kcw, resultsL, resultOf, kcx, Nat.reduceEqDiff, kcy, kcz, kda, reduceCtorEq, kdb, kdc, kdd, kde, kdf, kdg, kdh, kdi, kdj, kdk, kdl, kdm, kdn, kdo, eq1, kdp, kdq, kdr, kds, kdt, kdu, kdv, kdw, kdx, kdy, kdz, kea, keb, kec, apartOK, apart2, AObj.live, ked, kee, kef, keg, keh, kei, kej, kek, kel, Int.reduceEq, Int.reduceLT, Int.reduceLE, Int.reduceAdd, Int.reduceSub, Int.reduceMul, Int.reduceToNat, kem, ken, keo, kep, keq, ker, kes, ket, keu, kev, kew, kex, key, kez, kfa, kfb, kfc, kfd, kfe, kff, kfg, kfh, kfi, kfj, kfk, kfl, cutCells, kfm, kfn, kfo, kfp, kfq, kfr, kfs, kft, kfu, kfv, kfw, kfx, kfy, Nat.reduceAdd, Nat.reduceLeDiff, Nat.reduceLT, Nat.reduceMul, Nat.reduceSub, kfz, kga, kgb, kgc, kgd, kge, kgf, kgg, kgh, kgi, kgj, kgk, kgl, kgm, kgn, kgo, kgp, kgq, kgr, kgs, kgt, kgu, kgv, kgw, kgx, kgy, kgz, kha, khb, khc, khd, h1', h2', eqP_nn, hZ', hY']
  obtain ⟨n, rfl⟩ : ∃ n : Nat, w = n := ⟨w.toNat, by omega⟩
  have n1 : 1 ≤ n := by omega
  have n2 : n ≤ 128 := by omega
  have l1 : (1 : Int) ≤ 4096 := by decide
  have l2 : (4096 : Int) ≤ 4096 := by decide
  simp only [h1, h2, l1, l2, decide_true, Bool.and_self, if_true]
  simp (disch := omega) only [kaa, kab, kac, kad, khm, khn, kho, khp, khq, khr, kae, kaf, kag, kah, kai, kaj, kak, kal, kam, kan, kao, khe, khf, khg, khh, khi, khj, khk, khl, kap, kaq, kar, kas, kat, kau, kav, kaw, kax, kay, kaz, kba, kbb, kbc, kbd, kbe, kbf, kbg, kbh, kbi, kbj, kbk, kbl, kbm, kbn, kbo, kbp, kbq, kbr, kbs, kbt, kbu, kbv, kbw, kbx, kby, kbz, kca, kcb, kcc, kcd, kce, kcf, kcg, kch, kci, kcj, kck, kcl, kcm, aop, kcn, kco, kcp, kcq, kcr, kcs, kct, kcu, kcv, kcw, resultsL, resultOf, kcx, Nat.reduceEqDiff, kcy, kcz, kda, reduceCtorEq, kdb, kdc, kdd, kde, kdf, kdg, kdh, kdi, kdj, kdk, kdl, kdm, kdn, kdo, eq1, kdp, kdq, kdr, kds, kdt, kdu, kdv, kdw, kdx, kdy, kdz, kea, keb, kec, apartOK, apart2, AObj.live, ked, kee, kef, keg, keh, kei, kej, kek, kel, Int.reduceEq, Int.reduceLT, Int.reduceLE, Int.reduceAdd, Int.reduceSub, Int.reduceMul, Int.reduceToNat, kem, ken, keo, kep, keq, ker, kes, ket, keu, kev, kew, kex, key, kez, kfa, kfb, kfc, kfd, kfe, kff, kfg, kfh, kfi, kfj, kfk, kfl, cutCells, kfm, kfn, kfo, kfp, kfq, kfr, kfs, kft, kfu, kfv, kfw, kfx, kfy, Nat.reduceAdd, Nat.reduceLeDiff, Nat.reduceLT, Nat.reduceMul, Nat.reduceSub, kfz, kga, kgb, kgc, kgd, kge, kgf, kgg, kgh, kgi, kgj, kgk, kgl, kgm, kgn, kgo, kgp, kgq, kgr, kgs, kgt, kgu, kgv, kgw, kgx, kgy, kgz, kha, khb, khc, khd, eqP_sn, hZ', hY']
  have hL : LU (H ++ [.row [.int .i64 (n : Int)] 0 true, .row (opC o) 0 true, .row [.bool false] 0 true, AObj.row [.int .i64 (n : Int), .int .i64 4096, .int .i64 0, .pointer none] 0 true, .row [.pointer (some ⟨H.length + 3, 0, none⟩)] 0 true]) H.length n ad ops o .nil [] := by
    refine ⟨⟨by rw [hget_base]; rfl, by simp [Tr.blocks], trivial, trivial, by simp [Tr.blocks]⟩, fun c hc => by simp [Tr.blocks] at hc, trivial, List.Perm.refl _, by simp [Tr.er, PT.nodes], by rw [hget_base0]; rfl, by rw [hget_base]; rfl, by rw [hget_base]; rfl, by rw [hget_base]; rfl, fun q => ?_⟩
    obtain ⟨bl, wr, q1, q2, q3⟩ := hsl q
    exact ⟨bl, wr, q1, q2, by rw [hget_old q2]; exact q3⟩
  refine hloop n1 n2 (fun e K t M q1 q2 q4 => ?_) ⟨0, .nil, [], by omega, by omega, rfl, by simp, hL, ?_⟩
  · simp only [blockK_exit, if_true]
    simp (disch := omega) only [kaa, kab, kac, kad, khm, khn, kho, khp, khq, khr, kae, kaf, kag, kah, kai, kaj, kak, kal, kam, kan, kao, khe, khf, khg, khh, khi, khj, khk, khl, kap, kaq, kar, kas, kat, kau, kav, kaw, kax, kay, kaz, kba, kbb, kbc, kbd, kbe, kbf, kbg, kbh, kbi, kbj, kbk, kbl, kbm, kbn, kbo, kbp, kbq, kbr, kbs, kbt, kbu, kbv, kbw, kbx, kby, kbz, kca, kcb, kcc, kcd, kce, kcf, kcg, kch, kci, kcj, kck, kcl, kcm, aop, kcn, kco, kcp, kcq, kcr, kcs, kct, kcu, kcv, kcw, resultsL, resultOf, kcx, Nat.reduceEqDiff, kcy, kcz, kda, reduceCtorEq, kdb, kdc, kdd, kde, kdf, kdg, kdh, kdi, kdj, kdk, kdl, kdm, kdn, kdo, eq1, kdp, kdq, kdr, kds, kdt, kdu, kdv, kdw, kdx, kdy, kdz, kea, keb, kec, apartOK, apart2, AObj.live, ked, kee, kef, keg, keh, kei, kej, kek, kel, Int.reduceEq, Int.reduceLT, Int.reduceLE, Int.reduceAdd, Int.reduceSub, Int.reduceMul, Int.reduceToNat, kem, ken, keo, kep, keq, ker, kes, ket, keu, kev, kew, kex, key, kez, kfa, kfb, kfc, kfd, kfe, kff, kfg, kfh, kfi, kfj, kfk, kfl, cutCells, kfm, kfn, kfo, kfp, kfq, kfr, kfs, kft, kfu, kfv, kfw, kfx, kfy, Nat.reduceAdd, Nat.reduceLeDiff, Nat.reduceLT, Nat.reduceMul, Nat.reduceSub, kfz, kga, kgb, kgc, kgd, kge, kgf, kgg, kgh, kgi, kgj, kgk, kgl, kgm, kgn, kgo, kgp, kgq, kgr, kgs, kgt, kgu, kgv, kgw, kgx, kgy, kgz, kha, khb, khc, khd, hZ']
    exact hrest n1 n2 q1 q2 q4
  · exact ex_env rfl

end Go.Proofs.Yticgkaanaimllaa.Ev

/- A law's arguments as its row reads them: rows of cells that nothing writes, and what stands in them. Conditions: none. -/
namespace Go.Proofs.Yticgkaanaimllaa.Ev
open Go.RowKit Go.ChangeShapes Go.WideShapes

/-- What data stands in some cells. -/
inductive Rep (P : Program) (H : Heap) {X : Type} : TypeId → DataW X → List Value → Prop where
  | bool {t : TypeId} (b : Bool) (hu : P.underlying t = some .bool) : Rep P H t (.lit (.bool b)) [.bool b]
  | int {t : TypeId} (k : IntKind) (n : Int) (hu : P.underlying t = some (.int k)) (hw : (Lit.int k n).wf = true) : Rep P H t (.lit (.int k n)) [.int k n]
  | str {t : TypeId} (l : List UInt8) (hu : P.underlying t = some .string) (hl : l.length ≤ maxLen) : Rep P H t (.lit (.string l)) [.string (bs l)]
  | struct {t : TypeId} {fs : Array Field} {ds : List (DataW X)} {ass : List (List Value)} (hu : P.underlying t = some (.struct fs)) (h1 : ds.length = fs.size) (h2 : ass.length = fs.size)
      (h : ∀ (i : Nat) (f : Field) (d : DataW X) (cz : List Value), fs[i]? = some f → ds[i]? = some d → ass[i]? = some cz → Rep P H f.type d cz)
      (hl : ∀ (i : Nat) (f : Field) (cz : List Value), fs[i]? = some f → ass[i]? = some cz → cz.length = P.cellsOf f.type) : Rep P H t (.agg ds) ass.flatten
  | nilS {t e : TypeId} (hu : P.underlying t = some (.slice e)) : Rep P H t .nil [.slice none 0 0]
  | empty {t e : TypeId} {sp : List (DataW X)} (hu : P.underlying t = some (.slice e)) : Rep P H t (.slice [] sp) [.slice (some ⟨0, 0, some 0⟩) 0 0]
  | slice {t e : TypeId} {b : Nat} {ds sp : List (DataW X)} {ass : List (List Value)} (hu : P.underlying t = some (.slice e)) (hne : ds ≠ []) (hb : hget H b = .row ass.flatten 0 false) (h2 : ass.length = ds.length)
      (h : ∀ (i : Nat) (d : DataW X) (cz : List Value), ds[i]? = some d → ass[i]? = some cz → Rep P H e d cz)
      (hl : ∀ (i : Nat) (cz : List Value), ass[i]? = some cz → cz.length = P.cellsOf e) : Rep P H t (.slice ds sp) [.slice (some ⟨b, 0, none⟩) ds.length ds.length]

theorem Rep.mono {P : Program} {H g : Heap} {X : Type} {t : TypeId} {d : DataW X} {cz : List Value} (h : Rep P H t d cz) : Rep P (H ++ g) t d cz := by
  induction h with
  | bool b hu => exact .bool b hu
  | int k n hu hw => exact .int k n hu hw
  | str l hu hl => exact .str l hu hl
  | struct hu h1 h2 h hl ih => exact .struct hu h1 h2 ih hl
  | nilS hu => exact .nilS hu
  | empty hu => exact .empty hu
  | slice hu hne hb h2 h hl ih => exact .slice hu hne (by rw [hget_old (hget_lt hb rfl)]; exact hb) h2 ih hl

/-- A set of types of plain data: numbers, texts, structs and lists of them. -/
def plainSet (P : Program) (L : List TypeId) : Bool := L.all fun t => decide (t < P.types.size) && match P.underlying t with
  | some .bool | some (.int _) | some .string => true
  | some (.struct fs) => fs.toList.all fun f => L.contains f.type
  | some (.slice e) => L.contains e && decide (0 < P.cellsOf e)
  | _ => false

def chunks : List Nat → List Value → List (List Value)
  | [], _ => []
  | n :: ns, cs => cs.take n :: chunks ns (cs.drop n)

theorem chunks_flat : ∀ (ns : List Nat) (cs : List Value), cs.length = ns.sum → (chunks ns cs).flatten = cs
  | [], cs, h => by simp at h; simp [chunks, h]
  | n :: ns, cs, h => by
    rw [chunks, List.flatten_cons, chunks_flat ns _ (by simp at h ⊢; omega), List.take_append_drop]

theorem chunks_len : ∀ (ns : List Nat) (cs : List Value), (chunks ns cs).length = ns.length
  | [], _ => rfl
  | n :: ns, cs => by rw [chunks, List.length_cons, List.length_cons, chunks_len ns]

theorem chunks_get : ∀ (ns : List Nat) (cs : List Value) (j n : Nat), ns[j]? = some n → (chunks ns cs)[j]? = some ((cs.drop (ns.take j).sum).take n)
  | [], _, j, n, h => by simp at h
  | m :: ns, cs, 0, n, h => by simp at h; simp [chunks, h]
  | m :: ns, cs, j + 1, n, h => by
    have h' : ns[j]? = some n := by simpa using h
    have := chunks_get ns (cs.drop m) j n h'
    simp only [chunks, List.getElem?_cons_succ, List.take_succ_cons, List.sum_cons]
    rw [this, List.drop_drop]

theorem VL.flat {n : Nat} {ρ : Nat → Place} : ∀ (xss yss : List (List Value)), xss.length = yss.length → (∀ (i : Nat) (xs ys : List Value), xss[i]? = some xs → yss[i]? = some ys → VL n ρ xs ys) → VL n ρ xss.flatten yss.flatten
  | [], [], _, _ => VL.nil
  | [], _ :: _, h, _ => by simp at h
  | _ :: _, [], h, _ => by simp at h
  | xs :: xss, ys :: yss, h, hh => by
    rw [List.flatten_cons, List.flatten_cons]
    exact (hh 0 xs ys rfl rfl).append (VL.flat xss yss (by simpa using h) fun i a b ha hb => hh (i + 1) a b (by simpa using ha) (by simpa using hb))

section
variable {X : Type} {enc : TypeId × Value → X} {P : Program} {G : Nat} {W : World} {base : Nat} {sp : Nat → Bool} {held : Bool} {L : List TypeId}

/-- Some cells can be told in a heap of the evaluator's. -/
def Opens (P : Program) (G : Nat) (W : World) (t : TypeId) (cs : List Value) (d : DataW X) : Prop :=
  ∀ (H : Heap) (ρ : Nat → Place), (∀ o ∈ H, o.wrt = false) → Rel G ρ H W → ∃ (g : Heap) (ρ' : Nat → Place) (cz : List Value), Rel G ρ' (H ++ g) W ∧ (∀ b, b < H.length → ρ' b = ρ b) ∧ (∀ o ∈ g, ∃ c, o = .row c 0 false) ∧ VL (H ++ g).length ρ' cz cs ∧ Rep P (H ++ g) t d cz

theorem ro_app {H g : Heap} (h : ∀ o ∈ H, o.wrt = false) (hg : ∀ o ∈ g, ∃ c, o = .row c 0 false) : ∀ o ∈ H ++ g, o.wrt = false := fun o ho => by
  rcases List.mem_append.1 ho with ho | ho
  · exact h o ho
  · obtain ⟨c, rfl⟩ := hg o ho; rfl

theorem opens_list : ∀ (l : List (TypeId × List Value × DataW X)), (∀ q ∈ l, Opens P G W q.1 q.2.1 q.2.2) → ∀ (H : Heap) (ρ : Nat → Place), (∀ o ∈ H, o.wrt = false) → Rel G ρ H W →
    ∃ (g : Heap) (ρ' : Nat → Place) (ass : List (List Value)), Rel G ρ' (H ++ g) W ∧ (∀ b, b < H.length → ρ' b = ρ b) ∧ (∀ o ∈ g, ∃ c, o = .row c 0 false) ∧ ass.length = l.length ∧
      ∀ (i : Nat) (q : TypeId × List Value × DataW X) (cz : List Value), l[i]? = some q → ass[i]? = some cz → VL (H ++ g).length ρ' cz q.2.1 ∧ Rep P (H ++ g) q.1 q.2.2 cz
  | [], _, H, ρ, _, hr => ⟨[], ρ, [], by simpa using hr, fun _ _ => rfl, fun o ho => (by cases ho), rfl, fun i q cz h => by simp at h⟩
  | q :: l, h, H, ρ, hro, hr => by
    obtain ⟨g, ρ1, cz, hr1, hs1, hg1, hv1, hp1⟩ := h q (by simp) H ρ hro hr
    obtain ⟨g2, ρ2, ass, hr2, hs2, hg2, hl2, hh⟩ := opens_list l (fun q hq => h q (by simp [hq])) (H ++ g) ρ1 (ro_app hro hg1) hr1
    rw [List.append_assoc] at hr2 hh
    refine ⟨g ++ g2, ρ2, cz :: ass, hr2, fun b hb => (hs2 b (by simp; omega)).trans (hs1 b hb), fun o ho => ?_, by simp [hl2], fun i q' cz' hq has => ?_⟩
    · rcases List.mem_append.1 ho with ho | ho
      · exact hg1 o ho
      · exact hg2 o ho
    · cases i with
      | zero =>
        simp at hq has
        subst hq; subst has
        refine ⟨hv1.mono (by simp) hs2, ?_⟩
        rw [← List.append_assoc]
        exact hp1.mono
      | succ i => exact hh i q' cz' (by simpa using hq) (by simpa using has)

theorem mem_plain (hP : plainSet P L = true) {t : TypeId} (ht : L.contains t = true) : (decide (t < P.types.size) && (match P.underlying t with
    | some .bool | some (.int _) | some .string => true
    | some (.struct fs) => fs.toList.all fun f => L.contains f.type
    | some (.slice e) => L.contains e && decide (0 < P.cellsOf e)
    | _ => false)) = true := by
  unfold plainSet at hP
  exact List.all_eq_true.1 hP t (List.contains_iff_mem.1 ht)

theorem flat_get {c : Nat} (hc : 0 < c) : ∀ (css : List (List Value)) (k j : Nat) (cs : List Value), (∀ (i : Nat) (cz : List Value), css[i]? = some cz → cz.length = c) → css[k]? = some cs → j < c → css.flatten[k * c + j]? = cs[j]?
  | [], k, j, cs, _, h, _ => by simp at h
  | a :: css, 0, j, cs, hl, h, hj => by
    have h1 := hl 0 a rfl
    simp at h
    subst h
    rw [List.flatten_cons, Nat.zero_mul, Nat.zero_add, List.getElem?_append_left (by omega)]
  | a :: css, k + 1, j, cs, hl, h, hj => by
    have h1 := hl 0 a rfl
    have := flat_get hc css k j cs (fun i cz hi => hl (i + 1) cz (by simpa using hi)) (by simpa using h) hj
    rw [List.flatten_cons, List.getElem?_append_right (by rw [h1, Nat.add_mul]; omega), h1, show (k + 1) * c + j - c = k * c + j by rw [Nat.add_mul]; omega]
    exact this

theorem flat_len {c : Nat} : ∀ (css : List (List Value)), (∀ (i : Nat) (cz : List Value), css[i]? = some cz → cz.length = c) → css.flatten.length = css.length * c
  | [], _ => by simp
  | a :: css, hl => by
    rw [List.flatten_cons, List.length_append, hl 0 a rfl, flat_len css (fun i cz hi => hl (i + 1) cz (by simpa using hi)), List.length_cons, Nat.add_mul]
    omega

/-- A row that nothing writes, new in the evaluator's heap. -/
theorem rel_row {H : Heap} {ρ : Nat → Place} (hro : ∀ o ∈ H, o.wrt = false) (hr : Rel G ρ H W) {a : Addr} {cs : List Value} {cells : Array Value} {t : TypeId} {fr : Nat × Nat} {ext0 : Nat} (hh : W.heap[a.block]? = some (.cells cells t fr))
    (hc : ∀ (i : Nat) (v : Value), cs[i]? = some v → ∃ v', cells[a.off + i]? = some v' ∧ VR H.length ρ v v') : Rel G (ext ρ H.length ⟨a.block, a.off, ext0⟩) (H ++ [.row cs 0 false]) W := by
  have cases_ : ∀ b u, (H ++ [AObj.row cs 0 false])[b]? = some u → (b < H.length ∧ H[b]? = some u) ∨ (b = H.length ∧ u = .row cs 0 false) := fun b u h => by
    by_cases hb : b < H.length
    · rw [List.getElem?_append_left hb] at h; exact .inl ⟨hb, h⟩
    · rw [List.getElem?_append_right (by omega)] at h
      obtain ⟨h1, h2⟩ := List.getElem?_eq_some_iff.1 h
      simp at h1
      have : b = H.length := by omega
      subst this
      simp at h2
      exact .inr ⟨rfl, h2.symm⟩
  have hlen : (H ++ [AObj.row cs 0 false]).length = H.length + 1 := by simp
  refine ⟨fun b u hu => ?_, fun b c u v hu hv hne hw hl => ?_, fun g hg => ?_, by rw [hlen]; have := hr.many; omega⟩
  · rcases cases_ b u hu with ⟨hb, hu⟩ | ⟨rfl, rfl⟩
    · exact (hr.obj b u hu).mono (by omega) (ext_lt hb) (fun c hc => ext_lt hc) (fun _ => rfl)
    · rw [OR, ext_same]
      refine ⟨cells, t, fr, hh, fun i v hi => ?_, fun h => by cases h⟩
      obtain ⟨v', h1, h2⟩ := hc i v hi
      exact ⟨v', h1, h2.mono (by omega) fun b hb => ext_lt hb⟩
  · rcases cases_ b u hu with ⟨hb, hu2⟩ | ⟨rfl, rfl⟩
    · rw [hro u (List.mem_of_getElem? hu2)] at hw
      cases hw
    · cases hw
  · rw [ext_lt (Nat.lt_of_lt_of_le hg hr.many)]; exact hr.glob g hg

theorem opens_trod (hl : laidOutB P = true) (hm : mapsRowed P = true) (hP : plainSet P L = true) : ∀ (n : Nat) (t : TypeId) (cs : List Value) (x : DataW X × List MemPlace), L.contains t = true →
    DataW.trod enc P W base (fun _ => true) held n t cs = some x → Opens P G W t cs x.1 := by
  intro n
  induction n with
  | zero => intro t cs x _ h; simp [DataW.trod] at h
  | succ n ih =>
    intro t cs x ht h
    have hk := mem_plain hP ht
    simp only [Bool.and_eq_true, decide_eq_true_eq] at hk
    obtain ⟨htp, hk⟩ := hk
    have K := kids_rows hl hm
    intro H ρ hro hr
    split at hk
    · rename_i hu
      obtain ⟨b, rfl, rfl⟩ := DataW.trod_bool hu h
      exact ⟨[], ρ, [.bool b], by simpa using hr, fun _ _ => rfl, fun o ho => (by cases ho), VL.cons (.bool b) VL.nil, .bool b hu⟩
    · rename_i k hu
      obtain ⟨m, rfl, rfl, hw⟩ := DataW.trod_int hu h
      exact ⟨[], ρ, [.int k m], by simpa using hr, fun _ _ => rfl, fun o ho => (by cases ho), VL.cons (.int k m) VL.nil, .int k m hu hw⟩
    · rename_i hu
      obtain ⟨s, rfl, rfl, hs⟩ := DataW.trod_string hu h
      exact ⟨[], ρ, [.string s], by simpa using hr, fun _ _ => rfl, fun o ho => (by cases ho), VL.cons (.string s) VL.nil, .str s.data.toList hu (by simpa using hs)⟩
    · rename_i fs hu
      obtain ⟨xs, m, hm1, rfl, hlen, hxl, hf⟩ := DataW.trod_struct hu h
      cases hm1
      obtain ⟨_, hsum, hoff⟩ := K.struct htp hu
      -- the fields, one by one
      have hget : ∀ (i : Nat) (f : Field) (y : DataW X × List MemPlace), fs[i]? = some f → xs[i]? = some y → DataW.trod enc P W base (fun _ => true) held n f.type ((cs.drop f.offset).take (P.cellsOf f.type)) = some y := fun i f y hfi hy => by
        rw [hf i f hfi, hy]
      let l : List (TypeId × List Value × DataW X) := (List.range fs.size).map fun i => ((fs[i]?.map (·.type)).getD 0, ((chunks (fs.toList.map fun f => P.cellsOf f.type) cs)[i]?).getD [], (xs[i]?.map (·.1)).getD .nil)
      have hl1 : ∀ i, i < fs.size → ∃ f y, fs[i]? = some f ∧ xs[i]? = some y ∧ l[i]? = some (f.type, (cs.drop f.offset).take (P.cellsOf f.type), y.1) := fun i hi => by
        have e1 : fs[i]? = some fs[i] := Array.getElem?_eq_getElem hi
        have e2 : xs[i]? = some (xs[i]'(by omega)) := List.getElem?_eq_getElem (by omega)
        refine ⟨_, _, e1, e2, ?_⟩
        have e3 : fs.toList[i]? = some fs[i] := by rw [Array.getElem?_toList]; exact e1
        have e4 := chunks_get (fs.toList.map fun f => P.cellsOf f.type) cs i (P.cellsOf fs[i].type) (by simp [hi])
        have e5 := hoff i _ e3
        rw [List.map_take] at e5
        rw [← e5] at e4
        simp only [l, List.getElem?_map, List.getElem?_range hi, Option.map_some, e1, e2, e4, Option.getD_some]
      have hlL : l.length = fs.size := by simp [l]
      obtain ⟨g, ρ', ass, hr', hs', hg', hal, hh⟩ := opens_list l (fun q hq => by
        obtain ⟨i, hi⟩ := List.getElem?_of_mem hq
        have hi2 : i < fs.size := by rw [← hlL]; exact (List.getElem?_eq_some_iff.1 hi).1
        obtain ⟨f, y, h1, h2, h3⟩ := hl1 i hi2
        rw [hi] at h3
        cases h3
        refine ih f.type _ y ?_ (hget i f y h1 h2)
        have hmem : f ∈ fs.toList := by
          have : fs.toList[i]? = some f := by simpa using h1
          exact List.mem_of_getElem? this
        exact List.all_eq_true.1 hk f hmem) H ρ hro hr
      refine ⟨g, ρ', ass.flatten, hr', hs', hg', ?_, ?_⟩
      · have hflat := chunks_flat (fs.toList.map fun f => P.cellsOf f.type) cs (by rw [hlen, hsum])
        rw [← hflat]
        refine VL.flat _ _ (by rw [hal, hlL, chunks_len]; simp) fun i a b ha hb => ?_
        have hi : i < fs.size := by rw [← hlL, ← hal]; exact (List.getElem?_eq_some_iff.1 ha).1
        obtain ⟨f, y, h1, h2, h3⟩ := hl1 i hi
        have e4 := chunks_get (fs.toList.map fun f => P.cellsOf f.type) cs i (P.cellsOf f.type) (by
          have : fs.toList[i]? = some f := by simpa using h1
          simp [this])
        have e5 := hoff i f (by simpa using h1)
        rw [List.map_take] at e5
        rw [← e5] at e4
        rw [hb] at e4
        cases e4
        exact (hh i _ a h3 ha).1
      · refine .struct hu (by simpa using hxl) (by rw [hal, hlL]) (fun i f d cz hfi hd ha => ?_) (fun i f cz hfi ha => ?_)
        · have hi : i < fs.size := (Array.getElem?_eq_some_iff.1 hfi).1
          obtain ⟨f', y, h1, h2, h3⟩ := hl1 i hi
          rw [hfi] at h1
          cases h1
          rw [List.getElem?_map, h2] at hd
          cases hd
          exact (hh i _ cz h3 ha).2
        · have hi : i < fs.size := (Array.getElem?_eq_some_iff.1 hfi).1
          obtain ⟨f', y, h1, h2, h3⟩ := hl1 i hi
          rw [hfi] at h1
          cases h1
          have := (hh i _ cz h3 ha).1.1
          rw [this]
          have e5 := hoff i f (by simpa using hfi)
          have hle : f.offset + P.cellsOf f.type ≤ cs.length := by
            rw [hlen, hsum, e5]
            have : fs.toList[i]? = some f := by simpa using hfi
            obtain ⟨h7, h8⟩ := List.getElem?_eq_some_iff.1 this
            have e6 : fs.toList = fs.toList.take i ++ f :: fs.toList.drop (i + 1) := by
              rw [← h8, ← List.drop_eq_getElem_cons h7, List.take_append_drop]
            conv => rhs; rw [e6]
            rw [List.map_append, List.sum_append, List.map_cons, List.sum_cons]
            omega
          rw [List.length_take, List.length_drop]
          omega
    · rename_i e hu
      simp only [Bool.and_eq_true, decide_eq_true_eq] at hk
      rcases DataW.trod_slice hu h with ⟨rfl, rfl⟩ | ⟨a, len, cap, elems, rest, m, hm1, rfl, rfl, hbase, hlc, hcm, hel, hge, _, _⟩
      · exact ⟨[], ρ, [.slice none 0 0], by simpa using hr, fun _ _ => rfl, fun o ho => (by cases ho), VL.cons .slNil VL.nil, .nilS hu⟩
      cases hm1
      by_cases h0 : elems = []
      · subst h0
        obtain rfl : len = 0 := by simpa using hel.symm
        exact ⟨[], ρ, [.slice (some ⟨0, 0, some 0⟩) 0 0], by simpa using hr, fun _ _ => rfl, fun o ho => (by cases ho), VL.cons (.slE 0 0 0 a cap) VL.nil, .empty hu⟩
      have hlen0 : 0 < len := by rw [← hel]; exact List.length_pos_iff.2 h0
      have hcell : ∀ i, i < len → ∃ csi y, W.cells? base (a.add (i * P.cellsOf e)) (P.cellsOf e) = some csi ∧ elems[i]? = some y ∧ DataW.trod enc P W base (fun _ => true) held n e csi = some y := fun i hi => by
        have h1 := hge i hi
        have h2 : elems[i]? = some (elems[i]'(by omega)) := List.getElem?_eq_getElem (by omega)
        rw [h2] at h1
        obtain ⟨csi, h3, h4⟩ := Option.bind_eq_some_iff.1 h1
        exact ⟨csi, _, h3, h2, h4⟩
      let css : List (List Value) := (List.range len).map fun i => (W.cells? base (a.add (i * P.cellsOf e)) (P.cellsOf e)).getD []
      have hcss : ∀ i, i < len → ∃ csi y, css[i]? = some csi ∧ W.cells? base (a.add (i * P.cellsOf e)) (P.cellsOf e) = some csi ∧ elems[i]? = some y ∧ DataW.trod enc P W base (fun _ => true) held n e csi = some y := fun i hi => by
        obtain ⟨csi, y, h1, h2, h3⟩ := hcell i hi
        exact ⟨csi, y, by simp [css, hi, h1], h1, h2, h3⟩
      have hcssL : css.length = len := by simp [css]
      let l : List (TypeId × List Value × DataW X) := (List.range len).map fun i => (e, (css[i]?).getD [], (elems[i]?.map (·.1)).getD .nil)
      have hl1 : ∀ i, i < len → ∃ csi y, css[i]? = some csi ∧ W.cells? base (a.add (i * P.cellsOf e)) (P.cellsOf e) = some csi ∧ elems[i]? = some y ∧ DataW.trod enc P W base (fun _ => true) held n e csi = some y ∧ l[i]? = some (e, csi, y.1) := fun i hi => by
        obtain ⟨csi, y, h1, h2, h3, h4⟩ := hcss i hi
        exact ⟨csi, y, h1, h2, h3, h4, by simp [l, hi, h1, h3]⟩
      have hlL : l.length = len := by simp [l]
      obtain ⟨g, ρ', ass, hr', hs', hg', hal, hh⟩ := opens_list l (fun q hq => by
        obtain ⟨i, hi⟩ := List.getElem?_of_mem hq
        have hi2 : i < len := by rw [← hlL]; exact (List.getElem?_eq_some_iff.1 hi).1
        obtain ⟨csi, y, h1, h2, h3, h4, h5⟩ := hl1 i hi2
        rw [hi] at h5
        cases h5
        exact ih e _ y hk.1 h4) H ρ hro hr
      have hasl : ∀ (i : Nat) (cz : List Value), ass[i]? = some cz → cz.length = P.cellsOf e := fun i cz ha => by
        have hi : i < len := by rw [← hlL, ← hal]; exact (List.getElem?_eq_some_iff.1 ha).1
        obtain ⟨csi, y, h1, h2, h3, h4, h5⟩ := hl1 i hi
        rw [(hh i _ cz h5 ha).1.1]
        exact (World.cells?_some h2).2.1
      -- the block itself
      obtain ⟨cs0, y0, g1, g2, _⟩ := hcell 0 hlen0
      obtain ⟨_, gl, gc⟩ := World.cells?_some g1
      have gc0 := gc 0 hk.2
      rw [Nat.zero_mul] at gc0
      have hadd : ∀ (k j : Nat), ((a.add k).add j) = if k + j = 0 then a else ⟨a.block, a.off + (k + j), none⟩ := fun k j => by
        unfold Addr.add
        by_cases hk0 : k = 0
        · subst hk0
          by_cases hj0 : j = 0
          · subst hj0; rfl
          · simp [hj0]
        · by_cases hj0 : j = 0
          · subst hj0; simp [hk0]
          · simp only [if_neg hk0, if_neg hj0, if_neg (show ¬ k + j = 0 by omega), Nat.add_assoc]
      have hblk : ∃ cells ty fr, W.heap[a.block]? = some (.cells cells ty fr) ∧ a.spot = none := by
        have h7 : W.cell? a = cs0[0]? := by simpa [hadd] using gc0
        have h8 : cs0[0]? = some (cs0[0]'(by omega)) := List.getElem?_eq_getElem (by omega)
        rw [h8] at h7
        unfold World.cell? at h7
        split at h7
        · rename_i c ty fr hc
          split at h7
          · cases h7
          · rename_i hsp
            exact ⟨c, ty, fr, hc, by simpa using hsp⟩
        · cases h7
      obtain ⟨cells, ty, fr, hh0, hsp⟩ := hblk
      have hcellat : ∀ (i : Nat) (v : Value), ass.flatten[i]? = some v → ∃ v', cells[a.off + i]? = some v' ∧ VR (H ++ g).length ρ' v v' := fun i v hv => by
        have hi : i < ass.flatten.length := (List.getElem?_eq_some_iff.1 hv).1
        rw [flat_len ass hasl, hal, hlL] at hi
        have hq : i / P.cellsOf e < len := (Nat.div_lt_iff_lt_mul hk.2).2 hi
        have hm2 : i % P.cellsOf e < P.cellsOf e := Nat.mod_lt _ hk.2
        have hid : i / P.cellsOf e * P.cellsOf e + i % P.cellsOf e = i := Nat.div_add_mod' i (P.cellsOf e)
        obtain ⟨csi, y, h1, h2, h3, h4, h5⟩ := hl1 _ hq
        have ha : ass[i / P.cellsOf e]? = some (ass[i / P.cellsOf e]'(by rw [hal, hlL]; exact hq)) := List.getElem?_eq_getElem _
        obtain ⟨hv1, _⟩ := hh _ _ _ h5 ha
        have hfg := flat_get hk.2 ass _ _ _ hasl ha hm2
        rw [hid, hv] at hfg
        obtain ⟨v', hv', hvr⟩ := hv1.get hfg.symm
        refine ⟨v', ?_, hvr⟩
        have h9 := (World.cells?_some h2).2.2 _ hm2
        rw [hadd, hid, hv'] at h9
        by_cases hi0 : i = 0
        · subst hi0
          simp only [if_true] at h9
          unfold World.cell? at h9
          rw [hh0, hsp] at h9
          simpa using h9
        · rw [if_neg hi0] at h9
          unfold World.cell? at h9
          simpa [hh0] using h9
      have hr2 := rel_row (a := a) (cs := ass.flatten) (ext0 := cap - len) (ro_app hro hg') hr' hh0 hcellat
      refine ⟨g ++ [.row ass.flatten 0 false], ext ρ' (H ++ g).length ⟨a.block, a.off, cap - len⟩, [.slice (some ⟨(H ++ g).length, 0, none⟩) len len], by rw [← List.append_assoc]; exact hr2, fun b hb => ?_, fun o ho => ?_, ?_, ?_⟩
      · rw [ext_lt (by rw [List.length_append]; omega)]; exact hs' b hb
      · rcases List.mem_append.1 ho with ho | ho
        · exact hg' o ho
        · rw [List.mem_singleton.1 ho]; exact ⟨_, rfl⟩
      · have := VR.sl (n := (H ++ (g ++ [AObj.row ass.flatten 0 false])).length) (ρ := ext ρ' (H ++ g).length ⟨a.block, a.off, cap - len⟩) (H ++ g).length 0 len len cap (by simp only [List.length_append, List.length_cons, List.length_nil]; omega) (Nat.le_refl _) hlc (by rw [ext_same]; show cap ≤ len + (cap - len); omega)
        rw [ext_same, Nat.add_zero] at this
        have ha2 : (⟨a.block, a.off, none⟩ : Addr) = a := by rw [← hsp]
        rw [ha2] at this
        exact VL.cons this VL.nil
      · have := Rep.slice (P := P) (H := H ++ (g ++ [AObj.row ass.flatten 0 false])) (t := t) (e := e) (b := (H ++ g).length) (ds := elems.map (·.1)) (sp := rest.map (·.1)) (ass := ass) hu (by simpa using h0) (by rw [← List.append_assoc]; exact hget_last _ _) (by rw [hal, hlL, List.length_map, hel])
          (fun i d cz hd ha => by
            have hi : i < len := by rw [← hlL, ← hal]; exact (List.getElem?_eq_some_iff.1 ha).1
            obtain ⟨csi, y, h1, h2, h3, h4, h5⟩ := hl1 i hi
            rw [List.getElem?_map, h3] at hd
            cases hd
            have := (hh i _ cz h5 ha).2
            rw [← List.append_assoc]
            exact this.mono) hasl
        rw [List.length_map, hel] at this
        exact this
    · cases hk

/-! ### The call's end -/

def slicesPos (P : Program) : Bool := (List.range P.types.size).all fun t => match P.underlying t with
  | some (.slice e) => decide (0 < P.cellsOf e)
  | _ => true

theorem args_stay {W' : World} (hl : laidOutB P = true) (hm : mapsRowed P = true) (hp : slicesPos P = true) (bel : Below W.heap.size W W') :
    ∀ {ts : List TypeId} {vs : List Value} {ds : List (DataW X)} {ps : List MemPlace}, (∀ t ∈ ts, t < P.types.size) → DataW.TrodAll enc P W 0 (fun _ => true) true ts vs ds ps →
      DataW.TrodAll enc P W' 0 (fun b => decide (b < W.heap.size)) true ts vs ds ps
  | [], vs, ds, ps, _, h => by
    obtain ⟨rfl, rfl, rfl⟩ := trodAll_nil h
    rfl
  | t :: ts, vs, ds, ps, ht, h => by
    obtain ⟨v, vs1, d, ds1, p, q, rfl, rfl, rfl, ⟨fuel, h1⟩, h2⟩ := trodAll_cons h
    have hlt := DataW.trod_lt fuel t v.cells.toList _ h1
    refine ⟨p, q, ⟨fuel, DataW.trod_stays (kids_rows hl hm) (fun {t e} htt hu => ?_) (fun h => by cases h) (ht t (by simp)) h1 (fun x hx => bel.same (hlt x hx)) (fun x hx => by simpa using hlt x hx)⟩, args_stay hl hm hp bel (fun u hu => ht u (by simp [hu])) h2, rfl⟩
    have := List.all_eq_true.1 hp t (List.mem_range.2 htt)
    simpa [hu] using this

/-! ### The call's arguments -/

/-- An argument tells some data. -/
def ArgRep (P : Program) (H : Heap) (t : TypeId) (d : DataW X) (a : Value) : Prop := ∃ cz, Rep P H t d cz ∧ (((∃ fs, P.underlying t = some (.struct fs)) ∧ a = .agg cz.toArray) ∨ cz = [a])

theorem ArgRep.mono {H g : Heap} {t : TypeId} {d : DataW X} {a : Value} (h : ArgRep P H t d a) : ArgRep P (H ++ g) t d a := by
  obtain ⟨cz, h1, h2⟩ := h
  exact ⟨cz, h1.mono, h2⟩

theorem vr_single {n : Nat} {ρ : Nat → Place} {a : Value} {v : Value} (h : VL n ρ [a] v.cells.toList) (hv : ∀ cs, v ≠ .agg cs) : VR n ρ a v := by
  have : v.cells.toList = [v] := by
    cases v <;> first | rfl | exact absurd rfl (hv _)
  rw [this] at h
  exact h.head

theorem open_args (hl : laidOutB P = true) (hm : mapsRowed P = true) (hP : plainSet P L = true) {r : Reach} {b0 : Nat} : ∀ {ts : List TypeId} {vs : List Value} {ds : List (DataW X)} {ps : List MemPlace},
    (∀ t ∈ ts, L.contains t = true) → DataW.TrodAll enc P W base (fun _ => true) held ts vs ds ps → (∀ (j : Nat) t v, ts[j]? = some t → vs[j]? = some v → Value.okWide P W r b0 t v) →
    ∀ (H : Heap) (ρ : Nat → Place), (∀ o ∈ H, o.wrt = false) → Rel G ρ H W → ∃ (g : Heap) (ρ' : Nat → Place) (avs : List Value), Rel G ρ' (H ++ g) W ∧ (∀ b, b < H.length → ρ' b = ρ b) ∧ (∀ o ∈ g, ∃ c, o = .row c 0 false) ∧
      VL (H ++ g).length ρ' avs vs ∧ avs.length = ts.length ∧ ∀ (j : Nat) t d a, ts[j]? = some t → ds[j]? = some d → avs[j]? = some a → ArgRep P (H ++ g) t d a
  | [], vs, ds, ps, _, h, _, H, ρ, hro, hr => by
    obtain ⟨rfl, rfl, rfl⟩ := trodAll_nil h
    exact ⟨[], ρ, [], by simpa using hr, fun _ _ => rfl, fun o ho => (by cases ho), VL.nil, rfl, fun j t d a h => by simp at h⟩
  | t :: ts, vs, ds, ps, hts, h, hok, H, ρ, hro, hr => by
    obtain ⟨v, vs1, d, ds1, p, q, rfl, rfl, rfl, ⟨fuel, h1⟩, h2⟩ := trodAll_cons h
    have htc := hts t (by simp)
    obtain ⟨g, ρ1, cz, hr1, hs1, hg1, hv1, hp1⟩ := opens_trod (G := G) hl hm hP fuel t _ _ htc h1 H ρ hro hr
    obtain ⟨g2, ρ2, avs, hr2, hs2, hg2, hv2, hl2, hh⟩ := open_args hl hm hP (fun u hu => hts u (by simp [hu])) h2 (fun j t v hj hv => hok (j + 1) t v (by simpa using hj) (by simpa using hv)) (H ++ g) ρ1 (ro_app hro hg1) hr1
    rw [List.append_assoc] at hr2 hh hv2
    have hval := hok 0 t v rfl rfl
    have hk := mem_plain hP htc
    simp only [Bool.and_eq_true, decide_eq_true_eq] at hk
    obtain ⟨_, hk⟩ := hk
    have single : (∀ cs, v ≠ .agg cs) → (∃ a, cz = [a]) → ∃ a, VR (H ++ g).length ρ1 a v ∧ ArgRep P (H ++ g) t d a := fun hna ⟨a, ha⟩ => by
      subst ha
      exact ⟨a, vr_single hv1 hna, [a], hp1, .inr rfl⟩
    have one : (∀ cs, v ≠ .agg cs) → ∃ a, cz = [a] := fun hna => by
      have : v.cells.toList = [v] := by
        cases v <;> first | rfl | exact absurd rfl (hna _)
      have h3 := hv1.1
      rw [this] at h3
      match cz, h3 with
      | [a], _ => exact ⟨a, rfl⟩
    have hex : ∃ a, VR (H ++ g).length ρ1 a v ∧ ArgRep P (H ++ g) t d a := by
      split at hk
      · rename_i hu
        obtain ⟨b, rfl⟩ := okWide_bool hu hval
        exact single (fun _ h => by cases h) (one fun _ h => by cases h)
      · rename_i k hu
        obtain ⟨b, rfl⟩ := okWide_int hu hval
        exact single (fun _ h => by cases h) (one fun _ h => by cases h)
      · rename_i hu
        obtain ⟨b, rfl⟩ := okWide_string hu hval
        exact single (fun _ h => by cases h) (one fun _ h => by cases h)
      · rename_i fs hu
        obtain ⟨cs, rfl, _⟩ := okWide_struct hu hval
        refine ⟨.agg cz.toArray, ?_, cz, hp1, .inl ⟨⟨fs, hu⟩, rfl⟩⟩
        have := hv1.agg
        simpa [Value.cells] using this
      · rename_i e hu
        obtain ⟨a, l, c, rfl⟩ := okWide_slice hu hval
        exact single (fun _ h => by cases h) (one fun _ h => by cases h)
      · cases hk
    obtain ⟨a, ha1, ha2⟩ := hex
    refine ⟨g ++ g2, ρ2, a :: avs, hr2, fun b hb => (hs2 b (by simp; omega)).trans (hs1 b hb), fun o ho => ?_, VL.cons (ha1.mono (by simp) hs2) hv2, by simp [hl2], fun j t' d' a' hj hd ha => ?_⟩
    · rcases List.mem_append.1 ho with ho | ho
      · exact hg1 o ho
      · exact hg2 o ho
    · cases j with
      | zero =>
        simp at hj hd ha
        subst hj; subst hd; subst ha
        rw [← List.append_assoc]
        exact ha2.mono
      | succ j => exact hh j t' d' a' (by simpa using hj) (by simpa using hd) (by simpa using ha)

/-! ### What an argument is -/

theorem Rep.inv_int {H : Heap} {t : TypeId} {k : IntKind} {d : DataW X} {cz : List Value} (hu : P.underlying t = some (.int k)) (h : Rep P H t d cz) : ∃ n, d = .lit (.int k n) ∧ cz = [.int k n] ∧ (Lit.int k n).wf = true := by
  cases h with
  | int k' n hu' hw => rw [hu] at hu'; cases hu'; exact ⟨n, rfl, rfl, hw⟩
  | bool b hu' => rw [hu] at hu'; cases hu'
  | str l hu' hl => rw [hu] at hu'; cases hu'
  | struct hu' => rw [hu] at hu'; cases hu'
  | nilS hu' => rw [hu] at hu'; cases hu'
  | empty hu' => rw [hu] at hu'; cases hu'
  | slice hu' => rw [hu] at hu'; cases hu'

theorem Rep.inv_bool {H : Heap} {t : TypeId} {d : DataW X} {cz : List Value} (hu : P.underlying t = some .bool) (h : Rep P H t d cz) : ∃ b, d = .lit (.bool b) ∧ cz = [.bool b] := by
  cases h with
  | int k' n hu' hw => rw [hu] at hu'; cases hu'
  | bool b hu' => exact ⟨b, rfl, rfl⟩
  | str l hu' hl => rw [hu] at hu'; cases hu'
  | struct hu' => rw [hu] at hu'; cases hu'
  | nilS hu' => rw [hu] at hu'; cases hu'
  | empty hu' => rw [hu] at hu'; cases hu'
  | slice hu' => rw [hu] at hu'; cases hu'

theorem Rep.inv_str {H : Heap} {t : TypeId} {d : DataW X} {cz : List Value} (hu : P.underlying t = some .string) (h : Rep P H t d cz) : ∃ l, d = .lit (.string l) ∧ cz = [.string (bs l)] ∧ l.length ≤ maxLen := by
  cases h with
  | int k' n hu' hw => rw [hu] at hu'; cases hu'
  | bool b hu' => rw [hu] at hu'; cases hu'
  | str l hu' hl => exact ⟨l, rfl, rfl, hl⟩
  | struct hu' => rw [hu] at hu'; cases hu'
  | nilS hu' => rw [hu] at hu'; cases hu'
  | empty hu' => rw [hu] at hu'; cases hu'
  | slice hu' => rw [hu] at hu'; cases hu'

theorem Rep.inv_struct {H : Heap} {t : TypeId} {fs : Array Field} {d : DataW X} {cz : List Value} (hu : P.underlying t = some (.struct fs)) (h : Rep P H t d cz) : ∃ (ds : List (DataW X)) (ass : List (List Value)), d = .agg ds ∧ cz = ass.flatten ∧ ds.length = fs.size ∧ ass.length = fs.size ∧
    ∀ (i : Nat) (f : Field) (d : DataW X) (cz : List Value), fs[i]? = some f → ds[i]? = some d → ass[i]? = some cz → Rep P H f.type d cz := by
  cases h with
  | int k' n hu' hw => rw [hu] at hu'; cases hu'
  | bool b hu' => rw [hu] at hu'; cases hu'
  | str l hu' hl => rw [hu] at hu'; cases hu'
  | struct hu' h1 h2 h3 h4 => rw [hu] at hu'; cases hu'; exact ⟨_, _, rfl, rfl, h1, h2, h3⟩
  | nilS hu' => rw [hu] at hu'; cases hu'
  | empty hu' => rw [hu] at hu'; cases hu'
  | slice hu' => rw [hu] at hu'; cases hu'

theorem Rep.inv_slice {H : Heap} {t e : TypeId} {d : DataW X} {cz : List Value} (hu : P.underlying t = some (.slice e)) (h : Rep P H t d cz) : (d = .nil ∧ cz = [.slice none 0 0]) ∨ (∃ sp, d = .slice [] sp ∧ cz = [.slice (some ⟨0, 0, some 0⟩) 0 0]) ∨
    ∃ (b : Nat) (ds sp : List (DataW X)) (ass : List (List Value)), d = .slice ds sp ∧ ds ≠ [] ∧ cz = [.slice (some ⟨b, 0, none⟩) ds.length ds.length] ∧ hget H b = .row ass.flatten 0 false ∧ ass.length = ds.length ∧
      (∀ (i : Nat) (d : DataW X) (cz : List Value), ds[i]? = some d → ass[i]? = some cz → Rep P H e d cz) ∧ (∀ (i : Nat) (cz : List Value), ass[i]? = some cz → cz.length = P.cellsOf e) := by
  cases h with
  | int k' n hu' hw => rw [hu] at hu'; cases hu'
  | bool b hu' => rw [hu] at hu'; cases hu'
  | str l hu' hl => rw [hu] at hu'; cases hu'
  | struct hu' => rw [hu] at hu'; cases hu'
  | nilS hu' => exact .inl ⟨rfl, rfl⟩
  | empty hu' => exact .inr (.inl ⟨_, rfl, rfl⟩)
  | slice hu' hne hb h2 h3 h4 => rw [hu] at hu'; cases hu'; exact .inr (.inr ⟨_, _, _, _, rfl, hne, rfl, hb, h2, h3, h4⟩)

/-- A struct of two fields. -/
theorem Rep.inv_two {H : Heap} {t : TypeId} {f0 f1 : Field} {d : DataW X} {cz : List Value} (hu : P.underlying t = some (.struct #[f0, f1])) (h : Rep P H t d cz) : ∃ d0 d1 a0 a1, d = .agg [d0, d1] ∧ cz = a0 ++ a1 ∧ Rep P H f0.type d0 a0 ∧ Rep P H f1.type d1 a1 := by
  obtain ⟨ds, ass, rfl, rfl, h1, h2, h3⟩ := h.inv_struct hu
  match ds, ass, h1, h2, h3 with
  | [d0, d1], [a0, a1], _, _, h3 => exact ⟨d0, d1, a0, a1, rfl, by simp, h3 0 f0 d0 a0 rfl rfl rfl, h3 1 f1 d1 a1 rfl rfl rfl⟩

/-- An unsigned number of 64 bits. -/
theorem Rep.inv_u64 {H : Heap} {t : TypeId} {d : DataW X} {cz : List Value} (hu : P.underlying t = some (.int .u64)) (h : Rep P H t d cz) : ∃ n : Nat, d = .lit (.int .u64 n) ∧ cz = [.int .u64 (n : Int)] ∧ n < 18446744073709551616 := by
  obtain ⟨n, rfl, rfl, hw⟩ := h.inv_int hu
  have hw : (0 : Int) ≤ n ∧ n ≤ 18446744073709551615 := by
    simpa [Lit.wf, IntKind.min, IntKind.max, IntKind.signed, IntKind.bits] using hw
  refine ⟨n.toNat, ?_, ?_, by omega⟩ <;> rw [Int.toNat_of_nonneg hw.1]

/-- A number of 64 bits. -/
theorem Rep.inv_i64 {H : Heap} {t : TypeId} {d : DataW X} {cz : List Value} (hu : P.underlying t = some (.int .i64)) (h : Rep P H t d cz) : ∃ n : Int, d = .lit (.int .i64 n) ∧ cz = [.int .i64 n] ∧ -9223372036854775808 ≤ n ∧ n < 9223372036854775808 := by
  obtain ⟨n, rfl, rfl, hw⟩ := h.inv_int hu
  have hw : (-9223372036854775808 : Int) ≤ n ∧ n ≤ 9223372036854775807 := by
    simpa [Lit.wf, IntKind.min, IntKind.max, IntKind.signed, IntKind.bits] using hw
  exact ⟨n, rfl, rfl, hw.1, by omega⟩

end

end Go.Proofs.Yticgkaanaimllaa.Ev

/- Arguments of the trie's laws as their rows read them: numbers, values of 128 bits, operations and lists of them. Conditions: none. -/
namespace Go.Proofs.Yticgkaanaimllaa.Ev
open Go.ChangeShapes Go.WideShapes Go.ChangeAt Go.RowKit

theorem own : ownKnob Try.prog.godebug = none := by kernel_rfl

theorem VL.narrow {n m : Nat} {ρ ρ' : Nat → Place} {xs ys : List Value} (h : VL m ρ' xs ys) (hs : ∀ x ∈ xs, Scoped n x) (he : ∀ b, b < n → ρ' b = ρ b) : VL n ρ xs ys :=
  ⟨h.1, fun i x y hx hy => ((h.2 i x y hx hy).narrow (hs x (List.mem_of_getElem? hx))).mono (Nat.le_refl _) fun b hb => (he b hb).symm⟩

theorem int_arg {P : Program} {H : Heap} {X : Type} {t : TypeId} {d : DataW X} {a : Value} (hu : P.underlying t = some (.int .i64)) (h : ArgRep P H t d a) : ∃ n : Int, d = .lit (.int .i64 n) ∧ a = .int .i64 n := by
  obtain ⟨cs, hr, hcase⟩ := h
  obtain ⟨n, rfl, rfl, _⟩ := hr.inv_i64 hu
  rcases hcase with ⟨⟨fs, hf⟩, _⟩ | h
  · rw [hu] at hf; cases hf
  · simp at h; exact ⟨n, rfl, h.symm⟩

theorem Rep.inv_four {P : Program} {X : Type} {H : Heap} {t : TypeId} {f0 f1 f2 f3 : Field} {d : DataW X} {cz : List Value} (hu : P.underlying t = some (.struct #[f0, f1, f2, f3])) (h : Rep P H t d cz) :
    ∃ d0 d1 d2 d3 a0 a1 a2 a3, d = .agg [d0, d1, d2, d3] ∧ cz = a0 ++ (a1 ++ (a2 ++ a3)) ∧ Rep P H f0.type d0 a0 ∧ Rep P H f1.type d1 a1 ∧ Rep P H f2.type d2 a2 ∧ Rep P H f3.type d3 a3 := by
  obtain ⟨ds, ass, rfl, rfl, h1, h2, h3⟩ := h.inv_struct hu
  match ds, ass, h1, h2, h3 with
  | [d0, d1, d2, d3], [a0, a1, a2, a3], _, _, h3 => exact ⟨d0, d1, d2, d3, a0, a1, a2, a3, rfl, by simp, h3 0 f0 d0 a0 rfl rfl rfl, h3 1 f1 d1 a1 rfl rfl rfl, h3 2 f2 d2 a2 rfl rfl rfl, h3 3 f3 d3 a3 rfl rfl rfl⟩

theorem halves {hi lo : Nat} (h1 : hi < 18446744073709551616) (h2 : lo < 18446744073709551616) : ∃ a, a < 2 ^ 128 ∧ a / W64 = hi ∧ a % W64 = lo := by
  refine ⟨hi * W64 + lo, ?_, ?_, ?_⟩ <;> unfold W64 <;> omega

theorem bits_rep {X : Type} {H : Heap} {d : DataW X} {cz : List Value} (h : Rep Try.prog H 25 d cz) : ∃ a, a < 2 ^ 128 ∧ cz = [.int .u64 ((a / W64 : Nat) : Int), .int .u64 ((a % W64 : Nat) : Int)] := by
  obtain ⟨e0, e1, b0, b1, rfl, rfl, s0, s1⟩ := h.inv_two Try.underlying25
  obtain ⟨x, rfl, rfl, hx⟩ := s0.inv_u64 Try.underlying23
  obtain ⟨y, rfl, rfl, hy⟩ := s1.inv_u64 Try.underlying23
  obtain ⟨a, h1, rfl, rfl⟩ := halves hx hy
  exact ⟨a, h1, rfl⟩

/-- An operation's cells. -/
theorem op_rep {X : Type} {H : Heap} {d : DataW X} {cz : List Value} (h : Rep Try.prog H 35 d cz) : ∃ o : Opr, cz = opC o ∧ o.a < 2 ^ 128 ∧ -9223372036854775808 ≤ o.n ∧ o.n < 9223372036854775808 ∧ -9223372036854775808 ≤ o.v ∧ o.v < 9223372036854775808 ∧ -9223372036854775808 ≤ o.k ∧ o.k < 9223372036854775808 := by
  obtain ⟨d0, d1, d2, d3, a0, a1, a2, a3, rfl, rfl, r0, r1, r2, r3⟩ := h.inv_four Try.underlying35
  obtain ⟨k, rfl, rfl, hk⟩ := r0.inv_i64 Try.underlying3
  obtain ⟨a, ha, rfl⟩ := bits_rep r1
  obtain ⟨n, rfl, rfl, hn⟩ := r2.inv_i64 Try.underlying3
  obtain ⟨v, rfl, rfl, hv⟩ := r3.inv_i64 Try.underlying3
  exact ⟨⟨k, a, n, v⟩, rfl, ha, hn.1, hn.2, hv.1, hv.2, hk.1, hk.2⟩

/-- The numbers of an operation fit their cells. -/
def OprOk (o : Opr) : Prop := o.a < 2 ^ 128 ∧ -9223372036854775808 ≤ o.n ∧ o.n < 9223372036854775808 ∧ -9223372036854775808 ≤ o.v ∧ o.v < 9223372036854775808 ∧ -9223372036854775808 ≤ o.k ∧ o.k < 9223372036854775808

theorem ops_rep {X : Type} {H : Heap} : ∀ (ds : List (DataW X)) (ass : List (List Value)), ass.length = ds.length → (∀ (i : Nat) (d : DataW X) (cz : List Value), ds[i]? = some d → ass[i]? = some cz → Rep Try.prog H 35 d cz) →
    ∃ ops : List Opr, ass = ops.map opC ∧ ∀ o ∈ ops, OprOk o
  | [], [], _, _ => ⟨[], rfl, fun o ho => by cases ho⟩
  | [], _ :: _, h, _ => by simp at h
  | _ :: _, [], h, _ => by simp at h
  | d :: ds, cz :: ass, hl, h => by
    obtain ⟨o, rfl, ho⟩ := op_rep (h 0 d cz rfl rfl)
    obtain ⟨ops, rfl, h2⟩ := ops_rep ds ass (by simpa using hl) fun i d cz h1 h2 => h (i + 1) d cz (by simpa using h1) (by simpa using h2)
    exact ⟨o :: ops, rfl, fun q hq => by
      rcases List.mem_cons.1 hq with rfl | hq
      · exact ho
      · exact h2 q hq⟩

theorem bits_arg {X : Type} {H : Heap} {d : DataW X} {a : Value} (h : ArgRep Try.prog H 25 d a) : ∃ n, n < 2 ^ 128 ∧ a = bvA n := by
  obtain ⟨cs, hr, hcase⟩ := h
  obtain ⟨n, hn, rfl⟩ := bits_rep hr
  rcases hcase with ⟨_, rfl⟩ | h
  · exact ⟨n, hn, rfl⟩
  · simp at h

theorem opr_arg {X : Type} {H : Heap} {d : DataW X} {a : Value} (h : ArgRep Try.prog H 35 d a) : ∃ o, OprOk o ∧ a = .agg (opC o).toArray := by
  obtain ⟨cs, hr, hcase⟩ := h
  obtain ⟨o, rfl, ho⟩ := op_rep hr
  rcases hcase with ⟨_, rfl⟩ | h
  · exact ⟨o, ho, rfl⟩
  · simp [opC] at h

/-- A list of operations. -/
theorem ops_arg {X : Type} {H : Heap} {d : DataW X} {a : Value} (h : ArgRep Try.prog H 22 d a) :
    ∃ (ad : Option Addr) (ops : List Opr), a = .slice ad ops.length ops.length ∧ (∀ o ∈ ops, OprOk o) ∧ OpSl H ad ops H.length ∧ (d = .nil ∧ ops = [] ∨ ∃ ds sp, d = .slice ds sp ∧ ops.length = ds.length) := by
  obtain ⟨cs, hr, hcase⟩ := h
  have hne : ∀ {l}, cs = [l] → a = l := fun e => by
    rcases hcase with ⟨⟨fs, hf⟩, _⟩ | h
    · have := Try.underlying22
      rw [this] at hf; cases hf
    · rw [e] at h; simpa using h.symm
  rcases hr.inv_slice Try.underlying22 with ⟨rfl, e⟩ | ⟨sp, rfl, e⟩ | ⟨b, ds, sp, ass, rfl, hds, e, hb, h2, h3, h4⟩
  · exact ⟨none, [], hne e, (fun o ho => by cases ho), fun q => absurd rfl q, .inl ⟨rfl, rfl⟩⟩
  · exact ⟨some ⟨0, 0, some 0⟩, [], hne e, (fun o ho => by cases ho), fun q => absurd rfl q, .inr ⟨[], sp, rfl, rfl⟩⟩
  · obtain ⟨ops, rfl, hops⟩ := ops_rep ds ass h2 h3
    have hl : ops.length = ds.length := by simpa using h2
    refine ⟨some ⟨b, 0, none⟩, ops, by rw [hne e, hl], hops, fun _ => ⟨b, false, rfl, hget_lt hb rfl, hb⟩, .inr ⟨ds, sp, rfl, hl⟩⟩

theorem rel_nil {ρ : Nat → Place} (w : World) : Rel 0 ρ [] w := ⟨fun b o h => by simp at h, fun b c o u h => by simp at h, fun g h => absurd h (Nat.not_lt_zero _), Nat.le_refl _⟩

theorem rel_globs {ρ : Nat → Place} (w : World) : Rel T.G ρ [] w := by
  have : T.G = 0 := by unfold T; kernel_rfl
  rw [this]
  exact rel_nil w
end Go.Proofs.Yticgkaanaimllaa.Ev

/- TrieUnder: of what All tells, Under tells just those that begin so, in the same order, each with what is kept there: whatever the inputs, the law answers true. Conditions: none. -/
namespace Go.Proofs.Yticgkaanaimllaa.Ev
open Go.ChangeShapes Go.WideShapes Go.ChangeAt Go.RowKit

set_option maxRecDepth 100000 in
theorem trieUnder_lifted (os : Os) (started : os.Started) (H : Type) (enc : TypeId × Value → H) :
    ReturnsInHanded {} Try.checked os 4 .any (Rows.trieUnderSpec.pre6 enc Try.prog Try.f4 [] false)
      (Rows.trieUnderSpec.post enc Try.prog Try.f4 false true false false) := by
  refine returnsInHanded_of_change_sized (C := Try.checked) own started (by kernel_rfl) Try.func4
    (ChangeSpec.witness6 (enc := enc) (C := Try.checked) (os := os) false ⟨#[], #[.int .i64 0, .slice none 0 0, .agg #[.int .i64 0, .int .u64 0, .int .u64 0, .int .i64 0, .int .i64 0]], []⟩ 8 (by kernel_rfl) (by kernel_rfl) (by kernel_rfl) (by kernel_rfl)) ?_
  intro W base args ds gs before hval0 hW _ hsz _
  have hval : ∀ (j : Nat) t v, Try.f4.params[j]? = some t → args[j]? = some v → Value.okWide Try.prog W .any base t v := hval0
  have hW' := hW
  obtain ⟨p, q, hA0, hV, rfl, hfz, hnd⟩ := hW
  have hA : DataW.TrodAll enc Try.prog W 0 (fun _ => true) true Try.f4.params.toList args.toList ds p := hA0
  have hsz' : (DataW.weightsEach Try.prog (Try.f4.params.toList ++ Rows.trieUnderSpec.plain.varTypes Try.prog) (ds ++ gs)).all (· ≤ reachBytes) = true := hsz
  rw [Try.params4] at hA hval hsz'
  obtain ⟨rfl, rfl⟩ := trodVars_none hV
  obtain ⟨g, ρ', avs, hr, hs, hg, hvl, hlen, hrep⟩ := open_args (G := 0) (L := [3, 22, 35, 25, 23]) (by kernel_rfl) (by kernel_rfl) (by kernel_rfl) (by decide) hA (fun j t v h1 h2 => hval j t v (by simpa using h1) (by simpa using h2)) [] (fun _ => ⟨0, 0, 0⟩) (fun o ho => by cases ho) (rel_nil W)
  have hA1 := hA
  obtain ⟨v0, vs0, d0, ds0, p0, q0, hargs, rfl, rfl, h0, r0⟩ := trodAll_cons hA1
  obtain ⟨v1, vs1, d1, ds1, p1, q1, rfl, rfl, rfl, h1, r1⟩ := trodAll_cons r0
  obtain ⟨v2, vs2, d2, ds2, p2, q2, rfl, rfl, rfl, h2, r2⟩ := trodAll_cons r1
  obtain ⟨rfl, rfl, rfl⟩ := trodAll_nil r2
  obtain rfl : args = #[v0, v1, v2] := by cases args; simp_all
  match avs, hlen with
  | [a0, a1, a2], _ =>
  obtain ⟨w, rfl, rfl⟩ := int_arg Try.underlying3 (hrep 0 3 d0 a0 rfl rfl rfl)
  obtain ⟨ad, ops, rfl, hops, hsl, hds⟩ := ops_arg (hrep 1 22 d1 a1 rfl rfl rfl)
  obtain ⟨n, hn, rfl⟩ := opr_arg (hrep 2 35 d2 a2 rfl rfl rfl)
  have hlen : ops.length ≤ 4611686018427387904 := by
    rcases hds with ⟨_, rfl⟩ | ⟨ds, sp, rfl, e⟩
    · simp
    · have := sized_slice hsz' (j := 1) (t := 22) rfl rfl Try.underlying22
      have hb : Try.prog.bytesOf 35 = 40 := by kernel_rfl
      have hlt := reachBytes_lt
      rw [hb] at this
      omega
  have hG : T.G = 0 := by unfold T; kernel_rfl
  simp only [List.nil_append] at hr hvl hsl
  refine (wd_true t4 (H := g) (und_w hn.1 (fun o ho => (hops o ho).1) hlen hsl) (by rw [hG]; exact hr) (args' := #[v0, v1, v2]) hvl (fun o ho => by obtain ⟨c, rfl⟩ := hg o ho; rfl)).mono fun e W' ⟨he, bel⟩ => ?_
  subst he
  exact ⟨_, rfl, _, _, _, [], _, [], hW', trodAll_mk1 (shut_bool Try.underlying4 _), args_stay (by kernel_rfl) (by kernel_rfl) (by kernel_rfl) bel (by decide) hA, rfl, bel.frame _, fun h => by cases h⟩

theorem trieUnder_holds : Rows.TrieUnderSaid :=
  OpenClaim.holds_of_wide 4 Try.f4 rfl rfl rfl rfl rfl rfl rfl ⟨rfl, rfl, rfl, rfl, rfl⟩ rfl rfl rfl rfl rfl (by kernel_rfl) Try.func4 (by kernel_rfl)
    (of_decide_eq_true (by kernel_rfl)) (by unfold Func.isWrapper; first | (rw [if_pos (by decide +kernel)]; kernel_rfl) | (rw [if_neg (by decide +kernel)]; exact ⟨rfl, rfl⟩))
    (fun os started H enc _ => trieUnder_lifted os started H enc)

#print axioms trieUnder_holds
end Go.Proofs.Yticgkaanaimllaa.Ev
