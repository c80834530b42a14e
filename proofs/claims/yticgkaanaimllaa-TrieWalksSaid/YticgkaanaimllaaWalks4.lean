/- Parts of the proof: T27, T28, T29, T30, T31, T32, T33, T34, T35, T36, T37, T38, EvRow, RowOps, T39. Conditions: none. -/
import Derived.Test.YticgkaanaimllaaWalks3
import Derived.ChangeArms
import Derived.ChangeStays
import Derived.ChangeOld
import Derived.ChangeShapes
import Derived.WideShapes
import Derived.DataReads
import Derived.RowKit
import Derived.Test.YticgkaanaimllaaRows
import Derived.ProofKit
import Derived.OpenShut
import Derived.SizedLaws
import Derived.JoinedOf
import Derived.MakeChecks
import Derived.Stop.Joined
/- The document's sorted list in memory: New, Set, Put, Drop, Copy. -/
namespace Go.Proofs.Yticgkaanaimllaa.Ev
set_option maxRecDepth 100000
set_option linter.unusedSimpArgs false
set_option linter.unusedVariables false
variable {R : FRes → Heap → Prop} {H : Heap}

theorem flat_take {u : Nat} : ∀ {css : List (List Value)} (i : Nat), (∀ cs ∈ css, cs.length = u) → (css.flatten).take (i * u) = (css.take i).flatten
  | [], i, _ => by simp
  | cs :: css, 0, _ => by simp
  | cs :: css, i + 1, h => by
    have h1 := h cs (by simp)
    rw [List.flatten_cons, List.take_append, List.take_of_length_le (by rw [h1, Nat.succ_mul]; omega), h1, Nat.succ_mul, Nat.add_sub_cancel, flat_take i (fun q hq => h q (by simp [hq]))]
    simp
theorem flat_drop {u : Nat} : ∀ {css : List (List Value)} (i : Nat), (∀ cs ∈ css, cs.length = u) → (css.flatten).drop (i * u) = (css.drop i).flatten
  | [], i, _ => by simp
  | cs :: css, 0, _ => by simp
  | cs :: css, i + 1, h => by
    have h1 := h cs (by simp)
    rw [List.flatten_cons, List.drop_append, List.drop_eq_nil_of_le (by rw [h1, Nat.succ_mul]; omega), h1, Nat.succ_mul, Nat.add_sub_cancel, List.nil_append, flat_drop i (fun q hq => h q (by simp [hq]))]
    simp

/-- The beginning and the rest of a list, as sources of an append. -/
theorem src_lo {K : Heap} {k : Nat} {L : KL} {i c : Nat} (hk : hget K k = .row ((L.map kC).flatten) 2 true) (hi : i ≤ L.length) : lenV (.slice (some ⟨k, 0, none⟩) i c) = some ((L.take i).map kC).length ∧ srcCells K 2 ((L.take i).map kC).length (.slice (some ⟨k, 0, none⟩) i c) = some (((L.take i).map kC).flatten) := by
  have e : ((L.take i).map kC).length = i := by simp; omega
  refine ⟨by rw [e]; rfl, ?_⟩
  rw [e]
  simp only [srcCells, hk]
  rw [if_pos (by rw [kC_flat]; omega), List.drop_zero, flat_take i kC_u, List.map_take]
theorem src_hi {K : Heap} {k : Nat} {L : KL} {i c : Nat} (hk : hget K k = .row ((L.map kC).flatten) 2 true) (hi : i ≤ L.length) : lenV (.slice (some ⟨k, i * 2, none⟩) (L.length - i) c) = some ((L.drop i).map kC).length ∧ srcCells K 2 ((L.drop i).map kC).length (.slice (some ⟨k, i * 2, none⟩) (L.length - i) c) = some (((L.drop i).map kC).flatten) := by
  have e : ((L.drop i).map kC).length = L.length - i := by simp
  refine ⟨by rw [e]; rfl, ?_⟩
  rw [e]
  simp only [srcCells, hk]
  rw [if_pos (by rw [kC_flat]; omega), flat_drop i kC_u, List.map_drop]
  have : (List.drop i (List.map kC L)).flatten.length = (L.length - i) * 2 := by
    rw [flat_len_u (u := 2) (fun cs h => kC_u cs (List.mem_of_mem_drop h))]
    simp
  rw [← this, List.take_length]
theorem src_end {K : Heap} {k : Nat} {L : KL} {c : Nat} : lenV (.slice (some ⟨k, 0, some 0⟩) 0 c) = some ((L.drop L.length).map kC).length ∧ srcCells K 2 ((L.drop L.length).map kC).length (.slice (some ⟨k, 0, some 0⟩) 0 c) = some (((L.drop L.length).map kC).flatten) := by
  rw [List.drop_length]
  exact ⟨rfl, rfl⟩

theorem rnew_s {w m : Int} (h : R (if rightN w m = true then .ret (.tuple #[.pointer (some ⟨H.length, 0, none⟩), .int .i64 0]) else .ret (.tuple #[.pointer none, .int .i64 1])) (if rightN w m = true then H ++ [.row [.int .i64 w, .int .i64 m, .slice none 0 0] 0 true] else H)) :
    WD T 28 [.int .i64 w, .int .i64 m] H R := by
  refine WD.of follows t28 (by simp) ?_
  unfold rightN at h
  by_cases h1 : w < 1
  · have h1' : ¬ 1 ≤ w := by omega
    simp (disch := omega) only [kB, kcx, kdm, kdn, kel, aop, resultsL, resultOf, Nat.reduceEqDiff, reduceCtorEq, eq1, apartOK, apart2, AObj.live, Int.reduceEq, Int.reduceLT, Int.reduceLE, Int.reduceAdd, Int.reduceSub, Int.reduceMul, Int.reduceToNat, cutCells, Nat.reduceAdd, Nat.reduceLeDiff, Nat.reduceLT, Nat.reduceMul, Nat.reduceSub, h1]
    simpa [h1'] using h
  · have h1' : 1 ≤ w := by omega
    by_cases h2 : 128 < w
    · have h2' : ¬ w ≤ 128 := by omega
      simp (disch := omega) only [kB, kcx, kdm, kdn, kel, aop, resultsL, resultOf, Nat.reduceEqDiff, reduceCtorEq, eq1, apartOK, apart2, AObj.live, Int.reduceEq, Int.reduceLT, Int.reduceLE, Int.reduceAdd, Int.reduceSub, Int.reduceMul, Int.reduceToNat, cutCells, Nat.reduceAdd, Nat.reduceLeDiff, Nat.reduceLT, Nat.reduceMul, Nat.reduceSub, h1, h2]
      simpa [h1', h2'] using h
    · have h2' : w ≤ 128 := by omega
      by_cases h3 : m < 1
      · have h3' : ¬ 1 ≤ m := by omega
        simp (disch := omega) only [kB, kcx, kdm, kdn, kel, aop, resultsL, resultOf, Nat.reduceEqDiff, reduceCtorEq, eq1, apartOK, apart2, AObj.live, Int.reduceEq, Int.reduceLT, Int.reduceLE, Int.reduceAdd, Int.reduceSub, Int.reduceMul, Int.reduceToNat, cutCells, Nat.reduceAdd, Nat.reduceLeDiff, Nat.reduceLT, Nat.reduceMul, Nat.reduceSub, h1, h2, h3]
        simpa [h1', h2', h3'] using h
      · have h3' : 1 ≤ m := by omega
        by_cases h4 : 4096 < m
        · have h4' : ¬ m ≤ 4096 := by omega
          simp (disch := omega) only [kB, kcx, kdm, kdn, kel, aop, resultsL, resultOf, Nat.reduceEqDiff, reduceCtorEq, eq1, apartOK, apart2, AObj.live, Int.reduceEq, Int.reduceLT, Int.reduceLE, Int.reduceAdd, Int.reduceSub, Int.reduceMul, Int.reduceToNat, cutCells, Nat.reduceAdd, Nat.reduceLeDiff, Nat.reduceLT, Nat.reduceMul, Nat.reduceSub, h1, h2, h3, h4]
          simpa [h1', h2', h3', h4'] using h
        · have h4' : m ≤ 4096 := by omega
          simp (disch := omega) only [kB, kcx, kdm, kdn, kel, aop, resultsL, resultOf, Nat.reduceEqDiff, reduceCtorEq, eq1, apartOK, apart2, AObj.live, Int.reduceEq, Int.reduceLT, Int.reduceLE, Int.reduceAdd, Int.reduceSub, Int.reduceMul, Int.reduceToNat, cutCells, Nat.reduceAdd, Nat.reduceLeDiff, Nat.reduceLT, Nat.reduceMul, Nat.reduceSub, h1, h2, h3, h4]
          simpa [h1', h2', h3', h4'] using h

theorem kC_set {s : List UInt8} {v : Int} : ∀ {L : KL} (i : Nat) {v0 : Int}, L[i]? = some (s, v0) → ((L.set i (s, v)).map kC).flatten = ((L.map kC).flatten).set (i * 2 + 1) (.int .i64 v)
  | [], i, v0, h => by simp at h
  | y :: L, 0, v0, h => by
    simp at h
    subst h
    simp [kC]
  | y :: L, i + 1, v0, h => by
    have e : (i + 1) * 2 + 1 = (i * 2 + 1) + 2 := by omega
    rw [List.set_cons_succ, List.map_cons, List.flatten_cons, kC_set i (by simpa using h), List.map_cons, List.flatten_cons, e]
    rfl

theorem rset_t {xb w a : Nat} {n m v : Int} {sv : Value} {L : KL} (hX : XR H xb w m sv L) (hL : L.length ≤ 1000000) (hw : 1 ≤ w) (hw2 : w ≤ 128) (ha : a < 2 ^ 128)
    (h1 : rgt w a n = false → ∀ g, R (.ret (.int .i64 111)) (H ++ g))
    (h2 : rgt w a n = true → isK (headT w a n) L = false → ∀ g, R (.ret (.int .i64 122)) (H ++ g))
    (h3 : rgt w a n = true → isK (headT w a n) L = true → ∀ H', H.length ≤ H'.length → (∀ c, c < H.length → blk sv ≠ some c → hget H' c = hget H c) → XR H' xb w m sv (L.set (ixK (headT w a n) L) (headT w a n, v)) → R (.ret (.int .i64 0)) H') :
    WD T 61 [.pointer (some ⟨xb, 0, none⟩), bvA a, .int .i64 n, .int .i64 v] H R := by
  refine WD.of follows t61 (by simp) ?_
  obtain ⟨ad, rfl⟩ := hX.len
  have hd := hX.hd
  have lx := hget_lt hd rfl
  simp (disch := omega) only [kB, kcx, kdm, kdn, kel, aop, resultsL, resultOf, Nat.reduceEqDiff, reduceCtorEq, eq1, apartOK, apart2, AObj.live, Int.reduceEq, Int.reduceLT, Int.reduceLE, Int.reduceAdd, Int.reduceSub, Int.reduceMul, Int.reduceToNat, cutCells, Nat.reduceAdd, Nat.reduceLeDiff, Nat.reduceLT, Nat.reduceMul, Nat.reduceSub, hd]
  refine reftext2_t hw hw2 ha ?_
  generalize headT w a n = s at *
  cases hr : rgt w a n with
  | false =>
    simp (disch := omega) only [kB, kcx, kdm, kdn, kel, aop, resultsL, resultOf, Nat.reduceEqDiff, reduceCtorEq, eq1, apartOK, apart2, AObj.live, Int.reduceEq, Int.reduceLT, Int.reduceLE, Int.reduceAdd, Int.reduceSub, Int.reduceMul, Int.reduceToNat, cutCells, Nat.reduceAdd, Nat.reduceLeDiff, Nat.reduceLT, Nat.reduceMul, Nat.reduceSub]
    exact h1 hr _
  | true =>
    simp (disch := omega) only [kB, kcx, kdm, kdn, kel, aop, resultsL, resultOf, Nat.reduceEqDiff, reduceCtorEq, eq1, apartOK, apart2, AObj.live, Int.reduceEq, Int.reduceLT, Int.reduceLE, Int.reduceAdd, Int.reduceSub, Int.reduceMul, Int.reduceToNat, cutCells, Nat.reduceAdd, Nat.reduceLeDiff, Nat.reduceLT, Nat.reduceMul, Nat.reduceSub]
    refine ix_t hX.app hL ?_
    cases hi : isK s L with
    | false =>
      simp (disch := omega) only [kB, kcx, kdm, kdn, kel, aop, resultsL, resultOf, Nat.reduceEqDiff, reduceCtorEq, eq1, apartOK, apart2, AObj.live, Int.reduceEq, Int.reduceLT, Int.reduceLE, Int.reduceAdd, Int.reduceSub, Int.reduceMul, Int.reduceToNat, cutCells, Nat.reduceAdd, Nat.reduceLeDiff, Nat.reduceLT, Nat.reduceMul, Nat.reduceSub]
      exact h2 hr hi _
    | true =>
      have hi3 := ixK_lt hi
      obtain ⟨k, hk, hk2⟩ := hX.row (by omega)
      simp only [Value.slice.injEq] at hk
      obtain ⟨rfl, _⟩ := hk
      have lk := hget_lt hk2 rfl
      have p3 := kC_flat (L := L)
      have c0 : (0 : Int) ≤ ((ixK s L : Nat) : Int) := by omega
      have c1 : ((ixK s L : Nat) : Int) < ((L.length : Nat) : Int) := by omega
      have hne : xb ≠ k := fun q => by
        rw [← q, hd] at hk2
        exact absurd (AObj.row.inj hk2).2.1 (by decide)
      obtain ⟨v0, hv0⟩ := ixK_get hi
      have hset := kC_set (v := v) _ hv0
      simp (disch := omega) only [kB, kcx, kdm, kdn, kel, aop, resultsL, resultOf, Nat.reduceEqDiff, reduceCtorEq, eq1, apartOK, apart2, AObj.live, Int.reduceEq, Int.reduceLT, Int.reduceLE, Int.reduceAdd, Int.reduceSub, Int.reduceMul, Int.reduceToNat, cutCells, Nat.reduceAdd, Nat.reduceLeDiff, Nat.reduceLT, Nat.reduceMul, Nat.reduceSub, hd, hk2, p3, if_pos, c0, c1, hi3]
      refine h3 hr hi _ (by simp) (fun c hc hb => by rw [hget_oldS hc, hget_ne (fun q => hb (by rw [q]; rfl))]) ⟨?_, .inr ⟨?_, k, Nat.zero_le _, by simp, ?_, kC_u⟩⟩
      · rw [hget_oldS lx, hget_ne (Ne.symm hne)]
        exact hd
      · intro q
        have := congrArg List.length q
        simp at this
        rw [this] at hi3
        simp at hi3
      · rw [hget_oldS lk, hget_set' lk, hset]

theorem kC_len {y : List UInt8 × Int} : (kC y).length = 2 := rfl

theorem rput_t {xb w a : Nat} {n m v : Int} {sv : Value} {L : KL} (hX : XR H xb w m sv L) (hL : L.length ≤ 1000000) (hw : 1 ≤ w) (hw2 : w ≤ 128) (ha : a < 2 ^ 128)
    (h1 : rgt w a n = false → ∀ g, R (.ret (.int .i64 111)) (H ++ g))
    (h2 : rgt w a n = true → isK (headT w a n) L = true → ∀ g, R (.ret (.int .i64 121)) (H ++ g))
    (h3 : rgt w a n = true → isK (headT w a n) L = false → m ≤ (L.length : Nat) → ∀ g, R (.ret (.int .i64 120)) (H ++ g))
    (h4 : rgt w a n = true → isK (headT w a n) L = false → (L.length : Nat) < m → ∀ H' sv', H.length ≤ H'.length → (∀ c, c < H.length → c ≠ xb → blk sv ≠ some c → hget H' c = hget H c) → XR H' xb w m sv' (putKL (headT w a n) v L) → (∀ c, blk sv' = some c → H.length ≤ c) → R (.ret (.int .i64 0)) H') :
    WD T 60 [.pointer (some ⟨xb, 0, none⟩), bvA a, .int .i64 n, .int .i64 v] H R := by
  refine WD.of follows t60 (by simp) ?_
  obtain ⟨ad, rfl⟩ := hX.len
  have hd := hX.hd
  have lx := hget_lt hd rfl
  simp (disch := omega) only [kB, kcx, kdm, kdn, kel, aop, resultsL, resultOf, Nat.reduceEqDiff, reduceCtorEq, eq1, apartOK, apart2, AObj.live, Int.reduceEq, Int.reduceLT, Int.reduceLE, Int.reduceAdd, Int.reduceSub, Int.reduceMul, Int.reduceToNat, cutCells, Nat.reduceAdd, Nat.reduceLeDiff, Nat.reduceLT, Nat.reduceMul, Nat.reduceSub, hd]
  refine reftext2_t hw hw2 ha ?_
  generalize headT w a n = s at *
  cases hr : rgt w a n with
  | false =>
    simp (disch := omega) only [kB, kcx, kdm, kdn, kel, aop, resultsL, resultOf, Nat.reduceEqDiff, reduceCtorEq, eq1, apartOK, apart2, AObj.live, Int.reduceEq, Int.reduceLT, Int.reduceLE, Int.reduceAdd, Int.reduceSub, Int.reduceMul, Int.reduceToNat, cutCells, Nat.reduceAdd, Nat.reduceLeDiff, Nat.reduceLT, Nat.reduceMul, Nat.reduceSub]
    exact h1 hr _
  | true =>
  simp (disch := omega) only [kB, kcx, kdm, kdn, kel, aop, resultsL, resultOf, Nat.reduceEqDiff, reduceCtorEq, eq1, apartOK, apart2, AObj.live, Int.reduceEq, Int.reduceLT, Int.reduceLE, Int.reduceAdd, Int.reduceSub, Int.reduceMul, Int.reduceToNat, cutCells, Nat.reduceAdd, Nat.reduceLeDiff, Nat.reduceLT, Nat.reduceMul, Nat.reduceSub]
  refine ix_t hX.app hL ?_
  cases hi : isK s L with
  | true =>
    simp (disch := omega) only [kB, kcx, kdm, kdn, kel, aop, resultsL, resultOf, Nat.reduceEqDiff, reduceCtorEq, eq1, apartOK, apart2, AObj.live, Int.reduceEq, Int.reduceLT, Int.reduceLE, Int.reduceAdd, Int.reduceSub, Int.reduceMul, Int.reduceToNat, cutCells, Nat.reduceAdd, Nat.reduceLeDiff, Nat.reduceLT, Nat.reduceMul, Nat.reduceSub]
    exact h2 hr hi _
  | false =>
  by_cases hm : m ≤ ((L.length : Nat) : Int)
  · simp (disch := omega) only [kB, kcx, kdm, kdn, kel, aop, resultsL, resultOf, Nat.reduceEqDiff, reduceCtorEq, eq1, apartOK, apart2, AObj.live, Int.reduceEq, Int.reduceLT, Int.reduceLE, Int.reduceAdd, Int.reduceSub, Int.reduceMul, Int.reduceToNat, cutCells, Nat.reduceAdd, Nat.reduceLeDiff, Nat.reduceLT, Nat.reduceMul, Nat.reduceSub, hd, hm]
    exact h3 hr hi hm _
  have hixl := ixK_le s L
  have hX1 : XR (H ++ [boxRow a]) xb w m (.slice ad L.length L.length) L := hX.app
  have lH : (H ++ [boxRow a]).length = H.length + 1 := by simp
  by_cases hL0 : L.length = 0
  · have hLn : L = [] := List.length_eq_zero_iff.1 hL0
    subst hLn
    have hq : Value.slice ad ([] : KL).length ([] : KL).length = .slice none 0 0 := by
      rcases hX.sl with ⟨_, hq⟩ | ⟨q, _⟩
      · exact hq
      · exact absurd rfl q
    simp only [List.length_nil, Value.slice.injEq, and_true] at hq
    subst hq
    have e1 : ixK s [] = 0 := rfl
    have ap1 : ∀ K, appendV K 2 24 (.slice none 0 0) (.slice none 0 0) = .val (.slice none 0 0) K := fun K => rfl
    obtain ⟨sv2, K2, b1, b2, b3, b4, b5⟩ := app_sl (u := 2) (n0 := H.length + 1) (bytes := 24) (K := H ++ [boxRow a] ++ [.row (kC (s, v)) 2 true]) (sv := .slice none 0 0) (css := []) (bx := H.length + 1) (xs := kC (s, v)) (u2 := 2) (w2 := true) (.inl ⟨rfl, rfl⟩) (by simp) (by rw [← lH, hget_last]) rfl rfl (by decide)
    obtain ⟨ad2, rfl⟩ := b2.len
    simp only [List.nil_append, List.length_cons, List.length_nil, Nat.zero_add, List.append_assoc, List.cons_append] at b1 b2 b3 b4 b5
    have g1 : hget K2 xb = .row [.int .i64 (w : Int), .int .i64 m, .slice none 0 0] 0 true := by rw [b5 xb (by simp; omega) (by simp [blk]), hget_old lx]; simpa using hd
    have lx2 : xb < K2.length := by rw [b3]; simp; omega
    have ap2 : appendV K2 2 24 (.slice ad2 1 1) (.slice none 0 0) = .val (.slice ad2 1 1) K2 := by
      rcases b2 with ⟨q, _⟩ | ⟨_, k2, _, q, _⟩
      · cases q
      · simp only [Value.slice.injEq] at q
        obtain ⟨rfl, _⟩ := q
        rfl
    simp only [kC] at b1
    have hm' : ¬ m ≤ ((0 : Nat) : Int) := hm
    have z0 : (0 : Int) ≤ ((0 : Nat) : Int) := Int.le_refl _
    have z1 : ((0 : Nat) : Int) ≤ ((0 : Nat) : Int) := Int.le_refl _
    simp (disch := omega) only [kB, kcx, kdm, kdn, kel, aop, resultsL, resultOf, Nat.reduceEqDiff, reduceCtorEq, eq1, apartOK, apart2, AObj.live, Int.reduceEq, Int.reduceLT, Int.reduceLE, Int.reduceAdd, Int.reduceSub, Int.reduceMul, Int.reduceToNat, cutCells, Nat.reduceAdd, Nat.reduceLeDiff, Nat.reduceLT, Nat.reduceMul, Nat.reduceSub, hd, hm', e1, ap1, b1, g1, ap2, if_pos, z0, z1, and_false, false_and, Nat.sub_self]
    refine h4 hr hi (by omega) _ (.slice ad2 1 1) (by simp [b3]; omega) (fun c hc hn hb => by rw [hget_ne (Ne.symm hn), b5 c (by simp; omega) (by simp [blk]), hget_old hc]) ⟨hget_set' lx2, ?_⟩ (fun c hc => by have := (b2.lt hc).2; omega)
    have hs2 : SLs 2 0 K2 (.slice ad2 1 1) [kC (s, v)] := by
      rcases b2 with ⟨q, _⟩ | ⟨q1, k2, _, q2, q3⟩
      · cases q
      · exact .inr ⟨q1, k2, Nat.zero_le _, q2, q3⟩
    exact hs2.same fun c hc => hget_ne (fun q => by have := (b2.lt hc).2; omega)
  obtain ⟨k, hk, hk2⟩ := hX.row (by omega)
  simp only [Value.slice.injEq] at hk
  obtain ⟨rfl, _⟩ := hk
  have lk := hget_lt hk2 rfl
  have hne : xb ≠ k := fun q => by
    rw [← q, hd] at hk2
    exact absurd (AObj.row.inj hk2).2.1 (by decide)
  have hk1 : hget (H ++ [boxRow a]) k = .row ((L.map kC).flatten) 2 true := by rw [hget_old lk]; exact hk2
  have hlo := src_lo (K := H ++ [boxRow a]) (c := L.length) hk1 hixl
  obtain ⟨sv1, K1, a1, a2, a3, a4, a5⟩ := app_many (u := 2) (n0 := H.length + 1) (bytes := 24) (K := H ++ [boxRow a]) (sv := .slice none 0 0) (css := []) (.inl ⟨rfl, rfl⟩) (by simp) (by decide) hlo.1 hlo.2 kC_u kC_one (by simp only [roomMax, List.length_nil, List.length_map, List.length_take]; omega)
  rw [lH] at a3 a4 a5
  have a5' : ∀ c, c < H.length → hget K1 c = hget H c := fun c hc => by rw [a5 c (by omega) (by simp [blk]), hget_old hc]
  obtain ⟨sv2, K2, b1, b2, b3, b4, b5⟩ := app_sl (u := 2) (n0 := H.length + 1) (bytes := 24) (K := K1 ++ [.row (kC (s, v)) 2 true]) (bx := K1.length) (xs := kC (s, v)) (u2 := 2) (w2 := true) a2.app (by simp; omega) (by rw [hget_last]) rfl rfl
    (by simp only [roomMax, List.nil_append, List.length_map, List.length_take]; omega)
  have nsv1 : ∀ c, c < H.length → blk sv1 ≠ some c := fun c hc q => by have := (a2.lt q).2; omega
  have b5' : ∀ c, c < H.length → hget K2 c = hget H c := fun c hc => by rw [b5 c (by simp; omega) (nsv1 c hc), hget_old (by omega)]; exact a5' c hc
  have lK2 : H.length < K2.length := by rw [b3]; simp; omega
  have g1 : hget K1 xb = .row [.int .i64 (w : Int), .int .i64 m, .slice (some ⟨k, 0, none⟩) L.length L.length] 0 true := (a5' xb lx).trans hd
  have g2 : hget K2 xb = .row [.int .i64 (w : Int), .int .i64 m, .slice (some ⟨k, 0, none⟩) L.length L.length] 0 true := (b5' xb lx).trans hd
  have gk : hget K2 k = .row ((L.map kC).flatten) 2 true := (b5' k lk).trans hk2
  have lx2 : xb < K2.length := by omega
  have c0 : (0 : Int) ≤ ((ixK s L : Nat) : Int) := by omega
  have c1 : ((ixK s L : Nat) : Int) ≤ ((L.length : Nat) : Int) := by omega
  have fin : ∀ x2 : Value, lenV x2 = some ((L.drop (ixK s L)).map kC).length → srcCells K2 2 ((L.drop (ixK s L)).map kC).length x2 = some (((L.drop (ixK s L)).map kC).flatten) →
      ∃ ad3 n3 K3, appendV K2 2 24 sv2 x2 = .val (.slice ad3 n3 n3) K3 ∧ hget K3 xb = .row [.int .i64 (w : Int), .int .i64 m, .slice (some ⟨k, 0, none⟩) L.length L.length] 0 true ∧ R (.ret (.int .i64 0)) (K3.set xb (.row [.int .i64 (w : Int), .int .i64 m, .slice ad3 n3 n3] 0 true)) := fun x2 q1 q2 => by
    obtain ⟨sv3, K3, d1, d2, d3, d4, d5⟩ := app_many (u := 2) (n0 := H.length + 1) (bytes := 24) (K := K2) b2 (by omega) (by decide) q1 q2 kC_u kC_one (by simp only [roomMax, List.nil_append, List.length_append, List.length_cons, List.length_nil, List.length_map, List.length_take, List.length_drop]; omega)
    obtain ⟨ad3, rfl⟩ := d2.len
    have nsv2 : ∀ c, c < H.length → blk sv2 ≠ some c := fun c hc q => by have := (b2.lt q).2; omega
    have d5' : ∀ c, c < H.length → hget K3 c = hget H c := fun c hc => by rw [d5 c (by omega) (nsv2 c hc)]; exact b5' c hc
    have lx3 : xb < K3.length := by omega
    refine ⟨_, _, K3, d1, (d5' xb lx).trans hd, h4 hr hi (by omega) _ _ (by rw [List.length_set]; omega) (fun c hc hn hb => by rw [hget_ne (Ne.symm hn)]; exact d5' c hc) ⟨hget_set' lx3, ?_⟩ (fun c hc => by have := (d2.lt hc).2; omega)⟩
    have e : putKL s v L = [] ++ List.take (ixK s L) L ++ [(s, v)] ++ List.drop (ixK s L) L := by simp [putKL]
    have d2' : SLs 2 (H.length + 1) K3 (.slice ad3 ([] ++ List.map kC (List.take (ixK s L) L) ++ [kC (s, v)] ++ List.map kC (List.drop (ixK s L) L)).length ([] ++ List.map kC (List.take (ixK s L) L) ++ [kC (s, v)] ++ List.map kC (List.drop (ixK s L) L)).length) ((putKL s v L).map kC) := by
      have e2 : (putKL s v L).map kC = [] ++ List.map kC (List.take (ixK s L) L) ++ [kC (s, v)] ++ List.map kC (List.drop (ixK s L) L) := by rw [e]; simp
      rw [e2]
      exact d2
    have d6 := d2'.same (K := K3.set xb (.row [.int .i64 (w : Int), .int .i64 m, .slice ad3 ([] ++ List.map kC (List.take (ixK s L) L) ++ [kC (s, v)] ++ List.map kC (List.drop (ixK s L) L)).length ([] ++ List.map kC (List.take (ixK s L) L) ++ [kC (s, v)] ++ List.map kC (List.drop (ixK s L) L)).length] 0 true)) fun c hc => hget_ne (fun q => by have := (d2'.lt hc).2; omega)
    rcases d6 with q | ⟨q1, q2, _, q3, q4, q5⟩
    · exact .inl q
    · exact .inr ⟨q1, q2, Nat.zero_le _, q3, q4, q5⟩
  have b1' := b1
  simp only [kC] at b1
  by_cases hend : ixK s L = L.length
  · have hL1 : ¬ L.length = 0 := hL0
    obtain ⟨ad3, n3, K3, f1, f2, f3⟩ := fin _ (by rw [hend]; exact (src_end (K := K2) (k := k) (c := 0)).1) (by rw [hend]; exact (src_end (K := K2) (k := k) (c := 0)).2)
    have lx3 := hget_lt f2 rfl
    rw [hend] at a1 c0 c1
    simp (disch := omega) only [kB, kcx, kdm, kdn, kel, aop, resultsL, resultOf, Nat.reduceEqDiff, reduceCtorEq, eq1, apartOK, apart2, AObj.live, Int.reduceEq, Int.reduceLT, Int.reduceLE, Int.reduceAdd, Int.reduceSub, Int.reduceMul, Int.reduceToNat, cutCells, Nat.reduceAdd, Nat.reduceLeDiff, Nat.reduceLT, Nat.reduceMul, Nat.reduceSub, hd, hm, hend, a1, b1, g1, g2, f1, f2, if_pos, hL1, Nat.sub_self, Nat.sub_zero, Nat.le_refl, and_false]
    exact f3
  · have hq : ¬ (L.length = ixK s L ∧ ¬ ixK s L = 0) := fun q => hend q.1.symm
    have hle : ixK s L ≤ L.length := hixl
    obtain ⟨hh1, hh2⟩ := src_hi (K := K2) (k := k) (i := ixK s L) (c := L.length - ixK s L) gk hixl
    obtain ⟨ad3, n3, K3, f1, f2, f3⟩ := fin _ hh1 hh2
    have lx3 := hget_lt f2 rfl
    simp (disch := omega) only [kB, kcx, kdm, kdn, kel, aop, resultsL, resultOf, Nat.reduceEqDiff, reduceCtorEq, eq1, apartOK, apart2, AObj.live, Int.reduceEq, Int.reduceLT, Int.reduceLE, Int.reduceAdd, Int.reduceSub, Int.reduceMul, Int.reduceToNat, cutCells, Nat.reduceAdd, Nat.reduceLeDiff, Nat.reduceLT, Nat.reduceMul, Nat.reduceSub, hd, hm, a1, b1, g1, g2, f1, f2, if_pos, c0, c1, hle, hq, Nat.sub_zero, and_false]
    exact f3

end Go.Proofs.Yticgkaanaimllaa.Ev

/- The document's sorted list in memory: Drop, Copy. -/
namespace Go.Proofs.Yticgkaanaimllaa.Ev
set_option maxRecDepth 100000
set_option linter.unusedSimpArgs false
set_option linter.unusedVariables false
variable {R : FRes → Heap → Prop} {H : Heap}

theorem getK_some {s : List UInt8} {L : KL} {v : Int} (h : getK s L = some v) : isK s L = true ∧ L[ixK s L]? = some (s, v) := by
  unfold getK at h
  by_cases hi : isK s L = true
  · rw [if_pos hi] at h
    obtain ⟨v0, hv⟩ := ixK_get hi
    rw [hv] at h
    simp at h
    subst h
    exact ⟨hi, hv⟩
  · rw [if_neg hi] at h
    cases h

theorem rdrop_t {xb w a : Nat} {n m : Int} {sv : Value} {L : KL} (hX : XR H xb w m sv L) (hL : L.length ≤ 1000000) (hw : 1 ≤ w) (hw2 : w ≤ 128) (ha : a < 2 ^ 128)
    (h1 : (if rgt w a n = true then getK (headT w a n) L else none) = none → ∀ g, R (.ret (.tuple #[.int .i64 0, .bool false])) (H ++ g))
    (h2 : ∀ v, rgt w a n = true → getK (headT w a n) L = some v → ∀ H' sv', H.length ≤ H'.length → (∀ c, c < H.length → c ≠ xb → blk sv ≠ some c → hget H' c = hget H c) → XR H' xb w m sv' (dropKL (headT w a n) L) → (∀ c, blk sv' = some c → H.length ≤ c) → R (.ret (.tuple #[.int .i64 v, .bool true])) H') :
    WD T 62 [.pointer (some ⟨xb, 0, none⟩), bvA a, .int .i64 n] H R := by
  refine WD.of follows t62 (by simp) ?_
  obtain ⟨ad, rfl⟩ := hX.len
  have hd := hX.hd
  have lx := hget_lt hd rfl
  simp (disch := omega) only [kB, kcx, kdm, kdn, kel, aop, resultsL, resultOf, Nat.reduceEqDiff, reduceCtorEq, eq1, apartOK, apart2, AObj.live, Int.reduceEq, Int.reduceLT, Int.reduceLE, Int.reduceAdd, Int.reduceSub, Int.reduceMul, Int.reduceToNat, cutCells, Nat.reduceAdd, Nat.reduceLeDiff, Nat.reduceLT, Nat.reduceMul, Nat.reduceSub, hd]
  refine rget_t hX.app hL hw hw2 ha ?_
  cases hg : (if rgt w a n = true then getK (headT w a n) L else none) with
  | none =>
    simp only [rgetV]
    simp (disch := omega) only [kB, kcx, kdm, kdn, kel, aop, resultsL, resultOf, Nat.reduceEqDiff, reduceCtorEq, eq1, apartOK, apart2, AObj.live, Int.reduceEq, Int.reduceLT, Int.reduceLE, Int.reduceAdd, Int.reduceSub, Int.reduceMul, Int.reduceToNat, cutCells, Nat.reduceAdd, Nat.reduceLeDiff, Nat.reduceLT, Nat.reduceMul, Nat.reduceSub]
    exact h1 hg _
  | some v =>
    have hr : rgt w a n = true := by
      by_cases q : rgt w a n = true
      · exact q
      · rw [if_neg q] at hg; cases hg
    rw [if_pos hr] at hg
    simp only [rgetV]
    simp (disch := omega) only [kB, kcx, kdm, kdn, kel, aop, resultsL, resultOf, Nat.reduceEqDiff, reduceCtorEq, eq1, apartOK, apart2, AObj.live, Int.reduceEq, Int.reduceLT, Int.reduceLE, Int.reduceAdd, Int.reduceSub, Int.reduceMul, Int.reduceToNat, cutCells, Nat.reduceAdd, Nat.reduceLeDiff, Nat.reduceLT, Nat.reduceMul, Nat.reduceSub, hd]
    refine reftext2_t hw hw2 ha ?_
    generalize headT w a n = s at *
    obtain ⟨hi, hget1⟩ := getK_some hg
    rw [hr]
    simp (disch := omega) only [kB, kcx, kdm, kdn, kel, aop, resultsL, resultOf, Nat.reduceEqDiff, reduceCtorEq, eq1, apartOK, apart2, AObj.live, Int.reduceEq, Int.reduceLT, Int.reduceLE, Int.reduceAdd, Int.reduceSub, Int.reduceMul, Int.reduceToNat, cutCells, Nat.reduceAdd, Nat.reduceLeDiff, Nat.reduceLT, Nat.reduceMul, Nat.reduceSub]
    refine ix_t hX.app hL ?_
    rw [hi]
    have hi3 := ixK_lt hi
    have hX1 : XR (H ++ [boxRow a]) xb w m (.slice ad L.length L.length) L := hX.app
    have lH : (H ++ [boxRow a]).length = H.length + 1 := by simp
    obtain ⟨k, hk, hk2⟩ := hX.row (by omega)
    simp only [Value.slice.injEq] at hk
    obtain ⟨rfl, _⟩ := hk
    have lk := hget_lt hk2 rfl
    have hne : xb ≠ k := fun q => by
      rw [← q, hd] at hk2
      exact absurd (AObj.row.inj hk2).2.1 (by decide)
    have hk1 : hget (H ++ [boxRow a]) k = .row ((L.map kC).flatten) 2 true := by rw [hget_old lk]; exact hk2
    have hlo := src_lo (K := H ++ [boxRow a]) (i := ixK s L) (c := L.length) hk1 (by omega)
    obtain ⟨sv1, K1, a1, a2, a3, a4, a5⟩ := app_many (u := 2) (n0 := H.length + 1) (bytes := 24) (K := H ++ [boxRow a]) (sv := .slice none 0 0) (css := []) (.inl ⟨rfl, rfl⟩) (by simp) (by decide) hlo.1 hlo.2 kC_u kC_one (by simp only [roomMax, List.length_nil, List.length_map, List.length_take]; omega)
    rw [lH] at a3 a4 a5
    have a5' : ∀ c, c < H.length → hget K1 c = hget H c := fun c hc => by rw [a5 c (by omega) (by simp [blk]), hget_old hc]
    have nsv1 : ∀ c, c < H.length → blk sv1 ≠ some c := fun c hc q => by have := (a2.lt q).2; omega
    have g1 : hget K1 xb = .row [.int .i64 (w : Int), .int .i64 m, .slice (some ⟨k, 0, none⟩) L.length L.length] 0 true := (a5' xb lx).trans hd
    have gk : hget K1 k = .row ((L.map kC).flatten) 2 true := (a5' k lk).trans hk2
    have lx2 : xb < K1.length := by omega
    have c0 : (0 : Int) ≤ ((ixK s L : Nat) : Int) := by omega
    have c1 : ((ixK s L : Nat) : Int) ≤ ((L.length : Nat) : Int) := by omega
    have c2 : (0 : Int) ≤ ((ixK s L + 1 : Nat) : Int) := by omega
    have c3 : ((ixK s L + 1 : Nat) : Int) ≤ ((L.length : Nat) : Int) := by omega
    have fin : ∀ x2 : Value, lenV x2 = some ((L.drop (ixK s L + 1)).map kC).length → srcCells K1 2 ((L.drop (ixK s L + 1)).map kC).length x2 = some (((L.drop (ixK s L + 1)).map kC).flatten) →
        ∃ ad3 n3 K3, appendV K1 2 24 sv1 x2 = .val (.slice ad3 n3 n3) K3 ∧ hget K3 xb = .row [.int .i64 (w : Int), .int .i64 m, .slice (some ⟨k, 0, none⟩) L.length L.length] 0 true ∧ R (.ret (.tuple #[.int .i64 v, .bool true])) (K3.set xb (.row [.int .i64 (w : Int), .int .i64 m, .slice ad3 n3 n3] 0 true)) := fun x2 q1 q2 => by
      obtain ⟨sv3, K3, d1, d2, d3, d4, d5⟩ := app_many (u := 2) (n0 := H.length + 1) (bytes := 24) (K := K1) a2 (by omega) (by decide) q1 q2 kC_u kC_one (by simp only [roomMax, List.nil_append, List.length_map, List.length_take, List.length_drop]; omega)
      obtain ⟨ad3, rfl⟩ := d2.len
      have d5' : ∀ c, c < H.length → hget K3 c = hget H c := fun c hc => by rw [d5 c (by omega) (nsv1 c hc)]; exact a5' c hc
      have lx3 : xb < K3.length := by omega
      refine ⟨_, _, K3, d1, (d5' xb lx).trans hd, h2 v hr hg _ _ (by rw [List.length_set]; omega) (fun c hc hn hb => by rw [hget_ne (Ne.symm hn)]; exact d5' c hc) ⟨hget_set' lx3, ?_⟩ (fun c hc => by have := (d2.lt hc).2; omega)⟩
      have d2' : SLs 2 (H.length + 1) K3 (.slice ad3 ([] ++ List.map kC (List.take (ixK s L) L) ++ List.map kC (List.drop (ixK s L + 1) L)).length ([] ++ List.map kC (List.take (ixK s L) L) ++ List.map kC (List.drop (ixK s L + 1) L)).length) ((dropKL s L).map kC) := by
        have e2 : (dropKL s L).map kC = [] ++ List.map kC (List.take (ixK s L) L) ++ List.map kC (List.drop (ixK s L + 1) L) := by simp [dropKL]
        rw [e2]
        exact d2
      have d6 := d2'.same (K := K3.set xb (.row [.int .i64 (w : Int), .int .i64 m, .slice ad3 ([] ++ List.map kC (List.take (ixK s L) L) ++ List.map kC (List.drop (ixK s L + 1) L)).length ([] ++ List.map kC (List.take (ixK s L) L) ++ List.map kC (List.drop (ixK s L + 1) L)).length] 0 true)) fun c hc => hget_ne (fun q => by have := (d2'.lt hc).2; omega)
      rcases d6 with q | ⟨q1, q2, _, q3, q4, q5⟩
      · exact .inl q
      · exact .inr ⟨q1, q2, Nat.zero_le _, q3, q4, q5⟩
    have hle : ixK s L ≤ L.length := by omega
    have hle1 : ixK s L + 1 ≤ L.length := by omega
    by_cases hend : ixK s L + 1 = L.length
    · have hL1 : ¬ L.length = 0 := by omega
      obtain ⟨ad3, n3, K3, f1, f2, f3⟩ := fin _ (by rw [hend]; exact (src_end (K := K1) (k := k) (c := 0)).1) (by rw [hend]; exact (src_end (K := K1) (k := k) (c := 0)).2)
      have lx3 := hget_lt f2 rfl
      simp (disch := omega) only [kB, kcx, kdm, kdn, kel, aop, resultsL, resultOf, Nat.reduceEqDiff, reduceCtorEq, eq1, apartOK, apart2, AObj.live, Int.reduceEq, Int.reduceLT, Int.reduceLE, Int.reduceAdd, Int.reduceSub, Int.reduceMul, Int.reduceToNat, cutCells, Nat.reduceAdd, Nat.reduceLeDiff, Nat.reduceLT, Nat.reduceMul, Nat.reduceSub, hd, a1, g1, f1, f2, if_pos, c0, c1, hle, wr_i64, nadd1, hend, hL1, Nat.sub_self, Nat.sub_zero, Nat.le_refl, and_false]
      exact f3
    · have hq : ¬ (L.length = ixK s L + 1) := fun q => hend q.symm
      obtain ⟨hh1, hh2⟩ := src_hi (K := K1) (k := k) (i := ixK s L + 1) (c := L.length - (ixK s L + 1)) gk (by omega)
      obtain ⟨ad3, n3, K3, f1, f2, f3⟩ := fin _ hh1 hh2
      have lx3 := hget_lt f2 rfl
      simp (disch := omega) only [kB, kcx, kdm, kdn, kel, aop, resultsL, resultOf, Nat.reduceEqDiff, reduceCtorEq, eq1, apartOK, apart2, AObj.live, Int.reduceEq, Int.reduceLT, Int.reduceLE, Int.reduceAdd, Int.reduceSub, Int.reduceMul, Int.reduceToNat, cutCells, Nat.reduceAdd, Nat.reduceLeDiff, Nat.reduceLT, Nat.reduceMul, Nat.reduceSub, hd, a1, g1, f1, f2, if_pos, c0, c1, c2, c3, hle, hle1, wr_i64, nadd1, hq, false_and, Nat.sub_zero, and_false]
      exact f3

theorem src_all {K : Heap} {xb w : Nat} {m : Int} {sv : Value} {L : KL} (h : XR K xb w m sv L) : lenV sv = some (L.map kC).length ∧ srcCells K 2 (L.map kC).length sv = some ((L.map kC).flatten) := by
  rcases h.sl with ⟨q, rfl⟩ | ⟨h1, k, k0, rfl, k2, k3⟩
  · rw [q]
    exact ⟨rfl, rfl⟩
  · refine ⟨rfl, ?_⟩
    simp only [srcCells, k2]
    rw [if_pos (by rw [flat_len_u k3]; omega), List.drop_zero, ← flat_len_u k3, List.take_length]

theorem rcopy_t {xb w : Nat} {m : Int} {sv : Value} {L : KL} (hX : XR H xb w m sv L) (hL : L.length ≤ 1000000)
    (h : ∀ H' sv', H.length < H'.length → (∀ c, c < H.length → hget H' c = hget H c) → XR H' H.length w m sv' L → (∀ c, blk sv' = some c → H.length < c) → R (.ret (.pointer (some ⟨H.length, 0, none⟩))) H') :
    WD T 32 [.pointer (some ⟨xb, 0, none⟩)] H R := by
  refine WD.of follows t32 (by simp) ?_
  have hd := hX.hd
  have lx := hget_lt hd rfl
  have hX1 : XR (H ++ [.row [.int .i64 (w : Int), .int .i64 m, .slice none 0 0] 0 true]) xb w m sv L := hX.app
  obtain ⟨q1, q2⟩ := src_all hX1
  obtain ⟨sv1, K1, a1, a2, a3, a4, a5⟩ := app_many (u := 2) (n0 := H.length + 1) (bytes := 24) (K := H ++ [.row [.int .i64 (w : Int), .int .i64 m, .slice none 0 0] 0 true]) (sv := .slice none 0 0) (css := []) (.inl ⟨rfl, rfl⟩) (by simp) (by decide) q1 q2 kC_u kC_one (by simp only [roomMax, List.length_nil, List.length_map]; omega)
  obtain ⟨ad1, rfl⟩ := a2.len
  simp only [List.length_append, List.length_cons, List.length_nil, Nat.zero_add] at a3 a5
  have g1 : hget K1 H.length = .row [.int .i64 (w : Int), .int .i64 m, .slice none 0 0] 0 true := by rw [a5 _ (by omega) (by simp [blk]), hget_last]
  have l1 : H.length < K1.length := by omega
  obtain ⟨ad, hsv⟩ := hX.len
  subst hsv
  simp (disch := omega) only [kB, kcx, kdm, kdn, kel, aop, resultsL, resultOf, Nat.reduceEqDiff, reduceCtorEq, eq1, apartOK, apart2, AObj.live, Int.reduceEq, Int.reduceLT, Int.reduceLE, Int.reduceAdd, Int.reduceSub, Int.reduceMul, Int.reduceToNat, cutCells, Nat.reduceAdd, Nat.reduceLeDiff, Nat.reduceLT, Nat.reduceMul, Nat.reduceSub, hd, a1, g1]
  refine h _ _ (by rw [List.length_set]; omega) (fun c hc => by rw [hget_ne (by omega), a5 c (by omega) (by simp [blk]), hget_old hc]) ⟨hget_set' l1, ?_⟩ (fun c hc => by have := (a2.lt hc).2; omega)
  have d6 := a2.same (K := K1.set H.length (.row [.int .i64 (w : Int), .int .i64 m, .slice ad1 ([] ++ List.map kC L).length ([] ++ List.map kC L).length] 0 true)) fun c hc => hget_ne (by have := (a2.lt hc).2; omega)
  rcases d6 with q | ⟨q1, q2, _, q3, q4, q5⟩
  · exact .inl q
  · exact .inr ⟨q1, q2, Nat.zero_le _, q3, q4, q5⟩

end Go.Proofs.Yticgkaanaimllaa.Ev

/- The document's begins, Value; same; told. -/
namespace Go.Proofs.Yticgkaanaimllaa.Ev
set_option maxRecDepth 100000
set_option linter.unusedSimpArgs false
set_option linter.unusedVariables false
variable {R : FRes → Heap → Prop} {H : Heap}

theorem begins_t {s t : List UInt8} (h : R (.ret (.bool (begB s t))) H) : WD T 67 [.string (bs s), .string (bs t)] H R := by
  refine WD.of follows t67 (by simp) ?_
  unfold begB at h
  by_cases h1 : (s.length : Int) ≤ (t.length : Nat)
  case neg =>
    rw [decide_eq_false (show ¬ s.length ≤ t.length by omega), Bool.false_and] at h
    simp (disch := omega) only [kB, kcx, kdm, kdn, kel, aop, resultsL, resultOf, Nat.reduceEqDiff, reduceCtorEq, eq1, apartOK, apart2, AObj.live, Int.reduceEq, Int.reduceLT, Int.reduceLE, Int.reduceAdd, Int.reduceSub, Int.reduceMul, Int.reduceToNat, cutCells, Nat.reduceAdd, Nat.reduceLeDiff, Nat.reduceLT, Nat.reduceMul, Nat.reduceSub, h1]
    exact h
  have h2 : s.length ≤ t.length := by omega
  rw [decide_eq_true h2, Bool.true_and] at h
  simp (disch := omega) only [kB, kcx, kdm, kdn, kel, aop, resultsL, resultOf, Nat.reduceEqDiff, reduceCtorEq, eq1, apartOK, apart2, AObj.live, Int.reduceEq, Int.reduceLT, Int.reduceLE, Int.reduceAdd, Int.reduceSub, Int.reduceMul, Int.reduceToNat, cutCells, Nat.reduceAdd, Nat.reduceLeDiff, Nat.reduceLT, Nat.reduceMul, Nat.reduceSub, h1, h2, if_pos]
  exact h

/-! ### Value -/

theorem shr_step {c m : Nat} : c >>> m = 2 * (c >>> (m + 1)) + (if c.testBit m = true then 1 else 0) := by
  have h1 : c >>> (m + 1) = (c >>> m) / 2 := by rw [Nat.shiftRight_succ]
  have h2 : c.testBit m = decide ((c >>> m) % 2 = 1) := by
    rw [Nat.testBit, Nat.and_comm, Nat.and_one_is_mod]
    rcases Nat.mod_two_eq_zero_or_one (c >>> m) with q | q <;> simp [q]
  rw [h1, h2]
  rcases Nat.mod_two_eq_zero_or_one (c >>> m) with q | q <;> simp [q] <;> omega

theorem dbl_a {q : Nat} (h : q < 9223372036854775808) : IntKind.u64.wrap (2 * (q : Int)) = ((2 * q : Nat) : Int) := by rw [wr_u64 (by omega) (by omega)]; omega
theorem dbl_b {q : Nat} (h : q < 9223372036854775808) : IntKind.u64.wrap ((2 * q + 1 : Nat) : Int) = ((2 * q + 1 : Nat) : Int) := by rw [wr_u64 (by omega) (by omega)]
theorem dbl_c {q : Nat} : IntKind.u64.wrap (2 * (q : Int)) = ((2 * q % W64 : Nat) : Int) := by
  rw [show (2 * (q : Int)) = ((2 * q : Nat) : Int) by omega, wr_u64n]
theorem dbl_d {q : Nat} : IntKind.u64.wrap ((2 * q % W64 + 1 : Nat) : Int) = ((2 * q % W64 + 1 : Nat) : Int) := by
  have hW : W64 = 18446744073709551616 := rfl
  rw [hW, wr_u64 (by omega) (by omega)]

def valI (w c n : Nat) (H : Heap) : Nat → Env → Heap → Prop := fun z e K =>
  ∃ i A : Nat, i ≤ w ∧ z = w - i ∧ A = c >>> (w - i) ∧ K = H ++ [.row [.int .u64 0, .int .u64 0] 0 true, .row [.int .u64 ((A / W64 : Nat) : Int), .int .u64 ((A % W64 : Nat) : Int)] 0 true] ∧
    (∃ x : Nat → Value, e = [.string (bs (txt w (c, n))), .int .i64 (w : Int), x 2, x 3, .pointer (some ⟨H.length, 0, none⟩), .pointer (some ⟨H.length + 1, 0, none⟩), .int .i64 (i : Int), x 7, x 8, x 9, x 10, x 11, x 12, x 13, x 14, x 15, x 16, x 17, x 18, x 19, x 20, x 21, x 22, x 23, x 24, x 25, x 26, x 27, x 28, x 29, x 30, x 31, x 32, x 33, x 34, x 35, x 36, x 37, x 38, x 39, x 40, x 41])

theorem refval_t {w c n : Nat} (hw : 1 ≤ w) (hw2 : w ≤ 128) (hr : rgt w c (n : Int) = true) (h : R (.ret (bvA c)) H) : WD T 68 [.string (bs (txt w (c, n))), .int .i64 (w : Int)] H R := by
  obtain ⟨r1, r2, r3, r4⟩ := (rgt_iff hw2).1 hr
  simp only [Int.toNat_natCast] at r4
  have hn : n ≤ w := by omega
  have hc : c < 2 ^ 128 := Nat.lt_of_lt_of_le r1 (Nat.pow_le_pow_right (by decide) hw2)
  refine WD.gc0 (WD.of follows t68 (by simp) ?_)
  simp (disch := omega) only [kB, kcx, kdm, kdn, kel, aop, resultsL, resultOf, Nat.reduceEqDiff, reduceCtorEq, eq1, apartOK, apart2, AObj.live, Int.reduceEq, Int.reduceLT, Int.reduceLE, Int.reduceAdd, Int.reduceSub, Int.reduceMul, Int.reduceToNat, cutCells, Nat.reduceAdd, Nat.reduceLeDiff, Nat.reduceLT, Nat.reduceMul, Nat.reduceSub]
  refine WLoop.inv (valI w c n H) ?_ w _ _ ⟨0, 0, by omega, by omega, ?_, rfl, by exact ex_env rfl⟩
  rotate_left
  · rw [Nat.sub_zero, Nat.shiftRight_eq_div_pow, Nat.div_eq_of_lt r1]
  rintro z e K ⟨i, A, hi, rfl, hA, rfl, ⟨x, rfl⟩⟩
  by_cases hi2 : (i : Int) < (w : Int)
  case neg =>
    have e1 : i = w := by omega
    subst e1
    rw [Nat.sub_self, Nat.shiftRight_zero] at hA
    subst hA
    simp (disch := omega) only [kB, kcx, kdm, kdn, kel, aop, resultsL, resultOf, Nat.reduceEqDiff, reduceCtorEq, eq1, apartOK, apart2, AObj.live, Int.reduceEq, Int.reduceLT, Int.reduceLE, Int.reduceAdd, Int.reduceSub, Int.reduceMul, Int.reduceToNat, cutCells, Nat.reduceAdd, Nat.reduceLeDiff, Nat.reduceLT, Nat.reduceMul, Nat.reduceSub, hi2]
    exact ⟨_, rfl, ⟨_, rfl⟩, .closed rfl, h⟩
  have hiw : i < w := by omega
  have hA1 : A < 2 ^ 127 := by
    rw [hA, Nat.shiftRight_eq_div_pow]
    have e1 : c < 2 ^ i * 2 ^ (w - i) := by rw [← Nat.pow_add, show i + (w - i) = w by omega]; exact r1
    have := Nat.div_lt_of_lt_mul (by rw [Nat.mul_comm]; exact e1 : c < 2 ^ (w - i) * 2 ^ i)
    exact Nat.lt_of_lt_of_le this (Nat.pow_le_pow_right (by decide) (by omega))
  have hstep := shr_step (c := c) (m := w - (i + 1))
  rw [show w - (i + 1) + 1 = w - i by omega, ← hA] at hstep
  have hW : W64 = 18446744073709551616 := rfl
  have hhi : A / W64 < 9223372036854775808 := by rw [hW]; omega
  have hlo : A % W64 < 18446744073709551616 := by rw [hW]; omega
  have a1 := dbl_a hhi
  have a2 := dbl_b hhi
  have a3 : IntKind.u64.wrap (2 * ((A % W64 : Nat) : Int)) = ((2 * (A % W64) % W64 : Nat) : Int) := dbl_c
  have a4 : IntKind.u64.wrap ((2 * (A % W64) % W64 + 1 : Nat) : Int) = ((2 * (A % W64) % W64 + 1 : Nat) : Int) := dbl_d
  have hlen : (txt w (c, n)).length = n := txt_len (x := (c, n)) hn
  have c0 : (0 : Int) ≤ (i : Int) := by omega
  by_cases hcar : (9223372036854775808 : Int) ≤ ((A % W64 : Nat) : Int)
  · by_cases hin : (i : Int) < (n : Int)
    · have hg : (txt w (c, n))[i]? = some (bitC (c.testBit (w - 1 - i))) := by
        rw [txt, List.getElem?_take_of_lt (by simpa using (show i < n by omega))]
        exact bitS_get hiw
      rw [show w - 1 - i = w - (i + 1) by omega] at hg
      cases hb : c.testBit (w - (i + 1)) with
      | true =>
        rw [hb] at hg hstep
        have hg2 : (txt w (c, n))[i]? = some 49 := hg
        have e49 : (((49 : UInt8).toNat : Nat) : Int) = 49 := rfl
        simp (disch := omega) only [kB, kcx, kdm, kdn, kel, aop, resultsL, resultOf, Nat.reduceEqDiff, reduceCtorEq, eq1, apartOK, apart2, AObj.live, Int.reduceEq, Int.reduceLT, Int.reduceLE, Int.reduceAdd, Int.reduceSub, Int.reduceMul, Int.reduceToNat, cutCells, Nat.reduceAdd, Nat.reduceLeDiff, Nat.reduceLT, Nat.reduceMul, Nat.reduceSub, hi2, a1, a2, a3, a4, hcar, hlen, hin, hg2, c0, e49, wr_i64, nadd1]
        refine ⟨w - (i + 1), by omega, i + 1, c >>> (w - (i + 1)), by omega, rfl, rfl, ?_, ex_env rfl⟩
        rw [show c >>> (w - (i + 1)) = 2 * A + 1 by rw [hstep]; simp]
        have q1 : (2 * A + 1) / W64 = 2 * (A / W64) + 1 := by rw [hW] at hcar ⊢; omega
        have q2 : (2 * A + 1) % W64 = 2 * (A % W64) % W64 + 1 := by rw [hW]; omega
        rw [q1, q2]
      | false =>
        rw [hb] at hg hstep
        have hg2 : (txt w (c, n))[i]? = some 48 := hg
        have e48 : (((48 : UInt8).toNat : Nat) : Int) = 48 := rfl
        simp (disch := omega) only [kB, kcx, kdm, kdn, kel, aop, resultsL, resultOf, Nat.reduceEqDiff, reduceCtorEq, eq1, apartOK, apart2, AObj.live, Int.reduceEq, Int.reduceLT, Int.reduceLE, Int.reduceAdd, Int.reduceSub, Int.reduceMul, Int.reduceToNat, cutCells, Nat.reduceAdd, Nat.reduceLeDiff, Nat.reduceLT, Nat.reduceMul, Nat.reduceSub, hi2, a1, a2, a3, a4, hcar, hlen, hin, hg2, c0, e48, wr_i64, nadd1]
        refine ⟨w - (i + 1), by omega, i + 1, c >>> (w - (i + 1)), by omega, rfl, rfl, ?_, ex_env rfl⟩
        rw [show c >>> (w - (i + 1)) = 2 * A by rw [hstep]; simp]
        have q1 : (2 * A) / W64 = 2 * (A / W64) + 1 := by rw [hW] at hcar ⊢; omega
        have q2 : (2 * A) % W64 = 2 * (A % W64) % W64 := by rw [hW]; omega
        rw [q1, q2]
    · have hb : c.testBit (w - (i + 1)) = false := by
        have := r4 i (by omega) hiw
        rwa [show w - 1 - i = w - (i + 1) by omega] at this
      rw [hb] at hstep
      simp (disch := omega) only [kB, kcx, kdm, kdn, kel, aop, resultsL, resultOf, Nat.reduceEqDiff, reduceCtorEq, eq1, apartOK, apart2, AObj.live, Int.reduceEq, Int.reduceLT, Int.reduceLE, Int.reduceAdd, Int.reduceSub, Int.reduceMul, Int.reduceToNat, cutCells, Nat.reduceAdd, Nat.reduceLeDiff, Nat.reduceLT, Nat.reduceMul, Nat.reduceSub, hi2, a1, a2, a3, a4, hcar, hlen, hin, wr_i64, nadd1]
      refine ⟨w - (i + 1), by omega, i + 1, c >>> (w - (i + 1)), by omega, rfl, rfl, ?_, ex_env rfl⟩
      rw [show c >>> (w - (i + 1)) = 2 * A by rw [hstep]; simp]
      have q1 : (2 * A) / W64 = 2 * (A / W64) + 1 := by rw [hW] at hcar ⊢; omega
      have q2 : (2 * A) % W64 = 2 * (A % W64) % W64 := by rw [hW]; omega
      rw [q1, q2]
  · by_cases hin : (i : Int) < (n : Int)
    · have hg : (txt w (c, n))[i]? = some (bitC (c.testBit (w - 1 - i))) := by
        rw [txt, List.getElem?_take_of_lt (by simpa using (show i < n by omega))]
        exact bitS_get hiw
      rw [show w - 1 - i = w - (i + 1) by omega] at hg
      cases hb : c.testBit (w - (i + 1)) with
      | true =>
        rw [hb] at hg hstep
        have hg2 : (txt w (c, n))[i]? = some 49 := hg
        have e49 : (((49 : UInt8).toNat : Nat) : Int) = 49 := rfl
        simp (disch := omega) only [kB, kcx, kdm, kdn, kel, aop, resultsL, resultOf, Nat.reduceEqDiff, reduceCtorEq, eq1, apartOK, apart2, AObj.live, Int.reduceEq, Int.reduceLT, Int.reduceLE, Int.reduceAdd, Int.reduceSub, Int.reduceMul, Int.reduceToNat, cutCells, Nat.reduceAdd, Nat.reduceLeDiff, Nat.reduceLT, Nat.reduceMul, Nat.reduceSub, hi2, a1, a2, a3, a4, hcar, hlen, hin, hg2, c0, e49, wr_i64, nadd1]
        refine ⟨w - (i + 1), by omega, i + 1, c >>> (w - (i + 1)), by omega, rfl, rfl, ?_, ex_env rfl⟩
        rw [show c >>> (w - (i + 1)) = 2 * A + 1 by rw [hstep]; simp]
        have q1 : (2 * A + 1) / W64 = 2 * (A / W64) := by rw [hW] at hcar ⊢; omega
        have q2 : (2 * A + 1) % W64 = 2 * (A % W64) % W64 + 1 := by rw [hW]; omega
        rw [q1, q2]
      | false =>
        rw [hb] at hg hstep
        have hg2 : (txt w (c, n))[i]? = some 48 := hg
        have e48 : (((48 : UInt8).toNat : Nat) : Int) = 48 := rfl
        simp (disch := omega) only [kB, kcx, kdm, kdn, kel, aop, resultsL, resultOf, Nat.reduceEqDiff, reduceCtorEq, eq1, apartOK, apart2, AObj.live, Int.reduceEq, Int.reduceLT, Int.reduceLE, Int.reduceAdd, Int.reduceSub, Int.reduceMul, Int.reduceToNat, cutCells, Nat.reduceAdd, Nat.reduceLeDiff, Nat.reduceLT, Nat.reduceMul, Nat.reduceSub, hi2, a1, a2, a3, a4, hcar, hlen, hin, hg2, c0, e48, wr_i64, nadd1]
        refine ⟨w - (i + 1), by omega, i + 1, c >>> (w - (i + 1)), by omega, rfl, rfl, ?_, ex_env rfl⟩
        rw [show c >>> (w - (i + 1)) = 2 * A by rw [hstep]; simp]
        have q1 : (2 * A) / W64 = 2 * (A / W64) := by rw [hW] at hcar ⊢; omega
        have q2 : (2 * A) % W64 = 2 * (A % W64) % W64 := by rw [hW]; omega
        rw [q1, q2]
    · have hb : c.testBit (w - (i + 1)) = false := by
        have := r4 i (by omega) hiw
        rwa [show w - 1 - i = w - (i + 1) by omega] at this
      rw [hb] at hstep
      simp (disch := omega) only [kB, kcx, kdm, kdn, kel, aop, resultsL, resultOf, Nat.reduceEqDiff, reduceCtorEq, eq1, apartOK, apart2, AObj.live, Int.reduceEq, Int.reduceLT, Int.reduceLE, Int.reduceAdd, Int.reduceSub, Int.reduceMul, Int.reduceToNat, cutCells, Nat.reduceAdd, Nat.reduceLeDiff, Nat.reduceLT, Nat.reduceMul, Nat.reduceSub, hi2, a1, a2, a3, a4, hcar, hlen, hin, wr_i64, nadd1]
      refine ⟨w - (i + 1), by omega, i + 1, c >>> (w - (i + 1)), by omega, rfl, rfl, ?_, ex_env rfl⟩
      rw [show c >>> (w - (i + 1)) = 2 * A by rw [hstep]; simp]
      have q1 : (2 * A) / W64 = 2 * (A / W64) := by rw [hW] at hcar ⊢; omega
      have q2 : (2 * A) % W64 = 2 * (A % W64) % W64 := by rw [hW]; omega
      rw [q1, q2]

/-- A prefix and the document's, that are one. -/
theorem same_t {w c n : Nat} {v : Int} (hw : 1 ≤ w) (hw2 : w ≤ 128) (hr : rgt w c (n : Int) = true) (h : R (.ret (.bool true)) H) : WD T 33 [pfv c (n : Nat), .agg #[.string (bs (txt w (c, n))), .int .i64 v], .int .i64 (w : Int)] H R := by
  obtain ⟨r1, r2, r3, r4⟩ := (rgt_iff hw2).1 hr
  have hn : n ≤ w := by omega
  have hlen : (txt w (c, n)).length = n := txt_len (x := (c, n)) hn
  refine WD.gc0 (WD.of follows t33 (by simp) ?_)
  simp (disch := omega) only [kB, kcx, kdm, kdn, kel, aop, resultsL, resultOf, Nat.reduceEqDiff, reduceCtorEq, eq1, apartOK, apart2, AObj.live, Int.reduceEq, Int.reduceLT, Int.reduceLE, Int.reduceAdd, Int.reduceSub, Int.reduceMul, Int.reduceToNat, cutCells, Nat.reduceAdd, Nat.reduceLeDiff, Nat.reduceLT, Nat.reduceMul, Nat.reduceSub]
  refine refval_t hw hw2 hr ?_
  have e1 := eq_bv (v := c) (w := c)
  rw [decide_eq_true rfl] at e1
  simp (disch := omega) only [kB, kcx, kdm, kdn, kel, aop, resultsL, resultOf, Nat.reduceEqDiff, reduceCtorEq, eq1, apartOK, apart2, AObj.live, Int.reduceEq, Int.reduceLT, Int.reduceLE, Int.reduceAdd, Int.reduceSub, Int.reduceMul, Int.reduceToNat, cutCells, Nat.reduceAdd, Nat.reduceLeDiff, Nat.reduceLT, Nat.reduceMul, Nat.reduceSub, e1, hlen]
  exact ⟨_, rfl, ⟨_, rfl⟩, .closed rfl, h⟩

end Go.Proofs.Yticgkaanaimllaa.Ev

/- told: an iterator tells just these. -/
namespace Go.Proofs.Yticgkaanaimllaa.Ev
set_option maxRecDepth 100000
set_option linter.unusedSimpArgs false
set_option linter.unusedVariables false
variable {R : FRes → Heap → Prop} {H : Heap}

def klM (w : Nat) (L : List Mem) : KL := L.map fun x => (txM w x, x.2.2)
theorem klM_len {w : Nat} {L : List Mem} : (klM w L).length = L.length := by simp [klM]
theorem klM_get {w : Nat} {L : List Mem} {i : Nat} {c n : Nat} {v : Int} (h : L[i]? = some (c, n, v)) (hi : i < (klM w L).length) : (klM w L)[i] = (txt w (c, n), v) := by
  have h1 : i < L.length := by rw [klM_len] at hi; exact hi
  have h2 : L[i] = (c, n, v) := by
    rw [List.getElem?_eq_getElem h1] at h
    exact Option.some.inj h
  simp [klM, h2, txM]

/-- A slice of the document's list. -/
theorem kl_row {H : Heap} {sv : Value} {L : KL} {n0 : Nat} (h : SLs 2 n0 H sv (L.map kC)) (hL : 0 < L.length) : ∃ k, sv = .slice (some ⟨k, 0, none⟩) L.length L.length ∧ hget H k = .row ((L.map kC).flatten) 2 true := by
  rcases h with ⟨q, _⟩ | ⟨h1, k, k0, rfl, k2, k3⟩
  · have := congrArg List.length q
    simp at this
    rw [this] at hL
    simp at hL
  · exact ⟨k, by simp, k2⟩

theorem told_body {H2 K : Heap} {N q w i : Nat} {sv : Value} {L : List Mem} {c n : Nat} {v : Int} {ev ev0 : Env} {Q : Post} (hw : 1 ≤ w) (hw2 : w ≤ 128) (hN : H2.length = N) (hq : q + 4 = N)
    (h0 : hget H2 q = .row [sv] 0 true) (h1 : hget H2 (q + 1) = .row [.int .i64 (w : Int)] 0 true) (hc3 : hget H2 (q + 3) = .row [.int .i64 0] 0 true) (l1 : SLs 2 0 H2 sv ((klM w L).map kC)) (hL : L.length ≤ 1000000) (hx : L[i]? = some (c, n, v)) (hrg : rgt w c (n : Int) = true)
    (he : (fun e => (∃ x : Nat → Value, e = [x 0, x 1, x 2, x 3, .pointer (some ⟨q, 0, none⟩), .pointer (some ⟨q + 1, 0, none⟩), x 6, .pointer (some ⟨q + 3, 0, none⟩), x 8, x 9, x 10, x 11, x 12, x 13, x 14, x 15, x 16, x 17, x 18, x 19, x 20, x 21, x 22, x 23, x 24, x 25, x 26, x 27, x 28, x 29, x 30, x 31, x 32, x 33, x 34, x 35, x 36, x 37, x 38, x 39, x 40, x 41, x 42, x 43])) ev) (hI : CI H2 N (q + 3) i K) :
    WC T (g30.body.at [1, 1, 1, 0, 1, 0]).cz (putL ev [14, 15] [pfv c (n : Nat), .int .i64 v]) K
      (asK T (g30.body.at [1, 1, 1, 0, 1, 0]).bd (bodyK N Q ev0 (CI H2 N (q + 3) (i + 1)) K)) := by
  obtain ⟨y, rfl⟩ := he
  obtain ⟨len, fr, ct⟩ := hI
  have hiL : i < L.length := (List.getElem?_eq_some_iff.1 hx).1
  have hi : i < (klM w L).length := by rw [klM_len]; exact hiL
  have k0 : hget K q = .row [sv] 0 true := (fr _ (by omega) (by omega)).trans h0
  have k1 : hget K (q + 1) = .row [.int .i64 (w : Int)] 0 true := (fr _ (by omega) (by omega)).trans h1
  have kl : SLs 2 0 K sv ((klM w L).map kC) := l1.same fun d hd => fr d (by have := (l1.lt hd).1; omega) (fun e => l1.ne hc3 (by decide) (by rw [← e]; exact hd))
  obtain ⟨k, hk, hk2⟩ := kl_row kl (by omega)
  subst hk
  have lk := hget_lt hk2 rfl
  have l0 := hget_lt k0 rfl
  have l1' := hget_lt k1 rfl
  have lp := hget_lt ct rfl
  have hxi := klM_get (w := w) hx hi
  have p1 := kC_all i hi
  have p2 := kC_v i hi
  have p3 := kC_flat (L := klM w L)
  rw [hxi] at p1 p2
  simp only [kC] at p1 p2
  rw [klM_len] at *
  have hi' : (i : Int) < (L.length : Nat) := by omega
  have c0 : (0 : Int) ≤ (i : Int) := by omega
  have hge : ¬ ((L.length : Nat) : Int) ≤ (i : Int) := by omega
  simp only [AFunc.body, g30, ACode.at, ACode.cz, ACode.bd]
  simp (disch := omega) only [kB, kcx, kdm, kdn, kel, aop, resultsL, resultOf, Nat.reduceEqDiff, reduceCtorEq, eq1, apartOK, apart2, AObj.live, Int.reduceEq, Int.reduceLT, Int.reduceLE, Int.reduceAdd, Int.reduceSub, Int.reduceMul, Int.reduceToNat, cutCells, Nat.reduceAdd, Nat.reduceLeDiff, Nat.reduceLT, Nat.reduceMul, Nat.reduceSub, k0, k1, ct, hk2, p1, p3, if_pos, c0, hi', hge, hiL]
  refine same_t hw hw2 hrg ?_
  simp (disch := omega) only [kB, kcx, kdm, kdn, kel, aop, resultsL, resultOf, Nat.reduceEqDiff, reduceCtorEq, eq1, apartOK, apart2, AObj.live, Int.reduceEq, Int.reduceLT, Int.reduceLE, Int.reduceAdd, Int.reduceSub, Int.reduceMul, Int.reduceToNat, cutCells, Nat.reduceAdd, Nat.reduceLeDiff, Nat.reduceLT, Nat.reduceMul, Nat.reduceSub, k0, k1, ct, hk2, p1, p2, p3, if_pos, c0, hi', hge, hiL, wr_i64, nadd1]
  exact ⟨⟨by simp; omega, fun d hd hn => by rw [hget_oldS (by omega), hget_ne (Ne.symm hn)]; exact fr d hd hn, by rw [hget_oldS lp, hget_set' lp]⟩, Keep.trans (Keep.set (fun cs e => by rw [ct] at e; cases e)) Keep.app⟩

/-- An iterator, laid in memory: over which trie, with which choice. -/
structure IterT (H : Heap) (v : Value) (b w : Nat) (m : Nat → Nat → Bool) : Prop where
  ex : ∃ pT pM fm cap, v = .func (.func 79) #[] #[.pointer (some ⟨pT, 0, none⟩), .pointer (some ⟨pM, 0, none⟩)] ∧ hget H pT = .row [.pointer (some ⟨b, 0, none⟩)] 0 true ∧ hget H pM = .row [.func (.func fm) #[] cap] 0 true ∧ MayS H w fm cap m

theorem IterT.app {G : Heap} {v : Value} {b w : Nat} {m : Nat → Nat → Bool} (h : IterT H v b w m) : IterT (H ++ G) v b w m := by
  obtain ⟨pT, pM, fm, cap, h1, h2, h3, h4⟩ := h
  exact ⟨pT, pM, fm, cap, h1, by rw [hget_old (hget_lt h2 rfl)]; exact h2, by rw [hget_old (hget_lt h3 rfl)]; exact h3, h4.more⟩

theorem told_t {v sv : Value} {b w : Nat} {mx l : Int} {t : Tr} {m : Nat → Nat → Bool} (hw : 1 ≤ w) (hw2 : w ≤ 128) (hit : IterT H v b w m) (hd : hget H b = .row [.int .i64 (w : Int), .int .i64 mx, .int .i64 l, t.ptr] 0 true) (lies : TA H t) (ok : TW w t) (hsz : t.inL.length ≤ 1000000)
    (hsl : SLs 2 0 H sv ((klM w (selP m t)).map kC)) (h : R (.ret (.bool true)) H) : WD T 30 [v, sv, .int .i64 (w : Int)] H R := by
  obtain ⟨pT, pM, fm, cap, rfl, hT, hM, hm⟩ := hit
  have hml : t.er.mem.length ≤ 1000000 := by
    have h1 := (mem_sub (t := t.er)).length_le
    rw [List.length_map, ← inL_len] at h1
    omega
  have hWl : (selP m t).length ≤ 1000000 := Nat.le_trans (List.length_filter_le _ _) hml
  have hrg : ∀ x ∈ t.er.mem, rgt w x.1 (x.2.1 : Nat) = true := mem_rgtP (tw_er.1 ok)
  have lT := hget_lt hT rfl
  have lM := hget_lt hM rfl
  have ld := hget_lt hd rfl
  refine WD.gc0 (WD.of follows t30 (by simp) ?_)
  obtain ⟨ad, hsv⟩ := hsl.len
  have hone : oneCell sv = true ∧ cellsOf sv = [sv] := by rw [hsv]; exact ⟨rfl, rfl⟩
  simp (disch := omega) only [kB, kcx, kdm, kdn, kel, aop, resultsL, resultOf, Nat.reduceEqDiff, reduceCtorEq, eq1, apartOK, apart2, AObj.live, Int.reduceEq, Int.reduceLT, Int.reduceLE, Int.reduceAdd, Int.reduceSub, Int.reduceMul, Int.reduceToNat, cutCells, Nat.reduceAdd, Nat.reduceLeDiff, Nat.reduceLT, Nat.reduceMul, Nat.reduceSub, eqF_n, hone.1, hone.2]
  obtain ⟨H2, hH2⟩ : ∃ H2, H2 = H ++ [.row [sv] 0 true, .row [.int .i64 (w : Int)] 0 true, .row [.bool false] 0 true, .row [.int .i64 0] 0 true] := ⟨_, rfl⟩
  rw [← hH2]
  have hl2 : H2.length = H.length + 4 := by rw [hH2]; simp
  have hold : ∀ c, c < H.length → hget H2 c = hget H c := fun c hc => by rw [hH2, hget_old hc]
  have g0 : hget H2 H.length = .row [sv] 0 true := by rw [hH2, hget_base0]; rfl
  have g1 : hget H2 (H.length + 1) = .row [.int .i64 (w : Int)] 0 true := by rw [hH2, hget_base]; rfl
  have g2 : hget H2 (H.length + 2) = .row [.bool false] 0 true := by rw [hH2, hget_base]; rfl
  have g3 : hget H2 (H.length + 3) = .row [.int .i64 0] 0 true := by rw [hH2, hget_base]; rfl
  have gsl : SLs 2 0 H2 sv ((klM w (selP m t)).map kC) := by rw [hH2]; exact hsl.app
  have hmore : MayS H2 w fm cap m := by rw [hH2]; exact hm.more
  have hpre : ∃ g, H2 = H ++ g := ⟨_, hH2⟩
  clear hH2
  refine range_t (w := w) (t := t) ((hold _ lT).trans hT) ((hold _ ld).trans hd) ((hold _ lM).trans hM) hmore (lies.frame hold) ok hsz rfl (CI H2 H2.length (H.length + 3)) (fun g => ⟨by simp, fun c hc hn => hget_old hc, by rw [hget_old (by omega)]; exact g3⟩)
    (fun i K o hI => hI.set (by omega)) (fun i K g hI => hI.app (by omega)) (fun i K x hx hl hI => ?_) (fun K hI hl => ?_)
  · obtain ⟨c, n, u⟩ := x
    exact told_body hw hw2 (N := H2.length) rfl (by omega) g0 g1 g3 gsl hWl hx (hrg _ (List.mem_filter.1 (List.mem_of_getElem? hx)).1) (by exact ex_env rfl) hI
  · obtain ⟨h1, h2, h3⟩ := hI
    have k0 : hget K H.length = .row [sv] 0 true := (h2 _ (by omega) (by omega)).trans g0
    have k2 : hget K (H.length + 2) = .row [.bool false] 0 true := (h2 _ (by omega) (by omega)).trans g2
    have l2 := hget_lt k2 rfl
    have hs : ∀ c, c < H.length → hget K c = hget H c := fun c hc => (h2 c (by omega) (by omega)).trans (hold c hc)
    rw [hsv] at k0
    have el : (List.map kC (klM w (selP m t))).length = (selP m t).length := by rw [List.length_map, klM_len]
    rw [el] at k0
    simp (disch := omega) only [kB, kcx, kdm, kdn, kel, aop, resultsL, resultOf, Nat.reduceEqDiff, reduceCtorEq, eq1, apartOK, apart2, AObj.live, Int.reduceEq, Int.reduceLT, Int.reduceLE, Int.reduceAdd, Int.reduceSub, Int.reduceMul, Int.reduceToNat, cutCells, Nat.reduceAdd, Nat.reduceLeDiff, Nat.reduceLT, Nat.reduceMul, Nat.reduceSub, h3, k0, k2]
    refine ⟨_, rfl, ?_, .closed rfl, h⟩
    exact pre_of (by rw [List.length_set]; omega) fun c hc => by rw [hget_ne (by omega)]; exact hs c hc

end Go.Proofs.Yticgkaanaimllaa.Ev

/- The document's Under, Every, Find. -/
namespace Go.Proofs.Yticgkaanaimllaa.Ev
set_option maxRecDepth 100000
set_option linter.unusedSimpArgs false
set_option linter.unusedVariables false
variable {R : FRes → Heap → Prop} {H : Heap}

/-- What of a list has been taken so far. -/
def FilS (H : Heap) (n1 : Nat) (p : List UInt8 × Int → Bool) (L : KL) (i : Nat) (sv : Value) (K : Heap) : Prop :=
  n1 ≤ K.length ∧ (∀ c, c < n1 → hget K c = hget H c) ∧ SLs 2 n1 K sv (((L.take i).filter p).map kC)

theorem FilS.next {n1 : Nat} {p : List UInt8 × Int → Bool} {L : KL} {i : Nat} {sv : Value} {K : Heap} (h : FilS H n1 p L i sv K) (hi : i < L.length) (hp : p L[i] = false) : FilS H n1 p L (i + 1) sv K := by
  obtain ⟨h1, h2, h3⟩ := h
  refine ⟨h1, h2, ?_⟩
  rw [List.take_add_one, List.getElem?_eq_getElem hi, List.filter_append]
  simpa [List.filter_cons, hp] using h3
theorem FilS.more {n1 : Nat} {p : List UInt8 × Int → Bool} {L : KL} {i : Nat} {sv : Value} {K : Heap} (h : FilS H n1 p L i sv K) (hL : L.length ≤ 1000000) (hi : i < L.length) (hp : p L[i] = true) :
    ∃ ad n K', appendV (K ++ [.row (kC L[i]) 2 true]) 2 24 sv (.slice (some ⟨K.length, 0, none⟩) 1 1) = .val (.slice ad n n) K' ∧ FilS H n1 p L (i + 1) (.slice ad n n) K' := by
  obtain ⟨h1, h2, h3⟩ := h
  have hlen : ((List.filter p (List.take i L)).map kC).length ≤ L.length := by
    rw [List.length_map]
    exact Nat.le_trans (List.length_filter_le _ _) (by rw [List.length_take]; omega)
  obtain ⟨sv2, K2, b1, b2, b3, b4, b5⟩ := app_sl (u := 2) (n0 := n1) (bytes := 24) (K := K ++ [.row (kC L[i]) 2 true]) (bx := K.length) (xs := kC L[i]) (u2 := 2) (w2 := true) h3.app (by simp; omega) (by rw [hget_last]) rfl rfl (by simp only [roomMax]; omega)
  obtain ⟨ad2, rfl⟩ := b2.len
  refine ⟨ad2, _, K2, b1, by rw [b3]; simp; omega, fun c hc => ?_, ?_⟩
  · rw [b5 c (by simp; omega) (fun q => by have := (h3.lt q).2; omega), hget_old (by omega)]
    exact h2 c hc
  · have e : List.map kC (List.filter p (List.take (i + 1) L)) = List.map kC (List.filter p (List.take i L)) ++ [kC L[i]] := by
      rw [List.take_add_one, List.getElem?_eq_getElem hi, List.filter_append]
      simp [List.filter_cons, hp]
    rw [e]
    exact b2

theorem FilS.len {n1 : Nat} {p : List UInt8 × Int → Bool} {L : KL} {i : Nat} {sv : Value} {K : Heap} (h : FilS H n1 p L i sv K) : ∃ ad n, sv = .slice ad n n := by
  obtain ⟨ad, q⟩ := h.2.2.len
  exact ⟨ad, _, q⟩

/-- The document's trie in memory, that may be read. -/
structure XQ (H : Heap) (x w : Nat) (m : Int) (sv : Value) (L : KL) : Prop where
  hd : ∃ wr, hget H x = .row [.int .i64 (w : Int), .int .i64 m, sv] 0 wr
  sl : SLs 2 0 H sv (L.map kC)
theorem XR.q {x w : Nat} {m : Int} {sv : Value} {L : KL} (h : XR H x w m sv L) : XQ H x w m sv L := ⟨⟨true, h.hd⟩, h.sl⟩
theorem XQ.same {K : Heap} {x w : Nat} {m : Int} {sv : Value} {L : KL} (h : XQ H x w m sv L) (hx : hget K x = hget H x) (hs : ∀ c, blk sv = some c → hget K c = hget H c) : XQ K x w m sv L := ⟨h.hd.imp fun _ q => hx.trans q, h.sl.same hs⟩
theorem XQ.app {G : Heap} {x w : Nat} {m : Int} {sv : Value} {L : KL} (h : XQ H x w m sv L) : XQ (H ++ G) x w m sv L := by
  obtain ⟨wr, hd⟩ := h.hd
  exact h.same (hget_old (hget_lt hd rfl)) fun c hc => hget_old (h.sl.lt hc).1
theorem XQ.len {x w : Nat} {m : Int} {sv : Value} {L : KL} (h : XQ H x w m sv L) : ∃ ad, sv = .slice ad L.length L.length := by
  obtain ⟨ad, q⟩ := h.sl.len
  exact ⟨ad, by simpa using q⟩
theorem XQ.row {x w : Nat} {m : Int} {sv : Value} {L : KL} (h : XQ H x w m sv L) (hL : 0 < L.length) : ∃ k, sv = .slice (some ⟨k, 0, none⟩) L.length L.length ∧ hget H k = .row ((L.map kC).flatten) 2 true := kl_row h.sl hL
theorem hget_frz_ne {b c : Nat} (h : c ≠ b) : hget (frz H [b]) c = hget H c := by
  simp only [frz, frz1]
  split
  · rw [hget_ne (Ne.symm h)]
  · rfl
theorem XR.frz {x w : Nat} {m : Int} {sv : Value} {L : KL} (h : XR H x w m sv L) : XQ (Ev.frz H [x]) x w m sv L := by
  refine ⟨row_frz h.hd, h.sl.same fun c hc => hget_frz_ne fun e => ?_⟩
  rw [e] at hc
  exact h.sl.ne h.hd (by decide) hc

def unI (H1 : Heap) (n1 xb : Nat) (s : List UInt8) (L : KL) : Nat → Env → Heap → Prop := fun z e K =>
  ∃ (i : Nat) (sv : Value), i ≤ L.length ∧ z = L.length - i ∧ FilS H1 n1 (fun y => begB s y.1) L i sv K ∧ (∃ x : Nat → Value, e = [.pointer (some ⟨xb, 0, none⟩), x 1, x 2, x 3, x 4, x 5, x 6, .string (bs s), .bool true, sv, .int .i64 (i : Int), x 11, x 12, x 13, x 14, x 15, x 16, x 17, x 18, x 19, x 20, x 21, x 22, x 23, x 24, x 25, x 26, x 27, x 28, x 29, x 30, x 31, x 32, x 33, x 34, x 35, x 36, x 37, x 38, x 39, x 40, x 41, x 42, x 43, x 44, x 45, x 46, x 47, x 48, x 49, x 50, x 51, x 52, x 53, x 54, x 55])

theorem runder_t {xb w a : Nat} {n m : Int} {sv : Value} {L : KL} (hX : XQ H xb w m sv L) (hL : L.length ≤ 1000000) (hw : 1 ≤ w) (hw2 : w ≤ 128) (ha : a < 2 ^ 128)
    (h : ∀ sv' g, SLs 2 H.length (H ++ g) sv' ((if rgt w a n = true then L.filter (fun y => begB (headT w a n) y.1) else []).map kC) → R (.ret sv') (H ++ g)) : WD T 31 [.pointer (some ⟨xb, 0, none⟩), bvA a, .int .i64 n] H R := by
  refine WD.of follows t31 (by simp) ?_
  obtain ⟨ad, rfl⟩ := hX.len
  obtain ⟨wr, hd⟩ := hX.hd
  have lx := hget_lt hd rfl
  simp (disch := omega) only [kB, kcx, kdm, kdn, kel, aop, resultsL, resultOf, Nat.reduceEqDiff, reduceCtorEq, eq1, apartOK, apart2, AObj.live, Int.reduceEq, Int.reduceLT, Int.reduceLE, Int.reduceAdd, Int.reduceSub, Int.reduceMul, Int.reduceToNat, cutCells, Nat.reduceAdd, Nat.reduceLeDiff, Nat.reduceLT, Nat.reduceMul, Nat.reduceSub, hd]
  refine reftext2_t hw hw2 ha ?_
  generalize headT w a n = s at *
  cases hr : rgt w a n with
  | false =>
    rw [hr, if_neg (by simp)] at h
    simp (disch := omega) only [kB, kcx, kdm, kdn, kel, aop, resultsL, resultOf, Nat.reduceEqDiff, reduceCtorEq, eq1, apartOK, apart2, AObj.live, Int.reduceEq, Int.reduceLT, Int.reduceLE, Int.reduceAdd, Int.reduceSub, Int.reduceMul, Int.reduceToNat, cutCells, Nat.reduceAdd, Nat.reduceLeDiff, Nat.reduceLT, Nat.reduceMul, Nat.reduceSub]
    refine WLoop.inv (fun z e K => K = H ++ [boxRow a] ∧ (∃ x : Nat → Value, e = [.pointer (some ⟨xb, 0, none⟩), x 1, x 2, x 3, x 4, x 5, x 6, .string (bs s), .bool false, .slice none 0 0, .int .i64 0, x 11, x 12, x 13, x 14, x 15, x 16, x 17, x 18, x 19, x 20, x 21, x 22, x 23, x 24, x 25, x 26, x 27, x 28, x 29, x 30, x 31, x 32, x 33, x 34, x 35, x 36, x 37, x 38, x 39, x 40, x 41, x 42, x 43, x 44, x 45, x 46, x 47, x 48, x 49, x 50, x 51, x 52, x 53, x 54, x 55])) ?_ 0 _ _ ⟨rfl, by exact ex_env rfl⟩
    rintro z e K ⟨rfl, ⟨x, rfl⟩⟩
    by_cases h0 : (0 : Int) < ((L.length : Nat) : Int)
    · simp (disch := omega) only [kB, kcx, kdm, kdn, kel, aop, resultsL, resultOf, Nat.reduceEqDiff, reduceCtorEq, eq1, apartOK, apart2, AObj.live, Int.reduceEq, Int.reduceLT, Int.reduceLE, Int.reduceAdd, Int.reduceSub, Int.reduceMul, Int.reduceToNat, cutCells, Nat.reduceAdd, Nat.reduceLeDiff, Nat.reduceLT, Nat.reduceMul, Nat.reduceSub, hd, h0]
      exact h _ _ (.inl ⟨rfl, rfl⟩)
    · simp (disch := omega) only [kB, kcx, kdm, kdn, kel, aop, resultsL, resultOf, Nat.reduceEqDiff, reduceCtorEq, eq1, apartOK, apart2, AObj.live, Int.reduceEq, Int.reduceLT, Int.reduceLE, Int.reduceAdd, Int.reduceSub, Int.reduceMul, Int.reduceToNat, cutCells, Nat.reduceAdd, Nat.reduceLeDiff, Nat.reduceLT, Nat.reduceMul, Nat.reduceSub, hd, h0]
      exact h _ _ (.inl ⟨rfl, rfl⟩)
  | true =>
  rw [hr, if_pos rfl] at h
  simp (disch := omega) only [kB, kcx, kdm, kdn, kel, aop, resultsL, resultOf, Nat.reduceEqDiff, reduceCtorEq, eq1, apartOK, apart2, AObj.live, Int.reduceEq, Int.reduceLT, Int.reduceLE, Int.reduceAdd, Int.reduceSub, Int.reduceMul, Int.reduceToNat, cutCells, Nat.reduceAdd, Nat.reduceLeDiff, Nat.reduceLT, Nat.reduceMul, Nat.reduceSub]
  obtain ⟨H1, hH1⟩ : ∃ H1, H1 = H ++ [boxRow a] := ⟨_, rfl⟩
  have hH1' := hH1.symm
  unfold boxRow at hH1'
  rw [hH1']
  have hX1 : XQ H1 xb w m (.slice ad L.length L.length) L := by rw [hH1]; exact hX.app
  have l1 : H1.length = H.length + 1 := by rw [hH1]; simp
  have hold : ∀ c, c < H.length → hget H1 c = hget H c := fun c hc => by rw [hH1, hget_old hc]
  clear hH1 hH1'
  refine WLoop.inv (unI H1 H1.length xb s L) ?_ L.length _ _ ⟨0, .slice none 0 0, by omega, by omega, ⟨Nat.le_refl _, fun _ _ => rfl, .inl ⟨rfl, rfl⟩⟩, by exact ex_env rfl⟩
  rintro z e K ⟨i, sv, hi, rfl, hF, ⟨x, rfl⟩⟩
  have hXK := hX1.same (K := K) (hF.2.1 xb (by omega)) (fun c hc => hF.2.1 c (hX1.sl.lt hc).1)
  obtain ⟨wrK, hdK⟩ := hXK.hd
  by_cases hi2 : (i : Int) < ((L.length : Nat) : Int)
  case neg =>
    simp (disch := omega) only [kB, kcx, kdm, kdn, kel, aop, resultsL, resultOf, Nat.reduceEqDiff, reduceCtorEq, eq1, apartOK, apart2, AObj.live, Int.reduceEq, Int.reduceLT, Int.reduceLE, Int.reduceAdd, Int.reduceSub, Int.reduceMul, Int.reduceToNat, cutCells, Nat.reduceAdd, Nat.reduceLeDiff, Nat.reduceLT, Nat.reduceMul, Nat.reduceSub, hdK, hi2]
    have e1 : i = L.length := by omega
    subst e1
    obtain ⟨f1, f2, f3⟩ := hF
    rw [List.take_length] at f3
    obtain ⟨g, rfl⟩ := pre_of (H := H) (by omega) fun c hc => (f2 c (by omega)).trans (hold c hc)
    refine h sv g ?_
    rcases f3 with q | ⟨q1, k, q2, q3⟩
    · exact .inl q
    · exact .inr ⟨q1, k, by omega, q3⟩
  have hi3 : i < L.length := by omega
  obtain ⟨k, hk, hk2⟩ := hXK.row (by omega)
  simp only [Value.slice.injEq] at hk
  obtain ⟨rfl, _⟩ := hk
  have lk := hget_lt hk2 rfl
  have p1 := kC_all i hi3
  have p2 := kC_t i hi3
  have p3 := kC_flat (L := L)
  simp only [kC] at p1
  have c0 : (0 : Int) ≤ (i : Int) := by omega
  simp (disch := omega) only [kB, kcx, kdm, kdn, kel, aop, resultsL, resultOf, Nat.reduceEqDiff, reduceCtorEq, eq1, apartOK, apart2, AObj.live, Int.reduceEq, Int.reduceLT, Int.reduceLE, Int.reduceAdd, Int.reduceSub, Int.reduceMul, Int.reduceToNat, cutCells, Nat.reduceAdd, Nat.reduceLeDiff, Nat.reduceLT, Nat.reduceMul, Nat.reduceSub, hdK, hi2, hi3, hk2, p2, p3, if_pos, c0]
  refine begins_t ?_
  cases hb : begB s L[i].1 with
  | false =>
    simp (disch := omega) only [kB, kcx, kdm, kdn, kel, aop, resultsL, resultOf, Nat.reduceEqDiff, reduceCtorEq, eq1, apartOK, apart2, AObj.live, Int.reduceEq, Int.reduceLT, Int.reduceLE, Int.reduceAdd, Int.reduceSub, Int.reduceMul, Int.reduceToNat, cutCells, Nat.reduceAdd, Nat.reduceLeDiff, Nat.reduceLT, Nat.reduceMul, Nat.reduceSub, wr_i64, nadd1]
    exact ⟨L.length - (i + 1), by omega, i + 1, sv, by omega, rfl, hF.next hi3 hb, ex_env rfl⟩
  | true =>
    obtain ⟨ad2, n2, K2, a1, a2⟩ := hF.more hL hi3 hb
    simp only [kC] at a1
    simp (disch := omega) only [kB, kcx, kdm, kdn, kel, aop, resultsL, resultOf, Nat.reduceEqDiff, reduceCtorEq, eq1, apartOK, apart2, AObj.live, Int.reduceEq, Int.reduceLT, Int.reduceLE, Int.reduceAdd, Int.reduceSub, Int.reduceMul, Int.reduceToNat, cutCells, Nat.reduceAdd, Nat.reduceLeDiff, Nat.reduceLT, Nat.reduceMul, Nat.reduceSub, hdK, hi2, hi3, hk2, p1, p2, p3, if_pos, c0, a1, wr_i64, nadd1]
    exact ⟨L.length - (i + 1), by omega, i + 1, _, by omega, rfl, a2, ex_env rfl⟩

def evI (H1 : Heap) (n1 xb : Nat) (s : List UInt8) (L : KL) : Nat → Env → Heap → Prop := fun z e K =>
  ∃ (i : Nat) (sv : Value), i ≤ L.length ∧ z = L.length - i ∧ FilS H1 n1 (fun y => begB y.1 s) L i sv K ∧ (∃ x : Nat → Value, e = [.pointer (some ⟨xb, 0, none⟩), x 1, x 2, x 3, x 4, .string (bs s), .bool true, sv, .int .i64 (i : Int), x 9, x 10, x 11, x 12, x 13, x 14, x 15, x 16, x 17, x 18, x 19, x 20, x 21, x 22, x 23, x 24, x 25, x 26, x 27, x 28, x 29, x 30, x 31, x 32, x 33, x 34, x 35, x 36, x 37, x 38, x 39, x 40, x 41, x 42, x 43, x 44, x 45, x 46, x 47, x 48, x 49, x 50, x 51, x 52])

theorem revery_t {xb w a : Nat} {m : Int} {sv : Value} {L : KL} (hX : XR H xb w m sv L) (hL : L.length ≤ 1000000) (hw : 1 ≤ w) (hw2 : w ≤ 128) (ha : a < 2 ^ 128)
    (h : ∀ sv' g, SLs 2 H.length (H ++ g) sv' ((if a < 2 ^ w then L.filter (fun y => begB y.1 (bitS w a)) else []).map kC) → R (.ret sv') (H ++ g)) : WD T 87 [.pointer (some ⟨xb, 0, none⟩), bvA a] H R := by
  refine WD.of follows t87 (by simp) ?_
  obtain ⟨ad, rfl⟩ := hX.len
  have hd := hX.hd
  have lx := hget_lt hd rfl
  simp (disch := omega) only [kB, kcx, kdm, kdn, kel, aop, resultsL, resultOf, Nat.reduceEqDiff, reduceCtorEq, eq1, apartOK, apart2, AObj.live, Int.reduceEq, Int.reduceLT, Int.reduceLE, Int.reduceAdd, Int.reduceSub, Int.reduceMul, Int.reduceToNat, cutCells, Nat.reduceAdd, Nat.reduceLeDiff, Nat.reduceLT, Nat.reduceMul, Nat.reduceSub, hd]
  refine refbits_t hw hw2 ha ?_
  generalize bitS w a = s at *
  by_cases hr : a < 2 ^ w
  case neg =>
    rw [if_neg hr] at h ⊢
    simp (disch := omega) only [kB, kcx, kdm, kdn, kel, aop, resultsL, resultOf, Nat.reduceEqDiff, reduceCtorEq, eq1, apartOK, apart2, AObj.live, Int.reduceEq, Int.reduceLT, Int.reduceLE, Int.reduceAdd, Int.reduceSub, Int.reduceMul, Int.reduceToNat, cutCells, Nat.reduceAdd, Nat.reduceLeDiff, Nat.reduceLT, Nat.reduceMul, Nat.reduceSub]
    refine WLoop.inv (fun z e K => K = H ++ [boxRow a] ∧ (∃ x : Nat → Value, e = [.pointer (some ⟨xb, 0, none⟩), x 1, x 2, x 3, x 4, .string (bs []), .bool false, .slice none 0 0, .int .i64 0, x 9, x 10, x 11, x 12, x 13, x 14, x 15, x 16, x 17, x 18, x 19, x 20, x 21, x 22, x 23, x 24, x 25, x 26, x 27, x 28, x 29, x 30, x 31, x 32, x 33, x 34, x 35, x 36, x 37, x 38, x 39, x 40, x 41, x 42, x 43, x 44, x 45, x 46, x 47, x 48, x 49, x 50, x 51, x 52])) ?_ 0 _ _ ⟨rfl, by exact ex_env rfl⟩
    rintro z e K ⟨rfl, ⟨x, rfl⟩⟩
    by_cases h0 : (0 : Int) < ((L.length : Nat) : Int)
    · simp (disch := omega) only [kB, kcx, kdm, kdn, kel, aop, resultsL, resultOf, Nat.reduceEqDiff, reduceCtorEq, eq1, apartOK, apart2, AObj.live, Int.reduceEq, Int.reduceLT, Int.reduceLE, Int.reduceAdd, Int.reduceSub, Int.reduceMul, Int.reduceToNat, cutCells, Nat.reduceAdd, Nat.reduceLeDiff, Nat.reduceLT, Nat.reduceMul, Nat.reduceSub, hd, h0]
      exact h _ _ (.inl ⟨rfl, rfl⟩)
    · simp (disch := omega) only [kB, kcx, kdm, kdn, kel, aop, resultsL, resultOf, Nat.reduceEqDiff, reduceCtorEq, eq1, apartOK, apart2, AObj.live, Int.reduceEq, Int.reduceLT, Int.reduceLE, Int.reduceAdd, Int.reduceSub, Int.reduceMul, Int.reduceToNat, cutCells, Nat.reduceAdd, Nat.reduceLeDiff, Nat.reduceLT, Nat.reduceMul, Nat.reduceSub, hd, h0]
      exact h _ _ (.inl ⟨rfl, rfl⟩)
  rw [if_pos hr] at h ⊢
  simp (disch := omega) only [kB, kcx, kdm, kdn, kel, aop, resultsL, resultOf, Nat.reduceEqDiff, reduceCtorEq, eq1, apartOK, apart2, AObj.live, Int.reduceEq, Int.reduceLT, Int.reduceLE, Int.reduceAdd, Int.reduceSub, Int.reduceMul, Int.reduceToNat, cutCells, Nat.reduceAdd, Nat.reduceLeDiff, Nat.reduceLT, Nat.reduceMul, Nat.reduceSub]
  obtain ⟨H1, hH1⟩ : ∃ H1, H1 = H ++ [boxRow a] := ⟨_, rfl⟩
  have hH1' := hH1.symm
  unfold boxRow at hH1'
  rw [hH1']
  have hX1 : XR H1 xb w m (.slice ad L.length L.length) L := by rw [hH1]; exact hX.app
  have l1 : H1.length = H.length + 1 := by rw [hH1]; simp
  have hold : ∀ c, c < H.length → hget H1 c = hget H c := fun c hc => by rw [hH1, hget_old hc]
  clear hH1 hH1'
  refine WLoop.inv (evI H1 H1.length xb s L) ?_ L.length _ _ ⟨0, .slice none 0 0, by omega, by omega, ⟨Nat.le_refl _, fun _ _ => rfl, .inl ⟨rfl, rfl⟩⟩, by exact ex_env rfl⟩
  rintro z e K ⟨i, sv, hi, rfl, hF, ⟨x, rfl⟩⟩
  have hXK := hX1.same (K := K) (hF.2.1 xb (by omega)) (fun c hc => hF.2.1 c (hX1.sl.lt hc).1)
  have hdK := hXK.hd
  by_cases hi2 : (i : Int) < ((L.length : Nat) : Int)
  case neg =>
    simp (disch := omega) only [kB, kcx, kdm, kdn, kel, aop, resultsL, resultOf, Nat.reduceEqDiff, reduceCtorEq, eq1, apartOK, apart2, AObj.live, Int.reduceEq, Int.reduceLT, Int.reduceLE, Int.reduceAdd, Int.reduceSub, Int.reduceMul, Int.reduceToNat, cutCells, Nat.reduceAdd, Nat.reduceLeDiff, Nat.reduceLT, Nat.reduceMul, Nat.reduceSub, hdK, hi2]
    have e1 : i = L.length := by omega
    subst e1
    obtain ⟨f1, f2, f3⟩ := hF
    rw [List.take_length] at f3
    obtain ⟨g, rfl⟩ := pre_of (H := H) (by omega) fun c hc => (f2 c (by omega)).trans (hold c hc)
    refine h sv g ?_
    rcases f3 with q | ⟨q1, k, q2, q3⟩
    · exact .inl q
    · exact .inr ⟨q1, k, by omega, q3⟩
  have hi3 : i < L.length := by omega
  obtain ⟨k, hk, hk2⟩ := hXK.row (by omega)
  simp only [Value.slice.injEq] at hk
  obtain ⟨rfl, _⟩ := hk
  have lk := hget_lt hk2 rfl
  have p1 := kC_all i hi3
  have p2 := kC_t i hi3
  have p3 := kC_flat (L := L)
  simp only [kC] at p1
  have c0 : (0 : Int) ≤ (i : Int) := by omega
  simp (disch := omega) only [kB, kcx, kdm, kdn, kel, aop, resultsL, resultOf, Nat.reduceEqDiff, reduceCtorEq, eq1, apartOK, apart2, AObj.live, Int.reduceEq, Int.reduceLT, Int.reduceLE, Int.reduceAdd, Int.reduceSub, Int.reduceMul, Int.reduceToNat, cutCells, Nat.reduceAdd, Nat.reduceLeDiff, Nat.reduceLT, Nat.reduceMul, Nat.reduceSub, hdK, hi2, hi3, hk2, p2, p3, if_pos, c0]
  refine begins_t ?_
  cases hb : begB L[i].1 s with
  | false =>
    simp (disch := omega) only [kB, kcx, kdm, kdn, kel, aop, resultsL, resultOf, Nat.reduceEqDiff, reduceCtorEq, eq1, apartOK, apart2, AObj.live, Int.reduceEq, Int.reduceLT, Int.reduceLE, Int.reduceAdd, Int.reduceSub, Int.reduceMul, Int.reduceToNat, cutCells, Nat.reduceAdd, Nat.reduceLeDiff, Nat.reduceLT, Nat.reduceMul, Nat.reduceSub, wr_i64, nadd1]
    exact ⟨L.length - (i + 1), by omega, i + 1, sv, by omega, rfl, hF.next hi3 hb, ex_env rfl⟩
  | true =>
    obtain ⟨ad2, n2, K2, a1, a2⟩ := hF.more hL hi3 hb
    simp only [kC] at a1
    simp (disch := omega) only [kB, kcx, kdm, kdn, kel, aop, resultsL, resultOf, Nat.reduceEqDiff, reduceCtorEq, eq1, apartOK, apart2, AObj.live, Int.reduceEq, Int.reduceLT, Int.reduceLE, Int.reduceAdd, Int.reduceSub, Int.reduceMul, Int.reduceToNat, cutCells, Nat.reduceAdd, Nat.reduceLeDiff, Nat.reduceLT, Nat.reduceMul, Nat.reduceSub, hdK, hi2, hi3, hk2, p1, p2, p3, if_pos, c0, a1, wr_i64, nadd1]
    exact ⟨L.length - (i + 1), by omega, i + 1, _, by omega, rfl, a2, ex_env rfl⟩

def rfindV (L : KL) : Value := match L.getLast? with
  | some y => .tuple #[.agg #[.string (bs y.1), .int .i64 y.2], .bool true]
  | none => .tuple #[.agg #[.string (bs []), .int .i64 0], .bool false]

theorem rfind_t {xb w a : Nat} {m : Int} {sv : Value} {L : KL} (hX : XR H xb w m sv L) (hL : L.length ≤ 1000000) (hw : 1 ≤ w) (hw2 : w ≤ 128) (ha : a < 2 ^ 128)
    (h : R (.ret (rfindV (if a < 2 ^ w then L.filter (fun y => begB y.1 (bitS w a)) else []))) H) : WD T 64 [.pointer (some ⟨xb, 0, none⟩), bvA a] H R := by
  refine WD.gc0 (WD.of follows t64 (by simp) ?_)
  simp (disch := omega) only [kB, kcx, kdm, kdn, kel, aop, resultsL, resultOf, Nat.reduceEqDiff, reduceCtorEq, eq1, apartOK, apart2, AObj.live, Int.reduceEq, Int.reduceLT, Int.reduceLE, Int.reduceAdd, Int.reduceSub, Int.reduceMul, Int.reduceToNat, cutCells, Nat.reduceAdd, Nat.reduceLeDiff, Nat.reduceLT, Nat.reduceMul, Nat.reduceSub]
  refine revery_t hX.app hL hw hw2 ha fun sv' g hsl => ?_
  have hMl : (if a < 2 ^ w then L.filter (fun y => begB y.1 (bitS w a)) else []).length ≤ 1000000 := by
    split
    · exact Nat.le_trans (List.length_filter_le _ _) hL
    · simp
  generalize (if a < 2 ^ w then L.filter (fun y => begB y.1 (bitS w a)) else []) = M at *
  by_cases hM : M = []
  · subst hM
    have hq : sv' = .slice none 0 0 := by
      rcases hsl with ⟨_, hq⟩ | ⟨q, _⟩
      · exact hq
      · exact absurd rfl q
    subst hq
    have n0 : (((0 : Nat) : Int) = 0) = True := eq_true rfl
    simp only [rfindV, List.getLast?_nil] at h
    simp (disch := omega) only [kB, kcx, kdm, kdn, kel, aop, resultsL, resultOf, Nat.reduceEqDiff, reduceCtorEq, eq1, apartOK, apart2, AObj.live, Int.reduceEq, Int.reduceLT, Int.reduceLE, Int.reduceAdd, Int.reduceSub, Int.reduceMul, Int.reduceToNat, cutCells, Nat.reduceAdd, Nat.reduceLeDiff, Nat.reduceLT, Nat.reduceMul, Nat.reduceSub, n0]
    exact ⟨_, rfl, ⟨_, rfl⟩, .tup2 (.closed rfl) (.closed rfl), h⟩
  have hpos : 0 < M.length := List.length_pos_iff.2 hM
  obtain ⟨k, rfl, hk2⟩ := kl_row hsl hpos
  have lk := hget_lt hk2 rfl
  have hl1 : M.length - 1 < M.length := by omega
  have p1 := kC_all (M.length - 1) hl1
  have p3 := kC_flat (L := M)
  simp only [kC] at p1
  rw [rfindV, List.getLast?_eq_getElem?, List.getElem?_eq_getElem hl1] at h
  simp only at h
  have e1 : ((M.length : Nat) : Int) - 1 = ((M.length - 1 : Nat) : Int) := by omega
  have c0 : (0 : Int) ≤ ((M.length - 1 : Nat) : Int) := by omega
  have c1 : ((M.length - 1 : Nat) : Int) < ((M.length : Nat) : Int) := by omega
  have n0 : (((M.length : Nat) : Int) = 0) = False := eq_false (by omega)
  simp only [List.append_assoc, List.cons_append, List.nil_append] at hk2
  simp (disch := omega) only [kB, kcx, kdm, kdn, kel, aop, resultsL, resultOf, Nat.reduceEqDiff, reduceCtorEq, eq1, apartOK, apart2, AObj.live, Int.reduceEq, Int.reduceLT, Int.reduceLE, Int.reduceAdd, Int.reduceSub, Int.reduceMul, Int.reduceToNat, cutCells, Nat.reduceAdd, Nat.reduceLeDiff, Nat.reduceLT, Nat.reduceMul, Nat.reduceSub, hk2, n0, e1, c0, c1, hl1, p1, p3, if_pos, wr_i64]
  exact ⟨_, rfl, ⟨_, rfl⟩, .tup2 (.closed rfl) (.closed rfl), h⟩

end Go.Proofs.Yticgkaanaimllaa.Ev

/- The document's Nodes. -/
namespace Go.Proofs.Yticgkaanaimllaa.Ev
set_option maxRecDepth 100000
set_option linter.unusedSimpArgs false
set_option linter.unusedVariables false
variable {R : FRes → Heap → Prop} {H : Heap}

theorem cpl_lt : ∀ {a b : List UInt8} {j : Nat}, j < (cpl a b).length → ∃ x, a[j]? = some x ∧ b[j]? = some x
  | [], b, j, h => by cases b <;> simp [cpl] at h
  | x :: a, [], j, h => by simp [cpl] at h
  | x :: a, y :: b, j, h => by
    by_cases e : x = y
    · subst e
      simp only [cpl, if_true] at h
      cases j with
      | zero => exact ⟨x, rfl, rfl⟩
      | succ j => simpa using cpl_lt (a := a) (b := b) (j := j) (by simpa using h)
    · simp [cpl, e] at h
theorem cpl_end : ∀ {a b : List UInt8}, (cpl a b).length = a.length ∨ (cpl a b).length = b.length ∨ ∃ x y, a[(cpl a b).length]? = some x ∧ b[(cpl a b).length]? = some y ∧ x ≠ y
  | [], b => by cases b <;> simp [cpl]
  | x :: a, [] => by simp [cpl]
  | x :: a, y :: b => by
    by_cases e : x = y
    · subst e
      have := cpl_end (a := a) (b := b)
      simp only [cpl, if_true, List.length_cons, List.getElem?_cons_succ]
      rcases this with q | q | q
      · exact .inl (by omega)
      · exact .inr (.inl (by omega))
      · exact .inr (.inr q)
    · simp only [cpl, if_neg e, List.length_nil]
      exact .inr (.inr ⟨x, y, rfl, rfl, e⟩)
theorem cpl_take : ∀ {a b : List UInt8}, a.take (cpl a b).length = cpl a b
  | [], b => by cases b <;> simp [cpl]
  | x :: a, [] => by simp [cpl]
  | x :: a, y :: b => by
    by_cases e : x = y
    · subst e
      simp only [cpl, if_true, List.length_cons, List.take_succ_cons, cpl_take (a := a) (b := b)]
    · simp [cpl, e]
theorem cpl_le : ∀ {a b : List UInt8}, (cpl a b).length ≤ a.length ∧ (cpl a b).length ≤ b.length
  | [], b => by cases b <;> simp [cpl]
  | x :: a, [] => by simp [cpl]
  | x :: a, y :: b => by
    by_cases e : x = y
    · subst e
      have := cpl_le (a := a) (b := b)
      simp only [cpl, if_true, List.length_cons]
      omega
    · simp [cpl, e]

theorem part_snoc {is : List UInt8 → Bool} {l : List (List UInt8)} {i : Nat} (h1 : 1 ≤ i) (hi : i < l.length) : partK is (l.take (i + 1)) = partK is (l.take i) + (if is (cpl (l[i - 1]'(by omega)) l[i]) = true then 0 else 1) := by
  have e : l.take (i + 1) = l.take i ++ [l[i]] := by rw [List.take_add_one, List.getElem?_eq_getElem hi]; rfl
  rw [e, part_app]
  have hl : (l.take i).getLast? = some (l[i - 1]'(by omega)) := by
    rw [List.getLast?_eq_getElem?, List.length_take, show min i l.length - 1 = i - 1 by omega, List.getElem?_take_of_lt (by omega), List.getElem?_eq_getElem (by omega)]
  simp [linkK, hl, partK]
theorem part_le {is : List UInt8 → Bool} : ∀ {l : List (List UInt8)}, partK is l ≤ l.length
  | [] => by simp [partK]
  | [a] => by simp [partK]
  | a :: b :: l => by
    have := part_le (is := is) (l := b :: l)
    simp only [partK, List.length_cons] at *
    split <;> omega

def cpI2 (xb n i : Nat) (a b : List UInt8) (H : Heap) : Nat → Env → Heap → Prop := fun z e K =>
  ∃ j : Nat, j ≤ (cpl a b).length ∧ z = (cpl a b).length - j ∧ K = H ∧ (∃ x : Nat → Value, e = [.pointer (some ⟨xb, 0, none⟩), x 1, x 2, .int .i64 (n : Int), .int .i64 (i : Int), .string (bs a), .string (bs b), .int .i64 (j : Int), x 8, x 9, x 10, x 11, x 12, x 13, x 14, x 15, x 16, x 17, x 18, x 19, x 20, x 21, x 22, x 23, x 24, x 25, x 26, x 27, x 28, x 29, x 30, x 31, x 32, x 33, x 34, x 35, x 36, x 37, x 38, x 39, x 40, x 41, x 42, x 43, x 44, x 45, x 46, x 47, x 48, x 49, x 50, x 51, x 52, x 53, x 54, x 55, x 56, x 57, x 58, x 59, x 60, x 61, x 62, x 63, x 64, x 65, x 66, x 67, x 68, x 69, x 70, x 71, x 72, x 73, x 74])

/-- How many bits two texts have in common. -/
theorem cpl_loop {xb n i : Nat} {a b : List UInt8} (ha : a.length ≤ 1000000) {Q : Post} (hQ : ∀ e, (∃ x : Nat → Value, e = [.pointer (some ⟨xb, 0, none⟩), x 1, x 2, .int .i64 (n : Int), .int .i64 (i : Int), .string (bs a), .string (bs b), .int .i64 ((cpl a b).length : Nat), x 8, x 9, x 10, x 11, x 12, x 13, x 14, x 15, x 16, x 17, x 18, x 19, x 20, x 21, x 22, x 23, x 24, x 25, x 26, x 27, x 28, x 29, x 30, x 31, x 32, x 33, x 34, x 35, x 36, x 37, x 38, x 39, x 40, x 41, x 42, x 43, x 44, x 45, x 46, x 47, x 48, x 49, x 50, x 51, x 52, x 53, x 54, x 55, x 56, x 57, x 58, x 59, x 60, x 61, x 62, x 63, x 64, x 65, x 66, x 67, x 68, x 69, x 70, x 71, x 72, x 73, x 74]) → Q (.exit 2) e H)
    {z : Nat} {e : Env} (hI : cpI2 xb n i a b H z e H) : WLoop T (g66.body.at [1, 1, 0, 1, 0, 0, 1, 0, 0, 1, 1, 1, 0, 0, 0]) e H Q := by
  refine WLoop.inv (cpI2 xb n i a b H) ?_ _ _ _ hI
  clear hI
  rintro z e K ⟨j, hj, rfl, rfl, ⟨x, rfl⟩⟩
  have hle := cpl_le (a := a) (b := b)
  simp only [AFunc.body, g66, ACode.at]
  have c0 : (0 : Int) ≤ (j : Int) := by omega
  by_cases hj2 : j = (cpl a b).length
  case neg =>
    have hj3 : j < (cpl a b).length := by omega
    obtain ⟨u, h1, h2⟩ := cpl_lt hj3
    have i1 : (j : Int) < (a.length : Nat) := by omega
    have i2 : (j : Int) < (b.length : Nat) := by omega
    simp (disch := omega) only [kB, kcx, kdm, kdn, kel, aop, resultsL, resultOf, Nat.reduceEqDiff, reduceCtorEq, eq1, apartOK, apart2, AObj.live, Int.reduceEq, Int.reduceLT, Int.reduceLE, Int.reduceAdd, Int.reduceSub, Int.reduceMul, Int.reduceToNat, cutCells, Nat.reduceAdd, Nat.reduceLeDiff, Nat.reduceLT, Nat.reduceMul, Nat.reduceSub, i1, i2, h1, h2, c0, wr_i64, nadd1]
    exact ⟨(cpl a b).length - (j + 1), by omega, j + 1, by omega, rfl, rfl, ex_env rfl⟩
  subst hj2
  generalize hm : (cpl a b).length = m at *
  by_cases i1 : (m : Int) < (a.length : Nat)
  case neg =>
    simp (disch := omega) only [kB, kcx, kdm, kdn, kel, aop, resultsL, resultOf, Nat.reduceEqDiff, reduceCtorEq, eq1, apartOK, apart2, AObj.live, Int.reduceEq, Int.reduceLT, Int.reduceLE, Int.reduceAdd, Int.reduceSub, Int.reduceMul, Int.reduceToNat, cutCells, Nat.reduceAdd, Nat.reduceLeDiff, Nat.reduceLT, Nat.reduceMul, Nat.reduceSub, i1]
    exact hQ _ (by exact ex_env rfl)
  by_cases i2 : (m : Int) < (b.length : Nat)
  case neg =>
    simp (disch := omega) only [kB, kcx, kdm, kdn, kel, aop, resultsL, resultOf, Nat.reduceEqDiff, reduceCtorEq, eq1, apartOK, apart2, AObj.live, Int.reduceEq, Int.reduceLT, Int.reduceLE, Int.reduceAdd, Int.reduceSub, Int.reduceMul, Int.reduceToNat, cutCells, Nat.reduceAdd, Nat.reduceLeDiff, Nat.reduceLT, Nat.reduceMul, Nat.reduceSub, i1, i2]
    exact hQ _ (by exact ex_env rfl)
  have hend := cpl_end (a := a) (b := b)
  rw [hm] at hend
  rcases hend with q | q | ⟨u, v, q1, q2, q3⟩
  · omega
  · omega
  · have q4 : ¬ ((u.toNat : Nat) : Int) = ((v.toNat : Nat) : Int) := fun e => q3 (UInt8.toNat_inj.1 (by omega))
    simp (disch := omega) only [kB, kcx, kdm, kdn, kel, aop, resultsL, resultOf, Nat.reduceEqDiff, reduceCtorEq, eq1, apartOK, apart2, AObj.live, Int.reduceEq, Int.reduceLT, Int.reduceLE, Int.reduceAdd, Int.reduceSub, Int.reduceMul, Int.reduceToNat, cutCells, Nat.reduceAdd, Nat.reduceLeDiff, Nat.reduceLT, Nat.reduceMul, Nat.reduceSub, i1, i2, q1, q2, c0, q4]
    exact hQ _ (by exact ex_env rfl)

def rnI (xb : Nat) (L : KL) (H : Heap) : Nat → Env → Heap → Prop := fun z e K =>
  ∃ i : Nat, 1 ≤ i ∧ z = L.length - i ∧ K = H ∧ (i ≤ L.length ∨ i = 1) ∧ (∃ x : Nat → Value, e = [.pointer (some ⟨xb, 0, none⟩), x 1, x 2, .int .i64 ((L.length + partK (fun s => isK s L) ((L.map (·.1)).take i) : Nat) : Int), .int .i64 (i : Int), x 5, x 6, x 7, x 8, x 9, x 10, x 11, x 12, x 13, x 14, x 15, x 16, x 17, x 18, x 19, x 20, x 21, x 22, x 23, x 24, x 25, x 26, x 27, x 28, x 29, x 30, x 31, x 32, x 33, x 34, x 35, x 36, x 37, x 38, x 39, x 40, x 41, x 42, x 43, x 44, x 45, x 46, x 47, x 48, x 49, x 50, x 51, x 52, x 53, x 54, x 55, x 56, x 57, x 58, x 59, x 60, x 61, x 62, x 63, x 64, x 65, x 66, x 67, x 68, x 69, x 70, x 71, x 72, x 73, x 74])

theorem rnodes_t {xb w : Nat} {m : Int} {sv : Value} {L : KL} (hX : XR H xb w m sv L) (hL : L.length ≤ 1000000) (hk : ∀ y ∈ L, y.1.length ≤ 1000000)
    (h : R (.ret (.int .i64 ((L.length + partK (fun s => isK s L) (L.map (·.1)) : Nat) : Int))) H) : WD T 66 [.pointer (some ⟨xb, 0, none⟩)] H R := by
  refine WD.of follows t66 (by simp) ?_
  obtain ⟨ad, rfl⟩ := hX.len
  have hd := hX.hd
  have lx := hget_lt hd rfl
  obtain ⟨Z, hZ⟩ : ∃ Z, Z = WLoop T (g66.body.at [1, 1, 0, 1, 0, 0, 1, 0, 0, 1, 1, 1, 0, 0, 0]) := ⟨_, rfl⟩
  have hZ' := hZ.symm
  simp only [AFunc.body, g66, ACode.at] at hZ'
  simp (disch := omega) only [kB, kcx, kdm, kdn, kel, aop, resultsL, resultOf, Nat.reduceEqDiff, reduceCtorEq, eq1, apartOK, apart2, AObj.live, Int.reduceEq, Int.reduceLT, Int.reduceLE, Int.reduceAdd, Int.reduceSub, Int.reduceMul, Int.reduceToNat, cutCells, Nat.reduceAdd, Nat.reduceLeDiff, Nat.reduceLT, Nat.reduceMul, Nat.reduceSub, hd]
  have p0 : partK (fun s => isK s L) ((L.map (·.1)).take 1) = 0 := by
    cases L with
    | nil => rfl
    | cons y L => rfl
  refine WLoop.inv (rnI xb L H) ?_ (L.length - 1) _ _ ⟨1, by omega, rfl, rfl, .inr rfl, by rw [p0, Nat.add_zero]; exact ex_env rfl⟩
  rintro z e K ⟨i, h1, rfl, rfl, hi, ⟨x, rfl⟩⟩
  by_cases hi2 : (i : Int) < ((L.length : Nat) : Int)
  case neg =>
    have e1 : (L.map (·.1)).take i = L.map (·.1) := List.take_of_length_le (by rw [List.length_map]; omega)
    rw [e1]
    simp (disch := omega) only [kB, kcx, kdm, kdn, kel, aop, resultsL, resultOf, Nat.reduceEqDiff, reduceCtorEq, eq1, apartOK, apart2, AObj.live, Int.reduceEq, Int.reduceLT, Int.reduceLE, Int.reduceAdd, Int.reduceSub, Int.reduceMul, Int.reduceToNat, cutCells, Nat.reduceAdd, Nat.reduceLeDiff, Nat.reduceLT, Nat.reduceMul, Nat.reduceSub, hd, hi2]
    exact h
  have hi3 : i < L.length := by omega
  have hi4 : i - 1 < L.length := by omega
  obtain ⟨k, hk1, hk2⟩ := hX.row (by omega)
  simp only [Value.slice.injEq] at hk1
  obtain ⟨rfl, _⟩ := hk1
  have p1 := kC_t i hi3
  have p2 := kC_t (i - 1) hi4
  have p3 := kC_flat (L := L)
  have c0 : (0 : Int) ≤ (i : Int) := by omega
  have c1 : (0 : Int) ≤ ((i - 1 : Nat) : Int) := by omega
  have c2 : ((i - 1 : Nat) : Int) < ((L.length : Nat) : Int) := by omega
  have e1 : (i : Int) - 1 = ((i - 1 : Nat) : Int) := by omega
  have hpl := part_le (is := fun s => isK s L) (l := (L.map (·.1)).take i)
  rw [List.length_take, List.length_map] at hpl
  simp (disch := omega) only [kB, kcx, kdm, kdn, kel, aop, resultsL, resultOf, Nat.reduceEqDiff, reduceCtorEq, eq1, apartOK, apart2, AObj.live, Int.reduceEq, Int.reduceLT, Int.reduceLE, Int.reduceAdd, Int.reduceSub, Int.reduceMul, Int.reduceToNat, cutCells, Nat.reduceAdd, Nat.reduceLeDiff, Nat.reduceLT, Nat.reduceMul, Nat.reduceSub, hd, hi2, hk2, p1, p2, p3, if_pos, c0, c1, c2, hi3, hi4, e1, wr_i64, hZ']
  rw [hZ]
  have hak : L[i - 1].1.length ≤ 1000000 := hk _ (List.getElem_mem hi4)
  have hle := cpl_le (a := L[i - 1].1) (b := L[i].1)
  have htk := cpl_take (a := L[i - 1].1) (b := L[i].1)
  have hsn := part_snoc (is := fun s => isK s L) (l := L.map (·.1)) h1 (by rw [List.length_map]; exact hi3)
  simp only [List.getElem_map] at hsn
  generalize partK (fun s => isK s L) ((L.map (·.1)).take i) = pc at *
  refine cpl_loop (a := L[i - 1].1) (b := L[i].1) hak (fun e he => ?_) (z := (cpl L[i - 1].1 L[i].1).length) ⟨0, Nat.zero_le _, rfl, rfl, by exact ex_env rfl⟩
  obtain ⟨x2, rfl⟩ := he
  have b0 : (0 : Int) ≤ (((cpl L[i - 1].1 L[i].1).length : Nat) : Int) := by omega
  have b1 : (((cpl L[i - 1].1 L[i].1).length : Nat) : Int) ≤ ((L[i - 1].1.length : Nat) : Int) := by omega
  have b2 : (cpl L[i - 1].1 L[i].1).length ≤ L[i - 1].1.length := hle.1
  simp (disch := omega) only [kB, kcx, kdm, kdn, kel, aop, resultsL, resultOf, Nat.reduceEqDiff, reduceCtorEq, eq1, apartOK, apart2, AObj.live, Int.reduceEq, Int.reduceLT, Int.reduceLE, Int.reduceAdd, Int.reduceSub, Int.reduceMul, Int.reduceToNat, cutCells, Nat.reduceAdd, Nat.reduceLeDiff, Nat.reduceLT, Nat.reduceMul, Nat.reduceSub, if_pos, b0, b1, b2, htk]
  refine ix_t hX hL ?_
  cases hc : isK (cpl L[i - 1].1 L[i].1) L with
  | true =>
    rw [hc, if_pos rfl, Nat.add_zero] at hsn
    simp (disch := omega) only [kB, kcx, kdm, kdn, kel, aop, resultsL, resultOf, Nat.reduceEqDiff, reduceCtorEq, eq1, apartOK, apart2, AObj.live, Int.reduceEq, Int.reduceLT, Int.reduceLE, Int.reduceAdd, Int.reduceSub, Int.reduceMul, Int.reduceToNat, cutCells, Nat.reduceAdd, Nat.reduceLeDiff, Nat.reduceLT, Nat.reduceMul, Nat.reduceSub, wr_i64, nadd1]
    exact ⟨L.length - (i + 1), by omega, i + 1, by omega, rfl, rfl, .inl (by omega), by rw [hsn]; exact ex_env rfl⟩
  | false =>
    rw [hc, if_neg (by simp)] at hsn
    simp (disch := omega) only [kB, kcx, kdm, kdn, kel, aop, resultsL, resultOf, Nat.reduceEqDiff, reduceCtorEq, eq1, apartOK, apart2, AObj.live, Int.reduceEq, Int.reduceLT, Int.reduceLE, Int.reduceAdd, Int.reduceSub, Int.reduceMul, Int.reduceToNat, cutCells, Nat.reduceAdd, Nat.reduceLeDiff, Nat.reduceLT, Nat.reduceMul, Nat.reduceSub, wr_i64, nadd1]
    exact ⟨L.length - (i + 1), by omega, i + 1, by omega, rfl, rfl, .inl (by omega), by rw [hsn]; exact ex_env rfl⟩

end Go.Proofs.Yticgkaanaimllaa.Ev

/- every: what Every answers is its owner's. -/
namespace Go.Proofs.Yticgkaanaimllaa.Ev
set_option maxRecDepth 100000
set_option linter.unusedSimpArgs false
set_option linter.unusedVariables false
variable {R : FRes → Heap → Prop} {H : Heap}

theorem flat_set3 {a b c : Value} : ∀ {css : List (List Value)} (i : Nat), (∀ cs ∈ css, cs.length = 3) → i < css.length → ((css.flatten.set (i * 3) a).set (i * 3 + 1) b).set (i * 3 + 1 + 1) c = (css.set i [a, b, c]).flatten
  | [], i, _, hi => by simp at hi
  | cs :: css, 0, h, _ => by
    have := h cs (by simp)
    match cs, this with
    | [x, y, z], _ => simp
  | cs :: css, i + 1, h, hi => by
    have h1 := h cs (by simp)
    have e1 : (i + 1) * 3 = cs.length + i * 3 := by omega
    rw [List.flatten_cons, e1, List.set_append_right _ _ (by omega), Nat.add_sub_cancel_left, Nat.add_assoc cs.length (i * 3) 1, List.set_append_right _ _ (by omega), Nat.add_sub_cancel_left,
      Nat.add_assoc cs.length (i * 3 + 1) 1, List.set_append_right _ _ (by omega), Nat.add_sub_cancel_left, flat_set3 i (fun q hq => h q (by simp [hq])) (by simpa using hi)]
    rfl
theorem flat_at {u : Nat} {css : List (List Value)} {cs : List Value} {i j : Nat} (h : ∀ cs ∈ css, cs.length = u) (hi : css[i]? = some cs) (hj : j < u) : (css.flatten)[i * u + j]? = cs[j]? := by
  obtain ⟨h1, h2⟩ := List.getElem?_eq_some_iff.1 hi
  have := congrArg (fun q => q[j]?) (flat_cut i h h1)
  simp only [List.getElem?_take_of_lt hj, List.getElem?_drop, h2] at this
  exact this

theorem sl_row {H : Heap} {sv : Value} {css : List (List Value)} {u n0 : Nat} (h : SLs u n0 H sv css) (hL : 0 < css.length) : ∃ k, n0 ≤ k ∧ sv = .slice (some ⟨k, 0, none⟩) css.length css.length ∧ hget H k = .row css.flatten u true ∧ ∀ cs ∈ css, cs.length = u := by
  rcases h with ⟨q, _⟩ | ⟨h1, k, k0, rfl, k2, k3⟩
  · rw [q] at hL
    simp at hL
  · exact ⟨k, k0, rfl, k2, k3⟩

def c3 (n : Int) : List Value := [.int .u64 0, .int .u64 0, .int .i64 n]

/-- While a list is written over. -/
structure OvS (K0 : Heap) (sv : Value) (n1 : Nat) (n : Int) (css : List (List Value)) (i : Nat) (K : Heap) : Prop where
  len : K.length = K0.length
  fr : ∀ c, blk sv ≠ some c → hget K c = hget K0 c
  sl : SLs 3 n1 K sv (List.replicate i (c3 n) ++ css.drop i)

theorem OvS.next {K0 : Heap} {sv : Value} {n1 i : Nat} {n : Int} {css : List (List Value)} {K : Heap} (h : OvS K0 sv n1 n css i K) (hi : i < css.length) :
    ∃ k, sv = .slice (some ⟨k, 0, none⟩) css.length css.length ∧ ∃ cs, hget K k = .row cs 3 true ∧ cs.length = css.length * 3 ∧ OvS K0 sv n1 n css (i + 1) (K.set k (.row (((cs.set (i * 3) (.int .u64 0)).set (i * 3 + 1) (.int .u64 0)).set (i * 3 + 1 + 1) (.int .i64 n)) 3 true)) := by
  obtain ⟨h1, h2, h3⟩ := h
  have hl : (List.replicate i (c3 n) ++ css.drop i).length = css.length := by simp; omega
  obtain ⟨k, k0, rfl, k2, k3⟩ := sl_row h3 (by omega)
  have lk := hget_lt k2 rfl
  simp only [hl] at h2 h3 ⊢
  refine ⟨k, rfl, _, k2, by rw [flat_len_u k3, hl], by simpa using h1, fun c hc => ?_, ?_⟩
  · rw [hget_ne (fun q => hc (by rw [q]; rfl))]
    exact h2 c hc
  · have e : (List.replicate i (c3 n) ++ css.drop i).set i (c3 n) = List.replicate (i + 1) (c3 n) ++ css.drop (i + 1) := by
      rw [List.set_append_right _ _ (by simp), List.length_replicate, Nat.sub_self, List.drop_eq_getElem_cons hi, List.set_cons_zero, List.replicate_succ', List.append_assoc]
      rfl
    have hf := flat_set3 (a := .int .u64 0) (b := .int .u64 0) (c := .int .i64 n) i k3 (by omega)
    have hl2 : (List.replicate (i + 1) (c3 n) ++ css.drop (i + 1)).length = css.length := by simp; omega
    refine .inr ⟨fun q => ?_, k, k0, by rw [hl2], ?_, fun cs hcs => ?_⟩
    · rw [q] at hl2
      simp at hl2
      omega
    · rw [hget_set' lk, hf, ← e]
      rfl
    · rcases List.mem_append.1 hcs with q | q
      · rw [(List.mem_replicate.1 q).2]
        rfl
      · exact k3 cs (List.mem_append_right _ (by rw [List.drop_eq_getElem_cons hi]; exact List.mem_cons_of_mem _ q))

theorem ps_sl {H0 K : Heap} {sv : Value} {L : List Tr} (hn : ∀ nd ∈ L, ∃ b c n v l r, nd = Tr.node b c n true v l r) (h : PS H0.length K sv L) : SLs 3 H0.length K sv ((L.map trip).map pfM) := by
  have e : ∀ {L : List Tr}, (∀ nd ∈ L, ∃ b c n v l r, nd = Tr.node b c n true v l r) → pfs L = ((L.map trip).map pfM).flatten := by
    intro L
    induction L with
    | nil => intro _; rfl
    | cons nd L ih =>
      intro hn
      obtain ⟨b, c, n, v, l, r, rfl⟩ := hn nd (by simp)
      have := ih fun q hq => hn q (by simp [hq])
      simp only [pfs, List.map_cons, List.flatten_cons] at this ⊢
      rw [this]
      rfl
  rcases h with ⟨rfl, rfl⟩ | ⟨h1, k, k0, rfl, k2, k3⟩
  · exact .inl ⟨rfl, rfl⟩
  · exact .inr ⟨by simpa using h1, k, k0, by simp, by rw [← e hn]; exact k2, fun cs hcs => by
      obtain ⟨x, _, rfl⟩ := List.mem_map.1 hcs
      rfl⟩

def ev1I (K0 : Heap) (xb n1 n : Nat) (wv one two : Value) (css : List (List Value)) : Nat → Env → Heap → Prop := fun z e K =>
  ∃ i : Nat, i ≤ n ∧ z = n - i ∧ OvS K0 one n1 (-5) css i K ∧ (∃ x : Nat → Value, e = [x 0, .pointer (some ⟨xb, 0, none⟩), x 2, x 3, x 4, x 5, x 6, wv, one, two, .int .i64 (i : Int), x 11, x 12, x 13, x 14, x 15, x 16, x 17, x 18, x 19, x 20, x 21, x 22, x 23, x 24, x 25, x 26, x 27, x 28, x 29, x 30, x 31, x 32, x 33, x 34, x 35, x 36, x 37, x 38, x 39, x 40, x 41, x 42, x 43, x 44, x 45, x 46, x 47, x 48, x 49, x 50, x 51, x 52, x 53, x 54, x 55, x 56, x 57, x 58, x 59, x 60, x 61, x 62, x 63, x 64, x 65, x 66, x 67, x 68, x 69, x 70, x 71, x 72, x 73, x 74, x 75, x 76, x 77, x 78, x 79, x 80, x 81, x 82, x 83, x 84, x 85, x 86, x 87, x 88, x 89, x 90, x 91, x 92, x 93, x 94, x 95, x 96, x 97, x 98, x 99, x 100, x 101, x 102, x 103, x 104, x 105, x 106, x 107, x 108, x 109, x 110, x 111, x 112, x 113, x 114, x 115, x 116, x 117, x 118, x 119, x 120, x 121, x 122, x 123, x 124, x 125, x 126])

theorem ev1_loop {K0 : Heap} {xb n1 n : Nat} {wv two : Value} {ad : Option Addr} {css : List (List Value)} (hn : css.length = n) (hn2 : n ≤ 1000000) {Q : Post}
    (hQ : ∀ e K, OvS K0 (.slice ad n n) n1 (-5) css n K → (∃ x : Nat → Value, e = [x 0, .pointer (some ⟨xb, 0, none⟩), x 2, x 3, x 4, x 5, x 6, wv, .slice ad n n, two, x 10, x 11, x 12, x 13, x 14, x 15, x 16, x 17, x 18, x 19, x 20, x 21, x 22, x 23, x 24, x 25, x 26, x 27, x 28, x 29, x 30, x 31, x 32, x 33, x 34, x 35, x 36, x 37, x 38, x 39, x 40, x 41, x 42, x 43, x 44, x 45, x 46, x 47, x 48, x 49, x 50, x 51, x 52, x 53, x 54, x 55, x 56, x 57, x 58, x 59, x 60, x 61, x 62, x 63, x 64, x 65, x 66, x 67, x 68, x 69, x 70, x 71, x 72, x 73, x 74, x 75, x 76, x 77, x 78, x 79, x 80, x 81, x 82, x 83, x 84, x 85, x 86, x 87, x 88, x 89, x 90, x 91, x 92, x 93, x 94, x 95, x 96, x 97, x 98, x 99, x 100, x 101, x 102, x 103, x 104, x 105, x 106, x 107, x 108, x 109, x 110, x 111, x 112, x 113, x 114, x 115, x 116, x 117, x 118, x 119, x 120, x 121, x 122, x 123, x 124, x 125, x 126]) → Q (.exit 0) e K)
    {z : Nat} {e : Env} {K : Heap} (hI : ev1I K0 xb n1 n wv (.slice ad n n) two css z e K) : WLoop T (g65.body.at [1, 1, 1, 1, 1, 0, 1, 0, 0]) e K Q := by
  refine WLoop.inv (ev1I K0 xb n1 n wv (.slice ad n n) two css) ?_ _ _ _ hI
  clear hI
  rintro z e K ⟨i, hi, rfl, hO, ⟨x, rfl⟩⟩
  simp only [AFunc.body, g65, ACode.at]
  by_cases hi2 : (i : Int) < (n : Int)
  case neg =>
    simp (disch := omega) only [kB, kcx, kdm, kdn, kel, aop, resultsL, resultOf, Nat.reduceEqDiff, reduceCtorEq, eq1, apartOK, apart2, AObj.live, Int.reduceEq, Int.reduceLT, Int.reduceLE, Int.reduceAdd, Int.reduceSub, Int.reduceMul, Int.reduceToNat, cutCells, Nat.reduceAdd, Nat.reduceLeDiff, Nat.reduceLT, Nat.reduceMul, Nat.reduceSub, hi2]
    rw [show i = n by omega] at hO
    exact hQ _ _ hO (by exact ex_env rfl)
  subst hn
  have hi3 : i < css.length := by omega
  obtain ⟨k, hk, cs, h1, h2, h3⟩ := hO.next hi3
  simp only [Value.slice.injEq] at hk
  obtain ⟨rfl, _⟩ := hk
  have c0 : (0 : Int) ≤ (i : Int) := by omega
  simp (disch := omega) only [kB, kcx, kdm, kdn, kel, aop, resultsL, resultOf, Nat.reduceEqDiff, reduceCtorEq, eq1, apartOK, apart2, AObj.live, Int.reduceEq, Int.reduceLT, Int.reduceLE, Int.reduceAdd, Int.reduceSub, Int.reduceMul, Int.reduceToNat, cutCells, Nat.reduceAdd, Nat.reduceLeDiff, Nat.reduceLT, Nat.reduceMul, Nat.reduceSub, hi2, h1, h2, hi3, c0, if_pos, wr_i64, nadd1]
  exact ⟨css.length - (i + 1), by omega, i + 1, by omega, rfl, h3, ex_env rfl⟩

def ev2I (K0 : Heap) (xb n1 n : Nat) (wv two gv : Value) (css : List (List Value)) : Nat → Env → Heap → Prop := fun z e K =>
  ∃ (i : Nat) (G : Heap) (K1 : Heap), i ≤ n ∧ z = n - i ∧ K = K1 ∧ OvS K0 two n1 (-8) css i K1 ∧ (∃ x : Nat → Value, e = [x 0, .pointer (some ⟨xb, 0, none⟩), x 2, x 3, x 4, x 5, x 6, wv, x 8, two, x 10, gv, .int .i64 (i : Int), x 13, x 14, x 15, x 16, x 17, x 18, x 19, x 20, x 21, x 22, x 23, x 24, x 25, x 26, x 27, x 28, x 29, x 30, x 31, x 32, x 33, x 34, x 35, x 36, x 37, x 38, x 39, x 40, x 41, x 42, x 43, x 44, x 45, x 46, x 47, x 48, x 49, x 50, x 51, x 52, x 53, x 54, x 55, x 56, x 57, x 58, x 59, x 60, x 61, x 62, x 63, x 64, x 65, x 66, x 67, x 68, x 69, x 70, x 71, x 72, x 73, x 74, x 75, x 76, x 77, x 78, x 79, x 80, x 81, x 82, x 83, x 84, x 85, x 86, x 87, x 88, x 89, x 90, x 91, x 92, x 93, x 94, x 95, x 96, x 97, x 98, x 99, x 100, x 101, x 102, x 103, x 104, x 105, x 106, x 107, x 108, x 109, x 110, x 111, x 112, x 113, x 114, x 115, x 116, x 117, x 118, x 119, x 120, x 121, x 122, x 123, x 124, x 125, x 126])

theorem ev2_loop {K0 : Heap} {xb n1 w n : Nat} {m : Int} {sv wv gv : Value} {L : KL} {ad : Option Addr} {M : List Mem} (hw : 1 ≤ w) (hw2 : w ≤ 128) (hn : M.length = n) (hn2 : n ≤ 1000000) (hX : hget K0 xb = .row [.int .i64 (w : Int), .int .i64 m, sv] 0 true)
    (hx : blk (.slice ad n n) ≠ some xb) (hsw : SLs 2 0 K0 wv ((klM w M).map kC)) (hwb : ∀ c, blk wv = some c → blk (.slice ad n n) ≠ some c) (hrg : ∀ x ∈ M, rgt w x.1 (x.2.1 : Nat) = true) {Q : Post}
    (hQ : ∀ e K, OvS K0 (.slice ad n n) n1 (-8) (M.map pfM) n K → (∃ x : Nat → Value, e = [x 0, x 1, x 2, x 3, x 4, x 5, x 6, wv, x 8, .slice ad n n, x 10, gv, x 12, x 13, x 14, x 15, x 16, x 17, x 18, x 19, x 20, x 21, x 22, x 23, x 24, x 25, x 26, x 27, x 28, x 29, x 30, x 31, x 32, x 33, x 34, x 35, x 36, x 37, x 38, x 39, x 40, x 41, x 42, x 43, x 44, x 45, x 46, x 47, x 48, x 49, x 50, x 51, x 52, x 53, x 54, x 55, x 56, x 57, x 58, x 59, x 60, x 61, x 62, x 63, x 64, x 65, x 66, x 67, x 68, x 69, x 70, x 71, x 72, x 73, x 74, x 75, x 76, x 77, x 78, x 79, x 80, x 81, x 82, x 83, x 84, x 85, x 86, x 87, x 88, x 89, x 90, x 91, x 92, x 93, x 94, x 95, x 96, x 97, x 98, x 99, x 100, x 101, x 102, x 103, x 104, x 105, x 106, x 107, x 108, x 109, x 110, x 111, x 112, x 113, x 114, x 115, x 116, x 117, x 118, x 119, x 120, x 121, x 122, x 123, x 124, x 125, x 126]) → Q (.exit 2) e K)
    {z : Nat} {e : Env} {K : Heap} (hI : ev2I K0 xb n1 n wv (.slice ad n n) gv (M.map pfM) z e K) : WLoop T (g65.body.at [1, 1, 1, 1, 1, 1, 1, 0, 1, 0, 0]) e K Q := by
  refine WLoop.inv (ev2I K0 xb n1 n wv (.slice ad n n) gv (M.map pfM)) ?_ _ _ _ hI
  clear hI
  rintro z e K ⟨i, G, K1, hi, rfl, rfl, hO, ⟨x, rfl⟩⟩
  simp only [AFunc.body, g65, ACode.at]
  by_cases hi2 : (i : Int) < (n : Int)
  case neg =>
    simp (disch := omega) only [kB, kcx, kdm, kdn, kel, aop, resultsL, resultOf, Nat.reduceEqDiff, reduceCtorEq, eq1, apartOK, apart2, AObj.live, Int.reduceEq, Int.reduceLT, Int.reduceLE, Int.reduceAdd, Int.reduceSub, Int.reduceMul, Int.reduceToNat, cutCells, Nat.reduceAdd, Nat.reduceLeDiff, Nat.reduceLT, Nat.reduceMul, Nat.reduceSub, hi2]
    rw [show i = n by omega] at hO
    exact hQ _ _ hO (by exact ex_env rfl)
  subst hn
  have hi3 : i < (M.map pfM).length := by rw [List.length_map]; omega
  have hi4 : i < M.length := by omega
  have hsl := hO.sl
  have hfr := hO.fr
  obtain ⟨k, hk, cs, h1, h2, h3⟩ := hO.next hi3
  rw [List.length_map] at h2
  simp only [Value.slice.injEq] at hk
  obtain ⟨rfl, _⟩ := hk
  have c0 : (0 : Int) ≤ (i : Int) := by omega
  have hxK := (hfr xb hx).trans hX
  have hsw2 : SLs 2 0 K wv ((klM w M).map kC) := hsw.same fun c hc => hfr c (hwb c hc)
  obtain ⟨kw, rfl, hkw⟩ := kl_row hsw2 (by rw [klM_len]; omega)
  have hi5 : i < (klM w M).length := by rw [klM_len]; omega
  obtain ⟨⟨c, nn, v⟩, hx9⟩ : ∃ x9, M[i] = x9 := ⟨_, rfl⟩
  have hget1 := klM_get (w := w) (L := M) (i := i) (c := c) (n := nn) (v := v) (by rw [List.getElem?_eq_getElem hi4, hx9]) hi5
  have p1 := kC_all i hi5
  have p3 := kC_flat (L := klM w M)
  rw [hget1] at p1
  simp only [kC] at p1
  rw [klM_len] at *
  have hrg1 : rgt w c (nn : Int) = true := hrg (c, nn, v) (by rw [← hx9]; exact List.getElem_mem hi4)
  have q1 : (cs.drop (i * 3)).take 3 = [.int .u64 ((c / W64 : Nat) : Int), .int .u64 ((c % W64 : Nat) : Int), .int .i64 (nn : Int)] := by
    obtain ⟨k9, _, e9, r9, u9⟩ := sl_row hsl (by simp; omega)
    simp only [Value.slice.injEq, Option.some.injEq, Addr.mk.injEq] at e9
    obtain ⟨⟨rfl, _⟩, _⟩ := e9
    rw [h1] at r9
    cases r9
    rw [flat_cut i u9 (by simp; omega), List.getElem_append_right (by simp)]
    simp [hx9, pfM]
  simp (disch := omega) only [kB, kcx, kdm, kdn, kel, aop, resultsL, resultOf, Nat.reduceEqDiff, reduceCtorEq, eq1, apartOK, apart2, AObj.live, Int.reduceEq, Int.reduceLT, Int.reduceLE, Int.reduceAdd, Int.reduceSub, Int.reduceMul, Int.reduceToNat, cutCells, Nat.reduceAdd, Nat.reduceLeDiff, Nat.reduceLT, Nat.reduceMul, Nat.reduceSub, hi2, h1, h2, hi4, c0, if_pos, q1, hxK, hkw, p1, p3]
  refine same_t hw hw2 hrg1 ?_
  simp (disch := omega) only [kB, kcx, kdm, kdn, kel, aop, resultsL, resultOf, Nat.reduceEqDiff, reduceCtorEq, eq1, apartOK, apart2, AObj.live, Int.reduceEq, Int.reduceLT, Int.reduceLE, Int.reduceAdd, Int.reduceSub, Int.reduceMul, Int.reduceToNat, cutCells, Nat.reduceAdd, Nat.reduceLeDiff, Nat.reduceLT, Nat.reduceMul, Nat.reduceSub, hi2, h1, h2, hi4, c0, if_pos, wr_i64, nadd1]
  exact ⟨M.length - (i + 1), by omega, i + 1, [], _, by omega, rfl, rfl, h3, ex_env rfl⟩

end Go.Proofs.Yticgkaanaimllaa.Ev

/- every, whole. -/
namespace Go.Proofs.Yticgkaanaimllaa.Ev
set_option maxRecDepth 100000
set_option linter.unusedSimpArgs false
set_option linter.unusedVariables false
variable {R : FRes → Heap → Prop} {H : Heap}

theorem SLs.zero {u n0 : Nat} {sv : Value} {css : List (List Value)} (h : SLs u n0 H sv css) : SLs u 0 H sv css := by
  rcases h with q | ⟨q1, q2, _, q3⟩
  · exact .inl q
  · exact .inr ⟨q1, q2, Nat.zero_le _, q3⟩

theorem every_tail {gv mv : Value} {n : Nat} {K : Heap} {n1 n2 : Nat} (hn2 : n ≤ 1000000) (hg : SLs 3 n1 K gv (List.replicate n (c3 (-5)) ++ [c3 (-6), c3 (-7)])) (hm : SLs 3 n2 K mv (List.replicate n (c3 (-8)) ++ [c3 (-9), c3 (-9)])) {ad : Option Addr} {e : Env}
    (he : (∃ x : Nat → Value, e = [x 0, x 1, x 2, x 3, x 4, x 5, x 6, .slice ad n n, x 8, x 9, x 10, gv, x 12, x 13, mv, x 15, x 16, x 17, x 18, x 19, x 20, x 21, x 22, x 23, x 24, x 25, x 26, x 27, x 28, x 29, x 30, x 31, x 32, x 33, x 34, x 35, x 36, x 37, x 38, x 39, x 40, x 41, x 42, x 43, x 44, x 45, x 46, x 47, x 48, x 49, x 50, x 51, x 52, x 53, x 54, x 55, x 56, x 57, x 58, x 59, x 60, x 61, x 62, x 63, x 64, x 65, x 66, x 67, x 68, x 69, x 70, x 71, x 72, x 73, x 74, x 75, x 76, x 77, x 78, x 79, x 80, x 81, x 82, x 83, x 84, x 85, x 86, x 87, x 88, x 89, x 90, x 91, x 92, x 93, x 94, x 95, x 96, x 97, x 98, x 99, x 100, x 101, x 102, x 103, x 104, x 105, x 106, x 107, x 108, x 109, x 110, x 111, x 112, x 113, x 114, x 115, x 116, x 117, x 118, x 119, x 120, x 121, x 122, x 123, x 124, x 125, x 126])) (h : R (.ret (.bool true)) K) : WC T (g65.body.at [1, 1, 1, 1, 1, 1, 1, 1, 1]) e K (retK [.tmp 6] R) := by
  obtain ⟨x, rfl⟩ := he
  obtain ⟨kg, _, rfl, g2, g3⟩ := sl_row hg (by simp)
  obtain ⟨km, _, rfl, m2, m3⟩ := sl_row hm (by simp)
  have lg := hget_lt g2 rfl
  have lm := hget_lt m2 rfl
  have el : ∀ {p q r : List Value}, (List.replicate n p ++ [q, r]).length = n + 2 := by intro p q r; simp
  have fl1 := flat_len_u g3
  have fl2 := flat_len_u m3
  rw [el] at fl1 fl2
  have at1 : ∀ i cs, (List.replicate n (c3 (-5)) ++ [c3 (-6), c3 (-7)])[i]? = some cs → ((List.replicate n (c3 (-5)) ++ [c3 (-6), c3 (-7)]).flatten)[i * 3 + 2]? = cs[2]? := fun i cs h => flat_at g3 h (by decide)
  have at2 : ∀ i cs, (List.replicate n (c3 (-8)) ++ [c3 (-9), c3 (-9)])[i]? = some cs → ((List.replicate n (c3 (-8)) ++ [c3 (-9), c3 (-9)]).flatten)[i * 3 + 2]? = cs[2]? := fun i cs h => flat_at m3 h (by decide)
  have q1 : ((List.replicate n (c3 (-5)) ++ [c3 (-6), c3 (-7)]).flatten)[n * 3 + 2]? = some (.int .i64 (-6)) := at1 n (c3 (-6)) (by simp)
  have q2 : ((List.replicate n (c3 (-5)) ++ [c3 (-6), c3 (-7)]).flatten)[(n + 1) * 3 + 2]? = some (.int .i64 (-7)) := at1 (n + 1) (c3 (-7)) (by simp)
  have q3 : ((List.replicate n (c3 (-8)) ++ [c3 (-9), c3 (-9)]).flatten)[n * 3 + 2]? = some (.int .i64 (-9)) := at2 n (c3 (-9)) (by simp)
  have q4 : ∀ i, i < n → ((List.replicate n (c3 (-5)) ++ [c3 (-6), c3 (-7)]).flatten)[i * 3 + 2]? = some (.int .i64 (-5)) := fun i hi => at1 i (c3 (-5)) (by rw [List.getElem?_append_left (by simpa using hi)]; simp [hi])
  have q5 : ∀ i, i < n → ((List.replicate n (c3 (-8)) ++ [c3 (-9), c3 (-9)]).flatten)[i * 3 + 2]? = some (.int .i64 (-8)) := fun i hi => at2 i (c3 (-8)) (by rw [List.getElem?_append_left (by simpa using hi)]; simp [hi])
  clear at1 at2 g3 m3 hg hm
  generalize (List.replicate n (c3 (-5)) ++ [c3 (-6), c3 (-7)]).flatten = F1 at *
  generalize (List.replicate n (c3 (-8)) ++ [c3 (-9), c3 (-9)]).flatten = F2 at *
  simp only [el]
  have r0 : (0 : Int) ≤ (n : Int) := by omega
  have r1 : (n : Int) < ((n + 2 : Nat) : Int) := by omega
  have r2 : (0 : Int) ≤ ((n + 1 : Nat) : Int) := by omega
  have r3 : ((n + 1 : Nat) : Int) < ((n + 2 : Nat) : Int) := by omega
  have s1 : n * 3 + 2 < F1.length := by omega
  have s2 : (n + 1) * 3 + 2 < F1.length := by omega
  have s3 : n * 3 + 2 < F2.length := by omega
  simp only [AFunc.body, g65, ACode.at]
  simp (disch := omega) only [kB, kcx, kdm, kdn, kel, aop, resultsL, resultOf, Nat.reduceEqDiff, reduceCtorEq, eq1, apartOK, apart2, AObj.live, Int.reduceEq, Int.reduceLT, Int.reduceLE, Int.reduceAdd, Int.reduceSub, Int.reduceMul, Int.reduceToNat, cutCells, Nat.reduceAdd, Nat.reduceLeDiff, Nat.reduceLT, Nat.reduceMul, Nat.reduceSub]
  refine WLoop.inv (fun z e K' => ∃ i : Nat, i ≤ n ∧ z = n - i ∧ K' = K ∧ (∃ x : Nat → Value, e = [x 0, x 1, x 2, x 3, x 4, x 5, x 6, x 7, x 8, x 9, x 10, .slice (some ⟨kg, 0, none⟩) (n + 2) (n + 2), x 12, x 13, .slice (some ⟨km, 0, none⟩) (n + 2) (n + 2), .int .i64 (n : Int), .int .i64 (i : Int), x 17, x 18, x 19, x 20, x 21, x 22, x 23, x 24, x 25, x 26, x 27, x 28, x 29, x 30, x 31, x 32, x 33, x 34, x 35, x 36, x 37, x 38, x 39, x 40, x 41, x 42, x 43, x 44, x 45, x 46, x 47, x 48, x 49, x 50, x 51, x 52, x 53, x 54, x 55, x 56, x 57, x 58, x 59, x 60, x 61, x 62, x 63, x 64, x 65, x 66, x 67, x 68, x 69, x 70, x 71, x 72, x 73, x 74, x 75, x 76, x 77, x 78, x 79, x 80, x 81, x 82, x 83, x 84, x 85, x 86, x 87, x 88, x 89, x 90, x 91, x 92, x 93, x 94, x 95, x 96, x 97, x 98, x 99, x 100, x 101, x 102, x 103, x 104, x 105, x 106, x 107, x 108, x 109, x 110, x 111, x 112, x 113, x 114, x 115, x 116, x 117, x 118, x 119, x 120, x 121, x 122, x 123, x 124, x 125, x 126])) ?_ n _ _ ⟨0, by omega, by omega, rfl, by exact ex_env rfl⟩
  clear x
  rintro z e K' ⟨i, hi, rfl, rfl, ⟨x, rfl⟩⟩
  by_cases hi2 : (i : Int) < (n : Int)
  · have a1 := q4 i (by omega)
    have a2 := q5 i (by omega)
    have t0 : (0 : Int) ≤ (i : Int) := by omega
    have t1 : (i : Int) < ((n + 2 : Nat) : Int) := by omega
    have t2 : i * 3 + 2 < F1.length := by omega
    have t3 : i * 3 + 2 < F2.length := by omega
    simp (disch := omega) only [kB, kcx, kdm, kdn, kel, aop, resultsL, resultOf, Nat.reduceEqDiff, reduceCtorEq, eq1, apartOK, apart2, AObj.live, Int.reduceEq, Int.reduceLT, Int.reduceLE, Int.reduceAdd, Int.reduceSub, Int.reduceMul, Int.reduceToNat, cutCells, Nat.reduceAdd, Nat.reduceLeDiff, Nat.reduceLT, Nat.reduceMul, Nat.reduceSub, hi2, g2, m2, a1, a2, fl1, fl2, t0, t1, if_pos, wr_i64, nadd1]
    exact ⟨n - (i + 1), by omega, i + 1, by omega, rfl, ex_env rfl⟩
  · simp (disch := omega) only [kB, kcx, kdm, kdn, kel, aop, resultsL, resultOf, Nat.reduceEqDiff, reduceCtorEq, eq1, apartOK, apart2, AObj.live, Int.reduceEq, Int.reduceLT, Int.reduceLE, Int.reduceAdd, Int.reduceSub, Int.reduceMul, Int.reduceToNat, cutCells, Nat.reduceAdd, Nat.reduceLeDiff, Nat.reduceLT, Nat.reduceMul, Nat.reduceSub, hi2, g2, m2, q1, q2, q3, fl1, fl2, r0, r1, r2, r3, if_pos, wr_i64, nadd1]
    exact h

theorem every_e {b xb w a : Nat} {m m2 l : Int} {sv : Value} {t : Tr} (hw : 1 ≤ w) (hw2 : w ≤ 128) (ha : a < 2 ^ 128) (hd : hget H b = .row [.int .i64 (w : Int), .int .i64 m, .int .i64 l, t.ptr] 0 true) (lies : TA H t) (ok : TW w t) (hpw : PW w t.er)
    (hX : XR H xb w m2 sv (kl w t.er)) (hsz : t.er.mem.length ≤ 1000000) (h : R (.ret (.bool true)) H) : WD T 65 [.pointer (some ⟨b, 0, none⟩), .pointer (some ⟨xb, 0, none⟩), bvA a] H R := by
  have lb := hget_lt hd rfl
  have hXd := hX.hd
  have lx := hget_lt hXd rfl
  have hML : (if a < 2 ^ w then wayL w a t else []).length ≤ 1000000 := by
    split
    · have := congrArg List.length (way_er (w := w) (a := a) (t := t))
      rw [List.length_map] at this
      rename_i q
      rw [this, way_filter q hpw]
      exact Nat.le_trans (List.length_filter_le _ _) hsz
    · simp
  have hwl : (wayL w a t).length ≤ 1000000 := by
    have h1 := congrArg List.length (way_er (w := w) (a := a) (t := t))
    rw [List.length_map] at h1
    rw [h1]
    have : ∀ {t : PT}, (wayP w a t).length ≤ t.mem.length := by
      intro t
      induction t with
      | nil => simp [wayP]
      | node c n f v l r il ir =>
        simp only [wayP, PT.mem, List.length_append]
        split
        · rw [List.length_append]
          have : (if n = w then [] else if sideN w a n = 0 then wayP w a l else wayP w a r).length ≤ l.mem.length + r.mem.length := by
            split
            · simp
            · split <;> omega
          omega
        · simp
    exact Nat.le_trans this hsz
  obtain ⟨M, hMdef⟩ : ∃ M, M = (if a < 2 ^ w then wayP w a t.er else []) := ⟨_, rfl⟩
  have hMk : klM w M = (if a < 2 ^ w then (kl w t.er).filter (fun y => begB y.1 (bitS w a)) else []) := by rw [hMdef]; exact kl_every hpw
  have hMt : (if a < 2 ^ w then wayL w a t else []).map trip = M := by
    rw [hMdef]
    split
    · exact way_er
    · rfl
  have hMlen : M.length ≤ 1000000 := by rw [← hMt, List.length_map]; exact hML
  have hMrg : ∀ x ∈ M, rgt w x.1 (x.2.1 : Nat) = true := fun x hx => by
    rw [hMdef] at hx
    split at hx
    · rename_i q
      rw [way_filter q hpw] at hx
      exact mem_rgtP (tw_er.1 ok) x (List.mem_filter.1 hx).1
    · cases hx
  have hnode : ∀ nd ∈ (if a < 2 ^ w then wayL w a t else []), ∃ b c n v l r, nd = Tr.node b c n true v l r := fun nd hn => by
    split at hn
    · exact (wayL_mem lies nd hn).2
    · cases hn
  refine WD.gc0 (WD.of follows t65 (by simp) ?_)
  simp (disch := omega) only [kB, kcx, kdm, kdn, kel, aop, resultsL, resultOf, Nat.reduceEqDiff, reduceCtorEq, eq1, apartOK, apart2, AObj.live, Int.reduceEq, Int.reduceLT, Int.reduceLE, Int.reduceAdd, Int.reduceSub, Int.reduceMul, Int.reduceToNat, cutCells, Nat.reduceAdd, Nat.reduceLeDiff, Nat.reduceLT, Nat.reduceMul, Nat.reduceSub]
  refine revery_t hX.app (by rw [kl_len]; exact hsz) hw hw2 ha fun wv g1 hwv => ?_
  rw [← hMk] at hwv
  replace hwv := hwv.zero
  obtain ⟨K1, hK1⟩ : ∃ K1, K1 = H ++ [boxRow a] ++ g1 := ⟨_, rfl⟩
  have b1 : hget K1 H.length = boxRow a := by rw [hK1, List.append_assoc, hget_base0]; rfl
  have o1 : ∀ c, c < H.length → hget K1 c = hget H c := fun c hc => by rw [hK1, List.append_assoc, hget_old hc]
  have lK1 : H.length < K1.length := by rw [hK1]; simp
  rw [← hK1] at hwv ⊢
  clear hK1
  unfold boxRow at b1
  simp (disch := omega) only [kB, kcx, kdm, kdn, kel, aop, resultsL, resultOf, Nat.reduceEqDiff, reduceCtorEq, eq1, apartOK, apart2, AObj.live, Int.reduceEq, Int.reduceLT, Int.reduceLE, Int.reduceAdd, Int.reduceSub, Int.reduceMul, Int.reduceToNat, cutCells, Nat.reduceAdd, Nat.reduceLeDiff, Nat.reduceLT, Nat.reduceMul, Nat.reduceSub, b1]
  refine every_t (by rw [o1 b lb]; exact hd) (lies.frame o1) ok hw hw2 ha hwl fun one g2 hone => ?_
  have hone' := ps_sl hnode hone
  rw [hMt] at hone'
  obtain ⟨K2, hK2⟩ : ∃ K2, K2 = K1 ++ g2 := ⟨_, rfl⟩
  have o2 : ∀ c, c < K1.length → hget K2 c = hget K1 c := fun c hc => by rw [hK2, hget_old hc]
  have lK2 : K1.length ≤ K2.length := by rw [hK2]; simp
  have hwv2 : SLs 2 0 K2 wv ((klM w M).map kC) := by rw [hK2]; exact hwv.app
  rw [← hK2] at hone' ⊢
  clear hK2 hone
  have b2 := (o2 H.length lK1).trans b1
  simp (disch := omega) only [kB, kcx, kdm, kdn, kel, aop, resultsL, resultOf, Nat.reduceEqDiff, reduceCtorEq, eq1, apartOK, apart2, AObj.live, Int.reduceEq, Int.reduceLT, Int.reduceLE, Int.reduceAdd, Int.reduceSub, Int.reduceMul, Int.reduceToNat, cutCells, Nat.reduceAdd, Nat.reduceLeDiff, Nat.reduceLT, Nat.reduceMul, Nat.reduceSub, b2]
  refine every_t (by rw [o2 b (by omega), o1 b lb]; exact hd) (lies.frame fun c hc => (o2 c (by omega)).trans (o1 c hc)) ok hw hw2 ha hwl fun two g3 htwo => ?_
  have htwo' := ps_sl hnode htwo
  rw [hMt] at htwo'
  obtain ⟨K3, hK3⟩ : ∃ K3, K3 = K2 ++ g3 := ⟨_, rfl⟩
  have o3 : ∀ c, c < K2.length → hget K3 c = hget K2 c := fun c hc => by rw [hK3, hget_old hc]
  have lK3 : K2.length ≤ K3.length := by rw [hK3]; simp
  have hwv3 : SLs 2 0 K3 wv ((klM w M).map kC) := by rw [hK3]; exact hwv2.app
  have hone3 : SLs 3 K1.length K3 one (M.map pfM) := by rw [hK3]; exact hone'.app
  rw [← hK3] at htwo' ⊢
  clear hK3 htwo
  have hwvlt : ∀ c, blk wv = some c → c < K1.length := fun c hc => (hwv.lt hc).1
  have honelt : ∀ c, blk one = some c → K1.length ≤ c ∧ c < K2.length := fun c hc => ⟨(hone'.lt hc).2, (hone'.lt hc).1⟩
  have htwolt : ∀ c, blk two = some c → K2.length ≤ c := fun c hc => (htwo'.lt hc).2
  have hxK3 : hget K3 xb = .row [.int .i64 (w : Int), .int .i64 m2, sv] 0 true := by rw [o3 xb (by omega), o2 xb (by omega), o1 xb lx]; exact hXd
  have hpre3 : ∀ c, c < H.length → hget K3 c = hget H c := fun c hc => by rw [o3 c (by omega), o2 c (by omega), o1 c hc]
  obtain ⟨aw, rfl⟩ := hwv3.len
  obtain ⟨a1, rfl⟩ := hone3.len
  obtain ⟨a2, rfl⟩ := htwo'.len
  have e1 : ((klM w M).map kC).length = M.length := by rw [List.length_map, klM_len]
  have e2 : (M.map pfM).length = M.length := List.length_map _
  simp only [e1, e2] at *
  clear e1 e2
  have e2 : (M.map pfM).length = M.length := List.length_map _
  obtain ⟨Y1, hY1⟩ : ∃ Y, Y = WLoop T (g65.body.at [1, 1, 1, 1, 1, 0, 1, 0, 0]) := ⟨_, rfl⟩
  obtain ⟨Y2, hY2⟩ : ∃ Y, Y = WLoop T (g65.body.at [1, 1, 1, 1, 1, 1, 1, 0, 1, 0, 0]) := ⟨_, rfl⟩
  obtain ⟨Z, hZ⟩ : ∃ Z, Z = WC T (g65.body.at [1, 1, 1, 1, 1, 1, 1, 1, 1]) := ⟨_, rfl⟩
  have hY1' := hY1.symm
  have hY2' := hY2.symm
  have hZ' := hZ.symm
  simp only [AFunc.body, g65, ACode.at] at hY1' hY2' hZ'
  simp (disch := omega) only [kB, kcx, kdm, kdn, kel, aop, resultsL, resultOf, Nat.reduceEqDiff, reduceCtorEq, eq1, apartOK, apart2, AObj.live, Int.reduceEq, Int.reduceLT, Int.reduceLE, Int.reduceAdd, Int.reduceSub, Int.reduceMul, Int.reduceToNat, cutCells, Nat.reduceAdd, Nat.reduceLeDiff, Nat.reduceLT, Nat.reduceMul, Nat.reduceSub, hY1', hY2', hZ']
  rw [hY1]
  refine ev1_loop (K0 := K3) (n1 := K1.length) (css := M.map pfM) (n := M.length) e2 hMlen (fun e K4 hO4 he => ?_) (z := M.length) ⟨0, Nat.zero_le _, rfl, ⟨rfl, fun _ _ => rfl, by simpa using hone3⟩, by exact ex_env rfl⟩
  obtain ⟨x4, rfl⟩ := he
  have s4 := hO4.sl
  rw [List.drop_of_length_le (by rw [e2]; exact Nat.le_refl _), List.append_nil] at s4
  have l4 := hO4.len
  obtain ⟨gv, K5, p1, p2, p3, p4, p5⟩ := app_many (u := 3) (n0 := K1.length) (bytes := 24) (K := K4 ++ [.row (c3 (-6) ++ c3 (-7)) 3 true]) (x := .slice (some ⟨K4.length, 0, none⟩) 2 2) (dss := [c3 (-6), c3 (-7)]) s4.app (by simp; omega) (by decide) rfl
    (by simp only [srcCells, hget_last]; rfl) (by simp [c3]) rfl (by simp only [roomMax, List.length_replicate, List.length_cons, List.length_nil]; omega)
  simp only [c3, List.cons_append, List.nil_append] at p1
  simp (disch := omega) only [kB, kcx, kdm, kdn, kel, aop, resultsL, resultOf, Nat.reduceEqDiff, reduceCtorEq, eq1, apartOK, apart2, AObj.live, Int.reduceEq, Int.reduceLT, Int.reduceLE, Int.reduceAdd, Int.reduceSub, Int.reduceMul, Int.reduceToNat, cutCells, Nat.reduceAdd, Nat.reduceLeDiff, Nat.reduceLT, Nat.reduceMul, Nat.reduceSub, p1, hY2', hZ']
  have hne12 : ∀ c, c < K4.length → (K2.length ≤ c ∨ c < K1.length) → hget K5 c = hget K3 c := fun c hc hb => by
    have hne : blk (.slice a1 M.length M.length) ≠ some c := fun q => by have := honelt c q; omega
    rw [p5 c (by simp; omega) hne, hget_old hc, hO4.fr c hne]
  have l5 : K4.length + 1 ≤ K5.length := by simpa using p3
  have hwv5 : SLs 2 0 K5 (.slice aw M.length M.length) ((klM w M).map kC) := by
    have q : SLs 2 0 K5 (.slice aw M.length M.length) ((klM w M).map kC) := hwv3.same fun c hc => hne12 c (by have := hwvlt c hc; omega) (.inr (hwvlt c hc))
    rcases q with q | ⟨q1, q2, _, q3⟩
    · exact .inl q
    · exact .inr ⟨q1, q2, Nat.zero_le _, q3⟩
  have htwo5 : SLs 3 K2.length K5 (.slice a2 M.length M.length) (M.map pfM) := htwo'.same fun c hc => hne12 c (by have := (htwo'.lt hc).1; omega) (.inl (htwolt c hc))
  have hgvne : ∀ c, blk gv = some c → blk (.slice a2 M.length M.length) ≠ some c := fun c hc q => by
    have h2 := htwolt c q
    have h3 := (htwo'.lt q).1
    rcases p4 c hc with h | h
    · have := honelt c h; omega
    · simp at h; omega
  rw [hY2]
  refine ev2_loop (K0 := K5) (n1 := K2.length) (m := m2) (sv := sv) (L := []) (M := M) (n := M.length) hw hw2 rfl hMlen (by rw [hne12 xb (by omega) (.inr (by omega))]; exact hxK3) (fun q => by have := htwolt _ q; omega) hwv5 (fun c hc q => by have := hwvlt c hc; have := htwolt c q; omega) hMrg (fun e K6 hO6 he => ?_) (z := M.length)
    ⟨0, [], K5, Nat.zero_le _, rfl, rfl, ⟨rfl, fun _ _ => rfl, by simpa using htwo5⟩, by exact ex_env rfl⟩
  obtain ⟨x6, rfl⟩ := he
  have s6 := hO6.sl
  rw [List.drop_of_length_le (by rw [e2]; exact Nat.le_refl _), List.append_nil] at s6
  have l6 := hO6.len
  obtain ⟨mv, K7, r1, r2, r3, r4, r5⟩ := app_many (u := 3) (n0 := K2.length) (bytes := 24) (K := K6 ++ [.row (c3 (-9) ++ c3 (-9)) 3 true]) (x := .slice (some ⟨K6.length, 0, none⟩) 2 2) (dss := [c3 (-9), c3 (-9)]) s6.app (by simp; omega) (by decide) rfl
    (by simp only [srcCells, hget_last]; rfl) (by simp [c3]) rfl (by simp only [roomMax, List.length_replicate, List.length_cons, List.length_nil]; omega)
  simp only [c3, List.cons_append, List.nil_append] at r1
  simp (disch := omega) only [kB, kcx, kdm, kdn, kel, aop, resultsL, resultOf, Nat.reduceEqDiff, reduceCtorEq, eq1, apartOK, apart2, AObj.live, Int.reduceEq, Int.reduceLT, Int.reduceLE, Int.reduceAdd, Int.reduceSub, Int.reduceMul, Int.reduceToNat, cutCells, Nat.reduceAdd, Nat.reduceLeDiff, Nat.reduceLT, Nat.reduceMul, Nat.reduceSub, r1, hZ']
  rw [hZ]
  have l7 : K6.length + 1 ≤ K7.length := by simpa using r3
  have hgv7 : SLs 3 K1.length K7 gv (List.replicate M.length (c3 (-5)) ++ [c3 (-6), c3 (-7)]) := p2.same fun c hc => by
    have := (p2.lt hc).1
    rw [r5 c (by simp; omega) (hgvne c hc), hget_old (by omega), hO6.fr c (hgvne c hc)]
  refine every_tail hMlen hgv7 r2 (by exact ex_env rfl) ⟨_, rfl, pre_of (by omega) fun c hc => ?_, .closed rfl, h⟩
  have hne2 : blk (.slice a2 M.length M.length) ≠ some c := fun q => by have := htwolt c q; omega
  rw [r5 c (by simp; omega) hne2, hget_old (by omega), hO6.fr c hne2, hne12 c (by omega) (.inr (by omega))]
  exact hpre3 c hc

end Go.Proofs.Yticgkaanaimllaa.Ev

/- A trie and the document's list side by side. -/
namespace Go.Proofs.Yticgkaanaimllaa.Ev
set_option maxRecDepth 100000
set_option linter.unusedSimpArgs false
set_option linter.unusedVariables false
variable {R : FRes → Heap → Prop} {H : Heap}

theorem ni_nodes : ∀ {t : PT}, NI t → t.nodes.length ≤ 2 * t.mem.length ∧ (nilP t = false → t.nodes.length + 1 ≤ 2 * t.mem.length)
  | .nil, _ => by simp [PT.nodes, PT.mem, nilP]
  | .node c n f v l r, ⟨h1, h2, h3⟩ => by
    have il := ni_nodes h2
    have ir := ni_nodes h3
    simp only [PT.nodes, PT.mem, List.length_cons, List.length_append]
    cases f with
    | true => simp; omega
    | false =>
      obtain ⟨q1, q2⟩ := h1.resolve_left (by simp)
      have := il.2 q1
      have := ir.2 q2
      simp; omega

/-- A trie, and the document's that keeps the same. -/
structure PR (H : Heap) (b xb w : Nat) (m : Int) (t : Tr) (sv : Value) : Prop where
  ti : TI H b w m (t.er.mem.length : Nat) t
  pw : PW w t.er
  ni : NI t.er
  xr : XR H xb w m sv (kl w t.er)
  m1 : m ≤ 4096
  mx : (t.er.mem.length : Int) ≤ m

def FPt (b : Nat) (t : Tr) (c : Nat) : Prop := c = b ∨ c ∈ t.blocks
def FPx (xb : Nat) (sv : Value) (c : Nat) : Prop := c = xb ∨ blk sv = some c
def FP (b xb : Nat) (t : Tr) (sv : Value) (c : Nat) : Prop := FPt b t c ∨ FPx xb sv c

theorem TI.same {K : Heap} {b w : Nat} {m l : Int} {t : Tr} (h : TI H b w m l t) (hs : ∀ c, FPt b t c → hget K c = hget H c) : TI K b w m l t :=
  ⟨(hs b (.inl rfl)).trans h.hd, h.nb, h.lies.same fun c hc => hs c (.inr hc), h.ok, h.nd⟩
theorem TAw.row : ∀ {t : Tr}, TAw H t → ∀ c ∈ t.blocks, ∃ a n f v l r, hget H c = .row (nodeRow a n f v l r) 0 true
  | .nil, _, c, hc => by simp [Tr.blocks] at hc
  | .node b a n f v l r, ⟨h1, h2, h3⟩, c, hc => by
    simp only [Tr.blocks, List.mem_cons, List.mem_append] at hc
    rcases hc with rfl | hc | hc
    · exact ⟨_, _, _, _, _, _, h1⟩
    · exact h2.row c hc
    · exact h3.row c hc
/-- Their blocks are not the same. -/
theorem PR.apart {b xb w : Nat} {m : Int} {t : Tr} {sv : Value} (h : PR H b xb w m t sv) {c : Nat} (hc : FPt b t c) : ¬ FPx xb sv c := by
  intro hx
  have hd := h.ti.hd
  have hX := h.xr.hd
  rcases hc with rfl | hc
  · rcases hx with rfl | hx
    · rw [hd] at hX; simp at hX
    · exact h.xr.sl.ne hd (by decide) hx
  · obtain ⟨a, n, f, v, l, r, hr⟩ := h.ti.lies.row c hc
    rcases hx with rfl | hx
    · rw [hr] at hX; simp [nodeRow] at hX
    · exact h.xr.sl.ne hr (by decide) hx
theorem PR.lt {b xb w : Nat} {m : Int} {t : Tr} {sv : Value} (h : PR H b xb w m t sv) {c : Nat} (hc : FP b xb t sv c) : c < H.length := by
  rcases hc with (rfl | hc) | (rfl | hc)
  · exact hget_lt h.ti.hd rfl
  · exact h.ti.lies.lt c hc
  · exact hget_lt h.xr.hd rfl
  · exact (h.xr.sl.lt hc).1
theorem PR.same {K : Heap} {b xb w : Nat} {m : Int} {t : Tr} {sv : Value} (h : PR H b xb w m t sv) (hs : ∀ c, FP b xb t sv c → hget K c = hget H c) : PR K b xb w m t sv :=
  ⟨h.ti.same fun c hc => hs c (.inl hc), h.pw, h.ni, h.xr.same (hs xb (.inr (.inl rfl))) fun c hc => hs c (.inr (.inr hc)), h.m1, h.mx⟩
theorem PR.app {G : Heap} {b xb w : Nat} {m : Int} {t : Tr} {sv : Value} (h : PR H b xb w m t sv) : PR (H ++ G) b xb w m t sv := h.same fun c hc => hget_old (h.lt hc)
theorem PR.sz {b xb w : Nat} {m : Int} {t : Tr} {sv : Value} (h : PR H b xb w m t sv) : t.er.mem.length ≤ 4096 ∧ t.inL.length ≤ 1000000 ∧ (kl w t.er).length ≤ 1000000 := by
  have h1 := h.m1
  have h2 := h.mx
  have h3 := (ni_nodes h.ni).1
  refine ⟨by omega, by rw [inL_len]; omega, by rw [kl_len]; omega⟩

theorem kl_getK {w a : Nat} {n : Int} {t : PT} (hw : w ≤ 128) (hpw : PW w t) (htw : TWp w t) : (if rgt w a n = true then getK (headT w a n) (kl w t) else none) = (if rgt w a n = true then atP w a n.toNat t else none) := by
  by_cases hr : rgt w a n = true
  case neg => rw [if_neg hr, if_neg hr]
  rw [if_pos hr, if_pos hr, headT, if_pos hr]
  obtain ⟨r1, r2, r3, r4⟩ := (rgt_iff hw).1 hr
  obtain ⟨k, rfl⟩ : ∃ k : Nat, n = k := ⟨n.toNat, by omega⟩
  simp only [Int.toNat_natCast]
  show getK (txt w (a, k)) (kl w t) = atP w a k t
  cases hat : atP w a k t with
  | some v =>
    obtain ⟨h1, h2⟩ := kl_get hpw ((at_mem r1 (by omega) hpw).1 hat)
    rw [getK, if_pos h1, h2]
    rfl
  | none =>
    have : isK (txt w (a, k)) (kl w t) = false := by
      cases q : isK (txt w (a, k)) (kl w t)
      · rfl
      · obtain ⟨v, hv⟩ := (kl_is hw hpw htw hr).1 q
        rw [(at_mem r1 (by omega) hpw).2 hv] at hat
        cases hat
    rw [getK, this, if_neg (by simp)]

theorem getR_opt {w a : Nat} {n : Int} {t : Tr} : getR w a n t = rgetV (if rgt w a n = true then atP w a n.toNat t.er else none) := by
  rw [getR_er]
  split
  · split <;> rename_i q <;> rw [q] <;> rfl
  · rfl

def restI (k : Int) : Int := (k.tmod 12 + 12).tmod 12
theorem rest_t {k : Int} (h : R (.ret (.int .i64 (restI k))) H) : WD T 34 [.int .i64 k] H R := by
  refine WD.of follows t34 (by simp) ?_
  have e : ∀ a : Int, binV .rem (.int .i64 a) (.int .i64 12) = some (.int .i64 (a.tmod 12)) := fun a => rfl
  have h1 : -12 < k.tmod 12 ∧ k.tmod 12 < 12 := ⟨by
    have := Int.lt_tmod_of_pos k (show (0 : Int) < 12 by decide)
    omega, Int.tmod_lt_of_pos k (by decide)⟩
  simp (disch := omega) only [kB, kcx, kdm, kdn, kel, aop, resultsL, resultOf, Nat.reduceEqDiff, reduceCtorEq, eq1, apartOK, apart2, AObj.live, Int.reduceEq, Int.reduceLT, Int.reduceLE, Int.reduceAdd, Int.reduceSub, Int.reduceMul, Int.reduceToNat, cutCells, Nat.reduceAdd, Nat.reduceLeDiff, Nat.reduceLT, Nat.reduceMul, Nat.reduceSub, e, wr_i64]
  exact h

end Go.Proofs.Yticgkaanaimllaa.Ev

/- play: one call on both: Put, Set, Drop, Get. -/
namespace Go.Proofs.Yticgkaanaimllaa.Ev
set_option maxRecDepth 100000
set_option linter.unusedSimpArgs false
set_option linter.unusedVariables false
variable {R : FRes → Heap → Prop} {H : Heap}

/-- Only a return is looked for. -/
def retO (res : List AResult) (R : FRes → Heap → Prop) : Post := fun r e H =>
  match r with
  | .ret => retK res R .ret e H
  | _ => False
theorem retO_ret (res : List AResult) (R : FRes → Heap → Prop) (e : Env) (H : Heap) : retO res R .ret e H = retK res R .ret e H := propext ⟨fun h => h, fun h => h⟩

theorem isK_getK {s : List UInt8} {L : KL} : isK s L = (getK s L).isSome := by
  unfold getK
  cases h : isK s L with
  | false => rfl
  | true =>
    obtain ⟨v, hv⟩ := ixK_get h
    rw [if_pos rfl, hv]
    rfl

/-- What play may do. -/
def PlayR (R : FRes → Heap → Prop) (H : Heap) (b xb w : Nat) (m : Int) (t : Tr) (sv : Value) : Prop :=
  ∀ K t' sv', H.length ≤ K.length → (∀ c, c < H.length → ¬ FP b xb t sv c → hget K c = hget H c) → PR K b xb w m t' sv' → (∀ c, FP b xb t' sv' c → FP b xb t sv c ∨ H.length ≤ c) → R (.ret (.bool true)) K

theorem PlayR.stay {b xb w : Nat} {m : Int} {t : Tr} {sv : Value} (h : PlayR R H b xb w m t sv) (hP : PR H b xb w m t sv) (g : Heap) : R (.ret (.bool true)) (H ++ g) :=
  h _ t sv (by simp) (fun c hc _ => hget_old hc) hP.app fun c hc => .inl hc
theorem PlayR.more {b xb w : Nat} {m : Int} {t : Tr} {sv : Value} {g : Heap} (h : PlayR R H b xb w m t sv) : PlayR R (H ++ g) b xb w m t sv := fun K t' sv' h1 h2 h3 h4 =>
  h K t' sv' (by simp at h1; omega) (fun c hc hn => by rw [h2 c (by simp; omega) hn, hget_old hc]) h3 fun c hc => (h4 c hc).imp id fun q => by simp at q; omega

theorem tw_rgt {w a : Nat} {n : Int} (hw2 : w ≤ 128) (hr : rgt w a n = true) : ∃ k : Nat, n = k ∧ a < 2 ^ w ∧ k ≤ w ∧ a &&& maskN w k = a ∧ headT w a n = txt w (a, k) := by
  obtain ⟨r1, r2, r3, r4⟩ := (rgt_iff hw2).1 hr
  obtain ⟨k, rfl⟩ : ∃ k : Nat, n = k := ⟨n.toNat, by omega⟩
  refine ⟨k, rfl, r1, by omega, ?_, ?_⟩
  · simp only [rgt, Bool.and_eq_true, decide_eq_true_eq, Int.toNat_natCast] at hr
    exact hr.2
  · rw [headT, if_pos hr]
    rfl

/-- The bit of memory that play has of its own. -/
structure PlB (K : Heap) (p : Nat) (o : Opr) : Prop where
  op : hget K p = .row (opC o) 0 true
  pf : hget K (p + 1) = .row [.int .u64 ((o.a / W64 : Nat) : Int), .int .u64 ((o.a % W64 : Nat) : Int), .int .i64 o.n] 0 true

theorem play_put {b xb w p : Nat} {m : Int} {t : Tr} {sv : Value} {o : Opr} (hw : 1 ≤ w) (hw2 : w ≤ 128) (ho : o.a < 2 ^ 128) (hB : PlB H p o) (hP : PR H b xb w m t sv) (hp : ∀ c, FP b xb t sv c → c < p) (h : PlayR R H b xb w m t sv) {e : Env}
    (he : (∃ x : Nat → Value, e = [.pointer (some ⟨b, 0, none⟩), .pointer (some ⟨xb, 0, none⟩), x 2, x 3, x 4, .pointer (some ⟨p, 0, none⟩), x 6, .pointer (some ⟨p + 1, 0, none⟩), x 8, x 9, x 10, x 11, x 12, x 13, x 14, x 15, x 16, x 17, x 18, x 19, x 20, x 21, x 22, x 23, x 24, x 25, x 26, x 27, x 28, x 29, x 30, x 31, x 32, .int .i64 0, x 34, x 35, x 36, x 37, x 38, x 39, x 40, x 41, x 42, x 43, x 44, x 45, x 46, x 47, x 48, x 49, x 50, x 51, x 52, x 53, x 54, x 55, x 56, x 57, x 58, x 59, x 60, x 61, x 62, x 63, x 64, x 65, x 66, x 67, x 68, x 69, x 70, x 71, x 72, x 73, x 74, x 75, x 76, x 77, x 78, x 79, x 80, x 81, x 82, x 83, x 84, x 85, x 86, x 87, x 88, x 89, x 90, x 91, x 92, x 93, x 94, x 95, x 96, x 97, x 98, x 99, x 100, x 101, x 102, x 103, x 104, x 105, x 106, x 107, x 108, x 109, x 110, x 111, x 112, x 113, x 114, x 115, x 116, x 117, x 118, x 119, x 120, x 121, x 122, x 123, x 124, x 125, x 126, x 127, x 128, x 129, x 130, x 131, x 132, x 133, x 134, x 135, x 136, x 137, x 138, x 139, x 140, x 141, x 142, x 143, x 144, x 145, x 146, x 147, x 148, x 149, x 150, x 151, x 152, x 153, x 154, x 155, x 156, x 157, x 158, x 159, x 160, x 161, x 162, x 163, x 164, x 165, x 166, x 167, x 168, x 169, x 170, x 171, x 172, x 173, x 174, x 175, x 176, x 177, x 178, x 179, x 180, x 181, x 182, x 183, x 184, x 185, x 186, x 187, x 188, x 189, x 190, x 191, x 192, x 193, x 194, x 195, x 196, x 197, x 198, x 199, x 200, x 201, x 202, x 203, x 204, x 205, x 206, x 207, x 208, x 209, x 210, x 211, x 212, x 213, x 214, x 215, x 216, x 217, x 218, x 219])) : WC T (g29.body.at [1, 1, 0, 1]) e H (retO [.tmp 6] R) := by
  obtain ⟨x, rfl⟩ := he
  have hop := hB.op
  have hpf := hB.pf
  unfold opC at hop
  have l1 := hget_lt hop rfl
  have l2 := hget_lt hpf rfl
  have hX := hP.xr
  have hsz := hP.sz
  have hfpb : ∀ c, FP b xb t sv c → c ≠ p ∧ c ≠ p + 1 := fun c hc => by have := hp c hc; omega
  have hgk := kl_getK (a := o.a) (n := o.n) hw2 hP.pw (tw_er.1 hP.ti.ok)
  have hXd := hX.hd
  have lx := hget_lt hXd rfl
  simp only [AFunc.body, g29, ACode.at]
  simp (disch := omega) only [kB, kcx, kdm, kdn, kel, aop, resultsL, resultOf, Nat.reduceEqDiff, reduceCtorEq, eq1, apartOK, apart2, AObj.live, Int.reduceEq, Int.reduceLT, Int.reduceLE, Int.reduceAdd, Int.reduceSub, Int.reduceMul, Int.reduceToNat, cutCells, Nat.reduceAdd, Nat.reduceLeDiff, Nat.reduceLT, Nat.reduceMul, Nat.reduceSub, retO_ret, hop, hpf]
  refine put_t hP.ti hw hw2 ho (by omega) (fun hr g => ?_) (fun hr hat g => ?_) (fun hr hat hf g => ?_) (fun hr hat hlm t' K1 hlen1 hfr hti hown her => ?_)
  · simp (disch := omega) only [kB, kcx, kdm, kdn, kel, aop, resultsL, resultOf, Nat.reduceEqDiff, reduceCtorEq, eq1, apartOK, apart2, AObj.live, Int.reduceEq, Int.reduceLT, Int.reduceLE, Int.reduceAdd, Int.reduceSub, Int.reduceMul, Int.reduceToNat, cutCells, Nat.reduceAdd, Nat.reduceLeDiff, Nat.reduceLT, Nat.reduceMul, Nat.reduceSub, retO_ret, hop, hpf]
    refine rput_t hX.app hsz.2.2 hw hw2 ho (fun _ g2 => ?_) (fun hr2 => by rw [hr] at hr2; cases hr2) (fun hr2 => by rw [hr] at hr2; cases hr2) (fun hr2 => by rw [hr] at hr2; cases hr2)
    simp (disch := omega) only [kB, kcx, kdm, kdn, kel, aop, resultsL, resultOf, Nat.reduceEqDiff, reduceCtorEq, eq1, apartOK, apart2, AObj.live, Int.reduceEq, Int.reduceLT, Int.reduceLE, Int.reduceAdd, Int.reduceSub, Int.reduceMul, Int.reduceToNat, cutCells, Nat.reduceAdd, Nat.reduceLeDiff, Nat.reduceLT, Nat.reduceMul, Nat.reduceSub, retO_ret]
    exact h.stay hP _
  · obtain ⟨k, hk, a1, a2, a3, a4⟩ := tw_rgt hw2 hr
    rw [if_pos hr, if_pos hr] at hgk
    have hsome : isK (headT w o.a o.n) (kl w t.er) = true := by
      rw [isK_getK, hgk]
      cases q : atP w o.a o.n.toNat t.er with
      | some v => rfl
      | none => exact absurd (atV_none.2 q) hat
    simp (disch := omega) only [kB, kcx, kdm, kdn, kel, aop, resultsL, resultOf, Nat.reduceEqDiff, reduceCtorEq, eq1, apartOK, apart2, AObj.live, Int.reduceEq, Int.reduceLT, Int.reduceLE, Int.reduceAdd, Int.reduceSub, Int.reduceMul, Int.reduceToNat, cutCells, Nat.reduceAdd, Nat.reduceLeDiff, Nat.reduceLT, Nat.reduceMul, Nat.reduceSub, retO_ret, hop, hpf]
    refine rput_t hX.app hsz.2.2 hw hw2 ho (fun hr2 => by rw [hr] at hr2; cases hr2) (fun _ _ g2 => ?_) (fun _ hi => by rw [hsome] at hi; cases hi) (fun _ hi => by rw [hsome] at hi; cases hi)
    simp (disch := omega) only [kB, kcx, kdm, kdn, kel, aop, resultsL, resultOf, Nat.reduceEqDiff, reduceCtorEq, eq1, apartOK, apart2, AObj.live, Int.reduceEq, Int.reduceLT, Int.reduceLE, Int.reduceAdd, Int.reduceSub, Int.reduceMul, Int.reduceToNat, cutCells, Nat.reduceAdd, Nat.reduceLeDiff, Nat.reduceLT, Nat.reduceMul, Nat.reduceSub, retO_ret]
    exact h.stay hP _
  · rw [if_pos hr, if_pos hr, atV_none.1 hat] at hgk
    have hno : isK (headT w o.a o.n) (kl w t.er) = false := by rw [isK_getK, hgk]; rfl
    have hkl := kl_len (w := w) (t := t.er)
    simp (disch := omega) only [kB, kcx, kdm, kdn, kel, aop, resultsL, resultOf, Nat.reduceEqDiff, reduceCtorEq, eq1, apartOK, apart2, AObj.live, Int.reduceEq, Int.reduceLT, Int.reduceLE, Int.reduceAdd, Int.reduceSub, Int.reduceMul, Int.reduceToNat, cutCells, Nat.reduceAdd, Nat.reduceLeDiff, Nat.reduceLT, Nat.reduceMul, Nat.reduceSub, retO_ret, hop, hpf]
    refine rput_t hX.app hsz.2.2 hw hw2 ho (fun hr2 => by rw [hr] at hr2; cases hr2) (fun _ hi => by rw [hno] at hi; cases hi) (fun _ _ _ g2 => ?_) (fun _ _ hl => by omega)
    simp (disch := omega) only [kB, kcx, kdm, kdn, kel, aop, resultsL, resultOf, Nat.reduceEqDiff, reduceCtorEq, eq1, apartOK, apart2, AObj.live, Int.reduceEq, Int.reduceLT, Int.reduceLE, Int.reduceAdd, Int.reduceSub, Int.reduceMul, Int.reduceToNat, cutCells, Nat.reduceAdd, Nat.reduceLeDiff, Nat.reduceLT, Nat.reduceMul, Nat.reduceSub, retO_ret]
    exact h.stay hP _
  · obtain ⟨k, hk, a1, a2, a3, a4⟩ := tw_rgt hw2 hr
    rw [if_pos hr, if_pos hr, atV_none.1 hat] at hgk
    have hno : isK (headT w o.a o.n) (kl w t.er) = false := by rw [isK_getK, hgk]; rfl
    have hkl := kl_len (w := w) (t := t.er)
    have hs1 : ∀ c, c < H.length → ¬ FPt b t c → hget K1 c = hget H c := fun c hc hn => hfr c hc (fun q => hn (.inl q)) (fun q => hn (.inr q))
    have hX1 : XR K1 xb w m sv (kl w t.er) := hX.same (hs1 xb (hP.lt (.inr (.inl rfl))) fun q => hP.apart q (.inl rfl)) fun c hc => hs1 c (hP.lt (.inr (.inr hc))) fun q => hP.apart q (.inr hc)
    have hop1 : hget K1 p = .row [.int .i64 o.k, .int .u64 ((o.a / W64 : Nat) : Int), .int .u64 ((o.a % W64 : Nat) : Int), .int .i64 o.n, .int .i64 o.v] 0 true := by rw [hs1 p l1 fun q => (hfpb p (.inl q)).1 rfl]; exact hop
    simp (disch := omega) only [kB, kcx, kdm, kdn, kel, aop, resultsL, resultOf, Nat.reduceEqDiff, reduceCtorEq, eq1, apartOK, apart2, AObj.live, Int.reduceEq, Int.reduceLT, Int.reduceLE, Int.reduceAdd, Int.reduceSub, Int.reduceMul, Int.reduceToNat, cutCells, Nat.reduceAdd, Nat.reduceLeDiff, Nat.reduceLT, Nat.reduceMul, Nat.reduceSub, retO_ret, hop1]
    refine rput_t hX1 hsz.2.2 hw hw2 ho (fun hr2 => by rw [hr] at hr2; cases hr2) (fun _ hi => by rw [hno] at hi; cases hi) (fun _ _ hl => by omega) (fun _ _ _ K2 sv' g1 g2 g3 g4 => ?_)
    simp (disch := omega) only [kB, kcx, kdm, kdn, kel, aop, resultsL, resultOf, Nat.reduceEqDiff, reduceCtorEq, eq1, apartOK, apart2, AObj.live, Int.reduceEq, Int.reduceLT, Int.reduceLE, Int.reduceAdd, Int.reduceSub, Int.reduceMul, Int.reduceToNat, cutCells, Nat.reduceAdd, Nat.reduceLeDiff, Nat.reduceLT, Nat.reduceMul, Nat.reduceSub, retO_ret]
    rw [hk] at her hat hr
    simp only [Int.toNat_natCast] at her hat
    have hmem := (with_mem (v := o.v) hw2 a1 a2 a3 hP.pw (tw_er.1 hP.ti.ok) (atV_none.1 hat)).length_eq
    rw [← her, List.length_cons] at hmem
    have hlt' : ∀ c, FPt b t' c → c < K1.length := fun c hc => by
      rcases hc with rfl | hc
      · exact hget_lt hti.hd rfl
      · exact hti.lies.lt c hc
    have hFt : ∀ c, FPt b t' c → FPt b t c ∨ H.length ≤ c := fun c hc => by
      rcases hc with rfl | hc
      · exact .inl (.inl rfl)
      · exact (hown c hc).imp (fun q => .inr q) id
    have hnx : ∀ c, FPt b t' c → c ≠ xb ∧ blk sv ≠ some c := fun c hc => by
      rcases hFt c hc with q | q
      · exact ⟨fun e => hP.apart q (.inl e), fun e => hP.apart q (.inr e)⟩
      · exact ⟨fun e => by omega, fun e => by have := hP.lt (.inr (.inr e)); omega⟩
    refine h K2 t' sv' (by omega) (fun c hc hn => ?_) ⟨?_, by rw [her]; exact with_pw hw2 a1 a2 a3 hP.pw, by rw [her]; exact (with_ni a1 hP.pw hP.ni).1, ?_, hP.m1, by rw [hmem]; omega⟩ (fun c hc => ?_)
    · rw [g2 c (by omega) (fun q => hn (.inr (.inl q))) (fun q => hn (.inr (.inr q)))]
      exact hs1 c hc fun q => hn (.inl q)
    · have := hti.same (K := K2) fun c hc => g2 c (hlt' c hc) (hnx c hc).1 (hnx c hc).2
      rw [hmem]
      simpa using this
    · rw [her, kl_put hw2 hP.pw (tw_er.1 hP.ti.ok) hr (atV_none.1 hat), ← a4]
      exact g3
    · rcases hc with hc | hc
      · exact (hFt c hc).imp (fun q => .inl q) id
      · rcases hc with hc | hc
        · exact .inl (.inr (.inl hc))
        · have := g4 c hc; exact .inr (by omega)

theorem play_set {b xb w p : Nat} {m : Int} {t : Tr} {sv : Value} {o : Opr} (hw : 1 ≤ w) (hw2 : w ≤ 128) (ho : o.a < 2 ^ 128) (hB : PlB H p o) (hP : PR H b xb w m t sv) (hp : ∀ c, FP b xb t sv c → c < p) (h : PlayR R H b xb w m t sv) {e : Env}
    (he : (∃ x : Nat → Value, e = [.pointer (some ⟨b, 0, none⟩), .pointer (some ⟨xb, 0, none⟩), x 2, x 3, x 4, .pointer (some ⟨p, 0, none⟩), x 6, .pointer (some ⟨p + 1, 0, none⟩), x 8, x 9, x 10, x 11, x 12, x 13, x 14, x 15, x 16, x 17, x 18, x 19, x 20, x 21, x 22, x 23, x 24, x 25, x 26, x 27, x 28, x 29, x 30, x 31, x 32, .int .i64 1, x 34, x 35, x 36, x 37, x 38, x 39, x 40, x 41, x 42, x 43, x 44, x 45, x 46, x 47, x 48, x 49, x 50, x 51, x 52, x 53, x 54, x 55, x 56, x 57, x 58, x 59, x 60, x 61, x 62, x 63, x 64, x 65, x 66, x 67, x 68, x 69, x 70, x 71, x 72, x 73, x 74, x 75, x 76, x 77, x 78, x 79, x 80, x 81, x 82, x 83, x 84, x 85, x 86, x 87, x 88, x 89, x 90, x 91, x 92, x 93, x 94, x 95, x 96, x 97, x 98, x 99, x 100, x 101, x 102, x 103, x 104, x 105, x 106, x 107, x 108, x 109, x 110, x 111, x 112, x 113, x 114, x 115, x 116, x 117, x 118, x 119, x 120, x 121, x 122, x 123, x 124, x 125, x 126, x 127, x 128, x 129, x 130, x 131, x 132, x 133, x 134, x 135, x 136, x 137, x 138, x 139, x 140, x 141, x 142, x 143, x 144, x 145, x 146, x 147, x 148, x 149, x 150, x 151, x 152, x 153, x 154, x 155, x 156, x 157, x 158, x 159, x 160, x 161, x 162, x 163, x 164, x 165, x 166, x 167, x 168, x 169, x 170, x 171, x 172, x 173, x 174, x 175, x 176, x 177, x 178, x 179, x 180, x 181, x 182, x 183, x 184, x 185, x 186, x 187, x 188, x 189, x 190, x 191, x 192, x 193, x 194, x 195, x 196, x 197, x 198, x 199, x 200, x 201, x 202, x 203, x 204, x 205, x 206, x 207, x 208, x 209, x 210, x 211, x 212, x 213, x 214, x 215, x 216, x 217, x 218, x 219])) : WC T (g29.body.at [1, 1, 0, 1]) e H (retO [.tmp 6] R) := by
  obtain ⟨x, rfl⟩ := he
  have hop := hB.op
  have hpf := hB.pf
  unfold opC at hop
  have l1 := hget_lt hop rfl
  have l2 := hget_lt hpf rfl
  have hX := hP.xr
  have hsz := hP.sz
  have hfpb : ∀ c, FP b xb t sv c → c ≠ p ∧ c ≠ p + 1 := fun c hc => by have := hp c hc; omega
  have hgk := kl_getK (a := o.a) (n := o.n) hw2 hP.pw (tw_er.1 hP.ti.ok)
  have hXd := hX.hd
  have lx := hget_lt hXd rfl
  simp only [AFunc.body, g29, ACode.at]
  simp (disch := omega) only [kB, kcx, kdm, kdn, kel, aop, resultsL, resultOf, Nat.reduceEqDiff, reduceCtorEq, eq1, apartOK, apart2, AObj.live, Int.reduceEq, Int.reduceLT, Int.reduceLE, Int.reduceAdd, Int.reduceSub, Int.reduceMul, Int.reduceToNat, cutCells, Nat.reduceAdd, Nat.reduceLeDiff, Nat.reduceLT, Nat.reduceMul, Nat.reduceSub, retO_ret, hop, hpf]
  refine set_t hP.ti hw hw2 ho hP.pw (fun hr g => ?_) (fun hr hat g => ?_) (fun k v0 hk hr hm K1 hlen1 hfr hti => ?_)
  · simp (disch := omega) only [kB, kcx, kdm, kdn, kel, aop, resultsL, resultOf, Nat.reduceEqDiff, reduceCtorEq, eq1, apartOK, apart2, AObj.live, Int.reduceEq, Int.reduceLT, Int.reduceLE, Int.reduceAdd, Int.reduceSub, Int.reduceMul, Int.reduceToNat, cutCells, Nat.reduceAdd, Nat.reduceLeDiff, Nat.reduceLT, Nat.reduceMul, Nat.reduceSub, retO_ret, hop, hpf]
    refine rset_t hX.app hsz.2.2 hw hw2 ho (fun _ g2 => ?_) (fun hr2 => by rw [hr] at hr2; cases hr2) (fun hr2 => by rw [hr] at hr2; cases hr2)
    simp (disch := omega) only [kB, kcx, kdm, kdn, kel, aop, resultsL, resultOf, Nat.reduceEqDiff, reduceCtorEq, eq1, apartOK, apart2, AObj.live, Int.reduceEq, Int.reduceLT, Int.reduceLE, Int.reduceAdd, Int.reduceSub, Int.reduceMul, Int.reduceToNat, cutCells, Nat.reduceAdd, Nat.reduceLeDiff, Nat.reduceLT, Nat.reduceMul, Nat.reduceSub, retO_ret]
    exact h.stay hP _
  · rw [if_pos hr, if_pos hr, hat] at hgk
    have hno : isK (headT w o.a o.n) (kl w t.er) = false := by rw [isK_getK, hgk]; rfl
    simp (disch := omega) only [kB, kcx, kdm, kdn, kel, aop, resultsL, resultOf, Nat.reduceEqDiff, reduceCtorEq, eq1, apartOK, apart2, AObj.live, Int.reduceEq, Int.reduceLT, Int.reduceLE, Int.reduceAdd, Int.reduceSub, Int.reduceMul, Int.reduceToNat, cutCells, Nat.reduceAdd, Nat.reduceLeDiff, Nat.reduceLT, Nat.reduceMul, Nat.reduceSub, retO_ret, hop, hpf]
    refine rset_t hX.app hsz.2.2 hw hw2 ho (fun hr2 => by rw [hr] at hr2; cases hr2) (fun _ _ g2 => ?_) (fun _ hi => by rw [hno] at hi; cases hi)
    simp (disch := omega) only [kB, kcx, kdm, kdn, kel, aop, resultsL, resultOf, Nat.reduceEqDiff, reduceCtorEq, eq1, apartOK, apart2, AObj.live, Int.reduceEq, Int.reduceLT, Int.reduceLE, Int.reduceAdd, Int.reduceSub, Int.reduceMul, Int.reduceToNat, cutCells, Nat.reduceAdd, Nat.reduceLeDiff, Nat.reduceLT, Nat.reduceMul, Nat.reduceSub, retO_ret]
    exact h.stay hP _
  · have hr' : rgt w o.a o.n = true := by rw [hk]; exact hr
    obtain ⟨k', hk', a1, a2, a3, a4⟩ := tw_rgt hw2 hr'
    obtain rfl : k' = k := by omega
    obtain ⟨q1, q2⟩ := kl_get hP.pw hm
    have hyes : isK (headT w o.a o.n) (kl w t.er) = true := by rw [a4]; exact q1
    have hs1 : ∀ c, c < H.length → ¬ FPt b t c → hget K1 c = hget H c := fun c hc hn => hfr c hc (fun q => hn (.inr q))
    have hX1 : XR K1 xb w m sv (kl w t.er) := hX.same (hs1 xb (hP.lt (.inr (.inl rfl))) fun q => hP.apart q (.inl rfl)) fun c hc => hs1 c (hP.lt (.inr (.inr hc))) fun q => hP.apart q (.inr hc)
    have hop1 : hget K1 p = .row [.int .i64 o.k, .int .u64 ((o.a / W64 : Nat) : Int), .int .u64 ((o.a % W64 : Nat) : Int), .int .i64 o.n, .int .i64 o.v] 0 true := by rw [hs1 p l1 fun q => (hfpb p (.inl q)).1 rfl]; exact hop
    simp (disch := omega) only [kB, kcx, kdm, kdn, kel, aop, resultsL, resultOf, Nat.reduceEqDiff, reduceCtorEq, eq1, apartOK, apart2, AObj.live, Int.reduceEq, Int.reduceLT, Int.reduceLE, Int.reduceAdd, Int.reduceSub, Int.reduceMul, Int.reduceToNat, cutCells, Nat.reduceAdd, Nat.reduceLeDiff, Nat.reduceLT, Nat.reduceMul, Nat.reduceSub, retO_ret, hop1]
    refine rset_t hX1 hsz.2.2 hw hw2 ho (fun hr2 => by rw [hr'] at hr2; cases hr2) (fun _ hi => by rw [hyes] at hi; cases hi) (fun _ _ K2 g1 g2 g3 => ?_)
    simp (disch := omega) only [kB, kcx, kdm, kdn, kel, aop, resultsL, resultOf, Nat.reduceEqDiff, reduceCtorEq, eq1, apartOK, apart2, AObj.live, Int.reduceEq, Int.reduceLT, Int.reduceLE, Int.reduceAdd, Int.reduceSub, Int.reduceMul, Int.reduceToNat, cutCells, Nat.reduceAdd, Nat.reduceLeDiff, Nat.reduceLT, Nat.reduceMul, Nat.reduceSub, retO_ret]
    have hFt : ∀ c, FPt b (setT w o.a k' o.v t) c → FPt b t c := fun c hc => by
      rcases hc with rfl | hc
      · exact .inl rfl
      · exact .inr (by rw [set_blocks] at hc; exact hc)
    have hmem : (setT w o.a k' o.v t).er.mem.length = t.er.mem.length := by
      rw [set_er]
      obtain ⟨A, B, e1, e2⟩ := set_mem (v := o.v) hP.pw hm
      rw [e1, e2]
      simp
    refine h K2 (setT w o.a k' o.v t) sv (by omega) (fun c hc hn => ?_) ⟨?_, by rw [set_er]; exact set_pw hP.pw, by rw [set_er]; exact set_ni hP.ni, ?_, hP.m1, by rw [hmem]; exact hP.mx⟩ (fun c hc => ?_)
    · rw [g2 c (by omega) (fun q => hn (.inr (.inr q)))]
      exact hs1 c hc fun q => hn (.inl q)
    · rw [hmem]
      exact hti.same fun c hc => g2 c (by have := hP.lt (.inl (hFt c hc)); omega) (fun e => hP.apart (hFt c hc) (.inr e))
    · rw [set_er, kl_set hP.pw hm, ← a4]
      exact g3
    · rcases hc with hc | hc
      · exact .inl (.inl (hFt c hc))
      · exact .inl (.inr hc)

theorem play_drop {b xb w p : Nat} {m : Int} {t : Tr} {sv : Value} {o : Opr} (hw : 1 ≤ w) (hw2 : w ≤ 128) (ho : o.a < 2 ^ 128) (hB : PlB H p o) (hP : PR H b xb w m t sv) (hp : ∀ c, FP b xb t sv c → c < p) (h : PlayR R H b xb w m t sv) {e : Env}
    (he : (∃ x : Nat → Value, e = [.pointer (some ⟨b, 0, none⟩), .pointer (some ⟨xb, 0, none⟩), x 2, x 3, x 4, .pointer (some ⟨p, 0, none⟩), x 6, .pointer (some ⟨p + 1, 0, none⟩), x 8, x 9, x 10, x 11, x 12, x 13, x 14, x 15, x 16, x 17, x 18, x 19, x 20, x 21, x 22, x 23, x 24, x 25, x 26, x 27, x 28, x 29, x 30, x 31, x 32, .int .i64 2, x 34, x 35, x 36, x 37, x 38, x 39, x 40, x 41, x 42, x 43, x 44, x 45, x 46, x 47, x 48, x 49, x 50, x 51, x 52, x 53, x 54, x 55, x 56, x 57, x 58, x 59, x 60, x 61, x 62, x 63, x 64, x 65, x 66, x 67, x 68, x 69, x 70, x 71, x 72, x 73, x 74, x 75, x 76, x 77, x 78, x 79, x 80, x 81, x 82, x 83, x 84, x 85, x 86, x 87, x 88, x 89, x 90, x 91, x 92, x 93, x 94, x 95, x 96, x 97, x 98, x 99, x 100, x 101, x 102, x 103, x 104, x 105, x 106, x 107, x 108, x 109, x 110, x 111, x 112, x 113, x 114, x 115, x 116, x 117, x 118, x 119, x 120, x 121, x 122, x 123, x 124, x 125, x 126, x 127, x 128, x 129, x 130, x 131, x 132, x 133, x 134, x 135, x 136, x 137, x 138, x 139, x 140, x 141, x 142, x 143, x 144, x 145, x 146, x 147, x 148, x 149, x 150, x 151, x 152, x 153, x 154, x 155, x 156, x 157, x 158, x 159, x 160, x 161, x 162, x 163, x 164, x 165, x 166, x 167, x 168, x 169, x 170, x 171, x 172, x 173, x 174, x 175, x 176, x 177, x 178, x 179, x 180, x 181, x 182, x 183, x 184, x 185, x 186, x 187, x 188, x 189, x 190, x 191, x 192, x 193, x 194, x 195, x 196, x 197, x 198, x 199, x 200, x 201, x 202, x 203, x 204, x 205, x 206, x 207, x 208, x 209, x 210, x 211, x 212, x 213, x 214, x 215, x 216, x 217, x 218, x 219])) : WC T (g29.body.at [1, 1, 0, 1]) e H (retO [.tmp 6] R) := by
  obtain ⟨x, rfl⟩ := he
  have hop := hB.op
  have hpf := hB.pf
  unfold opC at hop
  have l1 := hget_lt hop rfl
  have l2 := hget_lt hpf rfl
  have hX := hP.xr
  have hsz := hP.sz
  have hmx := hP.mx
  have hm1 := hP.m1
  have hfpb : ∀ c, FP b xb t sv c → c ≠ p ∧ c ≠ p + 1 := fun c hc => by have := hp c hc; omega
  have hgk := kl_getK (a := o.a) (n := o.n) hw2 hP.pw (tw_er.1 hP.ti.ok)
  have hXd := hX.hd
  have lx := hget_lt hXd rfl
  have btt : ∀ c : Bool, (c == c) = true := fun c => by cases c <;> rfl
  simp only [AFunc.body, g29, ACode.at]
  simp (disch := omega) only [kB, kcx, kdm, kdn, kel, aop, resultsL, resultOf, Nat.reduceEqDiff, reduceCtorEq, eq1, apartOK, apart2, AObj.live, Int.reduceEq, Int.reduceLT, Int.reduceLE, Int.reduceAdd, Int.reduceSub, Int.reduceMul, Int.reduceToNat, cutCells, Nat.reduceAdd, Nat.reduceLeDiff, Nat.reduceLT, Nat.reduceMul, Nat.reduceSub, retO_ret, hop, hpf]
  refine drop_t hP.ti hw hw2 ho hP.pw (by omega) (fun hg g => ?_) (fun k v hk hr hm K1 hlen1 hfr hti hown => ?_)
  · rw [getR_opt] at hg
    have hno : (if rgt w o.a o.n = true then getK (headT w o.a o.n) (kl w t.er) else none) = none := by
      rw [hgk]
      cases q : (if rgt w o.a o.n = true then atP w o.a o.n.toNat t.er else none) with
      | none => rfl
      | some v => rw [q] at hg; simp [rgetV] at hg
    simp (disch := omega) only [kB, kcx, kdm, kdn, kel, aop, resultsL, resultOf, Nat.reduceEqDiff, reduceCtorEq, eq1, apartOK, apart2, AObj.live, Int.reduceEq, Int.reduceLT, Int.reduceLE, Int.reduceAdd, Int.reduceSub, Int.reduceMul, Int.reduceToNat, cutCells, Nat.reduceAdd, Nat.reduceLeDiff, Nat.reduceLT, Nat.reduceMul, Nat.reduceSub, retO_ret, hop, hpf]
    refine rdrop_t hX.app hsz.2.2 hw hw2 ho (fun _ g2 => ?_) (fun v hr hv => by rw [if_pos hr, hv] at hno; cases hno)
    simp (disch := omega) only [kB, kcx, kdm, kdn, kel, aop, resultsL, resultOf, Nat.reduceEqDiff, reduceCtorEq, eq1, apartOK, apart2, AObj.live, Int.reduceEq, Int.reduceLT, Int.reduceLE, Int.reduceAdd, Int.reduceSub, Int.reduceMul, Int.reduceToNat, cutCells, Nat.reduceAdd, Nat.reduceLeDiff, Nat.reduceLT, Nat.reduceMul, Nat.reduceSub, retO_ret, btt]
    exact h.stay hP _
  · have hr' : rgt w o.a o.n = true := by rw [hk]; exact hr
    obtain ⟨k', hk', a1, a2, a3, a4⟩ := tw_rgt hw2 hr'
    obtain rfl : k' = k := by omega
    obtain ⟨q1, q2⟩ := kl_get hP.pw hm
    have hyes : getK (headT w o.a o.n) (kl w t.er) = some v := by rw [a4, getK, if_pos q1, q2]; rfl
    have hs1 : ∀ c, c < H.length → ¬ FPt b t c → hget K1 c = hget H c := fun c hc hn => hfr c hc (fun q => hn (.inl q)) (fun q => hn (.inr q))
    have hX1 : XR K1 xb w m sv (kl w t.er) := hX.same (hs1 xb (hP.lt (.inr (.inl rfl))) fun q => hP.apart q (.inl rfl)) fun c hc => hs1 c (hP.lt (.inr (.inr hc))) fun q => hP.apart q (.inr hc)
    have hop1 : hget K1 p = .row [.int .i64 o.k, .int .u64 ((o.a / W64 : Nat) : Int), .int .u64 ((o.a % W64 : Nat) : Int), .int .i64 o.n, .int .i64 o.v] 0 true := by rw [hs1 p l1 fun q => (hfpb p (.inl q)).1 rfl]; exact hop
    simp (disch := omega) only [kB, kcx, kdm, kdn, kel, aop, resultsL, resultOf, Nat.reduceEqDiff, reduceCtorEq, eq1, apartOK, apart2, AObj.live, Int.reduceEq, Int.reduceLT, Int.reduceLE, Int.reduceAdd, Int.reduceSub, Int.reduceMul, Int.reduceToNat, cutCells, Nat.reduceAdd, Nat.reduceLeDiff, Nat.reduceLT, Nat.reduceMul, Nat.reduceSub, retO_ret, hop1]
    refine rdrop_t hX1 hsz.2.2 hw hw2 ho (fun hno => by rw [if_pos hr', hyes] at hno; cases hno) (fun v2 _ hv2 K2 sv' g1 g2 g3 g4 => ?_)
    obtain rfl : v = v2 := by rw [hyes] at hv2; exact Option.some.inj hv2
    simp (disch := omega) only [kB, kcx, kdm, kdn, kel, aop, resultsL, resultOf, Nat.reduceEqDiff, reduceCtorEq, eq1, apartOK, apart2, AObj.live, Int.reduceEq, Int.reduceLT, Int.reduceLE, Int.reduceAdd, Int.reduceSub, Int.reduceMul, Int.reduceToNat, cutCells, Nat.reduceAdd, Nat.reduceLeDiff, Nat.reduceLT, Nat.reduceMul, Nat.reduceSub, retO_ret, btt]
    have hFt : ∀ c, FPt b (dropT w o.a k' t) c → FPt b t c ∨ H.length ≤ c := fun c hc => by
      rcases hc with rfl | hc
      · exact .inl (.inl rfl)
      · exact (hown c hc).imp (fun q => .inr q) id
    have hmem := (drop_mem hP.pw hm).length_eq
    rw [← drop_er, List.length_cons] at hmem
    have hlt' : ∀ c, FPt b (dropT w o.a k' t) c → c < K1.length := fun c hc => by
      rcases hc with rfl | hc
      · exact hget_lt hti.hd rfl
      · exact hti.lies.lt c hc
    have hnx : ∀ c, FPt b (dropT w o.a k' t) c → c ≠ xb ∧ blk sv ≠ some c := fun c hc => by
      rcases hFt c hc with q | q
      · exact ⟨fun e => hP.apart q (.inl e), fun e => hP.apart q (.inr e)⟩
      · exact ⟨fun e => by omega, fun e => by have := hP.lt (.inr (.inr e)); omega⟩
    refine h K2 (dropT w o.a k' t) sv' (by omega) (fun c hc hn => ?_) ⟨?_, by rw [drop_er]; exact drop_pw hP.pw, by rw [drop_er]; exact drop_ni hP.ni, ?_, hP.m1, by omega⟩ (fun c hc => ?_)
    · rw [g2 c (by omega) (fun q => hn (.inr (.inl q))) (fun q => hn (.inr (.inr q)))]
      exact hs1 c hc fun q => hn (.inl q)
    · have := hti.same (K := K2) fun c hc => g2 c (hlt' c hc) (hnx c hc).1 (hnx c hc).2
      rw [show (((dropT w o.a k' t).er.mem.length : Nat) : Int) = (t.er.mem.length : Int) - 1 by omega]
      exact this
    · rw [drop_er, kl_drop hP.pw hm, ← a4]
      exact g3
    · rcases hc with hc | hc
      · exact (hFt c hc).imp (fun q => .inl q) id
      · rcases hc with hc | hc
        · exact .inl (.inr (.inl hc))
        · have := g4 c hc; exact .inr (by omega)

theorem play_get {b xb w p : Nat} {m : Int} {t : Tr} {sv : Value} {o : Opr} (hw : 1 ≤ w) (hw2 : w ≤ 128) (ho : o.a < 2 ^ 128) (hB : PlB H p o) (hP : PR H b xb w m t sv) (hp : ∀ c, FP b xb t sv c → c < p) (h : PlayR R H b xb w m t sv) {e : Env}
    (he : (∃ x : Nat → Value, e = [.pointer (some ⟨b, 0, none⟩), .pointer (some ⟨xb, 0, none⟩), x 2, x 3, x 4, .pointer (some ⟨p, 0, none⟩), x 6, .pointer (some ⟨p + 1, 0, none⟩), x 8, x 9, x 10, x 11, x 12, x 13, x 14, x 15, x 16, x 17, x 18, x 19, x 20, x 21, x 22, x 23, x 24, x 25, x 26, x 27, x 28, x 29, x 30, x 31, x 32, .int .i64 3, x 34, x 35, x 36, x 37, x 38, x 39, x 40, x 41, x 42, x 43, x 44, x 45, x 46, x 47, x 48, x 49, x 50, x 51, x 52, x 53, x 54, x 55, x 56, x 57, x 58, x 59, x 60, x 61, x 62, x 63, x 64, x 65, x 66, x 67, x 68, x 69, x 70, x 71, x 72, x 73, x 74, x 75, x 76, x 77, x 78, x 79, x 80, x 81, x 82, x 83, x 84, x 85, x 86, x 87, x 88, x 89, x 90, x 91, x 92, x 93, x 94, x 95, x 96, x 97, x 98, x 99, x 100, x 101, x 102, x 103, x 104, x 105, x 106, x 107, x 108, x 109, x 110, x 111, x 112, x 113, x 114, x 115, x 116, x 117, x 118, x 119, x 120, x 121, x 122, x 123, x 124, x 125, x 126, x 127, x 128, x 129, x 130, x 131, x 132, x 133, x 134, x 135, x 136, x 137, x 138, x 139, x 140, x 141, x 142, x 143, x 144, x 145, x 146, x 147, x 148, x 149, x 150, x 151, x 152, x 153, x 154, x 155, x 156, x 157, x 158, x 159, x 160, x 161, x 162, x 163, x 164, x 165, x 166, x 167, x 168, x 169, x 170, x 171, x 172, x 173, x 174, x 175, x 176, x 177, x 178, x 179, x 180, x 181, x 182, x 183, x 184, x 185, x 186, x 187, x 188, x 189, x 190, x 191, x 192, x 193, x 194, x 195, x 196, x 197, x 198, x 199, x 200, x 201, x 202, x 203, x 204, x 205, x 206, x 207, x 208, x 209, x 210, x 211, x 212, x 213, x 214, x 215, x 216, x 217, x 218, x 219])) : WC T (g29.body.at [1, 1, 0, 1]) e H (retO [.tmp 6] R) := by
  obtain ⟨x, rfl⟩ := he
  have hop := hB.op
  have hpf := hB.pf
  unfold opC at hop
  have hX := hP.xr
  have hsz := hP.sz
  have hgk := kl_getK (a := o.a) (n := o.n) hw2 hP.pw (tw_er.1 hP.ti.ok)
  have btt : ∀ c : Bool, (c == c) = true := fun c => by cases c <;> rfl
  have hres := h.stay hP []
  rw [List.append_nil] at hres
  simp only [AFunc.body, g29, ACode.at]
  simp (disch := omega) only [kB, kcx, kdm, kdn, kel, aop, resultsL, resultOf, Nat.reduceEqDiff, reduceCtorEq, eq1, apartOK, apart2, AObj.live, Int.reduceEq, Int.reduceLT, Int.reduceLE, Int.reduceAdd, Int.reduceSub, Int.reduceMul, Int.reduceToNat, cutCells, Nat.reduceAdd, Nat.reduceLeDiff, Nat.reduceLT, Nat.reduceMul, Nat.reduceSub, retO_ret, hop, hpf]
  refine get_t hP.ti.hd hP.ti.lies.ta hP.ti.ok hw hw2 ho ?_
  rw [getR_opt, ← hgk]
  cases hv : (if rgt w o.a o.n = true then getK (headT w o.a o.n) (kl w t.er) else none) with
  | none =>
    simp only [rgetV]
    simp (disch := omega) only [kB, kcx, kdm, kdn, kel, aop, resultsL, resultOf, Nat.reduceEqDiff, reduceCtorEq, eq1, apartOK, apart2, AObj.live, Int.reduceEq, Int.reduceLT, Int.reduceLE, Int.reduceAdd, Int.reduceSub, Int.reduceMul, Int.reduceToNat, cutCells, Nat.reduceAdd, Nat.reduceLeDiff, Nat.reduceLT, Nat.reduceMul, Nat.reduceSub, retO_ret, hop, hpf]
    refine rget_t hX hsz.2.2 hw hw2 ho ?_
    rw [hv]
    simp only [rgetV]
    simp (disch := omega) only [kB, kcx, kdm, kdn, kel, aop, resultsL, resultOf, Nat.reduceEqDiff, reduceCtorEq, eq1, apartOK, apart2, AObj.live, Int.reduceEq, Int.reduceLT, Int.reduceLE, Int.reduceAdd, Int.reduceSub, Int.reduceMul, Int.reduceToNat, cutCells, Nat.reduceAdd, Nat.reduceLeDiff, Nat.reduceLT, Nat.reduceMul, Nat.reduceSub, retO_ret, btt]
    exact hres
  | some v =>
    simp only [rgetV]
    simp (disch := omega) only [kB, kcx, kdm, kdn, kel, aop, resultsL, resultOf, Nat.reduceEqDiff, reduceCtorEq, eq1, apartOK, apart2, AObj.live, Int.reduceEq, Int.reduceLT, Int.reduceLE, Int.reduceAdd, Int.reduceSub, Int.reduceMul, Int.reduceToNat, cutCells, Nat.reduceAdd, Nat.reduceLeDiff, Nat.reduceLT, Nat.reduceMul, Nat.reduceSub, retO_ret, hop, hpf]
    refine rget_t hX hsz.2.2 hw hw2 ho ?_
    rw [hv]
    simp only [rgetV]
    simp (disch := omega) only [kB, kcx, kdm, kdn, kel, aop, resultsL, resultOf, Nat.reduceEqDiff, reduceCtorEq, eq1, apartOK, apart2, AObj.live, Int.reduceEq, Int.reduceLT, Int.reduceLE, Int.reduceAdd, Int.reduceSub, Int.reduceMul, Int.reduceToNat, cutCells, Nat.reduceAdd, Nat.reduceLeDiff, Nat.reduceLT, Nat.reduceMul, Nat.reduceSub, retO_ret, btt]
    exact hres

end Go.Proofs.Yticgkaanaimllaa.Ev

/- play: the other calls; alike. -/
namespace Go.Proofs.Yticgkaanaimllaa.Ev
set_option maxRecDepth 100000
set_option linter.unusedSimpArgs false
set_option linter.unusedVariables false
variable {R : FRes → Heap → Prop} {H : Heap}

theorem play_find {b xb w p : Nat} {m : Int} {t : Tr} {sv : Value} {o : Opr} (hw : 1 ≤ w) (hw2 : w ≤ 128) (ho : o.a < 2 ^ 128) (hB : PlB H p o) (hP : PR H b xb w m t sv) (h : PlayR R H b xb w m t sv) {e : Env}
    (he : (∃ x : Nat → Value, e = [.pointer (some ⟨b, 0, none⟩), .pointer (some ⟨xb, 0, none⟩), x 2, x 3, x 4, .pointer (some ⟨p, 0, none⟩), x 6, .pointer (some ⟨p + 1, 0, none⟩), x 8, x 9, x 10, x 11, x 12, x 13, x 14, x 15, x 16, x 17, x 18, x 19, x 20, x 21, x 22, x 23, x 24, x 25, x 26, x 27, x 28, x 29, x 30, x 31, x 32, .int .i64 4, x 34, x 35, x 36, x 37, x 38, x 39, x 40, x 41, x 42, x 43, x 44, x 45, x 46, x 47, x 48, x 49, x 50, x 51, x 52, x 53, x 54, x 55, x 56, x 57, x 58, x 59, x 60, x 61, x 62, x 63, x 64, x 65, x 66, x 67, x 68, x 69, x 70, x 71, x 72, x 73, x 74, x 75, x 76, x 77, x 78, x 79, x 80, x 81, x 82, x 83, x 84, x 85, x 86, x 87, x 88, x 89, x 90, x 91, x 92, x 93, x 94, x 95, x 96, x 97, x 98, x 99, x 100, x 101, x 102, x 103, x 104, x 105, x 106, x 107, x 108, x 109, x 110, x 111, x 112, x 113, x 114, x 115, x 116, x 117, x 118, x 119, x 120, x 121, x 122, x 123, x 124, x 125, x 126, x 127, x 128, x 129, x 130, x 131, x 132, x 133, x 134, x 135, x 136, x 137, x 138, x 139, x 140, x 141, x 142, x 143, x 144, x 145, x 146, x 147, x 148, x 149, x 150, x 151, x 152, x 153, x 154, x 155, x 156, x 157, x 158, x 159, x 160, x 161, x 162, x 163, x 164, x 165, x 166, x 167, x 168, x 169, x 170, x 171, x 172, x 173, x 174, x 175, x 176, x 177, x 178, x 179, x 180, x 181, x 182, x 183, x 184, x 185, x 186, x 187, x 188, x 189, x 190, x 191, x 192, x 193, x 194, x 195, x 196, x 197, x 198, x 199, x 200, x 201, x 202, x 203, x 204, x 205, x 206, x 207, x 208, x 209, x 210, x 211, x 212, x 213, x 214, x 215, x 216, x 217, x 218, x 219])) : WC T (g29.body.at [1, 1, 0, 1]) e H (retO [.tmp 6] R) := by
  obtain ⟨x, rfl⟩ := he
  have hop := hB.op
  have hpf := hB.pf
  unfold opC at hop
  have l1 := hget_lt hop rfl
  have hX := hP.xr
  have hsz := hP.sz
  have hXd := hX.hd
  have lx := hget_lt hXd rfl
  obtain ⟨M, hMdef⟩ : ∃ M, M = (if o.a < 2 ^ w then wayP w o.a t.er else []) := ⟨_, rfl⟩
  have hMk : klM w M = (if o.a < 2 ^ w then (kl w t.er).filter (fun y => begB y.1 (bitS w o.a)) else []) := by rw [hMdef]; exact kl_every hP.pw
  have hMt : (if o.a < 2 ^ w then wayL w o.a t else []).map trip = M := by
    rw [hMdef]
    split
    · exact way_er
    · rfl
  have hnode : ∀ nd ∈ (if o.a < 2 ^ w then wayL w o.a t else []), ∃ b c n v l r, nd = Tr.node b c n true v l r := fun nd hn => by
    split at hn
    · exact (wayL_mem hP.ti.lies.ta nd hn).2
    · cases hn
  have hMrg : ∀ x ∈ M, rgt w x.1 (x.2.1 : Nat) = true := fun x hx => by
    rw [hMdef] at hx
    split at hx
    · rename_i q
      rw [way_filter q hP.pw] at hx
      exact mem_rgtP (tw_er.1 hP.ti.ok) x (List.mem_filter.1 hx).1
    · cases hx
  simp only [AFunc.body, g29, ACode.at]
  simp (disch := omega) only [kB, kcx, kdm, kdn, kel, aop, resultsL, resultOf, Nat.reduceEqDiff, reduceCtorEq, eq1, apartOK, apart2, AObj.live, Int.reduceEq, Int.reduceLT, Int.reduceLE, Int.reduceAdd, Int.reduceSub, Int.reduceMul, Int.reduceToNat, cutCells, Nat.reduceAdd, Nat.reduceLeDiff, Nat.reduceLT, Nat.reduceMul, Nat.reduceSub, retO_ret, hop, hpf]
  refine find_t hP.ti.hd hP.ti.lies.ta hP.ti.ok hw hw2 ho ?_
  cases hl : (if o.a < 2 ^ w then wayL w o.a t else []).getLast? with
  | none =>
    have hnil : (if o.a < 2 ^ w then wayL w o.a t else []) = [] := List.getLast?_eq_none_iff.1 hl
    have hM0 : M = [] := by rw [← hMt, hnil]; rfl
    have hf : findR (if o.a < 2 ^ w then wayL w o.a t else []) = .tuple #[pfA 0 0 0, .int .i64 0, .bool false] := by simp only [findR, hl]
    rw [hf]
    simp (disch := omega) only [kB, kcx, kdm, kdn, kel, aop, resultsL, resultOf, Nat.reduceEqDiff, reduceCtorEq, eq1, apartOK, apart2, AObj.live, Int.reduceEq, Int.reduceLT, Int.reduceLE, Int.reduceAdd, Int.reduceSub, Int.reduceMul, Int.reduceToNat, cutCells, Nat.reduceAdd, Nat.reduceLeDiff, Nat.reduceLT, Nat.reduceMul, Nat.reduceSub, retO_ret, hop, hpf]
    refine rfind_t hX.app hsz.2.2 hw hw2 ho ?_
    rw [← hMk, hM0]
    have hrf : rfindV (klM w []) = .tuple #[.agg #[.string (bs []), .int .i64 0], .bool false] := rfl
    rw [hrf]
    have e2 : eqL [(1, Value.int .u64 0, Value.int .u64 0), (1, .int .u64 0, .int .u64 0), (1, .int .i64 0, .int .i64 0)] = some true := rfl
    simp (disch := omega) only [kB, kcx, kdm, kdn, kel, aop, resultsL, resultOf, Nat.reduceEqDiff, reduceCtorEq, eq1, apartOK, apart2, AObj.live, Int.reduceEq, Int.reduceLT, Int.reduceLE, Int.reduceAdd, Int.reduceSub, Int.reduceMul, Int.reduceToNat, cutCells, Nat.reduceAdd, Nat.reduceLeDiff, Nat.reduceLT, Nat.reduceMul, Nat.reduceSub, retO_ret, e2]
    exact h.stay hP _
  | some nd =>
    obtain ⟨b1, c, n, v, l1', r1, rfl⟩ := hnode nd (List.mem_of_getLast? hl)
    have hf : findR (if o.a < 2 ^ w then wayL w o.a t else []) = .tuple #[pfv c n, .int .i64 v, .bool true] := by simp only [findR, hl]
    have hMl : M.getLast? = some (c, n, v) := by rw [← hMt, List.getLast?_map, hl]; rfl
    have hrg := hMrg _ (List.mem_of_getLast? hMl)
    have hrf : rfindV (klM w M) = .tuple #[.agg #[.string (bs (txt w (c, n))), .int .i64 v], .bool true] := by simp only [rfindV, klM, List.getLast?_map, hMl, Option.map_some, txM]
    rw [hf]
    simp (disch := omega) only [kB, kcx, kdm, kdn, kel, aop, resultsL, resultOf, Nat.reduceEqDiff, reduceCtorEq, eq1, apartOK, apart2, AObj.live, Int.reduceEq, Int.reduceLT, Int.reduceLE, Int.reduceAdd, Int.reduceSub, Int.reduceMul, Int.reduceToNat, cutCells, Nat.reduceAdd, Nat.reduceLeDiff, Nat.reduceLT, Nat.reduceMul, Nat.reduceSub, retO_ret, hop, hpf]
    refine rfind_t hX.app hsz.2.2 hw hw2 ho ?_
    rw [← hMk, hrf]
    simp (disch := omega) only [kB, kcx, kdm, kdn, kel, aop, resultsL, resultOf, Nat.reduceEqDiff, reduceCtorEq, eq1, apartOK, apart2, AObj.live, Int.reduceEq, Int.reduceLT, Int.reduceLE, Int.reduceAdd, Int.reduceSub, Int.reduceMul, Int.reduceToNat, cutCells, Nat.reduceAdd, Nat.reduceLeDiff, Nat.reduceLT, Nat.reduceMul, Nat.reduceSub, retO_ret, hXd]
    refine same_t hw hw2 hrg ?_
    simp (disch := omega) only [kB, kcx, kdm, kdn, kel, aop, resultsL, resultOf, Nat.reduceEqDiff, reduceCtorEq, eq1, apartOK, apart2, AObj.live, Int.reduceEq, Int.reduceLT, Int.reduceLE, Int.reduceAdd, Int.reduceSub, Int.reduceMul, Int.reduceToNat, cutCells, Nat.reduceAdd, Nat.reduceLeDiff, Nat.reduceLT, Nat.reduceMul, Nat.reduceSub, retO_ret]
    exact h.stay hP _

theorem play_every {b xb w p : Nat} {m : Int} {t : Tr} {sv : Value} {o : Opr} (hw : 1 ≤ w) (hw2 : w ≤ 128) (ho : o.a < 2 ^ 128) (hB : PlB H p o) (hP : PR H b xb w m t sv) (h : PlayR R H b xb w m t sv) {e : Env}
    (he : (∃ x : Nat → Value, e = [.pointer (some ⟨b, 0, none⟩), .pointer (some ⟨xb, 0, none⟩), x 2, x 3, x 4, .pointer (some ⟨p, 0, none⟩), x 6, .pointer (some ⟨p + 1, 0, none⟩), x 8, x 9, x 10, x 11, x 12, x 13, x 14, x 15, x 16, x 17, x 18, x 19, x 20, x 21, x 22, x 23, x 24, x 25, x 26, x 27, x 28, x 29, x 30, x 31, x 32, .int .i64 5, x 34, x 35, x 36, x 37, x 38, x 39, x 40, x 41, x 42, x 43, x 44, x 45, x 46, x 47, x 48, x 49, x 50, x 51, x 52, x 53, x 54, x 55, x 56, x 57, x 58, x 59, x 60, x 61, x 62, x 63, x 64, x 65, x 66, x 67, x 68, x 69, x 70, x 71, x 72, x 73, x 74, x 75, x 76, x 77, x 78, x 79, x 80, x 81, x 82, x 83, x 84, x 85, x 86, x 87, x 88, x 89, x 90, x 91, x 92, x 93, x 94, x 95, x 96, x 97, x 98, x 99, x 100, x 101, x 102, x 103, x 104, x 105, x 106, x 107, x 108, x 109, x 110, x 111, x 112, x 113, x 114, x 115, x 116, x 117, x 118, x 119, x 120, x 121, x 122, x 123, x 124, x 125, x 126, x 127, x 128, x 129, x 130, x 131, x 132, x 133, x 134, x 135, x 136, x 137, x 138, x 139, x 140, x 141, x 142, x 143, x 144, x 145, x 146, x 147, x 148, x 149, x 150, x 151, x 152, x 153, x 154, x 155, x 156, x 157, x 158, x 159, x 160, x 161, x 162, x 163, x 164, x 165, x 166, x 167, x 168, x 169, x 170, x 171, x 172, x 173, x 174, x 175, x 176, x 177, x 178, x 179, x 180, x 181, x 182, x 183, x 184, x 185, x 186, x 187, x 188, x 189, x 190, x 191, x 192, x 193, x 194, x 195, x 196, x 197, x 198, x 199, x 200, x 201, x 202, x 203, x 204, x 205, x 206, x 207, x 208, x 209, x 210, x 211, x 212, x 213, x 214, x 215, x 216, x 217, x 218, x 219])) : WC T (g29.body.at [1, 1, 0, 1]) e H (retO [.tmp 6] R) := by
  obtain ⟨x, rfl⟩ := he
  have hop := hB.op
  unfold opC at hop
  have hres := h.stay hP []
  rw [List.append_nil] at hres
  simp only [AFunc.body, g29, ACode.at]
  simp (disch := omega) only [kB, kcx, kdm, kdn, kel, aop, resultsL, resultOf, Nat.reduceEqDiff, reduceCtorEq, eq1, apartOK, apart2, AObj.live, Int.reduceEq, Int.reduceLT, Int.reduceLE, Int.reduceAdd, Int.reduceSub, Int.reduceMul, Int.reduceToNat, cutCells, Nat.reduceAdd, Nat.reduceLeDiff, Nat.reduceLT, Nat.reduceMul, Nat.reduceSub, retO_ret, hop]
  refine every_e hw hw2 ho hP.ti.hd hP.ti.lies.ta hP.ti.ok hP.pw hP.xr (by have := hP.sz; omega) ?_
  simp (disch := omega) only [kB, kcx, kdm, kdn, kel, aop, resultsL, resultOf, Nat.reduceEqDiff, reduceCtorEq, eq1, apartOK, apart2, AObj.live, Int.reduceEq, Int.reduceLT, Int.reduceLE, Int.reduceAdd, Int.reduceSub, Int.reduceMul, Int.reduceToNat, cutCells, Nat.reduceAdd, Nat.reduceLeDiff, Nat.reduceLT, Nat.reduceMul, Nat.reduceSub, retO_ret]
  exact hres

theorem nodes_eq {b xb w : Nat} {m : Int} {t : Tr} {sv : Value} (hP : PR H b xb w m t sv) : t.inL.length = (kl w t.er).length + partK (fun s => isK s (kl w t.er)) ((kl w t.er).map (·.1)) := by
  rw [inL_len]
  exact kl_nodes hP.pw hP.ni
theorem keys_le {b xb w : Nat} {m : Int} {t : Tr} {sv : Value} (hw2 : w ≤ 128) (hP : PR H b xb w m t sv) : ∀ y ∈ kl w t.er, y.1.length ≤ 1000000 := fun y hy => by
  obtain ⟨x, h1, rfl⟩ := List.mem_map.1 hy
  have := nodes_ok hP.pw _ (mem_nodes h1)
  simp only [txM]
  rw [txt_len (x := (x.1, x.2.1)) this.1]
  have := this.1
  simp only at this ⊢
  omega

theorem play_nodes {b xb w p : Nat} {m : Int} {t : Tr} {sv : Value} {o : Opr} (hw2 : w ≤ 128) (hB : PlB H p o) (hP : PR H b xb w m t sv) (h : PlayR R H b xb w m t sv) {e : Env}
    (he : (∃ x : Nat → Value, e = [.pointer (some ⟨b, 0, none⟩), .pointer (some ⟨xb, 0, none⟩), x 2, x 3, x 4, .pointer (some ⟨p, 0, none⟩), x 6, .pointer (some ⟨p + 1, 0, none⟩), x 8, x 9, x 10, x 11, x 12, x 13, x 14, x 15, x 16, x 17, x 18, x 19, x 20, x 21, x 22, x 23, x 24, x 25, x 26, x 27, x 28, x 29, x 30, x 31, x 32, .int .i64 6, x 34, x 35, x 36, x 37, x 38, x 39, x 40, x 41, x 42, x 43, x 44, x 45, x 46, x 47, x 48, x 49, x 50, x 51, x 52, x 53, x 54, x 55, x 56, x 57, x 58, x 59, x 60, x 61, x 62, x 63, x 64, x 65, x 66, x 67, x 68, x 69, x 70, x 71, x 72, x 73, x 74, x 75, x 76, x 77, x 78, x 79, x 80, x 81, x 82, x 83, x 84, x 85, x 86, x 87, x 88, x 89, x 90, x 91, x 92, x 93, x 94, x 95, x 96, x 97, x 98, x 99, x 100, x 101, x 102, x 103, x 104, x 105, x 106, x 107, x 108, x 109, x 110, x 111, x 112, x 113, x 114, x 115, x 116, x 117, x 118, x 119, x 120, x 121, x 122, x 123, x 124, x 125, x 126, x 127, x 128, x 129, x 130, x 131, x 132, x 133, x 134, x 135, x 136, x 137, x 138, x 139, x 140, x 141, x 142, x 143, x 144, x 145, x 146, x 147, x 148, x 149, x 150, x 151, x 152, x 153, x 154, x 155, x 156, x 157, x 158, x 159, x 160, x 161, x 162, x 163, x 164, x 165, x 166, x 167, x 168, x 169, x 170, x 171, x 172, x 173, x 174, x 175, x 176, x 177, x 178, x 179, x 180, x 181, x 182, x 183, x 184, x 185, x 186, x 187, x 188, x 189, x 190, x 191, x 192, x 193, x 194, x 195, x 196, x 197, x 198, x 199, x 200, x 201, x 202, x 203, x 204, x 205, x 206, x 207, x 208, x 209, x 210, x 211, x 212, x 213, x 214, x 215, x 216, x 217, x 218, x 219])) : WC T (g29.body.at [1, 1, 0, 1]) e H (retO [.tmp 6] R) := by
  obtain ⟨x, rfl⟩ := he
  have hop := hB.op
  unfold opC at hop
  have hX := hP.xr
  have hXd := hX.hd
  have hsz := hP.sz
  have hne := nodes_eq hP
  have hkl := kl_len (w := w) (t := t.er)
  obtain ⟨ad, hsv⟩ := hX.len
  have hres := h.stay hP []
  rw [List.append_nil] at hres
  simp only [AFunc.body, g29, ACode.at]
  simp (disch := omega) only [kB, kcx, kdm, kdn, kel, aop, resultsL, resultOf, Nat.reduceEqDiff, reduceCtorEq, eq1, apartOK, apart2, AObj.live, Int.reduceEq, Int.reduceLT, Int.reduceLE, Int.reduceAdd, Int.reduceSub, Int.reduceMul, Int.reduceToNat, cutCells, Nat.reduceAdd, Nat.reduceLeDiff, Nat.reduceLT, Nat.reduceMul, Nat.reduceSub, retO_ret, hop]
  refine nodes_t hP.ti.hd hP.ti.lies.ta hsz.2.1 ?_
  simp (disch := omega) only [kB, kcx, kdm, kdn, kel, aop, resultsL, resultOf, Nat.reduceEqDiff, reduceCtorEq, eq1, apartOK, apart2, AObj.live, Int.reduceEq, Int.reduceLT, Int.reduceLE, Int.reduceAdd, Int.reduceSub, Int.reduceMul, Int.reduceToNat, cutCells, Nat.reduceAdd, Nat.reduceLeDiff, Nat.reduceLT, Nat.reduceMul, Nat.reduceSub, retO_ret, hop]
  refine rnodes_t hX hsz.2.2 (keys_le hw2 hP) ?_
  rw [← hne]
  subst hsv
  simp (disch := omega) only [kB, kcx, kdm, kdn, kel, aop, resultsL, resultOf, Nat.reduceEqDiff, reduceCtorEq, eq1, apartOK, apart2, AObj.live, Int.reduceEq, Int.reduceLT, Int.reduceLE, Int.reduceAdd, Int.reduceSub, Int.reduceMul, Int.reduceToNat, cutCells, Nat.reduceAdd, Nat.reduceLeDiff, Nat.reduceLT, Nat.reduceMul, Nat.reduceSub, retO_ret, hXd]
  refine WV.of (fun c hc => ?_) ?_
  · simp only [List.mem_cons, List.not_mem_nil, or_false] at hc
    subst hc
    rw [hXd]
    rfl
  obtain ⟨wr, hfz⟩ := row_frz (bs := [xb]) hP.ti.hd
  refine len_t hfz ?_
  rw [thaw_frz0]
  simp (disch := omega) only [kB, kcx, kdm, kdn, kel, aop, resultsL, resultOf, Nat.reduceEqDiff, reduceCtorEq, eq1, apartOK, apart2, AObj.live, Int.reduceEq, Int.reduceLT, Int.reduceLE, Int.reduceAdd, Int.reduceSub, Int.reduceMul, Int.reduceToNat, cutCells, Nat.reduceAdd, Nat.reduceLeDiff, Nat.reduceLT, Nat.reduceMul, Nat.reduceSub, retO_ret, hXd, hkl]
  exact hres

theorem iter_all {b w n : Nat} {G : Heap} (hn : H.length = n) : IterT ((H ++ [.row [.pointer (some ⟨b, 0, none⟩)] 0 true, .row [.func (.func 49) #[] #[]] 0 true]) ++ G) (.func (.func 79) #[] #[.pointer (some ⟨n, 0, none⟩), .pointer (some ⟨n + 1, 0, none⟩)]) b w (fun _ _ => true) := by
  subst hn
  exact IterT.app ⟨H.length, H.length + 1, 49, #[], rfl, by rw [hget_base0]; rfl, by rw [hget_base]; rfl, may_allS⟩
theorem iter_under {b w n a : Nat} {k : Int} {m l : Int} {rt : Value} {G : Heap} (hw : 1 ≤ w) (hw2 : w ≤ 128) (ha : a < 2 ^ 128) (hd : ∃ wr, hget H b = .row [.int .i64 (w : Int), .int .i64 m, .int .i64 l, rt] 0 wr) (hn : H.length = n) :
    IterT ((H ++ unR n b a k) ++ G) (.func (.func 79) #[] #[.pointer (some ⟨n + 2, 0, none⟩), .pointer (some ⟨n + 3, 0, none⟩)]) b w (undM w a k) := by
  subst hn
  obtain ⟨wr, hd⟩ := hd
  exact IterT.app ⟨H.length + 2, H.length + 3, 50, _, rfl, by rw [hget_base]; rfl, by rw [hget_base]; rfl, may_underS hw hw2 ha ⟨_, _, _, _, by rw [hget_old (hget_lt hd rfl)]; exact hd⟩ (by rw [hget_base0]; rfl) (by rw [hget_base]; rfl)⟩

theorem selP_all {t : Tr} : selP (fun _ _ => true) t = t.er.mem := List.filter_eq_self.2 fun x _ => rfl

theorem play_all {b xb w p : Nat} {m : Int} {t : Tr} {sv : Value} {o : Opr} (hw : 1 ≤ w) (hw2 : w ≤ 128) (hB : PlB H p o) (hP : PR H b xb w m t sv) (h : PlayR R H b xb w m t sv) {e : Env}
    (he : (∃ x : Nat → Value, e = [.pointer (some ⟨b, 0, none⟩), .pointer (some ⟨xb, 0, none⟩), x 2, x 3, x 4, .pointer (some ⟨p, 0, none⟩), x 6, .pointer (some ⟨p + 1, 0, none⟩), x 8, x 9, x 10, x 11, x 12, x 13, x 14, x 15, x 16, x 17, x 18, x 19, x 20, x 21, x 22, x 23, x 24, x 25, x 26, x 27, x 28, x 29, x 30, x 31, x 32, .int .i64 7, x 34, x 35, x 36, x 37, x 38, x 39, x 40, x 41, x 42, x 43, x 44, x 45, x 46, x 47, x 48, x 49, x 50, x 51, x 52, x 53, x 54, x 55, x 56, x 57, x 58, x 59, x 60, x 61, x 62, x 63, x 64, x 65, x 66, x 67, x 68, x 69, x 70, x 71, x 72, x 73, x 74, x 75, x 76, x 77, x 78, x 79, x 80, x 81, x 82, x 83, x 84, x 85, x 86, x 87, x 88, x 89, x 90, x 91, x 92, x 93, x 94, x 95, x 96, x 97, x 98, x 99, x 100, x 101, x 102, x 103, x 104, x 105, x 106, x 107, x 108, x 109, x 110, x 111, x 112, x 113, x 114, x 115, x 116, x 117, x 118, x 119, x 120, x 121, x 122, x 123, x 124, x 125, x 126, x 127, x 128, x 129, x 130, x 131, x 132, x 133, x 134, x 135, x 136, x 137, x 138, x 139, x 140, x 141, x 142, x 143, x 144, x 145, x 146, x 147, x 148, x 149, x 150, x 151, x 152, x 153, x 154, x 155, x 156, x 157, x 158, x 159, x 160, x 161, x 162, x 163, x 164, x 165, x 166, x 167, x 168, x 169, x 170, x 171, x 172, x 173, x 174, x 175, x 176, x 177, x 178, x 179, x 180, x 181, x 182, x 183, x 184, x 185, x 186, x 187, x 188, x 189, x 190, x 191, x 192, x 193, x 194, x 195, x 196, x 197, x 198, x 199, x 200, x 201, x 202, x 203, x 204, x 205, x 206, x 207, x 208, x 209, x 210, x 211, x 212, x 213, x 214, x 215, x 216, x 217, x 218, x 219])) : WC T (g29.body.at [1, 1, 0, 1]) e H (retO [.tmp 6] R) := by
  obtain ⟨x, rfl⟩ := he
  have hX := hP.xr
  have hXd := hX.hd
  have lx := hget_lt hXd rfl
  have hsz := hP.sz
  simp only [AFunc.body, g29, ACode.at]
  simp (disch := omega) only [kB, kcx, kdm, kdn, kel, aop, resultsL, resultOf, Nat.reduceEqDiff, reduceCtorEq, eq1, apartOK, apart2, AObj.live, Int.reduceEq, Int.reduceLT, Int.reduceLE, Int.reduceAdd, Int.reduceSub, Int.reduceMul, Int.reduceToNat, cutCells, Nat.reduceAdd, Nat.reduceLeDiff, Nat.reduceLT, Nat.reduceMul, Nat.reduceSub, retO_ret, hXd]
  refine WV.of (fun c hc => ?_) ?_
  · simp only [List.mem_cons, List.not_mem_nil, or_false] at hc
    rcases hc with rfl | rfl <;> (rw [hXd]; rfl)
  refine all_t ?_
  rw [thaw_frz, frz_length]
  simp (disch := omega) only [kB, kcx, kdm, kdn, kel, aop, resultsL, resultOf, Nat.reduceEqDiff, reduceCtorEq, eq1, apartOK, apart2, AObj.live, Int.reduceEq, Int.reduceLT, Int.reduceLE, Int.reduceAdd, Int.reduceSub, Int.reduceMul, Int.reduceToNat, cutCells, Nat.reduceAdd, Nat.reduceLeDiff, Nat.reduceLT, Nat.reduceMul, Nat.reduceSub, retO_ret, hXd]
  have hP2 := hP.app (G := [.row [.pointer (some ⟨b, 0, none⟩)] 0 true, .row [.func (.func 49) #[] #[]] 0 true])
  have hit := iter_all (H := H) (b := b) (w := w) (n := H.length) (G := []) rfl
  rw [List.append_nil] at hit
  refine told_t hw hw2 hit hP2.ti.hd hP2.ti.lies.ta hP2.ti.ok hsz.2.1 (by rw [selP_all]; exact hP2.xr.sl) ?_
  simp (disch := omega) only [kB, kcx, kdm, kdn, kel, aop, resultsL, resultOf, Nat.reduceEqDiff, reduceCtorEq, eq1, apartOK, apart2, AObj.live, Int.reduceEq, Int.reduceLT, Int.reduceLE, Int.reduceAdd, Int.reduceSub, Int.reduceMul, Int.reduceToNat, cutCells, Nat.reduceAdd, Nat.reduceLeDiff, Nat.reduceLT, Nat.reduceMul, Nat.reduceSub, retO_ret]
  exact h.stay hP _

theorem play_under {b xb w p : Nat} {m : Int} {t : Tr} {sv : Value} {o : Opr} (hw : 1 ≤ w) (hw2 : w ≤ 128) (ho : o.a < 2 ^ 128) (hB : PlB H p o) (hP : PR H b xb w m t sv) (h : PlayR R H b xb w m t sv) {e : Env}
    (he : (∃ x : Nat → Value, e = [.pointer (some ⟨b, 0, none⟩), .pointer (some ⟨xb, 0, none⟩), x 2, x 3, x 4, .pointer (some ⟨p, 0, none⟩), x 6, .pointer (some ⟨p + 1, 0, none⟩), x 8, x 9, x 10, x 11, x 12, x 13, x 14, x 15, x 16, x 17, x 18, x 19, x 20, x 21, x 22, x 23, x 24, x 25, x 26, x 27, x 28, x 29, x 30, x 31, x 32, .int .i64 8, x 34, x 35, x 36, x 37, x 38, x 39, x 40, x 41, x 42, x 43, x 44, x 45, x 46, x 47, x 48, x 49, x 50, x 51, x 52, x 53, x 54, x 55, x 56, x 57, x 58, x 59, x 60, x 61, x 62, x 63, x 64, x 65, x 66, x 67, x 68, x 69, x 70, x 71, x 72, x 73, x 74, x 75, x 76, x 77, x 78, x 79, x 80, x 81, x 82, x 83, x 84, x 85, x 86, x 87, x 88, x 89, x 90, x 91, x 92, x 93, x 94, x 95, x 96, x 97, x 98, x 99, x 100, x 101, x 102, x 103, x 104, x 105, x 106, x 107, x 108, x 109, x 110, x 111, x 112, x 113, x 114, x 115, x 116, x 117, x 118, x 119, x 120, x 121, x 122, x 123, x 124, x 125, x 126, x 127, x 128, x 129, x 130, x 131, x 132, x 133, x 134, x 135, x 136, x 137, x 138, x 139, x 140, x 141, x 142, x 143, x 144, x 145, x 146, x 147, x 148, x 149, x 150, x 151, x 152, x 153, x 154, x 155, x 156, x 157, x 158, x 159, x 160, x 161, x 162, x 163, x 164, x 165, x 166, x 167, x 168, x 169, x 170, x 171, x 172, x 173, x 174, x 175, x 176, x 177, x 178, x 179, x 180, x 181, x 182, x 183, x 184, x 185, x 186, x 187, x 188, x 189, x 190, x 191, x 192, x 193, x 194, x 195, x 196, x 197, x 198, x 199, x 200, x 201, x 202, x 203, x 204, x 205, x 206, x 207, x 208, x 209, x 210, x 211, x 212, x 213, x 214, x 215, x 216, x 217, x 218, x 219])) : WC T (g29.body.at [1, 1, 0, 1]) e H (retO [.tmp 6] R) := by
  obtain ⟨x, rfl⟩ := he
  have hop := hB.op
  have hpf := hB.pf
  unfold opC at hop
  have l1 := hget_lt hop rfl
  have l2 := hget_lt hpf rfl
  have hX := hP.xr
  have hXd := hX.hd
  have lx := hget_lt hXd rfl
  have hsz := hP.sz
  simp only [AFunc.body, g29, ACode.at]
  simp (disch := omega) only [kB, kcx, kdm, kdn, kel, aop, resultsL, resultOf, Nat.reduceEqDiff, reduceCtorEq, eq1, apartOK, apart2, AObj.live, Int.reduceEq, Int.reduceLT, Int.reduceLE, Int.reduceAdd, Int.reduceSub, Int.reduceMul, Int.reduceToNat, cutCells, Nat.reduceAdd, Nat.reduceLeDiff, Nat.reduceLT, Nat.reduceMul, Nat.reduceSub, retO_ret, hXd, hop, hpf]
  refine WV.of (fun c hc => ?_) ?_
  · simp only [List.mem_cons, List.not_mem_nil, or_false] at hc
    rcases hc with rfl | rfl | rfl
    · rw [hop]; rfl
    · rw [hop]; rfl
    · rw [hXd]; rfl
  refine under_t ?_
  rw [thaw_frz, frz_length]
  simp (disch := omega) only [kB, kcx, kdm, kdn, kel, aop, resultsL, resultOf, Nat.reduceEqDiff, reduceCtorEq, eq1, apartOK, apart2, AObj.live, Int.reduceEq, Int.reduceLT, Int.reduceLE, Int.reduceAdd, Int.reduceSub, Int.reduceMul, Int.reduceToNat, cutCells, Nat.reduceAdd, Nat.reduceLeDiff, Nat.reduceLT, Nat.reduceMul, Nat.reduceSub, retO_ret, hXd, hop, hpf]
  have hP2 := hP.app (G := unR H.length b o.a o.n)
  have hXd2 := hP2.xr.hd
  refine WV.of (fun c hc => ?_) ?_
  · simp only [List.mem_cons, List.not_mem_nil, or_false] at hc
    subst hc
    rw [hXd2]; rfl
  refine runder_t hP2.xr.frz hsz.2.2 hw hw2 ho fun sv' g hsl => ?_
  rw [thaw_frz]
  have hl2 := frz_length [xb] (H ++ unR H.length b o.a o.n)
  have hsl2 : SLs 2 0 (H ++ unR H.length b o.a o.n ++ g) sv' ((klM w (selP (undM w o.a o.n) t)).map kC) := by
    have e : klM w (selP (undM w o.a o.n) t) = (if rgt w o.a o.n = true then (kl w t.er).filter (fun y => begB (headT w o.a o.n) y.1) else []) := kl_under hw2 hP.pw
    rw [e]
    refine (hsl.same fun c hc => ?_).zero
    have h2 := (hsl.lt hc).2
    obtain ⟨j, rfl⟩ : ∃ j, c = (frz (H ++ unR H.length b o.a o.n) [xb]).length + j := ⟨c - (frz (H ++ unR H.length b o.a o.n) [xb]).length, by omega⟩
    rw [hget_base, hl2, hget_base]
  simp (disch := omega) only [kB, kcx, kdm, kdn, kel, aop, resultsL, resultOf, Nat.reduceEqDiff, reduceCtorEq, eq1, apartOK, apart2, AObj.live, Int.reduceEq, Int.reduceLT, Int.reduceLE, Int.reduceAdd, Int.reduceSub, Int.reduceMul, Int.reduceToNat, cutCells, Nat.reduceAdd, Nat.reduceLeDiff, Nat.reduceLT, Nat.reduceMul, Nat.reduceSub, retO_ret, hXd, hop, hpf]
  have hP3 := hP2.app (G := g)
  have hit := iter_under (G := g) (n := H.length) (k := o.n) hw hw2 ho ⟨true, hP.ti.hd⟩ rfl
  rw [List.append_assoc] at hP3 hit hsl2
  refine told_t hw hw2 hit hP3.ti.hd hP3.ti.lies.ta hP3.ti.ok hsz.2.1 hsl2 ?_
  simp (disch := omega) only [kB, kcx, kdm, kdn, kel, aop, resultsL, resultOf, Nat.reduceEqDiff, reduceCtorEq, eq1, apartOK, apart2, AObj.live, Int.reduceEq, Int.reduceLT, Int.reduceLE, Int.reduceAdd, Int.reduceSub, Int.reduceMul, Int.reduceToNat, cutCells, Nat.reduceAdd, Nat.reduceLeDiff, Nat.reduceLT, Nat.reduceMul, Nat.reduceSub, retO_ret]
  exact h.stay hP _

/-- A kind that asks nothing. -/
theorem play_none {b xb w : Nat} {m r : Int} {t : Tr} {sv : Value} (hr : ¬ (0 ≤ r ∧ r ≤ 8)) (hP : PR H b xb w m t sv) (h : PlayR R H b xb w m t sv) {e : Env}
    (he : (∃ x : Nat → Value, e = [.pointer (some ⟨b, 0, none⟩), x 1, x 2, x 3, x 4, x 5, x 6, x 7, x 8, x 9, x 10, x 11, x 12, x 13, x 14, x 15, x 16, x 17, x 18, x 19, x 20, x 21, x 22, x 23, x 24, x 25, x 26, x 27, x 28, x 29, x 30, x 31, x 32, .int .i64 r, x 34, x 35, x 36, x 37, x 38, x 39, x 40, x 41, x 42, x 43, x 44, x 45, x 46, x 47, x 48, x 49, x 50, x 51, x 52, x 53, x 54, x 55, x 56, x 57, x 58, x 59, x 60, x 61, x 62, x 63, x 64, x 65, x 66, x 67, x 68, x 69, x 70, x 71, x 72, x 73, x 74, x 75, x 76, x 77, x 78, x 79, x 80, x 81, x 82, x 83, x 84, x 85, x 86, x 87, x 88, x 89, x 90, x 91, x 92, x 93, x 94, x 95, x 96, x 97, x 98, x 99, x 100, x 101, x 102, x 103, x 104, x 105, x 106, x 107, x 108, x 109, x 110, x 111, x 112, x 113, x 114, x 115, x 116, x 117, x 118, x 119, x 120, x 121, x 122, x 123, x 124, x 125, x 126, x 127, x 128, x 129, x 130, x 131, x 132, x 133, x 134, x 135, x 136, x 137, x 138, x 139, x 140, x 141, x 142, x 143, x 144, x 145, x 146, x 147, x 148, x 149, x 150, x 151, x 152, x 153, x 154, x 155, x 156, x 157, x 158, x 159, x 160, x 161, x 162, x 163, x 164, x 165, x 166, x 167, x 168, x 169, x 170, x 171, x 172, x 173, x 174, x 175, x 176, x 177, x 178, x 179, x 180, x 181, x 182, x 183, x 184, x 185, x 186, x 187, x 188, x 189, x 190, x 191, x 192, x 193, x 194, x 195, x 196, x 197, x 198, x 199, x 200, x 201, x 202, x 203, x 204, x 205, x 206, x 207, x 208, x 209, x 210, x 211, x 212, x 213, x 214, x 215, x 216, x 217, x 218, x 219])) : WC T (g29.body.at [1, 1, 0, 1]) e H (fun r e' H' => match r with | .norm => R (.ret (.bool true)) H' | _ => False) := by
  obtain ⟨x, rfl⟩ := he
  have hres := h.stay hP []
  rw [List.append_nil] at hres
  have h0 : ¬ r = 0 := by omega
  have h1 : ¬ r = 1 := by omega
  have h2 : ¬ r = 2 := by omega
  have h3 : ¬ r = 3 := by omega
  have h4 : ¬ r = 4 := by omega
  have h5 : ¬ r = 5 := by omega
  have h6 : ¬ r = 6 := by omega
  have h7 : ¬ r = 7 := by omega
  have h8 : ¬ r = 8 := by omega
  simp only [AFunc.body, g29, ACode.at]
  simp (disch := omega) only [kB, kcx, kdm, kdn, kel, aop, resultsL, resultOf, Nat.reduceEqDiff, reduceCtorEq, eq1, apartOK, apart2, AObj.live, Int.reduceEq, Int.reduceLT, Int.reduceLE, Int.reduceAdd, Int.reduceSub, Int.reduceMul, Int.reduceToNat, cutCells, Nat.reduceAdd, Nat.reduceLeDiff, Nat.reduceLT, Nat.reduceMul, Nat.reduceSub, retO_ret, h0, h1, h2, h3, h4, h5, h6, h7, h8]
  exact hres

end Go.Proofs.Yticgkaanaimllaa.Ev

/- play, whole; alike. -/
namespace Go.Proofs.Yticgkaanaimllaa.Ev
set_option maxRecDepth 100000
set_option linter.unusedSimpArgs false
set_option linter.unusedVariables false
variable {R : FRes → Heap → Prop} {H : Heap}

theorem get_putS : ∀ (e : Env) (n : Nat) (v : Value), get (put e n v) n = v
  | [], 0, v => rfl
  | [], n + 1, v => get_putS [] n v
  | _ :: e, 0, v => rfl
  | _ :: e, n + 1, v => get_putS e n v

theorem play_t {b xb w : Nat} {m : Int} {t : Tr} {sv : Value} {o : Opr} (hw : 1 ≤ w) (hw2 : w ≤ 128) (ho : o.a < 2 ^ 128) (hP : PR H b xb w m t sv) (h : PlayR R H b xb w m t sv) : WD T 29 [.pointer (some ⟨b, 0, none⟩), .pointer (some ⟨xb, 0, none⟩), .agg (opC o).toArray] H R := by
  obtain ⟨Z, hZ⟩ : ∃ Z, Z = WC T (g29.body.at [1, 1, 0, 1]) := ⟨_, rfl⟩
  have hZ' := hZ.symm
  simp only [AFunc.body, g29, ACode.at] at hZ'
  unfold opC
  refine WD.of follows t29 (by simp) ?_
  simp (disch := omega) only [kB, kcx, kdm, kdn, kel, aop, resultsL, resultOf, Nat.reduceEqDiff, reduceCtorEq, eq1, apartOK, apart2, AObj.live, Int.reduceEq, Int.reduceLT, Int.reduceLE, Int.reduceAdd, Int.reduceSub, Int.reduceMul, Int.reduceToNat, cutCells, Nat.reduceAdd, Nat.reduceLeDiff, Nat.reduceLT, Nat.reduceMul, Nat.reduceSub, hZ']
  refine rest_t ?_
  simp (disch := omega) only [kB, kcx, kdm, kdn, kel, aop, resultsL, resultOf, Nat.reduceEqDiff, reduceCtorEq, eq1, apartOK, apart2, AObj.live, Int.reduceEq, Int.reduceLT, Int.reduceLE, Int.reduceAdd, Int.reduceSub, Int.reduceMul, Int.reduceToNat, cutCells, Nat.reduceAdd, Nat.reduceLeDiff, Nat.reduceLT, Nat.reduceMul, Nat.reduceSub, hZ']
  generalize restI o.k = r
  obtain ⟨H2, hH2⟩ : ∃ H2, H2 = H ++ [.row (opC o) 0 true, .row [.int .u64 ((o.a / W64 : Nat) : Int), .int .u64 ((o.a % W64 : Nat) : Int), .int .i64 o.n] 0 true] := ⟨_, rfl⟩
  have hH2' := hH2.symm
  unfold opC at hH2'
  rw [hH2']
  have hB : PlB H2 H.length o := ⟨by rw [hH2, hget_base0]; rfl, by rw [hH2, hget_base]; rfl⟩
  have hP2 : PR H2 b xb w m t sv := by rw [hH2]; exact hP.app
  have h2 : PlayR R H2 b xb w m t sv := by rw [hH2]; exact h.more
  have hlt : ∀ c, FP b xb t sv c → c < H.length := fun c hc => hP.lt hc
  clear hH2 hH2' h hP
  by_cases hr : 0 ≤ r ∧ r ≤ 8
  case neg =>
    rw [hZ]
    refine WC.mono (play_none hr hP2 h2 (by exact ex_env rfl)) fun r e K hK => ?_
    cases r with
    | norm => simp (disch := omega) only [kB, kcx, kdm, kdn, kel, aop, resultsL, resultOf, Nat.reduceEqDiff, reduceCtorEq, eq1, apartOK, apart2, AObj.live, Int.reduceEq, Int.reduceLT, Int.reduceLE, Int.reduceAdd, Int.reduceSub, Int.reduceMul, Int.reduceToNat, cutCells, Nat.reduceAdd, Nat.reduceLeDiff, Nat.reduceLT, Nat.reduceMul, Nat.reduceSub, get_putS]; exact hK
    | ret => exact hK.elim
    | exit i => exact hK.elim
    | pan v => exact hK.elim
  obtain ⟨q1, q2⟩ := hr
  have hcase : r = 0 ∨ r = 1 ∨ r = 2 ∨ r = 3 ∨ r = 4 ∨ r = 5 ∨ r = 6 ∨ r = 7 ∨ r = 8 := by omega
  have key : ∀ e, (∃ x : Nat → Value, e = [.pointer (some ⟨b, 0, none⟩), .pointer (some ⟨xb, 0, none⟩), x 2, x 3, x 4, .pointer (some ⟨H.length, 0, none⟩), x 6, .pointer (some ⟨H.length + 1, 0, none⟩), x 8, x 9, x 10, x 11, x 12, x 13, x 14, x 15, x 16, x 17, x 18, x 19, x 20, x 21, x 22, x 23, x 24, x 25, x 26, x 27, x 28, x 29, x 30, x 31, x 32, .int .i64 r, x 34, x 35, x 36, x 37, x 38, x 39, x 40, x 41, x 42, x 43, x 44, x 45, x 46, x 47, x 48, x 49, x 50, x 51, x 52, x 53, x 54, x 55, x 56, x 57, x 58, x 59, x 60, x 61, x 62, x 63, x 64, x 65, x 66, x 67, x 68, x 69, x 70, x 71, x 72, x 73, x 74, x 75, x 76, x 77, x 78, x 79, x 80, x 81, x 82, x 83, x 84, x 85, x 86, x 87, x 88, x 89, x 90, x 91, x 92, x 93, x 94, x 95, x 96, x 97, x 98, x 99, x 100, x 101, x 102, x 103, x 104, x 105, x 106, x 107, x 108, x 109, x 110, x 111, x 112, x 113, x 114, x 115, x 116, x 117, x 118, x 119, x 120, x 121, x 122, x 123, x 124, x 125, x 126, x 127, x 128, x 129, x 130, x 131, x 132, x 133, x 134, x 135, x 136, x 137, x 138, x 139, x 140, x 141, x 142, x 143, x 144, x 145, x 146, x 147, x 148, x 149, x 150, x 151, x 152, x 153, x 154, x 155, x 156, x 157, x 158, x 159, x 160, x 161, x 162, x 163, x 164, x 165, x 166, x 167, x 168, x 169, x 170, x 171, x 172, x 173, x 174, x 175, x 176, x 177, x 178, x 179, x 180, x 181, x 182, x 183, x 184, x 185, x 186, x 187, x 188, x 189, x 190, x 191, x 192, x 193, x 194, x 195, x 196, x 197, x 198, x 199, x 200, x 201, x 202, x 203, x 204, x 205, x 206, x 207, x 208, x 209, x 210, x 211, x 212, x 213, x 214, x 215, x 216, x 217, x 218, x 219]) → WC T (g29.body.at [1, 1, 0, 1]) e H2 (retO [.tmp 6] R) := fun e he => by
    rcases hcase with rfl | rfl | rfl | rfl | rfl | rfl | rfl | rfl | rfl
    · exact play_put hw hw2 ho hB hP2 hlt h2 he
    · exact play_set hw hw2 ho hB hP2 hlt h2 he
    · exact play_drop hw hw2 ho hB hP2 hlt h2 he
    · exact play_get hw hw2 ho hB hP2 hlt h2 he
    · exact play_find hw hw2 ho hB hP2 h2 he
    · exact play_every hw hw2 ho hB hP2 h2 he
    · exact play_nodes hw2 hB hP2 h2 he
    · exact play_all hw hw2 hB hP2 h2 he
    · exact play_under hw hw2 ho hB hP2 h2 he
  rw [hZ]
  refine WC.mono (key _ (by exact ex_env rfl)) fun r e K hK => ?_
  cases r with
  | norm => exact hK.elim
  | ret => simp (disch := omega) only [kB, kcx, kdm, kdn, kel, aop, resultsL, resultOf, Nat.reduceEqDiff, reduceCtorEq, eq1, apartOK, apart2, AObj.live, Int.reduceEq, Int.reduceLT, Int.reduceLE, Int.reduceAdd, Int.reduceSub, Int.reduceMul, Int.reduceToNat, cutCells, Nat.reduceAdd, Nat.reduceLeDiff, Nat.reduceLT, Nat.reduceMul, Nat.reduceSub]; exact hK
  | exit i => exact hK.elim
  | pan v => exact hK.elim

theorem alike_t {b xb w : Nat} {m : Int} {t : Tr} {sv : Value} (hw : 1 ≤ w) (hw2 : w ≤ 128) (hP : PR H b xb w m t sv) (h : R (.ret (.bool true)) H) : WD T 37 [.pointer (some ⟨b, 0, none⟩), .pointer (some ⟨xb, 0, none⟩)] H R := by
  have hX := hP.xr
  have hXd := hX.hd
  have lx := hget_lt hXd rfl
  have hsz := hP.sz
  have hne := nodes_eq hP
  have hkl := kl_len (w := w) (t := t.er)
  refine WD.gc0 (WD.of follows t37 (by simp) ?_)
  simp (disch := omega) only [kB, kcx, kdm, kdn, kel, aop, resultsL, resultOf, Nat.reduceEqDiff, reduceCtorEq, eq1, apartOK, apart2, AObj.live, Int.reduceEq, Int.reduceLT, Int.reduceLE, Int.reduceAdd, Int.reduceSub, Int.reduceMul, Int.reduceToNat, cutCells, Nat.reduceAdd, Nat.reduceLeDiff, Nat.reduceLT, Nat.reduceMul, Nat.reduceSub, hXd]
  refine WV.of (fun c hc => ?_) ?_
  · simp only [List.mem_cons, List.not_mem_nil, or_false] at hc
    rcases hc with rfl | rfl <;> (rw [hXd]; rfl)
  refine all_t ?_
  rw [thaw_frz, frz_length]
  simp (disch := omega) only [kB, kcx, kdm, kdn, kel, aop, resultsL, resultOf, Nat.reduceEqDiff, reduceCtorEq, eq1, apartOK, apart2, AObj.live, Int.reduceEq, Int.reduceLT, Int.reduceLE, Int.reduceAdd, Int.reduceSub, Int.reduceMul, Int.reduceToNat, cutCells, Nat.reduceAdd, Nat.reduceLeDiff, Nat.reduceLT, Nat.reduceMul, Nat.reduceSub, hXd]
  have hP2 := hP.app (G := [.row [.pointer (some ⟨b, 0, none⟩)] 0 true, .row [.func (.func 49) #[] #[]] 0 true])
  have hit := iter_all (H := H) (b := b) (w := w) (n := H.length) (G := []) rfl
  rw [List.append_nil] at hit
  refine told_t hw hw2 hit hP2.ti.hd hP2.ti.lies.ta hP2.ti.ok hsz.2.1 (by rw [selP_all]; exact hP2.xr.sl) ?_
  have hXd2 := hP2.xr.hd
  obtain ⟨ad, hsv⟩ := hX.len
  subst hsv
  simp (disch := omega) only [kB, kcx, kdm, kdn, kel, aop, resultsL, resultOf, Nat.reduceEqDiff, reduceCtorEq, eq1, apartOK, apart2, AObj.live, Int.reduceEq, Int.reduceLT, Int.reduceLE, Int.reduceAdd, Int.reduceSub, Int.reduceMul, Int.reduceToNat, cutCells, Nat.reduceAdd, Nat.reduceLeDiff, Nat.reduceLT, Nat.reduceMul, Nat.reduceSub, hXd]
  refine WV.of (fun c hc => ?_) ?_
  · simp only [List.mem_cons, List.not_mem_nil, or_false] at hc
    subst hc
    rw [hXd2]
    rfl
  obtain ⟨wr, hfz⟩ := row_frz (bs := [xb]) hP2.ti.hd
  refine len_t hfz ?_
  rw [thaw_frz0]
  simp (disch := omega) only [kB, kcx, kdm, kdn, kel, aop, resultsL, resultOf, Nat.reduceEqDiff, reduceCtorEq, eq1, apartOK, apart2, AObj.live, Int.reduceEq, Int.reduceLT, Int.reduceLE, Int.reduceAdd, Int.reduceSub, Int.reduceMul, Int.reduceToNat, cutCells, Nat.reduceAdd, Nat.reduceLeDiff, Nat.reduceLT, Nat.reduceMul, Nat.reduceSub, hXd, hkl]
  refine nodes_t hP2.ti.hd hP2.ti.lies.ta hsz.2.1 ?_
  simp (disch := omega) only [kB, kcx, kdm, kdn, kel, aop, resultsL, resultOf, Nat.reduceEqDiff, reduceCtorEq, eq1, apartOK, apart2, AObj.live, Int.reduceEq, Int.reduceLT, Int.reduceLE, Int.reduceAdd, Int.reduceSub, Int.reduceMul, Int.reduceToNat, cutCells, Nat.reduceAdd, Nat.reduceLeDiff, Nat.reduceLT, Nat.reduceMul, Nat.reduceSub, hXd]
  refine rnodes_t hP2.xr hsz.2.2 (keys_le hw2 hP2) ?_
  rw [← hne]
  simp (disch := omega) only [kB, kcx, kdm, kdn, kel, aop, resultsL, resultOf, Nat.reduceEqDiff, reduceCtorEq, eq1, apartOK, apart2, AObj.live, Int.reduceEq, Int.reduceLT, Int.reduceLE, Int.reduceAdd, Int.reduceSub, Int.reduceMul, Int.reduceToNat, cutCells, Nat.reduceAdd, Nat.reduceLeDiff, Nat.reduceLT, Nat.reduceMul, Nat.reduceSub]
  exact ⟨_, rfl, ⟨_, rfl⟩, .closed rfl, h⟩

end Go.Proofs.Yticgkaanaimllaa.Ev

/- A law's arguments as its row reads them: rows of cells that nothing writes, and what stands in them. Conditions: none. -/
namespace Go.Proofs.Yticgkaanaimllaa.Ev
open Go.RowKit Go.ChangeShapes Go.WideShapes

/-- What data stands in some cells. -/
inductive Rep (P : Program) (H : Heap) {X : Type} : TypeId → DataW X → List Value → Prop where
  | bool {t : TypeId} (b : Bool) (hu : P.underlying t = some .bool) : Rep P H t (.lit (.bool b)) [.bool b]
  | int {t : TypeId} (k : IntKind) (n : Int) (hu : P.underlying t = some (.int k)) (hw : (Lit.int k n).wf = true) : Rep P H t (.lit (.int k n)) [.int k n]
  | str {t : TypeId} (l : List UInt8) (hu : P.underlying t = some .string) (hl : l.length ≤ maxLen) : Rep P H t (.lit (.string l)) [.string (bs l)]
  | struct {t : TypeId} {fs : Array Field} {ds : List (DataW X)} {ass : List (List Value)} (hu : P.underlying t = some (.struct fs)) (h1 : ds.length = fs.size) (h2 : ass.length = fs.size)
      (h : ∀ (i : Nat) (f : Field) (d : DataW X) (cz : List Value), fs[i]? = some f → ds[i]? = some d → ass[i]? = some cz → Rep P H f.type d cz)
      (hl : ∀ (i : Nat) (f : Field) (cz : List Value), fs[i]? = some f → ass[i]? = some cz → cz.length = P.cellsOf f.type) : Rep P H t (.agg ds) ass.flatten
  | nilS {t e : TypeId} (hu : P.underlying t = some (.slice e)) : Rep P H t .nil [.slice none 0 0]
  | empty {t e : TypeId} {sp : List (DataW X)} (hu : P.underlying t = some (.slice e)) : Rep P H t (.slice [] sp) [.slice (some ⟨0, 0, some 0⟩) 0 0]
  | slice {t e : TypeId} {b : Nat} {ds sp : List (DataW X)} {ass : List (List Value)} (hu : P.underlying t = some (.slice e)) (hne : ds ≠ []) (hb : hget H b = .row ass.flatten 0 false) (h2 : ass.length = ds.length)
      (h : ∀ (i : Nat) (d : DataW X) (cz : List Value), ds[i]? = some d → ass[i]? = some cz → Rep P H e d cz)
      (hl : ∀ (i : Nat) (cz : List Value), ass[i]? = some cz → cz.length = P.cellsOf e) : Rep P H t (.slice ds sp) [.slice (some ⟨b, 0, none⟩) ds.length ds.length]

theorem Rep.mono {P : Program} {H g : Heap} {X : Type} {t : TypeId} {d : DataW X} {cz : List Value} (h : Rep P H t d cz) : Rep P (H ++ g) t d cz := by
  induction h with
  | bool b hu => exact .bool b hu
  | int k n hu hw => exact .int k n hu hw
  | str l hu hl => exact .str l hu hl
  | struct hu h1 h2 h hl ih => exact .struct hu h1 h2 ih hl
  | nilS hu => exact .nilS hu
  | empty hu => exact .empty hu
  | slice hu hne hb h2 h hl ih => exact .slice hu hne (by rw [hget_old (hget_lt hb rfl)]; exact hb) h2 ih hl

/-- A set of types of plain data: numbers, texts, structs and lists of them. -/
def plainSet (P : Program) (L : List TypeId) : Bool := L.all fun t => decide (t < P.types.size) && match P.underlying t with
  | some .bool | some (.int _) | some .string => true
  | some (.struct fs) => fs.toList.all fun f => L.contains f.type
  | some (.slice e) => L.contains e && decide (0 < P.cellsOf e)
  | _ => false

def chunks : List Nat → List Value → List (List Value)
  | [], _ => []
  | n :: ns, cs => cs.take n :: chunks ns (cs.drop n)

theorem chunks_flat : ∀ (ns : List Nat) (cs : List Value), cs.length = ns.sum → (chunks ns cs).flatten = cs
  | [], cs, h => by simp at h; simp [chunks, h]
  | n :: ns, cs, h => by
    rw [chunks, List.flatten_cons, chunks_flat ns _ (by simp at h ⊢; omega), List.take_append_drop]

theorem chunks_len : ∀ (ns : List Nat) (cs : List Value), (chunks ns cs).length = ns.length
  | [], _ => rfl
  | n :: ns, cs => by rw [chunks, List.length_cons, List.length_cons, chunks_len ns]

theorem chunks_get : ∀ (ns : List Nat) (cs : List Value) (j n : Nat), ns[j]? = some n → (chunks ns cs)[j]? = some ((cs.drop (ns.take j).sum).take n)
  | [], _, j, n, h => by simp at h
  | m :: ns, cs, 0, n, h => by simp at h; simp [chunks, h]
  | m :: ns, cs, j + 1, n, h => by
    have h' : ns[j]? = some n := by simpa using h
    have := chunks_get ns (cs.drop m) j n h'
    simp only [chunks, List.getElem?_cons_succ, List.take_succ_cons, List.sum_cons]
    rw [this, List.drop_drop]

theorem VL.flat {n : Nat} {ρ : Nat → Place} : ∀ (xss yss : List (List Value)), xss.length = yss.length → (∀ (i : Nat) (xs ys : List Value), xss[i]? = some xs → yss[i]? = some ys → VL n ρ xs ys) → VL n ρ xss.flatten yss.flatten
  | [], [], _, _ => VL.nil
  | [], _ :: _, h, _ => by simp at h
  | _ :: _, [], h, _ => by simp at h
  | xs :: xss, ys :: yss, h, hh => by
    rw [List.flatten_cons, List.flatten_cons]
    exact (hh 0 xs ys rfl rfl).append (VL.flat xss yss (by simpa using h) fun i a b ha hb => hh (i + 1) a b (by simpa using ha) (by simpa using hb))

section
variable {X : Type} {enc : TypeId × Value → X} {P : Program} {G : Nat} {W : World} {base : Nat} {sp : Nat → Bool} {held : Bool} {L : List TypeId}

/-- Some cells can be told in a heap of the evaluator's. -/
def Opens (P : Program) (G : Nat) (W : World) (t : TypeId) (cs : List Value) (d : DataW X) : Prop :=
  ∀ (H : Heap) (ρ : Nat → Place), (∀ o ∈ H, o.wrt = false) → Rel G ρ H W → ∃ (g : Heap) (ρ' : Nat → Place) (cz : List Value), Rel G ρ' (H ++ g) W ∧ (∀ b, b < H.length → ρ' b = ρ b) ∧ (∀ o ∈ g, ∃ c, o = .row c 0 false) ∧ VL (H ++ g).length ρ' cz cs ∧ Rep P (H ++ g) t d cz

theorem ro_app {H g : Heap} (h : ∀ o ∈ H, o.wrt = false) (hg : ∀ o ∈ g, ∃ c, o = .row c 0 false) : ∀ o ∈ H ++ g, o.wrt = false := fun o ho => by
  rcases List.mem_append.1 ho with ho | ho
  · exact h o ho
  · obtain ⟨c, rfl⟩ := hg o ho; rfl

theorem opens_list : ∀ (l : List (TypeId × List Value × DataW X)), (∀ q ∈ l, Opens P G W q.1 q.2.1 q.2.2) → ∀ (H : Heap) (ρ : Nat → Place), (∀ o ∈ H, o.wrt = false) → Rel G ρ H W →
    ∃ (g : Heap) (ρ' : Nat → Place) (ass : List (List Value)), Rel G ρ' (H ++ g) W ∧ (∀ b, b < H.length → ρ' b = ρ b) ∧ (∀ o ∈ g, ∃ c, o = .row c 0 false) ∧ ass.length = l.length ∧
      ∀ (i : Nat) (q : TypeId × List Value × DataW X) (cz : List Value), l[i]? = some q → ass[i]? = some cz → VL (H ++ g).length ρ' cz q.2.1 ∧ Rep P (H ++ g) q.1 q.2.2 cz
  | [], _, H, ρ, _, hr => ⟨[], ρ, [], by simpa using hr, fun _ _ => rfl, fun o ho => (by cases ho), rfl, fun i q cz h => by simp at h⟩
  | q :: l, h, H, ρ, hro, hr => by
    obtain ⟨g, ρ1, cz, hr1, hs1, hg1, hv1, hp1⟩ := h q (by simp) H ρ hro hr
    obtain ⟨g2, ρ2, ass, hr2, hs2, hg2, hl2, hh⟩ := opens_list l (fun q hq => h q (by simp [hq])) (H ++ g) ρ1 (ro_app hro hg1) hr1
    rw [List.append_assoc] at hr2 hh
    refine ⟨g ++ g2, ρ2, cz :: ass, hr2, fun b hb => (hs2 b (by simp; omega)).trans (hs1 b hb), fun o ho => ?_, by simp [hl2], fun i q' cz' hq has => ?_⟩
    · rcases List.mem_append.1 ho with ho | ho
      · exact hg1 o ho
      · exact hg2 o ho
    · cases i with
      | zero =>
        simp at hq has
        subst hq; subst has
        refine ⟨hv1.mono (by simp) hs2, ?_⟩
        rw [← List.append_assoc]
        exact hp1.mono
      | succ i => exact hh i q' cz' (by simpa using hq) (by simpa using has)

theorem mem_plain (hP : plainSet P L = true) {t : TypeId} (ht : L.contains t = true) : (decide (t < P.types.size) && (match P.underlying t with
    | some .bool | some (.int _) | some .string => true
    | some (.struct fs) => fs.toList.all fun f => L.contains f.type
    | some (.slice e) => L.contains e && decide (0 < P.cellsOf e)
    | _ => false)) = true := by
  unfold plainSet at hP
  exact List.all_eq_true.1 hP t (List.contains_iff_mem.1 ht)

theorem flat_get {c : Nat} (hc : 0 < c) : ∀ (css : List (List Value)) (k j : Nat) (cs : List Value), (∀ (i : Nat) (cz : List Value), css[i]? = some cz → cz.length = c) → css[k]? = some cs → j < c → css.flatten[k * c + j]? = cs[j]?
  | [], k, j, cs, _, h, _ => by simp at h
  | a :: css, 0, j, cs, hl, h, hj => by
    have h1 := hl 0 a rfl
    simp at h
    subst h
    rw [List.flatten_cons, Nat.zero_mul, Nat.zero_add, List.getElem?_append_left (by omega)]
  | a :: css, k + 1, j, cs, hl, h, hj => by
    have h1 := hl 0 a rfl
    have := flat_get hc css k j cs (fun i cz hi => hl (i + 1) cz (by simpa using hi)) (by simpa using h) hj
    rw [List.flatten_cons, List.getElem?_append_right (by rw [h1, Nat.add_mul]; omega), h1, show (k + 1) * c + j - c = k * c + j by rw [Nat.add_mul]; omega]
    exact this

theorem flat_len {c : Nat} : ∀ (css : List (List Value)), (∀ (i : Nat) (cz : List Value), css[i]? = some cz → cz.length = c) → css.flatten.length = css.length * c
  | [], _ => by simp
  | a :: css, hl => by
    rw [List.flatten_cons, List.length_append, hl 0 a rfl, flat_len css (fun i cz hi => hl (i + 1) cz (by simpa using hi)), List.length_cons, Nat.add_mul]
    omega

/-- A row that nothing writes, new in the evaluator's heap. -/
theorem rel_row {H : Heap} {ρ : Nat → Place} (hro : ∀ o ∈ H, o.wrt = false) (hr : Rel G ρ H W) {a : Addr} {cs : List Value} {cells : Array Value} {t : TypeId} {fr : Nat × Nat} {ext0 : Nat} (hh : W.heap[a.block]? = some (.cells cells t fr))
    (hc : ∀ (i : Nat) (v : Value), cs[i]? = some v → ∃ v', cells[a.off + i]? = some v' ∧ VR H.length ρ v v') : Rel G (ext ρ H.length ⟨a.block, a.off, ext0⟩) (H ++ [.row cs 0 false]) W := by
  have cases_ : ∀ b u, (H ++ [AObj.row cs 0 false])[b]? = some u → (b < H.length ∧ H[b]? = some u) ∨ (b = H.length ∧ u = .row cs 0 false) := fun b u h => by
    by_cases hb : b < H.length
    · rw [List.getElem?_append_left hb] at h; exact .inl ⟨hb, h⟩
    · rw [List.getElem?_append_right (by omega)] at h
      obtain ⟨h1, h2⟩ := List.getElem?_eq_some_iff.1 h
      simp at h1
      have : b = H.length := by omega
      subst this
      simp at h2
      exact .inr ⟨rfl, h2.symm⟩
  have hlen : (H ++ [AObj.row cs 0 false]).length = H.length + 1 := by simp
  refine ⟨fun b u hu => ?_, fun b c u v hu hv hne hw hl => ?_, fun g hg => ?_, by rw [hlen]; have := hr.many; omega⟩
  · rcases cases_ b u hu with ⟨hb, hu⟩ | ⟨rfl, rfl⟩
    · exact (hr.obj b u hu).mono (by omega) (ext_lt hb) (fun c hc => ext_lt hc) (fun _ => rfl)
    · rw [OR, ext_same]
      refine ⟨cells, t, fr, hh, fun i v hi => ?_, fun h => by cases h⟩
      obtain ⟨v', h1, h2⟩ := hc i v hi
      exact ⟨v', h1, h2.mono (by omega) fun b hb => ext_lt hb⟩
  · rcases cases_ b u hu with ⟨hb, hu2⟩ | ⟨rfl, rfl⟩
    · rw [hro u (List.mem_of_getElem? hu2)] at hw
      cases hw
    · cases hw
  · rw [ext_lt (Nat.lt_of_lt_of_le hg hr.many)]; exact hr.glob g hg

theorem opens_trod (hl : laidOutB P = true) (hm : mapsRowed P = true) (hP : plainSet P L = true) : ∀ (n : Nat) (t : TypeId) (cs : List Value) (x : DataW X × List MemPlace), L.contains t = true →
    DataW.trod enc P W base (fun _ => true) held n t cs = some x → Opens P G W t cs x.1 := by
  intro n
  induction n with
  | zero => intro t cs x _ h; simp [DataW.trod] at h
  | succ n ih =>
    intro t cs x ht h
    have hk := mem_plain hP ht
    simp only [Bool.and_eq_true, decide_eq_true_eq] at hk
    obtain ⟨htp, hk⟩ := hk
    have K := kids_rows hl hm
    intro H ρ hro hr
    split at hk
    · rename_i hu
      obtain ⟨b, rfl, rfl⟩ := DataW.trod_bool hu h
      exact ⟨[], ρ, [.bool b], by simpa using hr, fun _ _ => rfl, fun o ho => (by cases ho), VL.cons (.bool b) VL.nil, .bool b hu⟩
    · rename_i k hu
      obtain ⟨m, rfl, rfl, hw⟩ := DataW.trod_int hu h
      exact ⟨[], ρ, [.int k m], by simpa using hr, fun _ _ => rfl, fun o ho => (by cases ho), VL.cons (.int k m) VL.nil, .int k m hu hw⟩
    · rename_i hu
      obtain ⟨s, rfl, rfl, hs⟩ := DataW.trod_string hu h
      exact ⟨[], ρ, [.string s], by simpa using hr, fun _ _ => rfl, fun o ho => (by cases ho), VL.cons (.string s) VL.nil, .str s.data.toList hu (by simpa using hs)⟩
    · rename_i fs hu
      obtain ⟨xs, m, hm1, rfl, hlen, hxl, hf⟩ := DataW.trod_struct hu h
      cases hm1
      obtain ⟨_, hsum, hoff⟩ := K.struct htp hu
      -- the fields, one by one
      have hget : ∀ (i : Nat) (f : Field) (y : DataW X × List MemPlace), fs[i]? = some f → xs[i]? = some y → DataW.trod enc P W base (fun _ => true) held n f.type ((cs.drop f.offset).take (P.cellsOf f.type)) = some y := fun i f y hfi hy => by
        rw [hf i f hfi, hy]
      let l : List (TypeId × List Value × DataW X) := (List.range fs.size).map fun i => ((fs[i]?.map (·.type)).getD 0, ((chunks (fs.toList.map fun f => P.cellsOf f.type) cs)[i]?).getD [], (xs[i]?.map (·.1)).getD .nil)
      have hl1 : ∀ i, i < fs.size → ∃ f y, fs[i]? = some f ∧ xs[i]? = some y ∧ l[i]? = some (f.type, (cs.drop f.offset).take (P.cellsOf f.type), y.1) := fun i hi => by
        have e1 : fs[i]? = some fs[i] := Array.getElem?_eq_getElem hi
        have e2 : xs[i]? = some (xs[i]'(by omega)) := List.getElem?_eq_getElem (by omega)
        refine ⟨_, _, e1, e2, ?_⟩
        have e3 : fs.toList[i]? = some fs[i] := by rw [Array.getElem?_toList]; exact e1
        have e4 := chunks_get (fs.toList.map fun f => P.cellsOf f.type) cs i (P.cellsOf fs[i].type) (by simp [hi])
        have e5 := hoff i _ e3
        rw [List.map_take] at e5
        rw [← e5] at e4
        simp only [l, List.getElem?_map, List.getElem?_range hi, Option.map_some, e1, e2, e4, Option.getD_some]
      have hlL : l.length = fs.size := by simp [l]
      obtain ⟨g, ρ', ass, hr', hs', hg', hal, hh⟩ := opens_list l (fun q hq => by
        obtain ⟨i, hi⟩ := List.getElem?_of_mem hq
        have hi2 : i < fs.size := by rw [← hlL]; exact (List.getElem?_eq_some_iff.1 hi).1
        obtain ⟨f, y, h1, h2, h3⟩ := hl1 i hi2
        rw [hi] at h3
        cases h3
        refine ih f.type _ y ?_ (hget i f y h1 h2)
        have hmem : f ∈ fs.toList := by
          have : fs.toList[i]? = some f := by simpa using h1
          exact List.mem_of_getElem? this
        exact List.all_eq_true.1 hk f hmem) H ρ hro hr
      refine ⟨g, ρ', ass.flatten, hr', hs', hg', ?_, ?_⟩
      · have hflat := chunks_flat (fs.toList.map fun f => P.cellsOf f.type) cs (by rw [hlen, hsum])
        rw [← hflat]
        refine VL.flat _ _ (by rw [hal, hlL, chunks_len]; simp) fun i a b ha hb => ?_
        have hi : i < fs.size := by rw [← hlL, ← hal]; exact (List.getElem?_eq_some_iff.1 ha).1
        obtain ⟨f, y, h1, h2, h3⟩ := hl1 i hi
        have e4 := chunks_get (fs.toList.map fun f => P.cellsOf f.type) cs i (P.cellsOf f.type) (by
          have : fs.toList[i]? = some f := by simpa using h1
          simp [this])
        have e5 := hoff i f (by simpa using h1)
        rw [List.map_take] at e5
        rw [← e5] at e4
        rw [hb] at e4
        cases e4
        exact (hh i _ a h3 ha).1
      · refine .struct hu (by simpa using hxl) (by rw [hal, hlL]) (fun i f d cz hfi hd ha => ?_) (fun i f cz hfi ha => ?_)
        · have hi : i < fs.size := (Array.getElem?_eq_some_iff.1 hfi).1
          obtain ⟨f', y, h1, h2, h3⟩ := hl1 i hi
          rw [hfi] at h1
          cases h1
          rw [List.getElem?_map, h2] at hd
          cases hd
          exact (hh i _ cz h3 ha).2
        · have hi : i < fs.size := (Array.getElem?_eq_some_iff.1 hfi).1
          obtain ⟨f', y, h1, h2, h3⟩ := hl1 i hi
          rw [hfi] at h1
          cases h1
          have := (hh i _ cz h3 ha).1.1
          rw [this]
          have e5 := hoff i f (by simpa using hfi)
          have hle : f.offset + P.cellsOf f.type ≤ cs.length := by
            rw [hlen, hsum, e5]
            have : fs.toList[i]? = some f := by simpa using hfi
            obtain ⟨h7, h8⟩ := List.getElem?_eq_some_iff.1 this
            have e6 : fs.toList = fs.toList.take i ++ f :: fs.toList.drop (i + 1) := by
              rw [← h8, ← List.drop_eq_getElem_cons h7, List.take_append_drop]
            conv => rhs; rw [e6]
            rw [List.map_append, List.sum_append, List.map_cons, List.sum_cons]
            omega
          rw [List.length_take, List.length_drop]
          omega
    · rename_i e hu
      simp only [Bool.and_eq_true, decide_eq_true_eq] at hk
      rcases DataW.trod_slice hu h with ⟨rfl, rfl⟩ | ⟨a, len, cap, elems, rest, m, hm1, rfl, rfl, hbase, hlc, hcm, hel, hge, _, _⟩
      · exact ⟨[], ρ, [.slice none 0 0], by simpa using hr, fun _ _ => rfl, fun o ho => (by cases ho), VL.cons .slNil VL.nil, .nilS hu⟩
      cases hm1
      by_cases h0 : elems = []
      · subst h0
        obtain rfl : len = 0 := by simpa using hel.symm
        exact ⟨[], ρ, [.slice (some ⟨0, 0, some 0⟩) 0 0], by simpa using hr, fun _ _ => rfl, fun o ho => (by cases ho), VL.cons (.slE 0 0 0 a cap) VL.nil, .empty hu⟩
      have hlen0 : 0 < len := by rw [← hel]; exact List.length_pos_iff.2 h0
      have hcell : ∀ i, i < len → ∃ csi y, W.cells? base (a.add (i * P.cellsOf e)) (P.cellsOf e) = some csi ∧ elems[i]? = some y ∧ DataW.trod enc P W base (fun _ => true) held n e csi = some y := fun i hi => by
        have h1 := hge i hi
        have h2 : elems[i]? = some (elems[i]'(by omega)) := List.getElem?_eq_getElem (by omega)
        rw [h2] at h1
        obtain ⟨csi, h3, h4⟩ := Option.bind_eq_some_iff.1 h1
        exact ⟨csi, _, h3, h2, h4⟩
      let css : List (List Value) := (List.range len).map fun i => (W.cells? base (a.add (i * P.cellsOf e)) (P.cellsOf e)).getD []
      have hcss : ∀ i, i < len → ∃ csi y, css[i]? = some csi ∧ W.cells? base (a.add (i * P.cellsOf e)) (P.cellsOf e) = some csi ∧ elems[i]? = some y ∧ DataW.trod enc P W base (fun _ => true) held n e csi = some y := fun i hi => by
        obtain ⟨csi, y, h1, h2, h3⟩ := hcell i hi
        exact ⟨csi, y, by simp [css, hi, h1], h1, h2, h3⟩
      have hcssL : css.length = len := by simp [css]
      let l : List (TypeId × List Value × DataW X) := (List.range len).map fun i => (e, (css[i]?).getD [], (elems[i]?.map (·.1)).getD .nil)
      have hl1 : ∀ i, i < len → ∃ csi y, css[i]? = some csi ∧ W.cells? base (a.add (i * P.cellsOf e)) (P.cellsOf e) = some csi ∧ elems[i]? = some y ∧ DataW.trod enc P W base (fun _ => true) held n e csi = some y ∧ l[i]? = some (e, csi, y.1) := fun i hi => by
        obtain ⟨csi, y, h1, h2, h3, h4⟩ := hcss i hi
        exact ⟨csi, y, h1, h2, h3, h4, by simp [l, hi, h1, h3]⟩
      have hlL : l.length = len := by simp [l]
      obtain ⟨g, ρ', ass, hr', hs', hg', hal, hh⟩ := opens_list l (fun q hq => by
        obtain ⟨i, hi⟩ := List.getElem?_of_mem hq
        have hi2 : i < len := by rw [← hlL]; exact (List.getElem?_eq_some_iff.1 hi).1
        obtain ⟨csi, y, h1, h2, h3, h4, h5⟩ := hl1 i hi2
        rw [hi] at h5
        cases h5
        exact ih e _ y hk.1 h4) H ρ hro hr
      have hasl : ∀ (i : Nat) (cz : List Value), ass[i]? = some cz → cz.length = P.cellsOf e := fun i cz ha => by
        have hi : i < len := by rw [← hlL, ← hal]; exact (List.getElem?_eq_some_iff.1 ha).1
        obtain ⟨csi, y, h1, h2, h3, h4, h5⟩ := hl1 i hi
        rw [(hh i _ cz h5 ha).1.1]
        exact (World.cells?_some h2).2.1
      -- the block itself
      obtain ⟨cs0, y0, g1, g2, _⟩ := hcell 0 hlen0
      obtain ⟨_, gl, gc⟩ := World.cells?_some g1
      have gc0 := gc 0 hk.2
      rw [Nat.zero_mul] at gc0
      have hadd : ∀ (k j : Nat), ((a.add k).add j) = if k + j = 0 then a else ⟨a.block, a.off + (k + j), none⟩ := fun k j => by
        unfold Addr.add
        by_cases hk0 : k = 0
        · subst hk0
          by_cases hj0 : j = 0
          · subst hj0; rfl
          · simp [hj0]
        · by_cases hj0 : j = 0
          · subst hj0; simp [hk0]
          · simp only [if_neg hk0, if_neg hj0, if_neg (show ¬ k + j = 0 by omega), Nat.add_assoc]
      have hblk : ∃ cells ty fr, W.heap[a.block]? = some (.cells cells ty fr) ∧ a.spot = none := by
        have h7 : W.cell? a = cs0[0]? := by simpa [hadd] using gc0
        have h8 : cs0[0]? = some (cs0[0]'(by omega)) := List.getElem?_eq_getElem (by omega)
        rw [h8] at h7
        unfold World.cell? at h7
        split at h7
        · rename_i c ty fr hc
          split at h7
          · cases h7
          · rename_i hsp
            exact ⟨c, ty, fr, hc, by simpa using hsp⟩
        · cases h7
      obtain ⟨cells, ty, fr, hh0, hsp⟩ := hblk
      have hcellat : ∀ (i : Nat) (v : Value), ass.flatten[i]? = some v → ∃ v', cells[a.off + i]? = some v' ∧ VR (H ++ g).length ρ' v v' := fun i v hv => by
        have hi : i < ass.flatten.length := (List.getElem?_eq_some_iff.1 hv).1
        rw [flat_len ass hasl, hal, hlL] at hi
        have hq : i / P.cellsOf e < len := (Nat.div_lt_iff_lt_mul hk.2).2 hi
        have hm2 : i % P.cellsOf e < P.cellsOf e := Nat.mod_lt _ hk.2
        have hid : i / P.cellsOf e * P.cellsOf e + i % P.cellsOf e = i := Nat.div_add_mod' i (P.cellsOf e)
        obtain ⟨csi, y, h1, h2, h3, h4, h5⟩ := hl1 _ hq
        have ha : ass[i / P.cellsOf e]? = some (ass[i / P.cellsOf e]'(by rw [hal, hlL]; exact hq)) := List.getElem?_eq_getElem _
        obtain ⟨hv1, _⟩ := hh _ _ _ h5 ha
        have hfg := flat_get hk.2 ass _ _ _ hasl ha hm2
        rw [hid, hv] at hfg
        obtain ⟨v', hv', hvr⟩ := hv1.get hfg.symm
        refine ⟨v', ?_, hvr⟩
        have h9 := (World.cells?_some h2).2.2 _ hm2
        rw [hadd, hid, hv'] at h9
        by_cases hi0 : i = 0
        · subst hi0
          simp only [if_true] at h9
          unfold World.cell? at h9
          rw [hh0, hsp] at h9
          simpa using h9
        · rw [if_neg hi0] at h9
          unfold World.cell? at h9
          simpa [hh0] using h9
      have hr2 := rel_row (a := a) (cs := ass.flatten) (ext0 := cap - len) (ro_app hro hg') hr' hh0 hcellat
      refine ⟨g ++ [.row ass.flatten 0 false], ext ρ' (H ++ g).length ⟨a.block, a.off, cap - len⟩, [.slice (some ⟨(H ++ g).length, 0, none⟩) len len], by rw [← List.append_assoc]; exact hr2, fun b hb => ?_, fun o ho => ?_, ?_, ?_⟩
      · rw [ext_lt (by rw [List.length_append]; omega)]; exact hs' b hb
      · rcases List.mem_append.1 ho with ho | ho
        · exact hg' o ho
        · rw [List.mem_singleton.1 ho]; exact ⟨_, rfl⟩
      · have := VR.sl (n := (H ++ (g ++ [AObj.row ass.flatten 0 false])).length) (ρ := ext ρ' (H ++ g).length ⟨a.block, a.off, cap - len⟩) (H ++ g).length 0 len len cap (by simp only [List.length_append, List.length_cons, List.length_nil]; omega) (Nat.le_refl _) hlc (by rw [ext_same]; show cap ≤ len + (cap - len); omega)
        rw [ext_same, Nat.add_zero] at this
        have ha2 : (⟨a.block, a.off, none⟩ : Addr) = a := by rw [← hsp]
        rw [ha2] at this
        exact VL.cons this VL.nil
      · have := Rep.slice (P := P) (H := H ++ (g ++ [AObj.row ass.flatten 0 false])) (t := t) (e := e) (b := (H ++ g).length) (ds := elems.map (·.1)) (sp := rest.map (·.1)) (ass := ass) hu (by simpa using h0) (by rw [← List.append_assoc]; exact hget_last _ _) (by rw [hal, hlL, List.length_map, hel])
          (fun i d cz hd ha => by
            have hi : i < len := by rw [← hlL, ← hal]; exact (List.getElem?_eq_some_iff.1 ha).1
            obtain ⟨csi, y, h1, h2, h3, h4, h5⟩ := hl1 i hi
            rw [List.getElem?_map, h3] at hd
            cases hd
            have := (hh i _ cz h5 ha).2
            rw [← List.append_assoc]
            exact this.mono) hasl
        rw [List.length_map, hel] at this
        exact this
    · cases hk

/-! ### The call's end -/

def slicesPos (P : Program) : Bool := (List.range P.types.size).all fun t => match P.underlying t with
  | some (.slice e) => decide (0 < P.cellsOf e)
  | _ => true

theorem args_stay {W' : World} (hl : laidOutB P = true) (hm : mapsRowed P = true) (hp : slicesPos P = true) (bel : Below W.heap.size W W') :
    ∀ {ts : List TypeId} {vs : List Value} {ds : List (DataW X)} {ps : List MemPlace}, (∀ t ∈ ts, t < P.types.size) → DataW.TrodAll enc P W 0 (fun _ => true) true ts vs ds ps →
      DataW.TrodAll enc P W' 0 (fun b => decide (b < W.heap.size)) true ts vs ds ps
  | [], vs, ds, ps, _, h => by
    obtain ⟨rfl, rfl, rfl⟩ := trodAll_nil h
    rfl
  | t :: ts, vs, ds, ps, ht, h => by
    obtain ⟨v, vs1, d, ds1, p, q, rfl, rfl, rfl, ⟨fuel, h1⟩, h2⟩ := trodAll_cons h
    have hlt := DataW.trod_lt fuel t v.cells.toList _ h1
    refine ⟨p, q, ⟨fuel, DataW.trod_stays (kids_rows hl hm) (fun {t e} htt hu => ?_) (fun h => by cases h) (ht t (by simp)) h1 (fun x hx => bel.same (hlt x hx)) (fun x hx => by simpa using hlt x hx)⟩, args_stay hl hm hp bel (fun u hu => ht u (by simp [hu])) h2, rfl⟩
    have := List.all_eq_true.1 hp t (List.mem_range.2 htt)
    simpa [hu] using this

/-! ### The call's arguments -/

/-- An argument tells some data. -/
def ArgRep (P : Program) (H : Heap) (t : TypeId) (d : DataW X) (a : Value) : Prop := ∃ cz, Rep P H t d cz ∧ (((∃ fs, P.underlying t = some (.struct fs)) ∧ a = .agg cz.toArray) ∨ cz = [a])

theorem ArgRep.mono {H g : Heap} {t : TypeId} {d : DataW X} {a : Value} (h : ArgRep P H t d a) : ArgRep P (H ++ g) t d a := by
  obtain ⟨cz, h1, h2⟩ := h
  exact ⟨cz, h1.mono, h2⟩

theorem vr_single {n : Nat} {ρ : Nat → Place} {a : Value} {v : Value} (h : VL n ρ [a] v.cells.toList) (hv : ∀ cs, v ≠ .agg cs) : VR n ρ a v := by
  have : v.cells.toList = [v] := by
    cases v <;> first | rfl | exact absurd rfl (hv _)
  rw [this] at h
  exact h.head

theorem open_args (hl : laidOutB P = true) (hm : mapsRowed P = true) (hP : plainSet P L = true) {r : Reach} {b0 : Nat} : ∀ {ts : List TypeId} {vs : List Value} {ds : List (DataW X)} {ps : List MemPlace},
    (∀ t ∈ ts, L.contains t = true) → DataW.TrodAll enc P W base (fun _ => true) held ts vs ds ps → (∀ (j : Nat) t v, ts[j]? = some t → vs[j]? = some v → Value.okWide P W r b0 t v) →
    ∀ (H : Heap) (ρ : Nat → Place), (∀ o ∈ H, o.wrt = false) → Rel G ρ H W → ∃ (g : Heap) (ρ' : Nat → Place) (avs : List Value), Rel G ρ' (H ++ g) W ∧ (∀ b, b < H.length → ρ' b = ρ b) ∧ (∀ o ∈ g, ∃ c, o = .row c 0 false) ∧
      VL (H ++ g).length ρ' avs vs ∧ avs.length = ts.length ∧ ∀ (j : Nat) t d a, ts[j]? = some t → ds[j]? = some d → avs[j]? = some a → ArgRep P (H ++ g) t d a
  | [], vs, ds, ps, _, h, _, H, ρ, hro, hr => by
    obtain ⟨rfl, rfl, rfl⟩ := trodAll_nil h
    exact ⟨[], ρ, [], by simpa using hr, fun _ _ => rfl, fun o ho => (by cases ho), VL.nil, rfl, fun j t d a h => by simp at h⟩
  | t :: ts, vs, ds, ps, hts, h, hok, H, ρ, hro, hr => by
    obtain ⟨v, vs1, d, ds1, p, q, rfl, rfl, rfl, ⟨fuel, h1⟩, h2⟩ := trodAll_cons h
    have htc := hts t (by simp)
    obtain ⟨g, ρ1, cz, hr1, hs1, hg1, hv1, hp1⟩ := opens_trod (G := G) hl hm hP fuel t _ _ htc h1 H ρ hro hr
    obtain ⟨g2, ρ2, avs, hr2, hs2, hg2, hv2, hl2, hh⟩ := open_args hl hm hP (fun u hu => hts u (by simp [hu])) h2 (fun j t v hj hv => hok (j + 1) t v (by simpa using hj) (by simpa using hv)) (H ++ g) ρ1 (ro_app hro hg1) hr1
    rw [List.append_assoc] at hr2 hh hv2
    have hval := hok 0 t v rfl rfl
    have hk := mem_plain hP htc
    simp only [Bool.and_eq_true, decide_eq_true_eq] at hk
    obtain ⟨_, hk⟩ := hk
    have single : (∀ cs, v ≠ .agg cs) → (∃ a, cz = [a]) → ∃ a, VR (H ++ g).length ρ1 a v ∧ ArgRep P (H ++ g) t d a := fun hna ⟨a, ha⟩ => by
      subst ha
      exact ⟨a, vr_single hv1 hna, [a], hp1, .inr rfl⟩
    have one : (∀ cs, v ≠ .agg cs) → ∃ a, cz = [a] := fun hna => by
      have : v.cells.toList = [v] := by
        cases v <;> first | rfl | exact absurd rfl (hna _)
      have h3 := hv1.1
      rw [this] at h3
      match cz, h3 with
      | [a], _ => exact ⟨a, rfl⟩
    have hex : ∃ a, VR (H ++ g).length ρ1 a v ∧ ArgRep P (H ++ g) t d a := by
      split at hk
      · rename_i hu
        obtain ⟨b, rfl⟩ := okWide_bool hu hval
        exact single (fun _ h => by cases h) (one fun _ h => by cases h)
      · rename_i k hu
        obtain ⟨b, rfl⟩ := okWide_int hu hval
        exact single (fun _ h => by cases h) (one fun _ h => by cases h)
      · rename_i hu
        obtain ⟨b, rfl⟩ := okWide_string hu hval
        exact single (fun _ h => by cases h) (one fun _ h => by cases h)
      · rename_i fs hu
        obtain ⟨cs, rfl, _⟩ := okWide_struct hu hval
        refine ⟨.agg cz.toArray, ?_, cz, hp1, .inl ⟨⟨fs, hu⟩, rfl⟩⟩
        have := hv1.agg
        simpa [Value.cells] using this
      · rename_i e hu
        obtain ⟨a, l, c, rfl⟩ := okWide_slice hu hval
        exact single (fun _ h => by cases h) (one fun _ h => by cases h)
      · cases hk
    obtain ⟨a, ha1, ha2⟩ := hex
    refine ⟨g ++ g2, ρ2, a :: avs, hr2, fun b hb => (hs2 b (by simp; omega)).trans (hs1 b hb), fun o ho => ?_, VL.cons (ha1.mono (by simp) hs2) hv2, by simp [hl2], fun j t' d' a' hj hd ha => ?_⟩
    · rcases List.mem_append.1 ho with ho | ho
      · exact hg1 o ho
      · exact hg2 o ho
    · cases j with
      | zero =>
        simp at hj hd ha
        subst hj; subst hd; subst ha
        rw [← List.append_assoc]
        exact ha2.mono
      | succ j => exact hh j t' d' a' (by simpa using hj) (by simpa using hd) (by simpa using ha)

/-! ### What an argument is -/

theorem Rep.inv_int {H : Heap} {t : TypeId} {k : IntKind} {d : DataW X} {cz : List Value} (hu : P.underlying t = some (.int k)) (h : Rep P H t d cz) : ∃ n, d = .lit (.int k n) ∧ cz = [.int k n] ∧ (Lit.int k n).wf = true := by
  cases h with
  | int k' n hu' hw => rw [hu] at hu'; cases hu'; exact ⟨n, rfl, rfl, hw⟩
  | bool b hu' => rw [hu] at hu'; cases hu'
  | str l hu' hl => rw [hu] at hu'; cases hu'
  | struct hu' => rw [hu] at hu'; cases hu'
  | nilS hu' => rw [hu] at hu'; cases hu'
  | empty hu' => rw [hu] at hu'; cases hu'
  | slice hu' => rw [hu] at hu'; cases hu'

theorem Rep.inv_bool {H : Heap} {t : TypeId} {d : DataW X} {cz : List Value} (hu : P.underlying t = some .bool) (h : Rep P H t d cz) : ∃ b, d = .lit (.bool b) ∧ cz = [.bool b] := by
  cases h with
  | int k' n hu' hw => rw [hu] at hu'; cases hu'
  | bool b hu' => exact ⟨b, rfl, rfl⟩
  | str l hu' hl => rw [hu] at hu'; cases hu'
  | struct hu' => rw [hu] at hu'; cases hu'
  | nilS hu' => rw [hu] at hu'; cases hu'
  | empty hu' => rw [hu] at hu'; cases hu'
  | slice hu' => rw [hu] at hu'; cases hu'

theorem Rep.inv_str {H : Heap} {t : TypeId} {d : DataW X} {cz : List Value} (hu : P.underlying t = some .string) (h : Rep P H t d cz) : ∃ l, d = .lit (.string l) ∧ cz = [.string (bs l)] ∧ l.length ≤ maxLen := by
  cases h with
  | int k' n hu' hw => rw [hu] at hu'; cases hu'
  | bool b hu' => rw [hu] at hu'; cases hu'
  | str l hu' hl => exact ⟨l, rfl, rfl, hl⟩
  | struct hu' => rw [hu] at hu'; cases hu'
  | nilS hu' => rw [hu] at hu'; cases hu'
  | empty hu' => rw [hu] at hu'; cases hu'
  | slice hu' => rw [hu] at hu'; cases hu'

theorem Rep.inv_struct {H : Heap} {t : TypeId} {fs : Array Field} {d : DataW X} {cz : List Value} (hu : P.underlying t = some (.struct fs)) (h : Rep P H t d cz) : ∃ (ds : List (DataW X)) (ass : List (List Value)), d = .agg ds ∧ cz = ass.flatten ∧ ds.length = fs.size ∧ ass.length = fs.size ∧
    ∀ (i : Nat) (f : Field) (d : DataW X) (cz : List Value), fs[i]? = some f → ds[i]? = some d → ass[i]? = some cz → Rep P H f.type d cz := by
  cases h with
  | int k' n hu' hw => rw [hu] at hu'; cases hu'
  | bool b hu' => rw [hu] at hu'; cases hu'
  | str l hu' hl => rw [hu] at hu'; cases hu'
  | struct hu' h1 h2 h3 h4 => rw [hu] at hu'; cases hu'; exact ⟨_, _, rfl, rfl, h1, h2, h3⟩
  | nilS hu' => rw [hu] at hu'; cases hu'
  | empty hu' => rw [hu] at hu'; cases hu'
  | slice hu' => rw [hu] at hu'; cases hu'

theorem Rep.inv_slice {H : Heap} {t e : TypeId} {d : DataW X} {cz : List Value} (hu : P.underlying t = some (.slice e)) (h : Rep P H t d cz) : (d = .nil ∧ cz = [.slice none 0 0]) ∨ (∃ sp, d = .slice [] sp ∧ cz = [.slice (some ⟨0, 0, some 0⟩) 0 0]) ∨
    ∃ (b : Nat) (ds sp : List (DataW X)) (ass : List (List Value)), d = .slice ds sp ∧ ds ≠ [] ∧ cz = [.slice (some ⟨b, 0, none⟩) ds.length ds.length] ∧ hget H b = .row ass.flatten 0 false ∧ ass.length = ds.length ∧
      (∀ (i : Nat) (d : DataW X) (cz : List Value), ds[i]? = some d → ass[i]? = some cz → Rep P H e d cz) ∧ (∀ (i : Nat) (cz : List Value), ass[i]? = some cz → cz.length = P.cellsOf e) := by
  cases h with
  | int k' n hu' hw => rw [hu] at hu'; cases hu'
  | bool b hu' => rw [hu] at hu'; cases hu'
  | str l hu' hl => rw [hu] at hu'; cases hu'
  | struct hu' => rw [hu] at hu'; cases hu'
  | nilS hu' => exact .inl ⟨rfl, rfl⟩
  | empty hu' => exact .inr (.inl ⟨_, rfl, rfl⟩)
  | slice hu' hne hb h2 h3 h4 => rw [hu] at hu'; cases hu'; exact .inr (.inr ⟨_, _, _, _, rfl, hne, rfl, hb, h2, h3, h4⟩)

/-- A struct of two fields. -/
theorem Rep.inv_two {H : Heap} {t : TypeId} {f0 f1 : Field} {d : DataW X} {cz : List Value} (hu : P.underlying t = some (.struct #[f0, f1])) (h : Rep P H t d cz) : ∃ d0 d1 a0 a1, d = .agg [d0, d1] ∧ cz = a0 ++ a1 ∧ Rep P H f0.type d0 a0 ∧ Rep P H f1.type d1 a1 := by
  obtain ⟨ds, ass, rfl, rfl, h1, h2, h3⟩ := h.inv_struct hu
  match ds, ass, h1, h2, h3 with
  | [d0, d1], [a0, a1], _, _, h3 => exact ⟨d0, d1, a0, a1, rfl, by simp, h3 0 f0 d0 a0 rfl rfl rfl, h3 1 f1 d1 a1 rfl rfl rfl⟩

/-- An unsigned number of 64 bits. -/
theorem Rep.inv_u64 {H : Heap} {t : TypeId} {d : DataW X} {cz : List Value} (hu : P.underlying t = some (.int .u64)) (h : Rep P H t d cz) : ∃ n : Nat, d = .lit (.int .u64 n) ∧ cz = [.int .u64 (n : Int)] ∧ n < 18446744073709551616 := by
  obtain ⟨n, rfl, rfl, hw⟩ := h.inv_int hu
  have hw : (0 : Int) ≤ n ∧ n ≤ 18446744073709551615 := by
    simpa [Lit.wf, IntKind.min, IntKind.max, IntKind.signed, IntKind.bits] using hw
  refine ⟨n.toNat, ?_, ?_, by omega⟩ <;> rw [Int.toNat_of_nonneg hw.1]

/-- A number of 64 bits. -/
theorem Rep.inv_i64 {H : Heap} {t : TypeId} {d : DataW X} {cz : List Value} (hu : P.underlying t = some (.int .i64)) (h : Rep P H t d cz) : ∃ n : Int, d = .lit (.int .i64 n) ∧ cz = [.int .i64 n] ∧ -9223372036854775808 ≤ n ∧ n < 9223372036854775808 := by
  obtain ⟨n, rfl, rfl, hw⟩ := h.inv_int hu
  have hw : (-9223372036854775808 : Int) ≤ n ∧ n ≤ 9223372036854775807 := by
    simpa [Lit.wf, IntKind.min, IntKind.max, IntKind.signed, IntKind.bits] using hw
  exact ⟨n, rfl, rfl, hw.1, by omega⟩

end

end Go.Proofs.Yticgkaanaimllaa.Ev

/- Arguments of the trie's laws as their rows read them: numbers, values of 128 bits, operations and lists of them. Conditions: none. -/
namespace Go.Proofs.Yticgkaanaimllaa.Ev
open Go.ChangeShapes Go.WideShapes Go.ChangeAt Go.RowKit

theorem own : ownKnob Try.prog.godebug = none := by kernel_rfl

theorem VL.narrow {n m : Nat} {ρ ρ' : Nat → Place} {xs ys : List Value} (h : VL m ρ' xs ys) (hs : ∀ x ∈ xs, Scoped n x) (he : ∀ b, b < n → ρ' b = ρ b) : VL n ρ xs ys :=
  ⟨h.1, fun i x y hx hy => ((h.2 i x y hx hy).narrow (hs x (List.mem_of_getElem? hx))).mono (Nat.le_refl _) fun b hb => (he b hb).symm⟩

theorem int_arg {P : Program} {H : Heap} {X : Type} {t : TypeId} {d : DataW X} {a : Value} (hu : P.underlying t = some (.int .i64)) (h : ArgRep P H t d a) : ∃ n : Int, d = .lit (.int .i64 n) ∧ a = .int .i64 n := by
  obtain ⟨cs, hr, hcase⟩ := h
  obtain ⟨n, rfl, rfl, _⟩ := hr.inv_i64 hu
  rcases hcase with ⟨⟨fs, hf⟩, _⟩ | h
  · rw [hu] at hf; cases hf
  · simp at h; exact ⟨n, rfl, h.symm⟩

theorem Rep.inv_four {P : Program} {X : Type} {H : Heap} {t : TypeId} {f0 f1 f2 f3 : Field} {d : DataW X} {cz : List Value} (hu : P.underlying t = some (.struct #[f0, f1, f2, f3])) (h : Rep P H t d cz) :
    ∃ d0 d1 d2 d3 a0 a1 a2 a3, d = .agg [d0, d1, d2, d3] ∧ cz = a0 ++ (a1 ++ (a2 ++ a3)) ∧ Rep P H f0.type d0 a0 ∧ Rep P H f1.type d1 a1 ∧ Rep P H f2.type d2 a2 ∧ Rep P H f3.type d3 a3 := by
  obtain ⟨ds, ass, rfl, rfl, h1, h2, h3⟩ := h.inv_struct hu
  match ds, ass, h1, h2, h3 with
  | [d0, d1, d2, d3], [a0, a1, a2, a3], _, _, h3 => exact ⟨d0, d1, d2, d3, a0, a1, a2, a3, rfl, by simp, h3 0 f0 d0 a0 rfl rfl rfl, h3 1 f1 d1 a1 rfl rfl rfl, h3 2 f2 d2 a2 rfl rfl rfl, h3 3 f3 d3 a3 rfl rfl rfl⟩

theorem halves {hi lo : Nat} (h1 : hi < 18446744073709551616) (h2 : lo < 18446744073709551616) : ∃ a, a < 2 ^ 128 ∧ a / W64 = hi ∧ a % W64 = lo := by
  refine ⟨hi * W64 + lo, ?_, ?_, ?_⟩ <;> unfold W64 <;> omega

theorem bits_rep {X : Type} {H : Heap} {d : DataW X} {cz : List Value} (h : Rep Try.prog H 25 d cz) : ∃ a, a < 2 ^ 128 ∧ cz = [.int .u64 ((a / W64 : Nat) : Int), .int .u64 ((a % W64 : Nat) : Int)] := by
  obtain ⟨e0, e1, b0, b1, rfl, rfl, s0, s1⟩ := h.inv_two Try.underlying25
  obtain ⟨x, rfl, rfl, hx⟩ := s0.inv_u64 Try.underlying23
  obtain ⟨y, rfl, rfl, hy⟩ := s1.inv_u64 Try.underlying23
  obtain ⟨a, h1, rfl, rfl⟩ := halves hx hy
  exact ⟨a, h1, rfl⟩

/-- An operation's cells. -/
theorem op_rep {X : Type} {H : Heap} {d : DataW X} {cz : List Value} (h : Rep Try.prog H 35 d cz) : ∃ o : Opr, cz = opC o ∧ o.a < 2 ^ 128 ∧ -9223372036854775808 ≤ o.n ∧ o.n < 9223372036854775808 ∧ -9223372036854775808 ≤ o.v ∧ o.v < 9223372036854775808 ∧ -9223372036854775808 ≤ o.k ∧ o.k < 9223372036854775808 := by
  obtain ⟨d0, d1, d2, d3, a0, a1, a2, a3, rfl, rfl, r0, r1, r2, r3⟩ := h.inv_four Try.underlying35
  obtain ⟨k, rfl, rfl, hk⟩ := r0.inv_i64 Try.underlying3
  obtain ⟨a, ha, rfl⟩ := bits_rep r1
  obtain ⟨n, rfl, rfl, hn⟩ := r2.inv_i64 Try.underlying3
  obtain ⟨v, rfl, rfl, hv⟩ := r3.inv_i64 Try.underlying3
  exact ⟨⟨k, a, n, v⟩, rfl, ha, hn.1, hn.2, hv.1, hv.2, hk.1, hk.2⟩

/-- The numbers of an operation fit their cells. -/
def OprOk (o : Opr) : Prop := o.a < 2 ^ 128 ∧ -9223372036854775808 ≤ o.n ∧ o.n < 9223372036854775808 ∧ -9223372036854775808 ≤ o.v ∧ o.v < 9223372036854775808 ∧ -9223372036854775808 ≤ o.k ∧ o.k < 9223372036854775808

theorem ops_rep {X : Type} {H : Heap} : ∀ (ds : List (DataW X)) (ass : List (List Value)), ass.length = ds.length → (∀ (i : Nat) (d : DataW X) (cz : List Value), ds[i]? = some d → ass[i]? = some cz → Rep Try.prog H 35 d cz) →
    ∃ ops : List Opr, ass = ops.map opC ∧ ∀ o ∈ ops, OprOk o
  | [], [], _, _ => ⟨[], rfl, fun o ho => by cases ho⟩
  | [], _ :: _, h, _ => by simp at h
  | _ :: _, [], h, _ => by simp at h
  | d :: ds, cz :: ass, hl, h => by
    obtain ⟨o, rfl, ho⟩ := op_rep (h 0 d cz rfl rfl)
    obtain ⟨ops, rfl, h2⟩ := ops_rep ds ass (by simpa using hl) fun i d cz h1 h2 => h (i + 1) d cz (by simpa using h1) (by simpa using h2)
    exact ⟨o :: ops, rfl, fun q hq => by
      rcases List.mem_cons.1 hq with rfl | hq
      · exact ho
      · exact h2 q hq⟩

theorem bits_arg {X : Type} {H : Heap} {d : DataW X} {a : Value} (h : ArgRep Try.prog H 25 d a) : ∃ n, n < 2 ^ 128 ∧ a = bvA n := by
  obtain ⟨cs, hr, hcase⟩ := h
  obtain ⟨n, hn, rfl⟩ := bits_rep hr
  rcases hcase with ⟨_, rfl⟩ | h
  · exact ⟨n, hn, rfl⟩
  · simp at h

theorem opr_arg {X : Type} {H : Heap} {d : DataW X} {a : Value} (h : ArgRep Try.prog H 35 d a) : ∃ o, OprOk o ∧ a = .agg (opC o).toArray := by
  obtain ⟨cs, hr, hcase⟩ := h
  obtain ⟨o, rfl, ho⟩ := op_rep hr
  rcases hcase with ⟨_, rfl⟩ | h
  · exact ⟨o, ho, rfl⟩
  · simp [opC] at h

/-- A list of operations. -/
theorem ops_arg {X : Type} {H : Heap} {d : DataW X} {a : Value} (h : ArgRep Try.prog H 22 d a) :
    ∃ (ad : Option Addr) (ops : List Opr), a = .slice ad ops.length ops.length ∧ (∀ o ∈ ops, OprOk o) ∧ OpSl H ad ops H.length ∧ (d = .nil ∧ ops = [] ∨ ∃ ds sp, d = .slice ds sp ∧ ops.length = ds.length) := by
  obtain ⟨cs, hr, hcase⟩ := h
  have hne : ∀ {l}, cs = [l] → a = l := fun e => by
    rcases hcase with ⟨⟨fs, hf⟩, _⟩ | h
    · have := Try.underlying22
      rw [this] at hf; cases hf
    · rw [e] at h; simpa using h.symm
  rcases hr.inv_slice Try.underlying22 with ⟨rfl, e⟩ | ⟨sp, rfl, e⟩ | ⟨b, ds, sp, ass, rfl, hds, e, hb, h2, h3, h4⟩
  · exact ⟨none, [], hne e, (fun o ho => by cases ho), fun q => absurd rfl q, .inl ⟨rfl, rfl⟩⟩
  · exact ⟨some ⟨0, 0, some 0⟩, [], hne e, (fun o ho => by cases ho), fun q => absurd rfl q, .inr ⟨[], sp, rfl, rfl⟩⟩
  · obtain ⟨ops, rfl, hops⟩ := ops_rep ds ass h2 h3
    have hl : ops.length = ds.length := by simpa using h2
    refine ⟨some ⟨b, 0, none⟩, ops, by rw [hne e, hl], hops, fun _ => ⟨b, false, rfl, hget_lt hb rfl, hb⟩, .inr ⟨ds, sp, rfl, hl⟩⟩

theorem rel_nil {ρ : Nat → Place} (w : World) : Rel 0 ρ [] w := ⟨fun b o h => by simp at h, fun b c o u h => by simp at h, fun g h => absurd h (Nat.not_lt_zero _), Nat.le_refl _⟩

theorem rel_globs {ρ : Nat → Place} (w : World) : Rel T.G ρ [] w := by
  have : T.G = 0 := by unfold T; kernel_rfl
  rw [this]
  exact rel_nil w
end Go.Proofs.Yticgkaanaimllaa.Ev

/- The law TriePlays. -/
namespace Go.Proofs.Yticgkaanaimllaa.Ev
set_option maxRecDepth 100000
set_option linter.unusedSimpArgs false
set_option linter.unusedVariables false
variable {R : FRes → Heap → Prop} {H : Heap}

/-- Two tries side by side, above a place. -/
structure TwoR (K : Heap) (lim b xb b2 xb2 w : Nat) (m : Int) (t t2 : Tr) (sv sv2 : Value) : Prop where
  one : PR K b xb w m t sv
  two : PR K b2 xb2 w m t2 sv2
  dj : ∀ c, FP b xb t sv c → ¬ FP b2 xb2 t2 sv2 c
  lo1 : ∀ c, FP b xb t sv c → lim ≤ c
  lo2 : ∀ c, FP b2 xb2 t2 sv2 c → lim ≤ c

theorem TwoR.swap {K : Heap} {lim b xb b2 xb2 w : Nat} {m : Int} {t t2 : Tr} {sv sv2 : Value} (h : TwoR K lim b xb b2 xb2 w m t t2 sv sv2) : TwoR K lim b2 xb2 b xb w m t2 t sv2 sv :=
  ⟨h.two, h.one, fun c h1 h2 => h.dj c h2 h1, h.lo2, h.lo1⟩
theorem TwoR.app {K G : Heap} {lim b xb b2 xb2 w : Nat} {m : Int} {t t2 : Tr} {sv sv2 : Value} (h : TwoR K lim b xb b2 xb2 w m t t2 sv sv2) : TwoR (K ++ G) lim b xb b2 xb2 w m t t2 sv sv2 :=
  ⟨h.one.app, h.two.app, h.dj, h.lo1, h.lo2⟩
/-- The first one has changed. -/
theorem TwoR.step {K K2 : Heap} {lim b xb b2 xb2 w : Nat} {m : Int} {t t2 t' : Tr} {sv sv2 sv' : Value} (h : TwoR K lim b xb b2 xb2 w m t t2 sv sv2) (hl : lim ≤ K.length) (h2 : ∀ c, c < K.length → ¬ FP b xb t sv c → hget K2 c = hget K c) (h3 : PR K2 b xb w m t' sv')
    (h4 : ∀ c, FP b xb t' sv' c → FP b xb t sv c ∨ K.length ≤ c) : TwoR K2 lim b xb b2 xb2 w m t' t2 sv' sv2 := by
  obtain ⟨h5, h6, h7, h8, h9⟩ := h
  refine ⟨h3, h6.same fun c hc => h2 c (h6.lt hc) fun q => h7 c q hc, fun c h10 h11 => ?_, fun c hc => ?_, h9⟩
  · rcases h4 c h10 with q | q
    · exact h7 c q h11
    · have := h6.lt h11; omega
  · rcases h4 c hc with q | q
    · exact h8 c q
    · omega

def opsLie (K : Heap) (lim : Nat) (ad : Option Addr) (ops : List Opr) : Prop := OpSl K ad ops lim

def playI (lim w : Nat) (m : Int) (ad : Option Addr) (ops : List Opr) : Nat → Env → Heap → Prop := fun z e K =>
  ∃ (i b xb b2 xb2 : Nat) (t t2 : Tr) (sv sv2 : Value), i ≤ ops.length ∧ z = ops.length - i ∧ lim ≤ K.length ∧ TwoR K lim b xb b2 xb2 w m t t2 sv sv2 ∧ OpSl K ad ops lim ∧
    (∃ x : Nat → Value, e = [x 0, x 1, .slice ad ops.length ops.length, x 3, x 4, x 5, x 6, .bool true, .pointer (some ⟨b, 0, none⟩), x 9, .pointer (some ⟨xb, 0, none⟩), x 11, .pointer (some ⟨b2, 0, none⟩), x 13, .pointer (some ⟨xb2, 0, none⟩), x 15, .int .i64 (i : Int), x 17, x 18, x 19, x 20, x 21, x 22, x 23, x 24, x 25, x 26, x 27, x 28, x 29, x 30, x 31, x 32, x 33, x 34, x 35, x 36, x 37, x 38, x 39, x 40, x 41, x 42, x 43, x 44, x 45, x 46, x 47, x 48, x 49, x 50, x 51, x 52, x 53, x 54, x 55, x 56, x 57, x 58, x 59, x 60, x 61, x 62, x 63, x 64, x 65, x 66, x 67, x 68, x 69, x 70, x 71, x 72, x 73, x 74, x 75, x 76, x 77, x 78, x 79, x 80, x 81, x 82, x 83, x 84, x 85, x 86, x 87, x 88, x 89, x 90, x 91, x 92, x 93, x 94, x 95, x 96, x 97, x 98, x 99, x 100, x 101, x 102, x 103, x 104, x 105, x 106, x 107, x 108, x 109, x 110, x 111, x 112, x 113, x 114, x 115, x 116, x 117, x 118, x 119, x 120, x 121, x 122, x 123, x 124])

theorem OpSl.same {K K2 : Heap} {ad : Option Addr} {ops : List Opr} {lim : Nat} (h : OpSl K ad ops lim) (hs : ∀ c, c < lim → hget K2 c = hget K c) : OpSl K2 ad ops lim := fun q => by
  obtain ⟨bl, wr, h1, h2, h3⟩ := h q
  exact ⟨bl, wr, h1, h2, (hs bl h2).trans h3⟩

theorem clear_pr {K : Heap} {b xb w : Nat} {m : Int} {t : Tr} {sv : Value} (h : PR K b xb w m t sv) (h0 : 0 ≤ m) :
    PR ((K.set b (.row [.int .i64 (w : Int), .int .i64 m, .int .i64 0, .pointer none] 0 true)).set xb (.row [.int .i64 (w : Int), .int .i64 m, .slice none 0 0] 0 true)) b xb w m .nil (.slice none 0 0) := by
  have hne : b ≠ xb := fun e => h.apart (.inl rfl) (.inl e)
  have lb := h.lt (.inl (.inl rfl))
  have lx := h.lt (.inr (.inl rfl))
  refine ⟨⟨?_, by simp [Tr.blocks], trivial, trivial, by simp [Tr.blocks]⟩, trivial, trivial, ⟨?_, .inl ⟨rfl, rfl⟩⟩, h.m1, by simpa [Tr.er, PT.mem] using h0⟩
  · rw [hget_ne (Ne.symm hne), hget_set' lb]
    rfl
  · rw [hget_set' (by simpa using lx)]

set_option maxHeartbeats 1000000 in
theorem play_loop {lim w : Nat} {m : Int} {ad : Option Addr} {ops : List Opr} (hw : 1 ≤ w) (hw2 : w ≤ 128) (h0 : 0 ≤ m) (hops : ∀ o ∈ ops, OprOk o) (hlen : ops.length ≤ 4611686018427387904) {Q : Post}
    (hQ : ∀ e K b xb b2 xb2 t t2 sv sv2, TwoR K lim b xb b2 xb2 w m t t2 sv sv2 → (∃ x : Nat → Value, e = [x 0, x 1, x 2, x 3, x 4, x 5, x 6, .bool true, .pointer (some ⟨b, 0, none⟩), x 9, .pointer (some ⟨xb, 0, none⟩), x 11, .pointer (some ⟨b2, 0, none⟩), x 13, .pointer (some ⟨xb2, 0, none⟩), x 15, x 16, x 17, x 18, x 19, x 20, x 21, x 22, x 23, x 24, x 25, x 26, x 27, x 28, x 29, x 30, x 31, x 32, x 33, x 34, x 35, x 36, x 37, x 38, x 39, x 40, x 41, x 42, x 43, x 44, x 45, x 46, x 47, x 48, x 49, x 50, x 51, x 52, x 53, x 54, x 55, x 56, x 57, x 58, x 59, x 60, x 61, x 62, x 63, x 64, x 65, x 66, x 67, x 68, x 69, x 70, x 71, x 72, x 73, x 74, x 75, x 76, x 77, x 78, x 79, x 80, x 81, x 82, x 83, x 84, x 85, x 86, x 87, x 88, x 89, x 90, x 91, x 92, x 93, x 94, x 95, x 96, x 97, x 98, x 99, x 100, x 101, x 102, x 103, x 104, x 105, x 106, x 107, x 108, x 109, x 110, x 111, x 112, x 113, x 114, x 115, x 116, x 117, x 118, x 119, x 120, x 121, x 122, x 123, x 124]) → Q (.exit 0) e K)
    {z : Nat} {e : Env} {K : Heap} (hI : playI lim w m ad ops z e K) : WLoop T (g7.body.at [1, 1, 1, 1, 1, 1, 1, 1, 1, 0, 1, 0, 0]) e K Q := by
  refine WLoop.inv (playI lim w m ad ops) ?_ _ _ _ hI
  clear hI
  rintro z e K ⟨i, b, xb, b2, xb2, t, t2, sv, sv2, hi, rfl, hlim, hT, hsl, ⟨x, rfl⟩⟩
  simp only [AFunc.body, g7, ACode.at]
  by_cases hi2 : (i : Int) < (ops.length : Nat)
  case neg =>
    simp (disch := omega) only [kB, kcx, kdm, kdn, kel, aop, resultsL, resultOf, Nat.reduceEqDiff, reduceCtorEq, eq1, apartOK, apart2, AObj.live, Int.reduceEq, Int.reduceLT, Int.reduceLE, Int.reduceAdd, Int.reduceSub, Int.reduceMul, Int.reduceToNat, cutCells, Nat.reduceAdd, Nat.reduceLeDiff, Nat.reduceLT, Nat.reduceMul, Nat.reduceSub, hi2]
    exact hQ _ _ _ _ _ _ _ _ _ _ hT (by exact ex_env rfl)
  have hil : i < ops.length := by omega
  obtain ⟨bl, wr, rfl, hbl, hrow⟩ := hsl (fun q => by rw [q] at hil; simp at hil)
  have o1 := op_flat ops i hil
  have o3 := op_len ops
  obtain ⟨ho1, ho2, ho3, ho4, ho5, ho6, ho7⟩ := hops ops[i] (List.getElem_mem hil)
  generalize ops[i] = o at *
  have lbl := hget_lt hrow rfl
  have c0 : (0 : Int) ≤ (i : Int) := by omega
  simp only [opC] at o1
  simp (disch := omega) only [kB, kcx, kdm, kdn, kel, aop, resultsL, resultOf, Nat.reduceEqDiff, reduceCtorEq, eq1, apartOK, apart2, AObj.live, Int.reduceEq, Int.reduceLT, Int.reduceLE, Int.reduceAdd, Int.reduceSub, Int.reduceMul, Int.reduceToNat, cutCells, Nat.reduceAdd, Nat.reduceLeDiff, Nat.reduceLT, Nat.reduceMul, Nat.reduceSub, hi2, hrow, o1, o3, if_pos, c0, hil]
  refine rest_t ?_
  simp (disch := omega) only [kB, kcx, kdm, kdn, kel, aop, resultsL, resultOf, Nat.reduceEqDiff, reduceCtorEq, eq1, apartOK, apart2, AObj.live, Int.reduceEq, Int.reduceLT, Int.reduceLE, Int.reduceAdd, Int.reduceSub, Int.reduceMul, Int.reduceToNat, cutCells, Nat.reduceAdd, Nat.reduceLeDiff, Nat.reduceLT, Nat.reduceMul, Nat.reduceSub]
  obtain ⟨K1, hK1⟩ : ∃ K1, K1 = K ++ [.row (opC o) 0 true] := ⟨_, rfl⟩
  have hK1' := hK1.symm
  unfold opC at hK1'
  rw [hK1']
  have hop1 : hget K1 K.length = .row [.int .i64 o.k, .int .u64 ((o.a / W64 : Nat) : Int), .int .u64 ((o.a % W64 : Nat) : Int), .int .i64 o.n, .int .i64 o.v] 0 true := by rw [hK1, hget_last]; rfl
  have hT1 : TwoR K1 lim b xb b2 xb2 w m t t2 sv sv2 := by rw [hK1]; exact hT.app
  have hsl1 : OpSl K1 (some ⟨bl, 0, none⟩) ops lim := hsl.same fun c hc => by rw [hK1, hget_old (by omega)]
  have hlK1 : K1.length = K.length + 1 := by rw [hK1]; simp
  have hnop : ∀ c, FP b xb t sv c → c ≠ K.length := fun c hc => by have := hT.one.lt hc; omega
  clear hK1 hK1'
  refine play_t (o := o) hw hw2 ho1 hT1.one fun K2 t' sv' p1 p2 p3 p4 => ?_
  have hT2 : TwoR K2 lim b xb b2 xb2 w m t' t2 sv' sv2 := hT1.step (by omega) p2 p3 p4
  have hop2 : hget K2 K.length = .row [.int .i64 o.k, .int .u64 ((o.a / W64 : Nat) : Int), .int .u64 ((o.a % W64 : Nat) : Int), .int .i64 o.n, .int .i64 o.v] 0 true := by rw [p2 _ (by omega) fun q => hnop _ q rfl]; exact hop1
  have hsl2 : OpSl K2 (some ⟨bl, 0, none⟩) ops lim := hsl1.same fun c hc => p2 c (by omega) fun q => by have := hT1.lo1 c q; omega
  have hlim2 : lim ≤ K2.length := by omega
  have lop2 := hget_lt hop2 rfl
  generalize restI o.k = r
  clear p1 p2 p3 p4 hT hT1 hsl hsl1 hop1 hrow o1 o3 hnop
  have e12 : ∀ a : Int, binV .rem (.int .i64 a) (.int .i64 4) = some (.int .i64 (a.tmod 4)) := fun a => rfl
  have next : ∀ (K3 : Heap) (b xb b2 xb2 : Nat) (t t2 : Tr) (sv sv2 : Value) (e : Env), lim ≤ K3.length → TwoR K3 lim b xb b2 xb2 w m t t2 sv sv2 → OpSl K3 (some ⟨bl, 0, none⟩) ops lim →
      (∃ x : Nat → Value, e = [x 0, x 1, .slice (some ⟨bl, 0, none⟩) ops.length ops.length, x 3, x 4, x 5, x 6, .bool true, .pointer (some ⟨b, 0, none⟩), x 9, .pointer (some ⟨xb, 0, none⟩), x 11, .pointer (some ⟨b2, 0, none⟩), x 13, .pointer (some ⟨xb2, 0, none⟩), x 15, .int .i64 ((i + 1 : Nat) : Int), x 17, x 18, x 19, x 20, x 21, x 22, x 23, x 24, x 25, x 26, x 27, x 28, x 29, x 30, x 31, x 32, x 33, x 34, x 35, x 36, x 37, x 38, x 39, x 40, x 41, x 42, x 43, x 44, x 45, x 46, x 47, x 48, x 49, x 50, x 51, x 52, x 53, x 54, x 55, x 56, x 57, x 58, x 59, x 60, x 61, x 62, x 63, x 64, x 65, x 66, x 67, x 68, x 69, x 70, x 71, x 72, x 73, x 74, x 75, x 76, x 77, x 78, x 79, x 80, x 81, x 82, x 83, x 84, x 85, x 86, x 87, x 88, x 89, x 90, x 91, x 92, x 93, x 94, x 95, x 96, x 97, x 98, x 99, x 100, x 101, x 102, x 103, x 104, x 105, x 106, x 107, x 108, x 109, x 110, x 111, x 112, x 113, x 114, x 115, x 116, x 117, x 118, x 119, x 120, x 121, x 122, x 123, x 124]) →
      ∃ m1, m1 < ops.length - i ∧ playI lim w m (some ⟨bl, 0, none⟩) ops m1 e K3 := fun K3 b xb b2 xb2 t t2 sv sv2 e q1 q2 q3 q4 => ⟨ops.length - (i + 1), by omega, i + 1, b, xb, b2, xb2, t, t2, sv, sv2, by omega, rfl, q1, q2, q3, q4⟩
  by_cases r11 : r = 11
  · subst r11
    by_cases hv : o.v.tmod 4 = 0
    · have hxd := hT2.one.xr.hd
      have lx := hget_lt hxd rfl
      have lb := hT2.one.lt (.inl (.inl rfl))
      have hne : b ≠ xb := fun e => hT2.one.apart (.inl rfl) (.inl e)
      simp (disch := omega) only [kB, kcx, kdm, kdn, kel, aop, resultsL, resultOf, Nat.reduceEqDiff, reduceCtorEq, eq1, apartOK, apart2, AObj.live, Int.reduceEq, Int.reduceLT, Int.reduceLE, Int.reduceAdd, Int.reduceSub, Int.reduceMul, Int.reduceToNat, cutCells, Nat.reduceAdd, Nat.reduceLeDiff, Nat.reduceLT, Nat.reduceMul, Nat.reduceSub, hop2, e12, hv]
      refine clear_t hT2.one.ti.hd ?_
      have hxd2 : hget (K2.set b (.row [.int .i64 (w : Int), .int .i64 m, .int .i64 0, .pointer none] 0 true)) xb = .row [.int .i64 (w : Int), .int .i64 m, sv'] 0 true := by rw [hget_ne hne]; exact hxd
      simp (disch := omega) only [kB, kcx, kdm, kdn, kel, aop, resultsL, resultOf, Nat.reduceEqDiff, reduceCtorEq, eq1, apartOK, apart2, AObj.live, Int.reduceEq, Int.reduceLT, Int.reduceLE, Int.reduceAdd, Int.reduceSub, Int.reduceMul, Int.reduceToNat, cutCells, Nat.reduceAdd, Nat.reduceLeDiff, Nat.reduceLT, Nat.reduceMul, Nat.reduceSub, hxd2, wr_i64, nadd1]
      have hcl := clear_pr hT2.one h0
      have hfr : ∀ c, c ≠ b → c ≠ xb → hget ((K2.set b (.row [.int .i64 (w : Int), .int .i64 m, .int .i64 0, .pointer none] 0 true)).set xb (.row [.int .i64 (w : Int), .int .i64 m, .slice none 0 0] 0 true)) c = hget K2 c := fun c q1 q2 => by rw [hget_ne (Ne.symm q2), hget_ne (Ne.symm q1)]
      have hlb := hT2.lo1 b (.inl (.inl rfl))
      have hlx := hT2.lo1 xb (.inr (.inl rfl))
      exact next _ b xb b2 xb2 .nil t2 (.slice none 0 0) sv2 _ (by simpa using hlim2) (hT2.step hlim2 (fun c hc hn => hfr c (fun e => hn (.inl (.inl e))) (fun e => hn (.inr (.inl e)))) hcl (fun c hc => by
        rcases hc with (hc | hc) | (hc | hc)
        · exact .inl (.inl (.inl hc))
        · simp [Tr.blocks] at hc
        · exact .inl (.inr (.inl hc))
        · cases hc)) (hsl2.same fun c hc => hfr c (by omega) (by omega)) (ex_env rfl)
    · simp (disch := omega) only [kB, kcx, kdm, kdn, kel, aop, resultsL, resultOf, Nat.reduceEqDiff, reduceCtorEq, eq1, apartOK, apart2, AObj.live, Int.reduceEq, Int.reduceLT, Int.reduceLE, Int.reduceAdd, Int.reduceSub, Int.reduceMul, Int.reduceToNat, cutCells, Nat.reduceAdd, Nat.reduceLeDiff, Nat.reduceLT, Nat.reduceMul, Nat.reduceSub, hop2, e12, hv, wr_i64, nadd1]
      exact next _ b xb b2 xb2 t' t2 sv' sv2 _ hlim2 hT2 hsl2 (ex_env rfl)
  by_cases r9 : r = 9
  · subst r9
    simp (disch := omega) only [kB, kcx, kdm, kdn, kel, aop, resultsL, resultOf, Nat.reduceEqDiff, reduceCtorEq, eq1, apartOK, apart2, AObj.live, Int.reduceEq, Int.reduceLT, Int.reduceLE, Int.reduceAdd, Int.reduceSub, Int.reduceMul, Int.reduceToNat, cutCells, Nat.reduceAdd, Nat.reduceLeDiff, Nat.reduceLT, Nat.reduceMul, Nat.reduceSub, hop2, r11]
    refine copy_t hT2.one.ti fun tc K3 q1 q2 q3 q4 q5 => ?_
    have hX3 : XR K3 xb w m sv' (kl w t'.er) := hT2.one.xr.same (q2 _ (hT2.one.lt (.inr (.inl rfl)))) fun c hc => q2 c (hT2.one.lt (.inr (.inr hc)))
    simp (disch := omega) only [kB, kcx, kdm, kdn, kel, aop, resultsL, resultOf, Nat.reduceEqDiff, reduceCtorEq, eq1, apartOK, apart2, AObj.live, Int.reduceEq, Int.reduceLT, Int.reduceLE, Int.reduceAdd, Int.reduceSub, Int.reduceMul, Int.reduceToNat, cutCells, Nat.reduceAdd, Nat.reduceLeDiff, Nat.reduceLT, Nat.reduceMul, Nat.reduceSub]
    refine rcopy_t hX3 hT2.one.sz.2.2 fun K4 sc s1 s2 s3 s4 => ?_
    simp (disch := omega) only [kB, kcx, kdm, kdn, kel, aop, resultsL, resultOf, Nat.reduceEqDiff, reduceCtorEq, eq1, apartOK, apart2, AObj.live, Int.reduceEq, Int.reduceLT, Int.reduceLE, Int.reduceAdd, Int.reduceSub, Int.reduceMul, Int.reduceToNat, cutCells, Nat.reduceAdd, Nat.reduceLeDiff, Nat.reduceLT, Nat.reduceMul, Nat.reduceSub, eqP_sn, wr_i64, nadd1]
    have hfr : ∀ c, c < K2.length → hget K4 c = hget K2 c := fun c hc => (s2 c (by omega)).trans (q2 c hc)
    have hone : PR K4 b xb w m t' sv' := hT2.one.same fun c hc => hfr c (hT2.one.lt hc)
    have hTI4 : TI K4 (K3.length - 1) w m (tc.er.mem.length : Nat) tc := by
      rw [q4]
      exact q3.same fun c hc => s2 c (by
        rcases hc with rfl | hc
        · omega
        · exact q3.lies.lt c hc)
    have htwo : PR K4 (K3.length - 1) K3.length w m tc sc := ⟨hTI4, by rw [q4]; exact hT2.one.pw, by rw [q4]; exact hT2.one.ni, by rw [q4]; exact s3, hT2.one.m1, by rw [q4]; exact hT2.one.mx⟩
    have hfp : ∀ c, FP (K3.length - 1) K3.length tc sc c → K2.length ≤ c := fun c hc => by
      rcases hc with (hc | hc) | (hc | hc)
      · omega
      · exact q5 c hc
      · omega
      · have := s4 c hc; omega
    exact next _ b xb (K3.length - 1) K3.length t' tc sv' sc _ (by omega) ⟨hone, htwo, fun c h1 h2 => by have := hT2.one.lt h1; have := hfp c h2; omega, hT2.lo1, fun c hc => by have := hfp c hc; omega⟩ (hsl2.same fun c hc => hfr c (by omega)) (ex_env rfl)
  by_cases r10 : r = 10
  · subst r10
    simp (disch := omega) only [kB, kcx, kdm, kdn, kel, aop, resultsL, resultOf, Nat.reduceEqDiff, reduceCtorEq, eq1, apartOK, apart2, AObj.live, Int.reduceEq, Int.reduceLT, Int.reduceLE, Int.reduceAdd, Int.reduceSub, Int.reduceMul, Int.reduceToNat, cutCells, Nat.reduceAdd, Nat.reduceLeDiff, Nat.reduceLT, Nat.reduceMul, Nat.reduceSub, hop2, r11, r9, wr_i64, nadd1]
    exact next _ b2 xb2 b xb t2 t' sv2 sv' _ hlim2 hT2.swap hsl2 (ex_env rfl)
  · simp (disch := omega) only [kB, kcx, kdm, kdn, kel, aop, resultsL, resultOf, Nat.reduceEqDiff, reduceCtorEq, eq1, apartOK, apart2, AObj.live, Int.reduceEq, Int.reduceLT, Int.reduceLE, Int.reduceAdd, Int.reduceSub, Int.reduceMul, Int.reduceToNat, cutCells, Nat.reduceAdd, Nat.reduceLeDiff, Nat.reduceLT, Nat.reduceMul, Nat.reduceSub, hop2, r11, r9, r10, wr_i64, nadd1]
    exact next _ b xb b2 xb2 t' t2 sv' sv2 _ hlim2 hT2 hsl2 (ex_env rfl)

end Go.Proofs.Yticgkaanaimllaa.Ev
