/- Parts of the proof: Z4, Z5, Z6, Z7, Z8, Z9, Z10, Z11, Z2, Z12. Conditions: none. -/
import Derived.Test.YtpllhhaeclnngaaGreatCop3
/- Lists that are compared by the program: slices.EqualFunc. Printed by gen_z4.py. -/
namespace Go.Proofs.YtpllhhaeclnngaaGreat.Ev
set_option maxRecDepth 100000
set_option linter.unusedSimpArgs false
set_option linter.unusedVariables false
variable {R : FRes → Heap → Prop} {H K : Heap}

theorem Sta.OK.base {x : Sta} (h : x.OK H) (hb : Base H K) : x.OK K := ⟨h.1.base hb, h.2⟩

def eqfHI (K : Heap) (v1 v2 : Value) (l1 l2 : List Hdr) : Nat → Env → Heap → Prop := fun z e K' =>
  ∃ i : Nat, i ≤ l1.length ∧ z = l1.length - i ∧ Base K K' ∧ (∀ j (h1 : j < l1.length) (h2 : j < l2.length), j < i → l1[j].eqv l2[j] = true) ∧ (∃ x : Nat → Value, e = [x 0, v2, .func (.func 85) #[] #[], x 3, x 4, x 5, x 6, x 7, x 8, x 9, x 10, x 11, x 12, x 13, x 14, v1, .int .i64 (l1.length : Int), .int .i64 (i : Int), x 18, x 19, x 20, x 21, x 22, x 23, x 24, x 25, x 26, x 27, x 28, x 29, x 30, x 31])

set_option maxHeartbeats 1000000 in
theorem eqfH_s {v1 v2 : Value} {l1 l2 : List Hdr} (h1 : RoSl K v1 (l1.map Hdr.cells)) (n1 : few 40 l1.length) (k1 : ∀ x ∈ l1, x.OK K) (h2 : RoSl K v2 (l2.map Hdr.cells)) (k2 : ∀ x ∈ l2, x.OK K) (h : R (.ret (.bool (all2 Hdr.eqv l1 l2))) K) : WD T 84 [v1, v2, .func (.func 85) #[] #[]] K R := by
  unfold few at n1
  obtain ⟨ad1, rfl⟩ := h1.sl
  obtain ⟨ad2, rfl⟩ := h2.sl
  rw [List.length_map] at h1 h2 ⊢
  rw [List.length_map]
  refine WD.gc0 (WD.of follows t84 (by simp) ?_)
  by_cases hn : l1.length = l2.length
  · have c0 : decide ((l1.length : Int) = (l2.length : Int)) = true := decide_eq_true (by omega)
    simp (disch := omega) only [kB, kcx, kdm, kdn, kel, aop, resultsL, resultOf, Nat.reduceEqDiff, reduceCtorEq, eq1, apartOK, apart2, AObj.live, Int.reduceEq, Int.reduceLT, Int.reduceLE, Int.reduceAdd, Int.reduceSub, Int.reduceMul, Int.reduceToNat, cutCells, Nat.reduceAdd, Nat.reduceLeDiff, Nat.reduceLT, Nat.reduceMul, Nat.reduceSub, c0]
    refine WLoop.inv (eqfHI K (.slice ad1 l1.length l1.length) (.slice ad2 l2.length l2.length) l1 l2) ?_ l1.length _ _ ⟨0, Nat.zero_le _, by omega, Base.refl, fun j _ _ h0 => by omega, by exact ex_env rfl⟩
    rintro z e K' ⟨i, hi, rfl, bK, hq, ⟨x, rfl⟩⟩
    by_cases hlt : i < l1.length
    · have c1 : (i : Int) < (l1.length : Int) := by omega
      have c2 : (i : Int) < (l2.length : Int) := by omega
      obtain ⟨b, u0, w0, rfl, p1, p2, p3, p4, p5⟩ := h1.at Hdr.len hlt
      obtain ⟨b2, u2, w2', rfl, q1, q2, q3, q4, q5⟩ := h2.at Hdr.len (show i < l2.length by omega)
      have w2 : IntKind.i64.wrap ((i : Int) + 1) = ((i + 1 : Nat) : Int) := by rw [show (i : Int) + 1 = ((i + 1 : Nat) : Int) by omega]; exact wr_i64 (by omega) (by omega)
      have prow : hget K' b = .row (l1.map Hdr.cells).flatten u0 w0 := by rw [bK.2 b p1]; exact p2
      have qrow : hget K' b2 = .row (l2.map Hdr.cells).flatten u2 w2' := by rw [bK.2 b2 q1]; exact q2
      have lp := Nat.lt_of_lt_of_le p1 bK.1
      have lq := Nat.lt_of_lt_of_le q1 bK.1
      have hne : ¬ l1[i].eqv l2[i] = true → all2 Hdr.eqv l1 l2 = false := fun hd => by
        rw [← Bool.not_eq_true, all2_iff]
        exact fun q => hd (q.2 i hlt (by omega))
      have hq2 : l1[i].eqv l2[i] = true → ∀ j (h1 : j < l1.length) (h2 : j < l2.length), j < i + 1 → l1[j].eqv l2[j] = true := fun he j a b hj => by
        by_cases q : j = i
        · subst q; exact he
        · exact hq j a b (by omega)
      have ho1 := (k1 _ (List.getElem_mem hlt)).base (bK.app [])
      have ho2 := (k2 _ (List.getElem_mem (show i < l2.length by omega))).base (bK.app [])
      rw [List.append_nil] at ho1 ho2
      generalize l1[i] = x at *
      generalize l2[i] = y at *
      simp only [Hdr.cells] at p3 q3
      have o1 := ho1.one
      have o2 := ho2.one
      simp (disch := omega) only [kB, kcx, kdm, kdn, kel, aop, resultsL, resultOf, Nat.reduceEqDiff, reduceCtorEq, eq1, apartOK, apart2, AObj.live, Int.reduceEq, Int.reduceLT, Int.reduceLE, Int.reduceAdd, Int.reduceSub, Int.reduceMul, Int.reduceToNat, cutCells, Nat.reduceAdd, Nat.reduceLeDiff, Nat.reduceLT, Nat.reduceMul, Nat.reduceSub, c1, c2, prow, qrow, p3, p4, q3, q4, o1, o2]
      refine same1_s (x := x) (y := y) (ho1.base (Base.app0 _)) (ho2.base (Base.app0 _)) ?_
      by_cases he : x.eqv y = true
      · rw [he]
        simp (disch := omega) only [kB, kcx, kdm, kdn, kel, aop, resultsL, resultOf, Nat.reduceEqDiff, reduceCtorEq, eq1, apartOK, apart2, AObj.live, Int.reduceEq, Int.reduceLT, Int.reduceLE, Int.reduceAdd, Int.reduceSub, Int.reduceMul, Int.reduceToNat, cutCells, Nat.reduceAdd, Nat.reduceLeDiff, Nat.reduceLT, Nat.reduceMul, Nat.reduceSub, w2]
        exact ⟨l1.length - (i + 1), by omega, i + 1, by omega, rfl, bK.app _, hq2 he, by exact ex_env rfl⟩
      · rw [hne he] at h
        rw [Bool.not_eq_true] at he
        rw [he]
        simp (disch := omega) only [kB, kcx, kdm, kdn, kel, aop, resultsL, resultOf, Nat.reduceEqDiff, reduceCtorEq, eq1, apartOK, apart2, AObj.live, Int.reduceEq, Int.reduceLT, Int.reduceLE, Int.reduceAdd, Int.reduceSub, Int.reduceMul, Int.reduceToNat, cutCells, Nat.reduceAdd, Nat.reduceLeDiff, Nat.reduceLT, Nat.reduceMul, Nat.reduceSub]
        exact ⟨_, rfl, (bK.app _).ext, .bool, h⟩
    · have c1 : ¬ (i : Int) < (l1.length : Int) := by omega
      have he : all2 Hdr.eqv l1 l2 = true := all2_iff _ |>.2 ⟨hn, fun j a b => hq j a b (by omega)⟩
      rw [he] at h
      simp (disch := omega) only [kB, kcx, kdm, kdn, kel, aop, resultsL, resultOf, Nat.reduceEqDiff, reduceCtorEq, eq1, apartOK, apart2, AObj.live, Int.reduceEq, Int.reduceLT, Int.reduceLE, Int.reduceAdd, Int.reduceSub, Int.reduceMul, Int.reduceToNat, cutCells, Nat.reduceAdd, Nat.reduceLeDiff, Nat.reduceLT, Nat.reduceMul, Nat.reduceSub, c1]
      exact ⟨_, rfl, bK.ext, .bool, h⟩
  · have c0 : ¬ (l1.length : Int) = (l2.length : Int) := by omega
    have he : all2 Hdr.eqv l1 l2 = false := by
      rw [← Bool.not_eq_true, all2_iff]
      exact fun q => hn q.1
    rw [he] at h
    simp (disch := omega) only [kB, kcx, kdm, kdn, kel, aop, resultsL, resultOf, Nat.reduceEqDiff, reduceCtorEq, eq1, apartOK, apart2, AObj.live, Int.reduceEq, Int.reduceLT, Int.reduceLE, Int.reduceAdd, Int.reduceSub, Int.reduceMul, Int.reduceToNat, cutCells, Nat.reduceAdd, Nat.reduceLeDiff, Nat.reduceLT, Nat.reduceMul, Nat.reduceSub, c0]
    exact ⟨_, rfl, ⟨[], by simp⟩, .bool, h⟩

def eqfSI (K : Heap) (v1 v2 : Value) (l1 l2 : List Sta) : Nat → Env → Heap → Prop := fun z e K' =>
  ∃ i : Nat, i ≤ l1.length ∧ z = l1.length - i ∧ Base K K' ∧ (∀ j (h1 : j < l1.length) (h2 : j < l2.length), j < i → l1[j].eqv l2[j] = true) ∧ (∃ x : Nat → Value, e = [x 0, v2, .func (.func 87) #[] #[], x 3, x 4, x 5, x 6, x 7, x 8, x 9, x 10, x 11, x 12, x 13, x 14, v1, .int .i64 (l1.length : Int), .int .i64 (i : Int), x 18, x 19, x 20, x 21, x 22, x 23, x 24, x 25, x 26, x 27, x 28, x 29, x 30, x 31])

set_option maxHeartbeats 1000000 in
theorem eqfS_s {v1 v2 : Value} {l1 l2 : List Sta} (h1 : RoSl K v1 (l1.map Sta.cells)) (n1 : few 104 l1.length) (k1 : ∀ x ∈ l1, x.OK K) (h2 : RoSl K v2 (l2.map Sta.cells)) (k2 : ∀ x ∈ l2, x.OK K) (h : R (.ret (.bool (all2 Sta.eqv l1 l2))) K) : WD T 86 [v1, v2, .func (.func 87) #[] #[]] K R := by
  unfold few at n1
  obtain ⟨ad1, rfl⟩ := h1.sl
  obtain ⟨ad2, rfl⟩ := h2.sl
  rw [List.length_map] at h1 h2 ⊢
  rw [List.length_map]
  refine WD.gc0 (WD.of follows t86 (by simp) ?_)
  by_cases hn : l1.length = l2.length
  · have c0 : decide ((l1.length : Int) = (l2.length : Int)) = true := decide_eq_true (by omega)
    simp (disch := omega) only [kB, kcx, kdm, kdn, kel, aop, resultsL, resultOf, Nat.reduceEqDiff, reduceCtorEq, eq1, apartOK, apart2, AObj.live, Int.reduceEq, Int.reduceLT, Int.reduceLE, Int.reduceAdd, Int.reduceSub, Int.reduceMul, Int.reduceToNat, cutCells, Nat.reduceAdd, Nat.reduceLeDiff, Nat.reduceLT, Nat.reduceMul, Nat.reduceSub, c0]
    refine WLoop.inv (eqfSI K (.slice ad1 l1.length l1.length) (.slice ad2 l2.length l2.length) l1 l2) ?_ l1.length _ _ ⟨0, Nat.zero_le _, by omega, Base.refl, fun j _ _ h0 => by omega, by exact ex_env rfl⟩
    rintro z e K' ⟨i, hi, rfl, bK, hq, ⟨x, rfl⟩⟩
    by_cases hlt : i < l1.length
    · have c1 : (i : Int) < (l1.length : Int) := by omega
      have c2 : (i : Int) < (l2.length : Int) := by omega
      obtain ⟨b, u0, w0, rfl, p1, p2, p3, p4, p5⟩ := h1.at Sta.len hlt
      obtain ⟨b2, u2, w2', rfl, q1, q2, q3, q4, q5⟩ := h2.at Sta.len (show i < l2.length by omega)
      have w2 : IntKind.i64.wrap ((i : Int) + 1) = ((i + 1 : Nat) : Int) := by rw [show (i : Int) + 1 = ((i + 1 : Nat) : Int) by omega]; exact wr_i64 (by omega) (by omega)
      have prow : hget K' b = .row (l1.map Sta.cells).flatten u0 w0 := by rw [bK.2 b p1]; exact p2
      have qrow : hget K' b2 = .row (l2.map Sta.cells).flatten u2 w2' := by rw [bK.2 b2 q1]; exact q2
      have lp := Nat.lt_of_lt_of_le p1 bK.1
      have lq := Nat.lt_of_lt_of_le q1 bK.1
      have hne : ¬ l1[i].eqv l2[i] = true → all2 Sta.eqv l1 l2 = false := fun hd => by
        rw [← Bool.not_eq_true, all2_iff]
        exact fun q => hd (q.2 i hlt (by omega))
      have hq2 : l1[i].eqv l2[i] = true → ∀ j (h1 : j < l1.length) (h2 : j < l2.length), j < i + 1 → l1[j].eqv l2[j] = true := fun he j a b hj => by
        by_cases q : j = i
        · subst q; exact he
        · exact hq j a b (by omega)
      have ho1 := (k1 _ (List.getElem_mem hlt)).base (bK.app [])
      have ho2 := (k2 _ (List.getElem_mem (show i < l2.length by omega))).base (bK.app [])
      rw [List.append_nil] at ho1 ho2
      generalize l1[i] = x at *
      generalize l2[i] = y at *
      simp only [Sta.cells] at p3 q3
      have o1 := ho1.one
      have o2 := ho2.one
      simp (disch := omega) only [kB, kcx, kdm, kdn, kel, aop, resultsL, resultOf, Nat.reduceEqDiff, reduceCtorEq, eq1, apartOK, apart2, AObj.live, Int.reduceEq, Int.reduceLT, Int.reduceLE, Int.reduceAdd, Int.reduceSub, Int.reduceMul, Int.reduceToNat, cutCells, Nat.reduceAdd, Nat.reduceLeDiff, Nat.reduceLT, Nat.reduceMul, Nat.reduceSub, c1, c2, prow, qrow, p3, p4, q3, q4, o1, o2]
      refine same2_s (x := x) (y := y) (ho1.base (Base.app0 _)) (ho2.base (Base.app0 _)) ?_
      by_cases he : x.eqv y = true
      · rw [he]
        simp (disch := omega) only [kB, kcx, kdm, kdn, kel, aop, resultsL, resultOf, Nat.reduceEqDiff, reduceCtorEq, eq1, apartOK, apart2, AObj.live, Int.reduceEq, Int.reduceLT, Int.reduceLE, Int.reduceAdd, Int.reduceSub, Int.reduceMul, Int.reduceToNat, cutCells, Nat.reduceAdd, Nat.reduceLeDiff, Nat.reduceLT, Nat.reduceMul, Nat.reduceSub, w2]
        exact ⟨l1.length - (i + 1), by omega, i + 1, by omega, rfl, bK.app _, hq2 he, by exact ex_env rfl⟩
      · rw [hne he] at h
        rw [Bool.not_eq_true] at he
        rw [he]
        simp (disch := omega) only [kB, kcx, kdm, kdn, kel, aop, resultsL, resultOf, Nat.reduceEqDiff, reduceCtorEq, eq1, apartOK, apart2, AObj.live, Int.reduceEq, Int.reduceLT, Int.reduceLE, Int.reduceAdd, Int.reduceSub, Int.reduceMul, Int.reduceToNat, cutCells, Nat.reduceAdd, Nat.reduceLeDiff, Nat.reduceLT, Nat.reduceMul, Nat.reduceSub]
        exact ⟨_, rfl, (bK.app _).ext, .bool, h⟩
    · have c1 : ¬ (i : Int) < (l1.length : Int) := by omega
      have he : all2 Sta.eqv l1 l2 = true := all2_iff _ |>.2 ⟨hn, fun j a b => hq j a b (by omega)⟩
      rw [he] at h
      simp (disch := omega) only [kB, kcx, kdm, kdn, kel, aop, resultsL, resultOf, Nat.reduceEqDiff, reduceCtorEq, eq1, apartOK, apart2, AObj.live, Int.reduceEq, Int.reduceLT, Int.reduceLE, Int.reduceAdd, Int.reduceSub, Int.reduceMul, Int.reduceToNat, cutCells, Nat.reduceAdd, Nat.reduceLeDiff, Nat.reduceLT, Nat.reduceMul, Nat.reduceSub, c1]
      exact ⟨_, rfl, bK.ext, .bool, h⟩
  · have c0 : ¬ (l1.length : Int) = (l2.length : Int) := by omega
    have he : all2 Sta.eqv l1 l2 = false := by
      rw [← Bool.not_eq_true, all2_iff]
      exact fun q => hn q.1
    rw [he] at h
    simp (disch := omega) only [kB, kcx, kdm, kdn, kel, aop, resultsL, resultOf, Nat.reduceEqDiff, reduceCtorEq, eq1, apartOK, apart2, AObj.live, Int.reduceEq, Int.reduceLT, Int.reduceLE, Int.reduceAdd, Int.reduceSub, Int.reduceMul, Int.reduceToNat, cutCells, Nat.reduceAdd, Nat.reduceLeDiff, Nat.reduceLT, Nat.reduceMul, Nat.reduceSub, c0]
    exact ⟨_, rfl, ⟨[], by simp⟩, .bool, h⟩

def eqfAI (K : Heap) (v1 v2 : Value) (l1 l2 : List Act) : Nat → Env → Heap → Prop := fun z e K' =>
  ∃ i : Nat, i ≤ l1.length ∧ z = l1.length - i ∧ Base K K' ∧ (∀ j (h1 : j < l1.length) (h2 : j < l2.length), j < i → l1[j].eqv l2[j] = true) ∧ (∃ x : Nat → Value, e = [x 0, v2, .func (.func 90) #[] #[], x 3, x 4, x 5, x 6, x 7, x 8, x 9, x 10, x 11, x 12, x 13, x 14, v1, .int .i64 (l1.length : Int), .int .i64 (i : Int), x 18, x 19, x 20, x 21, x 22, x 23, x 24, x 25, x 26, x 27, x 28, x 29, x 30, x 31])

set_option maxHeartbeats 1000000 in
theorem eqfA_s {v1 v2 : Value} {l1 l2 : List Act} (h1 : RoSl K v1 (l1.map Act.cells)) (n1 : few 64 l1.length) (k1 : ∀ x ∈ l1, x.OK K) (h2 : RoSl K v2 (l2.map Act.cells)) (k2 : ∀ x ∈ l2, x.OK K) (h : R (.ret (.bool (all2 Act.eqv l1 l2))) K) : WD T 89 [v1, v2, .func (.func 90) #[] #[]] K R := by
  unfold few at n1
  obtain ⟨ad1, rfl⟩ := h1.sl
  obtain ⟨ad2, rfl⟩ := h2.sl
  rw [List.length_map] at h1 h2 ⊢
  rw [List.length_map]
  refine WD.gc0 (WD.of follows t89 (by simp) ?_)
  by_cases hn : l1.length = l2.length
  · have c0 : decide ((l1.length : Int) = (l2.length : Int)) = true := decide_eq_true (by omega)
    simp (disch := omega) only [kB, kcx, kdm, kdn, kel, aop, resultsL, resultOf, Nat.reduceEqDiff, reduceCtorEq, eq1, apartOK, apart2, AObj.live, Int.reduceEq, Int.reduceLT, Int.reduceLE, Int.reduceAdd, Int.reduceSub, Int.reduceMul, Int.reduceToNat, cutCells, Nat.reduceAdd, Nat.reduceLeDiff, Nat.reduceLT, Nat.reduceMul, Nat.reduceSub, c0]
    refine WLoop.inv (eqfAI K (.slice ad1 l1.length l1.length) (.slice ad2 l2.length l2.length) l1 l2) ?_ l1.length _ _ ⟨0, Nat.zero_le _, by omega, Base.refl, fun j _ _ h0 => by omega, by exact ex_env rfl⟩
    rintro z e K' ⟨i, hi, rfl, bK, hq, ⟨x, rfl⟩⟩
    by_cases hlt : i < l1.length
    · have c1 : (i : Int) < (l1.length : Int) := by omega
      have c2 : (i : Int) < (l2.length : Int) := by omega
      obtain ⟨b, u0, w0, rfl, p1, p2, p3, p4, p5⟩ := h1.at Act.len hlt
      obtain ⟨b2, u2, w2', rfl, q1, q2, q3, q4, q5⟩ := h2.at Act.len (show i < l2.length by omega)
      have w2 : IntKind.i64.wrap ((i : Int) + 1) = ((i + 1 : Nat) : Int) := by rw [show (i : Int) + 1 = ((i + 1 : Nat) : Int) by omega]; exact wr_i64 (by omega) (by omega)
      have prow : hget K' b = .row (l1.map Act.cells).flatten u0 w0 := by rw [bK.2 b p1]; exact p2
      have qrow : hget K' b2 = .row (l2.map Act.cells).flatten u2 w2' := by rw [bK.2 b2 q1]; exact q2
      have lp := Nat.lt_of_lt_of_le p1 bK.1
      have lq := Nat.lt_of_lt_of_le q1 bK.1
      have hne : ¬ l1[i].eqv l2[i] = true → all2 Act.eqv l1 l2 = false := fun hd => by
        rw [← Bool.not_eq_true, all2_iff]
        exact fun q => hd (q.2 i hlt (by omega))
      have hq2 : l1[i].eqv l2[i] = true → ∀ j (h1 : j < l1.length) (h2 : j < l2.length), j < i + 1 → l1[j].eqv l2[j] = true := fun he j a b hj => by
        by_cases q : j = i
        · subst q; exact he
        · exact hq j a b (by omega)
      have ho1 := (k1 _ (List.getElem_mem hlt)).base (bK.app [])
      have ho2 := (k2 _ (List.getElem_mem (show i < l2.length by omega))).base (bK.app [])
      rw [List.append_nil] at ho1 ho2
      generalize l1[i] = x at *
      generalize l2[i] = y at *
      simp only [Act.cells] at p3 q3
      obtain ⟨o1, o1'⟩ := ho1.one
      obtain ⟨o2, o2'⟩ := ho2.one
      simp (disch := omega) only [kB, kcx, kdm, kdn, kel, aop, resultsL, resultOf, Nat.reduceEqDiff, reduceCtorEq, eq1, apartOK, apart2, AObj.live, Int.reduceEq, Int.reduceLT, Int.reduceLE, Int.reduceAdd, Int.reduceSub, Int.reduceMul, Int.reduceToNat, cutCells, Nat.reduceAdd, Nat.reduceLeDiff, Nat.reduceLT, Nat.reduceMul, Nat.reduceSub, c1, c2, prow, qrow, p3, p4, q3, q4, o1, o1', o2, o2']
      refine same3_s (x := x) (y := y) (ho1.base (Base.app0 _)) (ho2.base (Base.app0 _)) ?_
      by_cases he : x.eqv y = true
      · rw [he]
        simp (disch := omega) only [kB, kcx, kdm, kdn, kel, aop, resultsL, resultOf, Nat.reduceEqDiff, reduceCtorEq, eq1, apartOK, apart2, AObj.live, Int.reduceEq, Int.reduceLT, Int.reduceLE, Int.reduceAdd, Int.reduceSub, Int.reduceMul, Int.reduceToNat, cutCells, Nat.reduceAdd, Nat.reduceLeDiff, Nat.reduceLT, Nat.reduceMul, Nat.reduceSub, w2]
        exact ⟨l1.length - (i + 1), by omega, i + 1, by omega, rfl, bK.app _, hq2 he, by exact ex_env rfl⟩
      · rw [hne he] at h
        rw [Bool.not_eq_true] at he
        rw [he]
        simp (disch := omega) only [kB, kcx, kdm, kdn, kel, aop, resultsL, resultOf, Nat.reduceEqDiff, reduceCtorEq, eq1, apartOK, apart2, AObj.live, Int.reduceEq, Int.reduceLT, Int.reduceLE, Int.reduceAdd, Int.reduceSub, Int.reduceMul, Int.reduceToNat, cutCells, Nat.reduceAdd, Nat.reduceLeDiff, Nat.reduceLT, Nat.reduceMul, Nat.reduceSub]
        exact ⟨_, rfl, (bK.app _).ext, .bool, h⟩
    · have c1 : ¬ (i : Int) < (l1.length : Int) := by omega
      have he : all2 Act.eqv l1 l2 = true := all2_iff _ |>.2 ⟨hn, fun j a b => hq j a b (by omega)⟩
      rw [he] at h
      simp (disch := omega) only [kB, kcx, kdm, kdn, kel, aop, resultsL, resultOf, Nat.reduceEqDiff, reduceCtorEq, eq1, apartOK, apart2, AObj.live, Int.reduceEq, Int.reduceLT, Int.reduceLE, Int.reduceAdd, Int.reduceSub, Int.reduceMul, Int.reduceToNat, cutCells, Nat.reduceAdd, Nat.reduceLeDiff, Nat.reduceLT, Nat.reduceMul, Nat.reduceSub, c1]
      exact ⟨_, rfl, bK.ext, .bool, h⟩
  · have c0 : ¬ (l1.length : Int) = (l2.length : Int) := by omega
    have he : all2 Act.eqv l1 l2 = false := by
      rw [← Bool.not_eq_true, all2_iff]
      exact fun q => hn q.1
    rw [he] at h
    simp (disch := omega) only [kB, kcx, kdm, kdn, kel, aop, resultsL, resultOf, Nat.reduceEqDiff, reduceCtorEq, eq1, apartOK, apart2, AObj.live, Int.reduceEq, Int.reduceLT, Int.reduceLE, Int.reduceAdd, Int.reduceSub, Int.reduceMul, Int.reduceToNat, cutCells, Nat.reduceAdd, Nat.reduceLeDiff, Nat.reduceLT, Nat.reduceMul, Nat.reduceSub, c0]
    exact ⟨_, rfl, ⟨[], by simp⟩, .bool, h⟩

def eqfTI (K : Heap) (v1 v2 : Value) (l1 l2 : List Tbl) : Nat → Env → Heap → Prop := fun z e K' =>
  ∃ i : Nat, i ≤ l1.length ∧ z = l1.length - i ∧ Base K K' ∧ (∀ j (h1 : j < l1.length) (h2 : j < l2.length), j < i → l1[j].eqv l2[j] = true) ∧ (∃ x : Nat → Value, e = [x 0, v2, .func (.func 93) #[] #[], x 3, x 4, x 5, x 6, x 7, x 8, x 9, x 10, x 11, x 12, x 13, x 14, v1, .int .i64 (l1.length : Int), .int .i64 (i : Int), x 18, x 19, x 20, x 21, x 22, x 23, x 24, x 25, x 26, x 27, x 28, x 29, x 30, x 31])

set_option maxHeartbeats 1000000 in
theorem eqfT_s {v1 v2 : Value} {l1 l2 : List Tbl} (h1 : RoSl K v1 (l1.map Tbl.cells)) (n1 : few 120 l1.length) (k1 : ∀ x ∈ l1, x.OK K) (h2 : RoSl K v2 (l2.map Tbl.cells)) (k2 : ∀ x ∈ l2, x.OK K) (h : R (.ret (.bool (all2 Tbl.eqv l1 l2))) K) : WD T 92 [v1, v2, .func (.func 93) #[] #[]] K R := by
  unfold few at n1
  obtain ⟨ad1, rfl⟩ := h1.sl
  obtain ⟨ad2, rfl⟩ := h2.sl
  rw [List.length_map] at h1 h2 ⊢
  rw [List.length_map]
  refine WD.gc0 (WD.of follows t92 (by simp) ?_)
  by_cases hn : l1.length = l2.length
  · have c0 : decide ((l1.length : Int) = (l2.length : Int)) = true := decide_eq_true (by omega)
    simp (disch := omega) only [kB, kcx, kdm, kdn, kel, aop, resultsL, resultOf, Nat.reduceEqDiff, reduceCtorEq, eq1, apartOK, apart2, AObj.live, Int.reduceEq, Int.reduceLT, Int.reduceLE, Int.reduceAdd, Int.reduceSub, Int.reduceMul, Int.reduceToNat, cutCells, Nat.reduceAdd, Nat.reduceLeDiff, Nat.reduceLT, Nat.reduceMul, Nat.reduceSub, c0]
    refine WLoop.inv (eqfTI K (.slice ad1 l1.length l1.length) (.slice ad2 l2.length l2.length) l1 l2) ?_ l1.length _ _ ⟨0, Nat.zero_le _, by omega, Base.refl, fun j _ _ h0 => by omega, by exact ex_env rfl⟩
    rintro z e K' ⟨i, hi, rfl, bK, hq, ⟨x, rfl⟩⟩
    by_cases hlt : i < l1.length
    · have c1 : (i : Int) < (l1.length : Int) := by omega
      have c2 : (i : Int) < (l2.length : Int) := by omega
      obtain ⟨b, u0, w0, rfl, p1, p2, p3, p4, p5⟩ := h1.at Tbl.len hlt
      obtain ⟨b2, u2, w2', rfl, q1, q2, q3, q4, q5⟩ := h2.at Tbl.len (show i < l2.length by omega)
      have w2 : IntKind.i64.wrap ((i : Int) + 1) = ((i + 1 : Nat) : Int) := by rw [show (i : Int) + 1 = ((i + 1 : Nat) : Int) by omega]; exact wr_i64 (by omega) (by omega)
      have prow : hget K' b = .row (l1.map Tbl.cells).flatten u0 w0 := by rw [bK.2 b p1]; exact p2
      have qrow : hget K' b2 = .row (l2.map Tbl.cells).flatten u2 w2' := by rw [bK.2 b2 q1]; exact q2
      have lp := Nat.lt_of_lt_of_le p1 bK.1
      have lq := Nat.lt_of_lt_of_le q1 bK.1
      have hne : ¬ l1[i].eqv l2[i] = true → all2 Tbl.eqv l1 l2 = false := fun hd => by
        rw [← Bool.not_eq_true, all2_iff]
        exact fun q => hd (q.2 i hlt (by omega))
      have hq2 : l1[i].eqv l2[i] = true → ∀ j (h1 : j < l1.length) (h2 : j < l2.length), j < i + 1 → l1[j].eqv l2[j] = true := fun he j a b hj => by
        by_cases q : j = i
        · subst q; exact he
        · exact hq j a b (by omega)
      have ho1 := (k1 _ (List.getElem_mem hlt)).base (bK.app [])
      have ho2 := (k2 _ (List.getElem_mem (show i < l2.length by omega))).base (bK.app [])
      rw [List.append_nil] at ho1 ho2
      generalize l1[i] = x at *
      generalize l2[i] = y at *
      simp only [Tbl.cells] at p3 q3
      obtain ⟨o1, o1', o1''⟩ := ho1.one
      obtain ⟨o2, o2', o2''⟩ := ho2.one
      simp (disch := omega) only [kB, kcx, kdm, kdn, kel, aop, resultsL, resultOf, Nat.reduceEqDiff, reduceCtorEq, eq1, apartOK, apart2, AObj.live, Int.reduceEq, Int.reduceLT, Int.reduceLE, Int.reduceAdd, Int.reduceSub, Int.reduceMul, Int.reduceToNat, cutCells, Nat.reduceAdd, Nat.reduceLeDiff, Nat.reduceLT, Nat.reduceMul, Nat.reduceSub, c1, c2, prow, qrow, p3, p4, q3, q4, o1, o1', o1'', o2, o2', o2'']
      refine same4_s (x := x) (y := y) (ho1.base (Base.app0 _)) (ho2.base (Base.app0 _)) ?_
      by_cases he : x.eqv y = true
      · rw [he]
        simp (disch := omega) only [kB, kcx, kdm, kdn, kel, aop, resultsL, resultOf, Nat.reduceEqDiff, reduceCtorEq, eq1, apartOK, apart2, AObj.live, Int.reduceEq, Int.reduceLT, Int.reduceLE, Int.reduceAdd, Int.reduceSub, Int.reduceMul, Int.reduceToNat, cutCells, Nat.reduceAdd, Nat.reduceLeDiff, Nat.reduceLT, Nat.reduceMul, Nat.reduceSub, w2]
        exact ⟨l1.length - (i + 1), by omega, i + 1, by omega, rfl, bK.app _, hq2 he, by exact ex_env rfl⟩
      · rw [hne he] at h
        rw [Bool.not_eq_true] at he
        rw [he]
        simp (disch := omega) only [kB, kcx, kdm, kdn, kel, aop, resultsL, resultOf, Nat.reduceEqDiff, reduceCtorEq, eq1, apartOK, apart2, AObj.live, Int.reduceEq, Int.reduceLT, Int.reduceLE, Int.reduceAdd, Int.reduceSub, Int.reduceMul, Int.reduceToNat, cutCells, Nat.reduceAdd, Nat.reduceLeDiff, Nat.reduceLT, Nat.reduceMul, Nat.reduceSub]
        exact ⟨_, rfl, (bK.app _).ext, .bool, h⟩
    · have c1 : ¬ (i : Int) < (l1.length : Int) := by omega
      have he : all2 Tbl.eqv l1 l2 = true := all2_iff _ |>.2 ⟨hn, fun j a b => hq j a b (by omega)⟩
      rw [he] at h
      simp (disch := omega) only [kB, kcx, kdm, kdn, kel, aop, resultsL, resultOf, Nat.reduceEqDiff, reduceCtorEq, eq1, apartOK, apart2, AObj.live, Int.reduceEq, Int.reduceLT, Int.reduceLE, Int.reduceAdd, Int.reduceSub, Int.reduceMul, Int.reduceToNat, cutCells, Nat.reduceAdd, Nat.reduceLeDiff, Nat.reduceLT, Nat.reduceMul, Nat.reduceSub, c1]
      exact ⟨_, rfl, bK.ext, .bool, h⟩
  · have c0 : ¬ (l1.length : Int) = (l2.length : Int) := by omega
    have he : all2 Tbl.eqv l1 l2 = false := by
      rw [← Bool.not_eq_true, all2_iff]
      exact fun q => hn q.1
    rw [he] at h
    simp (disch := omega) only [kB, kcx, kdm, kdn, kel, aop, resultsL, resultOf, Nat.reduceEqDiff, reduceCtorEq, eq1, apartOK, apart2, AObj.live, Int.reduceEq, Int.reduceLT, Int.reduceLE, Int.reduceAdd, Int.reduceSub, Int.reduceMul, Int.reduceToNat, cutCells, Nat.reduceAdd, Nat.reduceLeDiff, Nat.reduceLT, Nat.reduceMul, Nat.reduceSub, c0]
    exact ⟨_, rfl, ⟨[], by simp⟩, .bool, h⟩

end Go.Proofs.YtpllhhaeclnngaaGreat.Ev

/- The document's comparisons of headers, actions, tables, states: any two. Printed by gen_z5.py. -/
namespace Go.Proofs.YtpllhhaeclnngaaGreat.Ev
set_option maxRecDepth 100000
set_option linter.unusedSimpArgs false
set_option linter.unusedVariables false
variable {R : FRes → Heap → Prop} {H K : Heap}

theorem eqHdr_s {x y : Hdr} (hx : x.OK K) (hy : y.OK K) (h : R (.ret (.bool (x.eqv y))) K) : WD T 38 [.agg x.cells.toArray, .agg y.cells.toArray] K R := by
  refine WD.gc0 (WD.of follows t38 (by simp) ?_)
  have o1 := hx.one
  have o2 := hy.one
  simp only [Hdr.cells]
  simp (disch := omega) only [kB, kcx, kdm, kdn, kel, aop, resultsL, resultOf, Nat.reduceEqDiff, reduceCtorEq, eq1, apartOK, apart2, AObj.live, Int.reduceEq, Int.reduceLT, Int.reduceLE, Int.reduceAdd, Int.reduceSub, Int.reduceMul, Int.reduceToNat, cutCells, Nat.reduceAdd, Nat.reduceLeDiff, Nat.reduceLT, Nat.reduceMul, Nat.reduceSub, o1, o2]
  refine eqFields_s (hx.1.base (Base.app0 _)) hx.2.1 (hy.1.base (Base.app0 _)) ?_
  by_cases c1 : x.name = y.name
  · have e : x.eqv y = decide (x.fields = y.fields) := by simp [Hdr.eqv, c1]
    rw [e] at h
    simp (disch := omega) only [kB, kcx, kdm, kdn, kel, aop, resultsL, resultOf, Nat.reduceEqDiff, reduceCtorEq, eq1, apartOK, apart2, AObj.live, Int.reduceEq, Int.reduceLT, Int.reduceLE, Int.reduceAdd, Int.reduceSub, Int.reduceMul, Int.reduceToNat, cutCells, Nat.reduceAdd, Nat.reduceLeDiff, Nat.reduceLT, Nat.reduceMul, Nat.reduceSub, decide_eq_true c1]
    exact ⟨_, rfl, ⟨_, rfl⟩, .bool, h⟩
  · have e : x.eqv y = false := by simp [Hdr.eqv, c1]
    rw [e] at h
    simp (disch := omega) only [kB, kcx, kdm, kdn, kel, aop, resultsL, resultOf, Nat.reduceEqDiff, reduceCtorEq, eq1, apartOK, apart2, AObj.live, Int.reduceEq, Int.reduceLT, Int.reduceLE, Int.reduceAdd, Int.reduceSub, Int.reduceMul, Int.reduceToNat, cutCells, Nat.reduceAdd, Nat.reduceLeDiff, Nat.reduceLT, Nat.reduceMul, Nat.reduceSub, decide_eq_false c1]
    exact ⟨_, rfl, ⟨_, rfl⟩, .bool, h⟩

theorem eqCl_s {a b : List UInt8} {v1 v2 : Value} {l m : List Bt} (h1 : BtL K v1 l) (h2 : BtL K v2 m) (h : R (.ret (.bool (decide (a = b) && decide (l = m)))) K) : WD T 119 [.agg #[.string (bs a), v1], .agg #[.string (bs b), v2]] K R := by
  refine WD.gc0 (WD.of follows t119 (by simp) ?_)
  have o1 := h1.1.one
  have o2 := h2.1.one
  simp (disch := omega) only [kB, kcx, kdm, kdn, kel, aop, resultsL, resultOf, Nat.reduceEqDiff, reduceCtorEq, eq1, apartOK, apart2, AObj.live, Int.reduceEq, Int.reduceLT, Int.reduceLE, Int.reduceAdd, Int.reduceSub, Int.reduceMul, Int.reduceToNat, cutCells, Nat.reduceAdd, Nat.reduceLeDiff, Nat.reduceLT, Nat.reduceMul, Nat.reduceSub, o1, o2]
  refine eqBits_s (h1.1.base (Base.app0 _)) h1.2.1 (h2.1.base (Base.app0 _)) ?_
  by_cases c1 : a = b
  · rw [decide_eq_true c1, Bool.true_and] at h
    simp (disch := omega) only [kB, kcx, kdm, kdn, kel, aop, resultsL, resultOf, Nat.reduceEqDiff, reduceCtorEq, eq1, apartOK, apart2, AObj.live, Int.reduceEq, Int.reduceLT, Int.reduceLE, Int.reduceAdd, Int.reduceSub, Int.reduceMul, Int.reduceToNat, cutCells, Nat.reduceAdd, Nat.reduceLeDiff, Nat.reduceLT, Nat.reduceMul, Nat.reduceSub, decide_eq_true c1]
    exact ⟨_, rfl, ⟨_, rfl⟩, .bool, h⟩
  · rw [decide_eq_false c1, Bool.false_and] at h
    simp (disch := omega) only [kB, kcx, kdm, kdn, kel, aop, resultsL, resultOf, Nat.reduceEqDiff, reduceCtorEq, eq1, apartOK, apart2, AObj.live, Int.reduceEq, Int.reduceLT, Int.reduceLE, Int.reduceAdd, Int.reduceSub, Int.reduceMul, Int.reduceToNat, cutCells, Nat.reduceAdd, Nat.reduceLeDiff, Nat.reduceLT, Nat.reduceMul, Nat.reduceSub, decide_eq_false c1]
    exact ⟨_, rfl, ⟨_, rfl⟩, .bool, h⟩

def eqStpI (K : Heap) (bx by' : Nat) (l m : List Stp) : Nat → Env → Heap → Prop := fun z e K' =>
  ∃ i : Nat, i ≤ l.length ∧ z = l.length - i ∧ K' = K ∧ (∀ j (h1 : j < l.length) (h2 : j < m.length), j < i → l[j] = m[j]) ∧ (∃ x : Nat → Value, e = [x 0, x 1, .pointer (some ⟨bx, 0, none⟩), .pointer (some ⟨by', 0, none⟩), x 4, x 5, .int .i64 (i : Int), x 7, x 8, x 9, x 10, x 11, x 12, x 13, x 14, x 15, x 16, x 17, x 18, x 19, x 20, x 21, x 22, x 23, x 24, x 25, x 26, x 27, x 28, x 29, x 30, x 31, x 32, x 33, x 34, x 35, x 36, x 37, x 38, x 39, x 40, x 41, x 42, x 43, x 44, x 45, x 46, x 47])

set_option maxHeartbeats 2000000 in
theorem eqAct_s {x y : Act} (hx : x.OK K) (hy : y.OK K) (h : R (.ret (.bool (x.eqv y))) K) : WD T 39 [.agg x.cells.toArray, .agg y.cells.toArray] K R := by
  refine WD.gc0 (WD.of follows t39 (by simp) ?_)
  obtain ⟨o1, o2⟩ := hx.one
  obtain ⟨o3, o4⟩ := hy.one
  simp only [Act.cells]
  obtain ⟨hx1, sx, nx, _⟩ := hx
  obtain ⟨hy1, sy, ny, _⟩ := hy
  obtain ⟨adx, ex⟩ := sx.sl
  obtain ⟨ady, ey⟩ := sy.sl
  rw [List.length_map] at ex ey
  rw [ex] at sx o2 ⊢
  rw [ey] at sy o4 ⊢
  unfold few at nx
  have hv0 : x.eqv y = decide (x.name = y.name ∧ x.params = y.params ∧ x.steps = y.steps) := rfl
  generalize x.steps = l at *
  generalize y.steps = m at *
  generalize x.eqv y = V at *
  simp (disch := omega) only [kB, kcx, kdm, kdn, kel, aop, resultsL, resultOf, Nat.reduceEqDiff, reduceCtorEq, eq1, apartOK, apart2, AObj.live, Int.reduceEq, Int.reduceLT, Int.reduceLE, Int.reduceAdd, Int.reduceSub, Int.reduceMul, Int.reduceToNat, cutCells, Nat.reduceAdd, Nat.reduceLeDiff, Nat.reduceLT, Nat.reduceMul, Nat.reduceSub, o1, o2, o3, o4]
  refine eqFields_s (hx1.1.base (Base.app0 _)) hx1.2.1 (hy1.1.base (Base.app0 _)) ?_
  by_cases d1 : x.params = y.params
  · by_cases d2 : x.name = y.name
    · by_cases hn : l.length = m.length
      · have c0 : decide ((l.length : Int) = (m.length : Int)) = true := decide_eq_true (by omega)
        have hev : V = decide (l = m) := by rw [hv0]; simp [d1, d2]
        rw [decide_eq_true d1]
        simp (disch := omega) only [kB, kcx, kdm, kdn, kel, aop, resultsL, resultOf, Nat.reduceEqDiff, reduceCtorEq, eq1, apartOK, apart2, AObj.live, Int.reduceEq, Int.reduceLT, Int.reduceLE, Int.reduceAdd, Int.reduceSub, Int.reduceMul, Int.reduceToNat, cutCells, Nat.reduceAdd, Nat.reduceLeDiff, Nat.reduceLT, Nat.reduceMul, Nat.reduceSub, decide_eq_true d2, c0]
        refine WLoop.inv (eqStpI (K ++ [_, _]) K.length (K.length + 1) l m) ?_ l.length _ _ ⟨0, Nat.zero_le _, by omega, rfl, fun j _ _ h0 => by omega, by exact ex_env rfl⟩
        rintro z e K' ⟨i, hi, rfl, rfl, hq, ⟨x, rfl⟩⟩
        by_cases hlt : i < l.length
        · have c1 : (i : Int) < (l.length : Int) := by omega
          have c2 : (i : Int) < (m.length : Int) := by omega
          obtain ⟨b, u0, w0, rfl, p1, p2, p3, p4, p5⟩ := sx.at Stp.len hlt
          obtain ⟨b2, u2, w2', rfl, q1, q2, q3, q4, q5⟩ := sy.at Stp.len (show i < m.length by omega)
          have w2 : IntKind.i64.wrap ((i : Int) + 1) = ((i + 1 : Nat) : Int) := by rw [show (i : Int) + 1 = ((i + 1 : Nat) : Int) by omega]; exact wr_i64 (by omega) (by omega)
          have hne : l[i] ≠ m[i] → ¬ l = m := fun hd e => hd (by simp only [e])
          have hq2 : l[i] = m[i] → ∀ j (h1 : j < l.length) (h2 : j < m.length), j < i + 1 → l[j] = m[j] := fun he j a b hj => by
            by_cases q : j = i
            · subst q; exact he
            · exact hq j a b (by omega)
          generalize l[i] = z at *
          generalize m[i] = w at *
          simp only [Stp.cells] at p3 q3
          have heq := Stp.eqs z w
          by_cases he : z = w
          · simp (disch := omega) only [kB, kcx, kdm, kdn, kel, aop, resultsL, resultOf, Nat.reduceEqDiff, reduceCtorEq, eq1, apartOK, apart2, AObj.live, Int.reduceEq, Int.reduceLT, Int.reduceLE, Int.reduceAdd, Int.reduceSub, Int.reduceMul, Int.reduceToNat, cutCells, Nat.reduceAdd, Nat.reduceLeDiff, Nat.reduceLT, Nat.reduceMul, Nat.reduceSub, c1, c2, p2, q2, p3, p4, q3, q4, heq, decide_eq_true he, w2]
            exact ⟨l.length - (i + 1), by omega, i + 1, by omega, rfl, rfl, hq2 he, by exact ex_env rfl⟩
          · rw [hev, decide_eq_false (hne he)] at h
            simp (disch := omega) only [kB, kcx, kdm, kdn, kel, aop, resultsL, resultOf, Nat.reduceEqDiff, reduceCtorEq, eq1, apartOK, apart2, AObj.live, Int.reduceEq, Int.reduceLT, Int.reduceLE, Int.reduceAdd, Int.reduceSub, Int.reduceMul, Int.reduceToNat, cutCells, Nat.reduceAdd, Nat.reduceLeDiff, Nat.reduceLT, Nat.reduceMul, Nat.reduceSub, c1, c2, p2, q2, p3, p4, q3, q4, heq, decide_eq_false he]
            exact ⟨_, rfl, ⟨_, rfl⟩, .bool, h⟩
        · have c1 : ¬ (i : Int) < (l.length : Int) := by omega
          have he : l = m := List.ext_getElem hn fun j a b => hq j a b (by omega)
          rw [hev, decide_eq_true he] at h
          simp (disch := omega) only [kB, kcx, kdm, kdn, kel, aop, resultsL, resultOf, Nat.reduceEqDiff, reduceCtorEq, eq1, apartOK, apart2, AObj.live, Int.reduceEq, Int.reduceLT, Int.reduceLE, Int.reduceAdd, Int.reduceSub, Int.reduceMul, Int.reduceToNat, cutCells, Nat.reduceAdd, Nat.reduceLeDiff, Nat.reduceLT, Nat.reduceMul, Nat.reduceSub, c1]
          exact ⟨_, rfl, ⟨_, rfl⟩, .bool, h⟩
      · have c0 : ¬ (l.length : Int) = (m.length : Int) := by omega
        have hev : V = false := by rw [hv0]; exact decide_eq_false fun q => hn (by rw [q.2.2])
        rw [hev] at h
        rw [decide_eq_true d1]
        simp (disch := omega) only [kB, kcx, kdm, kdn, kel, aop, resultsL, resultOf, Nat.reduceEqDiff, reduceCtorEq, eq1, apartOK, apart2, AObj.live, Int.reduceEq, Int.reduceLT, Int.reduceLE, Int.reduceAdd, Int.reduceSub, Int.reduceMul, Int.reduceToNat, cutCells, Nat.reduceAdd, Nat.reduceLeDiff, Nat.reduceLT, Nat.reduceMul, Nat.reduceSub, decide_eq_true d2, c0]
        exact ⟨_, rfl, ⟨_, rfl⟩, .bool, h⟩
    · have hev : V = false := by rw [hv0]; exact decide_eq_false fun q => d2 q.1
      rw [hev] at h
      rw [decide_eq_true d1]
      simp (disch := omega) only [kB, kcx, kdm, kdn, kel, aop, resultsL, resultOf, Nat.reduceEqDiff, reduceCtorEq, eq1, apartOK, apart2, AObj.live, Int.reduceEq, Int.reduceLT, Int.reduceLE, Int.reduceAdd, Int.reduceSub, Int.reduceMul, Int.reduceToNat, cutCells, Nat.reduceAdd, Nat.reduceLeDiff, Nat.reduceLT, Nat.reduceMul, Nat.reduceSub, decide_eq_false d2]
      exact ⟨_, rfl, ⟨_, rfl⟩, .bool, h⟩
  · have hev : V = false := by rw [hv0]; exact decide_eq_false fun q => d1 q.2.1
    rw [hev] at h
    rw [decide_eq_false d1]
    simp (disch := omega) only [kB, kcx, kdm, kdn, kel, aop, resultsL, resultOf, Nat.reduceEqDiff, reduceCtorEq, eq1, apartOK, apart2, AObj.live, Int.reduceEq, Int.reduceLT, Int.reduceLE, Int.reduceAdd, Int.reduceSub, Int.reduceMul, Int.reduceToNat, cutCells, Nat.reduceAdd, Nat.reduceLeDiff, Nat.reduceLT, Nat.reduceMul, Nat.reduceSub]
    exact ⟨_, rfl, ⟨_, rfl⟩, .bool, h⟩

def eqCasI (K : Heap) (bx by' : Nat) (l m : List Cas) : Nat → Env → Heap → Prop := fun z e K' =>
  ∃ i : Nat, i ≤ l.length ∧ z = l.length - i ∧ K' = K ∧ (∀ j (h1 : j < l.length) (h2 : j < m.length), j < i → l[j] = m[j]) ∧ (∃ x : Nat → Value, e = [x 0, x 1, .pointer (some ⟨bx, 0, none⟩), .pointer (some ⟨by', 0, none⟩), x 4, .int .i64 (i : Int), x 6, x 7, x 8, x 9, x 10, x 11, x 12, x 13, x 14, x 15, x 16, x 17, x 18, x 19, x 20, x 21, x 22, x 23, x 24, x 25, x 26, x 27, x 28, x 29, x 30, x 31, x 32, x 33, x 34, x 35, x 36, x 37, x 38, x 39, x 40, x 41, x 42, x 43, x 44, x 45, x 46, x 47, x 48, x 49, x 50, x 51, x 52, x 53, x 54, x 55, x 56, x 57, x 58])

set_option maxHeartbeats 2000000 in
theorem eqSta_s {x y : Sta} (hx : x.OK K) (hy : y.OK K) (h : R (.ret (.bool (x.eqv y))) K) : WD T 81 [.agg x.cells.toArray, .agg y.cells.toArray] K R := by
  refine WD.gc0 (WD.of follows t81 (by simp) ?_)
  have o1 := hx.one
  have o2 := hy.one
  simp only [Sta.cells]
  obtain ⟨sx, nx, _⟩ := hx
  obtain ⟨sy, ny, _⟩ := hy
  obtain ⟨adx, ex⟩ := sx.sl
  obtain ⟨ady, ey⟩ := sy.sl
  rw [List.length_map] at ex ey
  rw [ex] at sx o1 ⊢
  rw [ey] at sy o2 ⊢
  unfold few at nx
  have hv0 : x.eqv y = decide (x.name = y.name ∧ x.header = y.header ∧ x.on = y.on ∧ x.next = y.next ∧ x.cases = y.cases) := rfl
  have hon := Rf.eqs x.on y.on
  generalize x.cases = l at *
  generalize y.cases = m at *
  generalize x.eqv y = V at *
  by_cases d1 : x.name = y.name
  · by_cases d2 : x.header = y.header
    · by_cases d3 : x.on = y.on
      · by_cases d4 : x.next = y.next
        · by_cases hn : l.length = m.length
          · have c0 : decide ((l.length : Int) = (m.length : Int)) = true := decide_eq_true (by omega)
            have hev : V = decide (l = m) := by rw [hv0]; simp [d1, d2, d3, d4]
            simp (disch := omega) only [kB, kcx, kdm, kdn, kel, aop, resultsL, resultOf, Nat.reduceEqDiff, reduceCtorEq, eq1, apartOK, apart2, AObj.live, Int.reduceEq, Int.reduceLT, Int.reduceLE, Int.reduceAdd, Int.reduceSub, Int.reduceMul, Int.reduceToNat, cutCells, Nat.reduceAdd, Nat.reduceLeDiff, Nat.reduceLT, Nat.reduceMul, Nat.reduceSub, o1, o2, decide_eq_true d1, decide_eq_true d2, hon, decide_eq_true d3, decide_eq_true d4, c0]
            refine WLoop.inv (eqCasI (K ++ [_, _]) K.length (K.length + 1) l m) ?_ l.length _ _ ⟨0, Nat.zero_le _, by omega, rfl, fun j _ _ h0 => by omega, by exact ex_env rfl⟩
            rintro z e K' ⟨i, hi, rfl, rfl, hq, ⟨x, rfl⟩⟩
            by_cases hlt : i < l.length
            · have c1 : (i : Int) < (l.length : Int) := by omega
              have c2 : (i : Int) < (m.length : Int) := by omega
              obtain ⟨b, u0, w0, rfl, p1, p2, p3, p4, p5⟩ := sx.at Cas.len hlt
              obtain ⟨b2, u2, w2', rfl, q1, q2, q3, q4, q5⟩ := sy.at Cas.len (show i < m.length by omega)
              have w2 : IntKind.i64.wrap ((i : Int) + 1) = ((i + 1 : Nat) : Int) := by rw [show (i : Int) + 1 = ((i + 1 : Nat) : Int) by omega]; exact wr_i64 (by omega) (by omega)
              have hne : l[i] ≠ m[i] → ¬ l = m := fun hd e => hd (by simp only [e])
              have hq2 : l[i] = m[i] → ∀ j (h1 : j < l.length) (h2 : j < m.length), j < i + 1 → l[j] = m[j] := fun he j a b hj => by
                by_cases q : j = i
                · subst q; exact he
                · exact hq j a b (by omega)
              generalize l[i] = z at *
              generalize m[i] = w at *
              simp only [Cas.cells] at p3 q3
              have heq := Cas.eqs z w
              by_cases he : z = w
              · simp (disch := omega) only [kB, kcx, kdm, kdn, kel, aop, resultsL, resultOf, Nat.reduceEqDiff, reduceCtorEq, eq1, apartOK, apart2, AObj.live, Int.reduceEq, Int.reduceLT, Int.reduceLE, Int.reduceAdd, Int.reduceSub, Int.reduceMul, Int.reduceToNat, cutCells, Nat.reduceAdd, Nat.reduceLeDiff, Nat.reduceLT, Nat.reduceMul, Nat.reduceSub, c1, c2, p2, q2, p3, p4, q3, q4, heq, decide_eq_true he, w2]
                exact ⟨l.length - (i + 1), by omega, i + 1, by omega, rfl, rfl, hq2 he, by exact ex_env rfl⟩
              · rw [hev, decide_eq_false (hne he)] at h
                simp (disch := omega) only [kB, kcx, kdm, kdn, kel, aop, resultsL, resultOf, Nat.reduceEqDiff, reduceCtorEq, eq1, apartOK, apart2, AObj.live, Int.reduceEq, Int.reduceLT, Int.reduceLE, Int.reduceAdd, Int.reduceSub, Int.reduceMul, Int.reduceToNat, cutCells, Nat.reduceAdd, Nat.reduceLeDiff, Nat.reduceLT, Nat.reduceMul, Nat.reduceSub, c1, c2, p2, q2, p3, p4, q3, q4, heq, decide_eq_false he]
                exact ⟨_, rfl, ⟨_, rfl⟩, .bool, h⟩
            · have c1 : ¬ (i : Int) < (l.length : Int) := by omega
              have he : l = m := List.ext_getElem hn fun j a b => hq j a b (by omega)
              rw [hev, decide_eq_true he] at h
              simp (disch := omega) only [kB, kcx, kdm, kdn, kel, aop, resultsL, resultOf, Nat.reduceEqDiff, reduceCtorEq, eq1, apartOK, apart2, AObj.live, Int.reduceEq, Int.reduceLT, Int.reduceLE, Int.reduceAdd, Int.reduceSub, Int.reduceMul, Int.reduceToNat, cutCells, Nat.reduceAdd, Nat.reduceLeDiff, Nat.reduceLT, Nat.reduceMul, Nat.reduceSub, c1]
              exact ⟨_, rfl, ⟨_, rfl⟩, .bool, h⟩
          · have c0 : ¬ (l.length : Int) = (m.length : Int) := by omega
            have hev : V = false := by rw [hv0]; exact decide_eq_false fun q => hn (by rw [q.2.2.2.2])
            rw [hev] at h
            simp (disch := omega) only [kB, kcx, kdm, kdn, kel, aop, resultsL, resultOf, Nat.reduceEqDiff, reduceCtorEq, eq1, apartOK, apart2, AObj.live, Int.reduceEq, Int.reduceLT, Int.reduceLE, Int.reduceAdd, Int.reduceSub, Int.reduceMul, Int.reduceToNat, cutCells, Nat.reduceAdd, Nat.reduceLeDiff, Nat.reduceLT, Nat.reduceMul, Nat.reduceSub, o1, o2, decide_eq_true d1, decide_eq_true d2, hon, decide_eq_true d3, decide_eq_true d4, c0]
            exact ⟨_, rfl, ⟨_, rfl⟩, .bool, h⟩
        · have hev : V = false := by rw [hv0]; exact decide_eq_false fun q => d4 q.2.2.2.1
          rw [hev] at h
          simp (disch := omega) only [kB, kcx, kdm, kdn, kel, aop, resultsL, resultOf, Nat.reduceEqDiff, reduceCtorEq, eq1, apartOK, apart2, AObj.live, Int.reduceEq, Int.reduceLT, Int.reduceLE, Int.reduceAdd, Int.reduceSub, Int.reduceMul, Int.reduceToNat, cutCells, Nat.reduceAdd, Nat.reduceLeDiff, Nat.reduceLT, Nat.reduceMul, Nat.reduceSub, o1, o2, decide_eq_true d1, decide_eq_true d2, hon, decide_eq_true d3, decide_eq_false d4]
          exact ⟨_, rfl, ⟨_, rfl⟩, .bool, h⟩
      · have hev : V = false := by rw [hv0]; exact decide_eq_false fun q => d3 q.2.2.1
        rw [hev] at h
        simp (disch := omega) only [kB, kcx, kdm, kdn, kel, aop, resultsL, resultOf, Nat.reduceEqDiff, reduceCtorEq, eq1, apartOK, apart2, AObj.live, Int.reduceEq, Int.reduceLT, Int.reduceLE, Int.reduceAdd, Int.reduceSub, Int.reduceMul, Int.reduceToNat, cutCells, Nat.reduceAdd, Nat.reduceLeDiff, Nat.reduceLT, Nat.reduceMul, Nat.reduceSub, o1, o2, decide_eq_true d1, decide_eq_true d2, hon, decide_eq_false d3]
        exact ⟨_, rfl, ⟨_, rfl⟩, .bool, h⟩
    · have hev : V = false := by rw [hv0]; exact decide_eq_false fun q => d2 q.2.1
      rw [hev] at h
      simp (disch := omega) only [kB, kcx, kdm, kdn, kel, aop, resultsL, resultOf, Nat.reduceEqDiff, reduceCtorEq, eq1, apartOK, apart2, AObj.live, Int.reduceEq, Int.reduceLT, Int.reduceLE, Int.reduceAdd, Int.reduceSub, Int.reduceMul, Int.reduceToNat, cutCells, Nat.reduceAdd, Nat.reduceLeDiff, Nat.reduceLT, Nat.reduceMul, Nat.reduceSub, o1, o2, decide_eq_true d1, decide_eq_false d2]
      exact ⟨_, rfl, ⟨_, rfl⟩, .bool, h⟩
  · have hev : V = false := by rw [hv0]; exact decide_eq_false fun q => d1 q.1
    rw [hev] at h
    simp (disch := omega) only [kB, kcx, kdm, kdn, kel, aop, resultsL, resultOf, Nat.reduceEqDiff, reduceCtorEq, eq1, apartOK, apart2, AObj.live, Int.reduceEq, Int.reduceLT, Int.reduceLE, Int.reduceAdd, Int.reduceSub, Int.reduceMul, Int.reduceToNat, cutCells, Nat.reduceAdd, Nat.reduceLeDiff, Nat.reduceLT, Nat.reduceMul, Nat.reduceSub, o1, o2, decide_eq_false d1]
    exact ⟨_, rfl, ⟨_, rfl⟩, .bool, h⟩

def eqKyI (K : Heap) (bx by' : Nat) (l m : List Ky) : Nat → Env → Heap → Prop := fun z e K' =>
  ∃ i : Nat, i ≤ l.length ∧ z = l.length - i ∧ K' = K ∧ (∀ j (h1 : j < l.length) (h2 : j < m.length), j < i → l[j] = m[j]) ∧ (∃ x : Nat → Value, e = [x 0, x 1, .pointer (some ⟨bx, 0, none⟩), .pointer (some ⟨by', 0, none⟩), x 4, x 5, x 6, .int .i64 (i : Int), x 8, x 9, x 10, x 11, x 12, x 13, x 14, x 15, x 16, x 17, x 18, x 19, x 20, x 21, x 22, x 23, x 24, x 25, x 26, x 27, x 28, x 29, x 30, x 31, x 32, x 33, x 34, x 35, x 36, x 37, x 38, x 39, x 40, x 41, x 42, x 43, x 44, x 45, x 46, x 47, x 48, x 49, x 50, x 51, x 52, x 53, x 54, x 55, x 56, x 57, x 58, x 59, x 60, x 61, x 62, x 63, x 64, x 65, x 66, x 67, x 68, x 69, x 70, x 71])

set_option maxHeartbeats 2000000 in
theorem eqTbl_s {x y : Tbl} (hx : x.OK K) (hy : y.OK K) (h : R (.ret (.bool (x.eqv y))) K) : WD T 40 [.agg x.cells.toArray, .agg y.cells.toArray] K R := by
  refine WD.gc0 (WD.of follows t40 (by simp) ?_)
  obtain ⟨o1, o2, o3⟩ := hx.one
  obtain ⟨o4, o5, o6⟩ := hy.one
  simp only [Tbl.cells]
  obtain ⟨⟨sx, nx, _⟩, hx2, _, hx3⟩ := hx
  obtain ⟨⟨sy, ny, _⟩, hy2, _, hy3⟩ := hy
  obtain ⟨adx, ex⟩ := sx.sl
  obtain ⟨ady, ey⟩ := sy.sl
  rw [List.length_map] at ex ey
  rw [ex] at sx o1 ⊢
  rw [ey] at sy o4 ⊢
  unfold few at nx
  have hv0 : x.eqv y = decide (x.name = y.name ∧ x.size = y.size ∧ x.fixed = y.fixed ∧ x.dact = y.dact ∧ x.keys = y.keys ∧ x.actions = y.actions ∧ x.dargs = y.dargs) := rfl
  generalize x.keys = l at *
  generalize y.keys = m at *
  generalize x.eqv y = V at *
  simp (disch := omega) only [kB, kcx, kdm, kdn, kel, aop, resultsL, resultOf, Nat.reduceEqDiff, reduceCtorEq, eq1, apartOK, apart2, AObj.live, Int.reduceEq, Int.reduceLT, Int.reduceLE, Int.reduceAdd, Int.reduceSub, Int.reduceMul, Int.reduceToNat, cutCells, Nat.reduceAdd, Nat.reduceLeDiff, Nat.reduceLT, Nat.reduceMul, Nat.reduceSub, o1, o2, o3, o4, o5, o6]
  refine eqTexts_s (hx2.1.base (Base.app0 _)) hx2.2 (hy2.1.base (Base.app0 _)) ?_
  simp (disch := omega) only [kB, kcx, kdm, kdn, kel, aop, resultsL, resultOf, Nat.reduceEqDiff, reduceCtorEq, eq1, apartOK, apart2, AObj.live, Int.reduceEq, Int.reduceLT, Int.reduceLE, Int.reduceAdd, Int.reduceSub, Int.reduceMul, Int.reduceToNat, cutCells, Nat.reduceAdd, Nat.reduceLeDiff, Nat.reduceLT, Nat.reduceMul, Nat.reduceSub]
  refine eqCl_s ⟨hx3.1.base (Base.app0 _), hx3.2⟩ ⟨hy3.1.base (Base.app0 _), hy3.2⟩ ?_
  by_cases d1 : x.actions = y.actions
  · by_cases d2 : x.dact = y.dact ∧ x.dargs = y.dargs
    · by_cases d3 : x.name = y.name
      · by_cases d4 : x.size = y.size
        · by_cases d5 : x.fixed = y.fixed
          · by_cases hn : l.length = m.length
            · have c0 : decide ((l.length : Int) = (m.length : Int)) = true := decide_eq_true (by omega)
              have hev : V = decide (l = m) := by rw [hv0]; simp [d1, d2.1, d2.2, d3, d4, d5]
              rw [decide_eq_true d1, decide_eq_true d2.1, decide_eq_true d2.2]
              simp (disch := omega) only [kB, kcx, kdm, kdn, kel, aop, resultsL, resultOf, Nat.reduceEqDiff, reduceCtorEq, eq1, apartOK, apart2, AObj.live, Int.reduceEq, Int.reduceLT, Int.reduceLE, Int.reduceAdd, Int.reduceSub, Int.reduceMul, Int.reduceToNat, cutCells, Nat.reduceAdd, Nat.reduceLeDiff, Nat.reduceLT, Nat.reduceMul, Nat.reduceSub, decide_eq_true d3, d4, d5, b_self, b_self2, c0]
              refine WLoop.inv (eqKyI (K ++ [_, _]) K.length (K.length + 1) l m) ?_ l.length _ _ ⟨0, Nat.zero_le _, by omega, rfl, fun j _ _ h0 => by omega, by exact ex_env rfl⟩
              rintro z e K' ⟨i, hi, rfl, rfl, hq, ⟨x, rfl⟩⟩
              by_cases hlt : i < l.length
              · have c1 : (i : Int) < (l.length : Int) := by omega
                have c2 : (i : Int) < (m.length : Int) := by omega
                obtain ⟨b, u0, w0, rfl, p1, p2, p3, p4, p5⟩ := sx.at Ky.len hlt
                obtain ⟨b2, u2, w2', rfl, q1, q2, q3, q4, q5⟩ := sy.at Ky.len (show i < m.length by omega)
                have w2 : IntKind.i64.wrap ((i : Int) + 1) = ((i + 1 : Nat) : Int) := by rw [show (i : Int) + 1 = ((i + 1 : Nat) : Int) by omega]; exact wr_i64 (by omega) (by omega)
                have hne : l[i] ≠ m[i] → ¬ l = m := fun hd e => hd (by simp only [e])
                have hq2 : l[i] = m[i] → ∀ j (h1 : j < l.length) (h2 : j < m.length), j < i + 1 → l[j] = m[j] := fun he j a b hj => by
                  by_cases q : j = i
                  · subst q; exact he
                  · exact hq j a b (by omega)
                generalize l[i] = z at *
                generalize m[i] = w at *
                simp only [Ky.cells] at p3 q3
                have heq := Ky.eqs z w
                by_cases he : z = w
                · simp (disch := omega) only [kB, kcx, kdm, kdn, kel, aop, resultsL, resultOf, Nat.reduceEqDiff, reduceCtorEq, eq1, apartOK, apart2, AObj.live, Int.reduceEq, Int.reduceLT, Int.reduceLE, Int.reduceAdd, Int.reduceSub, Int.reduceMul, Int.reduceToNat, cutCells, Nat.reduceAdd, Nat.reduceLeDiff, Nat.reduceLT, Nat.reduceMul, Nat.reduceSub, c1, c2, p2, q2, p3, p4, q3, q4, heq, decide_eq_true he, w2]
                  exact ⟨l.length - (i + 1), by omega, i + 1, by omega, rfl, rfl, hq2 he, by exact ex_env rfl⟩
                · rw [hev, decide_eq_false (hne he)] at h
                  simp (disch := omega) only [kB, kcx, kdm, kdn, kel, aop, resultsL, resultOf, Nat.reduceEqDiff, reduceCtorEq, eq1, apartOK, apart2, AObj.live, Int.reduceEq, Int.reduceLT, Int.reduceLE, Int.reduceAdd, Int.reduceSub, Int.reduceMul, Int.reduceToNat, cutCells, Nat.reduceAdd, Nat.reduceLeDiff, Nat.reduceLT, Nat.reduceMul, Nat.reduceSub, c1, c2, p2, q2, p3, p4, q3, q4, heq, decide_eq_false he]
                  exact ⟨_, rfl, ⟨_, rfl⟩, .bool, h⟩
              · have c1 : ¬ (i : Int) < (l.length : Int) := by omega
                have he : l = m := List.ext_getElem hn fun j a b => hq j a b (by omega)
                rw [hev, decide_eq_true he] at h
                simp (disch := omega) only [kB, kcx, kdm, kdn, kel, aop, resultsL, resultOf, Nat.reduceEqDiff, reduceCtorEq, eq1, apartOK, apart2, AObj.live, Int.reduceEq, Int.reduceLT, Int.reduceLE, Int.reduceAdd, Int.reduceSub, Int.reduceMul, Int.reduceToNat, cutCells, Nat.reduceAdd, Nat.reduceLeDiff, Nat.reduceLT, Nat.reduceMul, Nat.reduceSub, c1]
                exact ⟨_, rfl, ⟨_, rfl⟩, .bool, h⟩
            · have c0 : ¬ (l.length : Int) = (m.length : Int) := by omega
              have hev : V = false := by rw [hv0]; exact decide_eq_false fun q => hn (by rw [q.2.2.2.2.1])
              rw [hev] at h
              rw [decide_eq_true d1, decide_eq_true d2.1, decide_eq_true d2.2]
              simp (disch := omega) only [kB, kcx, kdm, kdn, kel, aop, resultsL, resultOf, Nat.reduceEqDiff, reduceCtorEq, eq1, apartOK, apart2, AObj.live, Int.reduceEq, Int.reduceLT, Int.reduceLE, Int.reduceAdd, Int.reduceSub, Int.reduceMul, Int.reduceToNat, cutCells, Nat.reduceAdd, Nat.reduceLeDiff, Nat.reduceLT, Nat.reduceMul, Nat.reduceSub, decide_eq_true d3, d4, d5, b_self, b_self2, c0]
              exact ⟨_, rfl, ⟨_, rfl⟩, .bool, h⟩
          · have hev : V = false := by rw [hv0]; exact decide_eq_false fun q => d5 q.2.2.1
            have e2 : (x.fixed == y.fixed) = false := by simpa using d5
            have e3 : (x.fixed != y.fixed) = true := by simpa using d5
            rw [hev] at h
            rw [decide_eq_true d1, decide_eq_true d2.1, decide_eq_true d2.2]
            simp (disch := omega) only [kB, kcx, kdm, kdn, kel, aop, resultsL, resultOf, Nat.reduceEqDiff, reduceCtorEq, eq1, apartOK, apart2, AObj.live, Int.reduceEq, Int.reduceLT, Int.reduceLE, Int.reduceAdd, Int.reduceSub, Int.reduceMul, Int.reduceToNat, cutCells, Nat.reduceAdd, Nat.reduceLeDiff, Nat.reduceLT, Nat.reduceMul, Nat.reduceSub, decide_eq_true d3, d4, e2, e3]
            exact ⟨_, rfl, ⟨_, rfl⟩, .bool, h⟩
        · have hev : V = false := by rw [hv0]; exact decide_eq_false fun q => d4 q.2.1
          rw [hev] at h
          rw [decide_eq_true d1, decide_eq_true d2.1, decide_eq_true d2.2]
          simp (disch := omega) only [kB, kcx, kdm, kdn, kel, aop, resultsL, resultOf, Nat.reduceEqDiff, reduceCtorEq, eq1, apartOK, apart2, AObj.live, Int.reduceEq, Int.reduceLT, Int.reduceLE, Int.reduceAdd, Int.reduceSub, Int.reduceMul, Int.reduceToNat, cutCells, Nat.reduceAdd, Nat.reduceLeDiff, Nat.reduceLT, Nat.reduceMul, Nat.reduceSub, decide_eq_true d3, d4]
          exact ⟨_, rfl, ⟨_, rfl⟩, .bool, h⟩
      · have hev : V = false := by rw [hv0]; exact decide_eq_false fun q => d3 q.1
        rw [hev] at h
        rw [decide_eq_true d1, decide_eq_true d2.1, decide_eq_true d2.2]
        simp (disch := omega) only [kB, kcx, kdm, kdn, kel, aop, resultsL, resultOf, Nat.reduceEqDiff, reduceCtorEq, eq1, apartOK, apart2, AObj.live, Int.reduceEq, Int.reduceLT, Int.reduceLE, Int.reduceAdd, Int.reduceSub, Int.reduceMul, Int.reduceToNat, cutCells, Nat.reduceAdd, Nat.reduceLeDiff, Nat.reduceLT, Nat.reduceMul, Nat.reduceSub, decide_eq_false d3]
        exact ⟨_, rfl, ⟨_, rfl⟩, .bool, h⟩
    · have hev : V = false := by rw [hv0]; exact decide_eq_false fun q => d2 ⟨q.2.2.2.1, q.2.2.2.2.2.2⟩
      have e2 : (decide (x.dact = y.dact) && decide (x.dargs = y.dargs)) = false := by
        rw [← Bool.decide_and]; exact decide_eq_false d2
      rw [hev] at h
      rw [decide_eq_true d1, e2]
      simp (disch := omega) only [kB, kcx, kdm, kdn, kel, aop, resultsL, resultOf, Nat.reduceEqDiff, reduceCtorEq, eq1, apartOK, apart2, AObj.live, Int.reduceEq, Int.reduceLT, Int.reduceLE, Int.reduceAdd, Int.reduceSub, Int.reduceMul, Int.reduceToNat, cutCells, Nat.reduceAdd, Nat.reduceLeDiff, Nat.reduceLT, Nat.reduceMul, Nat.reduceSub]
      exact ⟨_, rfl, ⟨_, rfl⟩, .bool, h⟩
  · have hev : V = false := by rw [hv0]; exact decide_eq_false fun q => d1 q.2.2.2.2.2.1
    rw [hev] at h
    rw [decide_eq_false d1]
    simp (disch := omega) only [kB, kcx, kdm, kdn, kel, aop, resultsL, resultOf, Nat.reduceEqDiff, reduceCtorEq, eq1, apartOK, apart2, AObj.live, Int.reduceEq, Int.reduceLT, Int.reduceLE, Int.reduceAdd, Int.reduceSub, Int.reduceMul, Int.reduceToNat, cutCells, Nat.reduceAdd, Nat.reduceLeDiff, Nat.reduceLT, Nat.reduceMul, Nat.reduceSub]
    exact ⟨_, rfl, ⟨_, rfl⟩, .bool, h⟩

end Go.Proofs.YtpllhhaeclnngaaGreat.Ev

/- Controls that are compared: the program and the document. -/
namespace Go.Proofs.YtpllhhaeclnngaaGreat.Ev
set_option maxRecDepth 100000
set_option linter.unusedSimpArgs false
set_option linter.unusedVariables false
variable {R : FRes → Heap → Prop} {H K : Heap}

mutual
/-- The same stage, wherever it stands. -/
def St.eqv : St → St → Bool
  | .mk k t c _ _ a b, y => decide (k = y.kind ∧ t = y.table ∧ c = y.test) && (eqvL a y.thn && eqvL b y.els)
def eqvL : List St → List St → Bool
  | [], m => decide (m.length = 0)
  | x :: l, m => match m with
    | [] => false
    | y :: m => x.eqv y && eqvL l m
end
theorem eqvL_all2 : ∀ (l m : List St), eqvL l m = all2 St.eqv l m
  | [], [] => rfl
  | [], _ :: _ => rfl
  | x :: l, [] => rfl
  | x :: l, y :: m => by rw [eqvL, all2, eqvL_all2 l m]
theorem St.eqv_eq (x y : St) : x.eqv y = (decide (x.kind = y.kind ∧ x.table = y.table ∧ x.test = y.test) && (eqvL x.thn y.thn && eqvL x.els y.els)) := by
  cases x; rw [St.eqv]; rfl

theorem cut_two {L cs : List Value} {a : Nat} (h : (L.drop a).take 13 = cs) : (L.drop (a + 2)).take 9 = (cs.drop 2).take 9 := by
  rw [← h, List.drop_take, List.take_take, List.drop_drop]
  rfl

def esI (K : Heap) (v1 v2 : Value) (l m : List St) : Nat → Env → Heap → Prop := fun z e K' =>
  ∃ i : Nat, i ≤ l.length ∧ z = l.length - i ∧ K' = K ∧ (∀ j (h1 : j < l.length) (h2 : j < m.length), j < i → l[j].eqv m[j] = true) ∧ (∃ x : Nat → Value, e = [v1, v2, x 2, x 3, x 4, .int .i64 (i : Int), x 6, x 7, x 8, x 9, x 10, x 11, x 12, x 13, x 14, x 15, x 16, x 17, x 18, x 19, x 20, x 21, x 22, x 23, x 24, x 25, x 26, x 27, x 28, x 29, x 30, x 31, x 32, x 33, x 34, x 35, x 36, x 37, x 38, x 39, x 40, x 41, x 42, x 43, x 44, x 45, x 46, x 47, x 48, x 49, x 50, x 51, x 52, x 53, x 54, x 55, x 56, x 57, x 58, x 59, x 60, x 61, x 62, x 63, x 64, x 65, x 66, x 67, x 68, x 69, x 70, x 71, x 72, x 73, x 74, x 75, x 76, x 77, x 78, x 79, x 80, x 81])

set_option maxHeartbeats 4000000 in
theorem eqStages_s : ∀ (N : Nat) (l : List St), SizeOf.sizeOf l ≤ N → ∀ (m : List St) (v1 v2 : Value) (K : Heap) (R : FRes → Heap → Prop), StSl K l v1 → StSl K m v2 → R (.ret (.bool (eqvL l m))) K → WD T 82 [v1, v2] K R := by
  intro N
  induction N with
  | zero => intro l h; cases l <;> simp at h
  | succ N ih =>
    intro l hN m v1 v2 K R h1 h2 h
    obtain ⟨ad1, rfl⟩ := h1.sl
    obtain ⟨ad2, rfl⟩ := h2.sl
    have n1 := h1.few
    unfold few at n1
    rw [eqvL_all2] at h
    refine WD.of follows t82 (by simp) ?_
    by_cases hn : l.length = m.length
    · have c0 : decide ((l.length : Int) = (m.length : Int)) = true := decide_eq_true (by omega)
      simp (disch := omega) only [kB, kcx, kdm, kdn, kel, aop, resultsL, resultOf, Nat.reduceEqDiff, reduceCtorEq, eq1, apartOK, apart2, AObj.live, Int.reduceEq, Int.reduceLT, Int.reduceLE, Int.reduceAdd, Int.reduceSub, Int.reduceMul, Int.reduceToNat, cutCells, Nat.reduceAdd, Nat.reduceLeDiff, Nat.reduceLT, Nat.reduceMul, Nat.reduceSub, c0]
      refine WLoop.inv (esI K (.slice ad1 l.length l.length) (.slice ad2 m.length m.length) l m) ?_ l.length _ _ ⟨0, Nat.zero_le _, by omega, rfl, fun j _ _ h0 => by omega, by exact ex_env rfl⟩
      rintro z e K' ⟨i, hi, rfl, rfl, hq, ⟨x, rfl⟩⟩
      by_cases hlt : i < l.length
      · have c1 : (i : Int) < (l.length : Int) := by omega
        have c2 : (i : Int) < (m.length : Int) := by omega
        obtain ⟨_, ok1, b, u0, w0, rfl, p1, p2, p3, p4, p5⟩ := h1.at hlt
        obtain ⟨_, ok2, b2, u2, w2', rfl, q1, q2, q3, q4, q5⟩ := h2.at (show i < m.length by omega)
        have w2 : IntKind.i64.wrap ((i : Int) + 1) = ((i + 1 : Nat) : Int) := by rw [show (i : Int) + 1 = ((i + 1 : Nat) : Int) by omega]; exact wr_i64 (by omega) (by omega)
        have hne : ¬ l[i].eqv m[i] = true → all2 St.eqv l m = false := fun hd => by
          rw [← Bool.not_eq_true, all2_iff]
          exact fun q => hd (q.2 i hlt (by omega))
        have hq2 : l[i].eqv m[i] = true → ∀ j (h1 : j < l.length) (h2 : j < m.length), j < i + 1 → l[j].eqv m[j] = true := fun he j a b hj => by
          by_cases q : j = i
          · subst q; exact he
          · exact hq j a b (by omega)
        obtain ⟨z1, z2⟩ := St.size (List.getElem_mem hlt)
        have a0 := p5 0 (by decide)
        have a1 := p5 1 (by decide)
        have a11 := p5 11 (by decide)
        have a12 := p5 12 (by decide)
        have a2 := cut_two p3
        have d0 := q5 0 (by decide)
        have d1 := q5 1 (by decide)
        have d11 := q5 11 (by decide)
        have d12 := q5 12 (by decide)
        have d2 := cut_two q3
        have sa1 := ok1.sa
        have sb1 := ok1.sb
        have sa2 := ok2.sa
        have sb2 := ok2.sb
        rw [St.cells_eq] at a0 a1 a2 a11 a12 d0 d1 d2 d11 d12
        generalize l[i] = x at *
        generalize m[i] = y at *
        simp only [Tst.cells, List.cons_append, List.nil_append, List.getElem?_cons_succ, List.getElem?_cons_zero, Nat.add_zero, List.drop_succ_cons, List.drop_zero, List.take_succ_cons, List.take_zero] at a0 a1 a2 a11 a12 d0 d1 d2 d11 d12
        have le1 : i * 13 + 2 + 9 ≤ ((l.map St.cells).flatten).length := by omega
        have le2 : i * 13 + 2 + 9 ≤ ((m.map St.cells).flatten).length := by omega
        have heq := Tst.eqs x.test y.test
        have hev := St.eqv_eq x y
        by_cases g1 : x.kind = y.kind
        · by_cases g2 : x.table = y.table
          · by_cases g3 : x.test = y.test
            · rw [decide_eq_true ⟨g1, g2, g3⟩, Bool.true_and] at hev
              simp (disch := omega) only [kB, kcx, kdm, kdn, kel, aop, resultsL, resultOf, Nat.reduceEqDiff, reduceCtorEq, eq1, apartOK, apart2, AObj.live, Int.reduceEq, Int.reduceLT, Int.reduceLE, Int.reduceAdd, Int.reduceSub, Int.reduceMul, Int.reduceToNat, cutCells, Nat.reduceAdd, Nat.reduceLeDiff, Nat.reduceLT, Nat.reduceMul, Nat.reduceSub, c1, c2, p2, q2, a0, a1, a2, a11, d0, d1, d2, d11, le1, le2, g1, decide_eq_true g2, heq, decide_eq_true g3]
              refine ih _ (by omega) _ _ _ K' _ sa1 sa2 ?_
              by_cases g4 : eqvL x.thn y.thn = true
              · rw [g4, Bool.true_and] at hev
                rw [g4]
                simp (disch := omega) only [kB, kcx, kdm, kdn, kel, aop, resultsL, resultOf, Nat.reduceEqDiff, reduceCtorEq, eq1, apartOK, apart2, AObj.live, Int.reduceEq, Int.reduceLT, Int.reduceLE, Int.reduceAdd, Int.reduceSub, Int.reduceMul, Int.reduceToNat, cutCells, Nat.reduceAdd, Nat.reduceLeDiff, Nat.reduceLT, Nat.reduceMul, Nat.reduceSub, c1, c2, p2, q2, a12, d12]
                refine ih _ (by omega) _ _ _ K' _ sb1 sb2 ?_
                by_cases g5 : eqvL x.els y.els = true
                · rw [g5] at hev
                  rw [g5]
                  simp (disch := omega) only [kB, kcx, kdm, kdn, kel, aop, resultsL, resultOf, Nat.reduceEqDiff, reduceCtorEq, eq1, apartOK, apart2, AObj.live, Int.reduceEq, Int.reduceLT, Int.reduceLE, Int.reduceAdd, Int.reduceSub, Int.reduceMul, Int.reduceToNat, cutCells, Nat.reduceAdd, Nat.reduceLeDiff, Nat.reduceLT, Nat.reduceMul, Nat.reduceSub, w2]
                  exact ⟨l.length - (i + 1), by omega, i + 1, by omega, rfl, rfl, hq2 hev, by exact ex_env rfl⟩
                · rw [hne (by rw [hev]; exact g5)] at h
                  rw [Bool.not_eq_true] at g5
                  rw [g5]
                  simp (disch := omega) only [kB, kcx, kdm, kdn, kel, aop, resultsL, resultOf, Nat.reduceEqDiff, reduceCtorEq, eq1, apartOK, apart2, AObj.live, Int.reduceEq, Int.reduceLT, Int.reduceLE, Int.reduceAdd, Int.reduceSub, Int.reduceMul, Int.reduceToNat, cutCells, Nat.reduceAdd, Nat.reduceLeDiff, Nat.reduceLT, Nat.reduceMul, Nat.reduceSub]
                  exact h
              · rw [hne (by rw [hev, Bool.and_eq_true]; exact fun q => g4 q.1)] at h
                rw [Bool.not_eq_true] at g4
                rw [g4]
                simp (disch := omega) only [kB, kcx, kdm, kdn, kel, aop, resultsL, resultOf, Nat.reduceEqDiff, reduceCtorEq, eq1, apartOK, apart2, AObj.live, Int.reduceEq, Int.reduceLT, Int.reduceLE, Int.reduceAdd, Int.reduceSub, Int.reduceMul, Int.reduceToNat, cutCells, Nat.reduceAdd, Nat.reduceLeDiff, Nat.reduceLT, Nat.reduceMul, Nat.reduceSub]
                exact h
            · rw [hne (by rw [hev, decide_eq_false (fun q => g3 q.2.2)]; simp)] at h
              simp (disch := omega) only [kB, kcx, kdm, kdn, kel, aop, resultsL, resultOf, Nat.reduceEqDiff, reduceCtorEq, eq1, apartOK, apart2, AObj.live, Int.reduceEq, Int.reduceLT, Int.reduceLE, Int.reduceAdd, Int.reduceSub, Int.reduceMul, Int.reduceToNat, cutCells, Nat.reduceAdd, Nat.reduceLeDiff, Nat.reduceLT, Nat.reduceMul, Nat.reduceSub, c1, c2, p2, q2, a0, a1, a2, d0, d1, d2, le1, le2, g1, decide_eq_true g2, heq, decide_eq_false g3]
              exact h
          · rw [hne (by rw [hev, decide_eq_false (fun q => g2 q.2.1)]; simp)] at h
            simp (disch := omega) only [kB, kcx, kdm, kdn, kel, aop, resultsL, resultOf, Nat.reduceEqDiff, reduceCtorEq, eq1, apartOK, apart2, AObj.live, Int.reduceEq, Int.reduceLT, Int.reduceLE, Int.reduceAdd, Int.reduceSub, Int.reduceMul, Int.reduceToNat, cutCells, Nat.reduceAdd, Nat.reduceLeDiff, Nat.reduceLT, Nat.reduceMul, Nat.reduceSub, c1, c2, p2, q2, a0, a1, d0, d1, g1, decide_eq_false g2]
            exact h
        · rw [hne (by rw [hev, decide_eq_false (fun q => g1 q.1)]; simp)] at h
          simp (disch := omega) only [kB, kcx, kdm, kdn, kel, aop, resultsL, resultOf, Nat.reduceEqDiff, reduceCtorEq, eq1, apartOK, apart2, AObj.live, Int.reduceEq, Int.reduceLT, Int.reduceLE, Int.reduceAdd, Int.reduceSub, Int.reduceMul, Int.reduceToNat, cutCells, Nat.reduceAdd, Nat.reduceLeDiff, Nat.reduceLT, Nat.reduceMul, Nat.reduceSub, c1, c2, p2, q2, a0, d0, decide_eq_false g1, g1]
          exact h
      · have c1 : ¬ (i : Int) < (l.length : Int) := by omega
        rw [(all2_iff _).2 ⟨hn, fun j a b => hq j a b (by omega)⟩] at h
        simp (disch := omega) only [kB, kcx, kdm, kdn, kel, aop, resultsL, resultOf, Nat.reduceEqDiff, reduceCtorEq, eq1, apartOK, apart2, AObj.live, Int.reduceEq, Int.reduceLT, Int.reduceLE, Int.reduceAdd, Int.reduceSub, Int.reduceMul, Int.reduceToNat, cutCells, Nat.reduceAdd, Nat.reduceLeDiff, Nat.reduceLT, Nat.reduceMul, Nat.reduceSub, c1]
        exact h
    · have c0 : ¬ (l.length : Int) = (m.length : Int) := by omega
      have he : all2 St.eqv l m = false := by
        rw [← Bool.not_eq_true, all2_iff]
        exact fun q => hn q.1
      rw [he] at h
      simp (disch := omega) only [kB, kcx, kdm, kdn, kel, aop, resultsL, resultOf, Nat.reduceEqDiff, reduceCtorEq, eq1, apartOK, apart2, AObj.live, Int.reduceEq, Int.reduceLT, Int.reduceLE, Int.reduceAdd, Int.reduceSub, Int.reduceMul, Int.reduceToNat, cutCells, Nat.reduceAdd, Nat.reduceLeDiff, Nat.reduceLT, Nat.reduceMul, Nat.reduceSub, c0]
      exact h

def ssI (K : Heap) (v1 v2 : Value) (l m : List St) : Nat → Env → Heap → Prop := fun z e K' =>
  ∃ i : Nat, i ≤ l.length ∧ z = l.length - i ∧ Base K K' ∧ (∀ j (h1 : j < l.length) (h2 : j < m.length), j < i → l[j].eqv m[j] = true) ∧ (∃ x : Nat → Value, e = [x 0, v2, .func (.func 153) #[] #[], x 3, x 4, x 5, x 6, x 7, x 8, x 9, x 10, x 11, x 12, x 13, x 14, v1, .int .i64 (l.length : Int), .int .i64 (i : Int), x 18, x 19, x 20, x 21, x 22, x 23, x 24, x 25, x 26, x 27, x 28, x 29, x 30, x 31])

set_option maxHeartbeats 4000000 in
theorem sameStages_s : ∀ (N : Nat) (l : List St), SizeOf.sizeOf l ≤ N → ∀ (m : List St) (v1 v2 : Value) (K : Heap) (R : FRes → Heap → Prop), StSl K l v1 → StSl K m v2 → R (.ret (.bool (eqvL l m))) K → WD T 94 [v1, v2] K R := by
  intro N
  induction N with
  | zero => intro l h; cases l <;> simp at h
  | succ N ih =>
    intro l hN m v1 v2 K R h1 h2 h
    obtain ⟨ad1, rfl⟩ := h1.sl
    obtain ⟨ad2, rfl⟩ := h2.sl
    have n1 := h1.few
    unfold few at n1
    rw [eqvL_all2] at h
    refine WD.gc0 (WD.of follows t94 (by simp) ?_)
    simp (disch := omega) only [kB, kcx, kdm, kdn, kel, aop, resultsL, resultOf, Nat.reduceEqDiff, reduceCtorEq, eq1, apartOK, apart2, AObj.live, Int.reduceEq, Int.reduceLT, Int.reduceLE, Int.reduceAdd, Int.reduceSub, Int.reduceMul, Int.reduceToNat, cutCells, Nat.reduceAdd, Nat.reduceLeDiff, Nat.reduceLT, Nat.reduceMul, Nat.reduceSub]
    refine WD.of follows t152 (by simp) ?_
    by_cases hn : l.length = m.length
    · have c0 : decide ((l.length : Int) = (m.length : Int)) = true := decide_eq_true (by omega)
      simp (disch := omega) only [kB, kcx, kdm, kdn, kel, aop, resultsL, resultOf, Nat.reduceEqDiff, reduceCtorEq, eq1, apartOK, apart2, AObj.live, Int.reduceEq, Int.reduceLT, Int.reduceLE, Int.reduceAdd, Int.reduceSub, Int.reduceMul, Int.reduceToNat, cutCells, Nat.reduceAdd, Nat.reduceLeDiff, Nat.reduceLT, Nat.reduceMul, Nat.reduceSub, c0]
      refine WLoop.inv (ssI K (.slice ad1 l.length l.length) (.slice ad2 m.length m.length) l m) ?_ l.length _ _ ⟨0, Nat.zero_le _, by omega, Base.refl, fun j _ _ h0 => by omega, by exact ex_env rfl⟩
      rintro z e K' ⟨i, hi, rfl, bK, hq, ⟨x, rfl⟩⟩
      by_cases hlt : i < l.length
      · have c1 : (i : Int) < (l.length : Int) := by omega
        have c2 : (i : Int) < (m.length : Int) := by omega
        obtain ⟨_, ok1, b, u0, w0, rfl, p1, p2, p3, p4, p5⟩ := h1.at hlt
        obtain ⟨_, ok2, b2, u2, w2', rfl, q1, q2, q3, q4, q5⟩ := h2.at (show i < m.length by omega)
        have w2 : IntKind.i64.wrap ((i : Int) + 1) = ((i + 1 : Nat) : Int) := by rw [show (i : Int) + 1 = ((i + 1 : Nat) : Int) by omega]; exact wr_i64 (by omega) (by omega)
        have prow : hget K' b = .row (l.map St.cells).flatten u0 w0 := by rw [bK.2 b p1]; exact p2
        have qrow : hget K' b2 = .row (m.map St.cells).flatten u2 w2' := by rw [bK.2 b2 q1]; exact q2
        have lp := Nat.lt_of_lt_of_le p1 bK.1
        have lq := Nat.lt_of_lt_of_le q1 bK.1
        have hne : ¬ l[i].eqv m[i] = true → all2 St.eqv l m = false := fun hd => by
          rw [← Bool.not_eq_true, all2_iff]
          exact fun q => hd (q.2 i hlt (by omega))
        have hq2 : l[i].eqv m[i] = true → ∀ j (h1 : j < l.length) (h2 : j < m.length), j < i + 1 → l[j].eqv m[j] = true := fun he j a b hj => by
          by_cases q : j = i
          · subst q; exact he
          · exact hq j a b (by omega)
        obtain ⟨z1, z2⟩ := St.size (List.getElem_mem hlt)
        have sa1 := ok1.sa
        have sb1 := ok1.sb
        have sa2 := ok2.sa
        have sb2 := ok2.sb
        rw [St.cells_eq] at p3 q3
        generalize l[i] = x at *
        generalize m[i] = y at *
        simp only [Tst.cells, List.cons_append, List.nil_append] at p3 q3
        have o1 := sa1.one
        have o2 := sb1.one
        have o3 := sa2.one
        have o4 := sb2.one
        have heq := Tst.eqs x.test y.test
        have hev := St.eqv_eq x y
        simp (disch := omega) only [kB, kcx, kdm, kdn, kel, aop, resultsL, resultOf, Nat.reduceEqDiff, reduceCtorEq, eq1, apartOK, apart2, AObj.live, Int.reduceEq, Int.reduceLT, Int.reduceLE, Int.reduceAdd, Int.reduceSub, Int.reduceMul, Int.reduceToNat, cutCells, Nat.reduceAdd, Nat.reduceLeDiff, Nat.reduceLT, Nat.reduceMul, Nat.reduceSub, c1, c2, prow, qrow, p3, p4, q3, q4, o1, o2, o3, o4]
        have bK2 : ∀ g, Base K (K' ++ g) := fun g => bK.app g
        have fin : R (.ret (.bool true)) K → True := fun _ => trivial
        generalize hK2 : (K' ++ [AObj.row _ 0 true, AObj.row _ 0 true] : Heap) = K2
        have bK3 : Base K K2 := by rw [← hK2]; exact bK.app _
        clear hK2
        have bad : x.eqv y = false → ∀ (g : Heap), R (.ret (.bool false)) K := fun q _ => by
          rw [hne (by simp [q])] at h
          exact h
        refine WD.gc0 (WD.of follows t153 (by simp) ?_)
        by_cases g1 : x.kind = y.kind
        · by_cases g2 : x.table = y.table
          · by_cases g3 : x.test = y.test
            · rw [decide_eq_true ⟨g1, g2, g3⟩, Bool.true_and] at hev
              simp (disch := omega) only [kB, kcx, kdm, kdn, kel, aop, resultsL, resultOf, Nat.reduceEqDiff, reduceCtorEq, eq1, apartOK, apart2, AObj.live, Int.reduceEq, Int.reduceLT, Int.reduceLE, Int.reduceAdd, Int.reduceSub, Int.reduceMul, Int.reduceToNat, cutCells, Nat.reduceAdd, Nat.reduceLeDiff, Nat.reduceLT, Nat.reduceMul, Nat.reduceSub, o1, o2, o3, o4, g1, decide_eq_true g2, heq, decide_eq_true g3]
              refine ih _ (by omega) _ _ _ _ _ (sa1.base (bK3.app _)) (sa2.base (bK3.app _)) ?_
              by_cases g4 : eqvL x.thn y.thn = true
              · rw [g4, Bool.true_and] at hev
                rw [g4]
                simp (disch := omega) only [kB, kcx, kdm, kdn, kel, aop, resultsL, resultOf, Nat.reduceEqDiff, reduceCtorEq, eq1, apartOK, apart2, AObj.live, Int.reduceEq, Int.reduceLT, Int.reduceLE, Int.reduceAdd, Int.reduceSub, Int.reduceMul, Int.reduceToNat, cutCells, Nat.reduceAdd, Nat.reduceLeDiff, Nat.reduceLT, Nat.reduceMul, Nat.reduceSub]
                refine ih _ (by omega) _ _ _ _ _ (sb1.base (bK3.app _)) (sb2.base (bK3.app _)) ?_
                by_cases g5 : eqvL x.els y.els = true
                · rw [g5] at hev
                  rw [g5]
                  simp (disch := omega) only [kB, kcx, kdm, kdn, kel, aop, resultsL, resultOf, Nat.reduceEqDiff, reduceCtorEq, eq1, apartOK, apart2, AObj.live, Int.reduceEq, Int.reduceLT, Int.reduceLE, Int.reduceAdd, Int.reduceSub, Int.reduceMul, Int.reduceToNat, cutCells, Nat.reduceAdd, Nat.reduceLeDiff, Nat.reduceLT, Nat.reduceMul, Nat.reduceSub]
                  refine ⟨_, rfl, ⟨_, rfl⟩, .bool, ?_⟩
                  simp (disch := omega) only [kB, kcx, kdm, kdn, kel, aop, resultsL, resultOf, Nat.reduceEqDiff, reduceCtorEq, eq1, apartOK, apart2, AObj.live, Int.reduceEq, Int.reduceLT, Int.reduceLE, Int.reduceAdd, Int.reduceSub, Int.reduceMul, Int.reduceToNat, cutCells, Nat.reduceAdd, Nat.reduceLeDiff, Nat.reduceLT, Nat.reduceMul, Nat.reduceSub, w2]
                  exact ⟨l.length - (i + 1), by omega, i + 1, by omega, rfl, bK3, hq2 hev, by exact ex_env rfl⟩
                · have hb := bad (by rw [hev]; simpa using g5) K
                  rw [Bool.not_eq_true] at g5
                  rw [g5]
                  simp (disch := omega) only [kB, kcx, kdm, kdn, kel, aop, resultsL, resultOf, Nat.reduceEqDiff, reduceCtorEq, eq1, apartOK, apart2, AObj.live, Int.reduceEq, Int.reduceLT, Int.reduceLE, Int.reduceAdd, Int.reduceSub, Int.reduceMul, Int.reduceToNat, cutCells, Nat.reduceAdd, Nat.reduceLeDiff, Nat.reduceLT, Nat.reduceMul, Nat.reduceSub]
                  refine ⟨_, rfl, ⟨_, rfl⟩, .bool, ?_⟩
                  simp (disch := omega) only [kB, kcx, kdm, kdn, kel, aop, resultsL, resultOf, Nat.reduceEqDiff, reduceCtorEq, eq1, apartOK, apart2, AObj.live, Int.reduceEq, Int.reduceLT, Int.reduceLE, Int.reduceAdd, Int.reduceSub, Int.reduceMul, Int.reduceToNat, cutCells, Nat.reduceAdd, Nat.reduceLeDiff, Nat.reduceLT, Nat.reduceMul, Nat.reduceSub]
                  exact ⟨_, rfl, bK3.ext, .bool, hb⟩
              · rw [Bool.not_eq_true] at g4
                have hb := bad (by rw [hev, g4, Bool.false_and]) K
                rw [g4]
                simp (disch := omega) only [kB, kcx, kdm, kdn, kel, aop, resultsL, resultOf, Nat.reduceEqDiff, reduceCtorEq, eq1, apartOK, apart2, AObj.live, Int.reduceEq, Int.reduceLT, Int.reduceLE, Int.reduceAdd, Int.reduceSub, Int.reduceMul, Int.reduceToNat, cutCells, Nat.reduceAdd, Nat.reduceLeDiff, Nat.reduceLT, Nat.reduceMul, Nat.reduceSub]
                refine ⟨_, rfl, ⟨_, rfl⟩, .bool, ?_⟩
                simp (disch := omega) only [kB, kcx, kdm, kdn, kel, aop, resultsL, resultOf, Nat.reduceEqDiff, reduceCtorEq, eq1, apartOK, apart2, AObj.live, Int.reduceEq, Int.reduceLT, Int.reduceLE, Int.reduceAdd, Int.reduceSub, Int.reduceMul, Int.reduceToNat, cutCells, Nat.reduceAdd, Nat.reduceLeDiff, Nat.reduceLT, Nat.reduceMul, Nat.reduceSub]
                exact ⟨_, rfl, bK3.ext, .bool, hb⟩
            · have hb := bad (by rw [hev, decide_eq_false (fun q => g3 q.2.2)]; simp) K
              simp (disch := omega) only [kB, kcx, kdm, kdn, kel, aop, resultsL, resultOf, Nat.reduceEqDiff, reduceCtorEq, eq1, apartOK, apart2, AObj.live, Int.reduceEq, Int.reduceLT, Int.reduceLE, Int.reduceAdd, Int.reduceSub, Int.reduceMul, Int.reduceToNat, cutCells, Nat.reduceAdd, Nat.reduceLeDiff, Nat.reduceLT, Nat.reduceMul, Nat.reduceSub, o1, o2, o3, o4, g1, decide_eq_true g2, heq, decide_eq_false g3]
              refine ⟨_, rfl, ⟨_, rfl⟩, .bool, ?_⟩
              simp (disch := omega) only [kB, kcx, kdm, kdn, kel, aop, resultsL, resultOf, Nat.reduceEqDiff, reduceCtorEq, eq1, apartOK, apart2, AObj.live, Int.reduceEq, Int.reduceLT, Int.reduceLE, Int.reduceAdd, Int.reduceSub, Int.reduceMul, Int.reduceToNat, cutCells, Nat.reduceAdd, Nat.reduceLeDiff, Nat.reduceLT, Nat.reduceMul, Nat.reduceSub]
              exact ⟨_, rfl, bK3.ext, .bool, hb⟩
          · have hb := bad (by rw [hev, decide_eq_false (fun q => g2 q.2.1)]; simp) K
            simp (disch := omega) only [kB, kcx, kdm, kdn, kel, aop, resultsL, resultOf, Nat.reduceEqDiff, reduceCtorEq, eq1, apartOK, apart2, AObj.live, Int.reduceEq, Int.reduceLT, Int.reduceLE, Int.reduceAdd, Int.reduceSub, Int.reduceMul, Int.reduceToNat, cutCells, Nat.reduceAdd, Nat.reduceLeDiff, Nat.reduceLT, Nat.reduceMul, Nat.reduceSub, o1, o2, o3, o4, g1, decide_eq_false g2]
            refine ⟨_, rfl, ⟨_, rfl⟩, .bool, ?_⟩
            simp (disch := omega) only [kB, kcx, kdm, kdn, kel, aop, resultsL, resultOf, Nat.reduceEqDiff, reduceCtorEq, eq1, apartOK, apart2, AObj.live, Int.reduceEq, Int.reduceLT, Int.reduceLE, Int.reduceAdd, Int.reduceSub, Int.reduceMul, Int.reduceToNat, cutCells, Nat.reduceAdd, Nat.reduceLeDiff, Nat.reduceLT, Nat.reduceMul, Nat.reduceSub]
            exact ⟨_, rfl, bK3.ext, .bool, hb⟩
        · have hb := bad (by rw [hev, decide_eq_false (fun q => g1 q.1)]; simp) K
          simp (disch := omega) only [kB, kcx, kdm, kdn, kel, aop, resultsL, resultOf, Nat.reduceEqDiff, reduceCtorEq, eq1, apartOK, apart2, AObj.live, Int.reduceEq, Int.reduceLT, Int.reduceLE, Int.reduceAdd, Int.reduceSub, Int.reduceMul, Int.reduceToNat, cutCells, Nat.reduceAdd, Nat.reduceLeDiff, Nat.reduceLT, Nat.reduceMul, Nat.reduceSub, o1, o2, o3, o4, decide_eq_false g1, g1]
          refine ⟨_, rfl, ⟨_, rfl⟩, .bool, ?_⟩
          simp (disch := omega) only [kB, kcx, kdm, kdn, kel, aop, resultsL, resultOf, Nat.reduceEqDiff, reduceCtorEq, eq1, apartOK, apart2, AObj.live, Int.reduceEq, Int.reduceLT, Int.reduceLE, Int.reduceAdd, Int.reduceSub, Int.reduceMul, Int.reduceToNat, cutCells, Nat.reduceAdd, Nat.reduceLeDiff, Nat.reduceLT, Nat.reduceMul, Nat.reduceSub]
          exact ⟨_, rfl, bK3.ext, .bool, hb⟩
      · have c1 : ¬ (i : Int) < (l.length : Int) := by omega
        rw [(all2_iff _).2 ⟨hn, fun j a b => hq j a b (by omega)⟩] at h
        simp (disch := omega) only [kB, kcx, kdm, kdn, kel, aop, resultsL, resultOf, Nat.reduceEqDiff, reduceCtorEq, eq1, apartOK, apart2, AObj.live, Int.reduceEq, Int.reduceLT, Int.reduceLE, Int.reduceAdd, Int.reduceSub, Int.reduceMul, Int.reduceToNat, cutCells, Nat.reduceAdd, Nat.reduceLeDiff, Nat.reduceLT, Nat.reduceMul, Nat.reduceSub, c1]
        exact ⟨_, rfl, bK.ext, .bool, h⟩
    · have c0 : ¬ (l.length : Int) = (m.length : Int) := by omega
      have he : all2 St.eqv l m = false := by
        rw [← Bool.not_eq_true, all2_iff]
        exact fun q => hn q.1
      rw [he] at h
      simp (disch := omega) only [kB, kcx, kdm, kdn, kel, aop, resultsL, resultOf, Nat.reduceEqDiff, reduceCtorEq, eq1, apartOK, apart2, AObj.live, Int.reduceEq, Int.reduceLT, Int.reduceLE, Int.reduceAdd, Int.reduceSub, Int.reduceMul, Int.reduceToNat, cutCells, Nat.reduceAdd, Nat.reduceLeDiff, Nat.reduceLT, Nat.reduceMul, Nat.reduceSub, c0]
      exact ⟨_, rfl, ⟨[], by simp⟩, .bool, h⟩

end Go.Proofs.YtpllhhaeclnngaaGreat.Ev

/- Eq and Same of schemas: both are the same plain answer. -/
namespace Go.Proofs.YtpllhhaeclnngaaGreat.Ev
set_option maxRecDepth 100000
set_option linter.unusedSimpArgs false
set_option linter.unusedVariables false
variable {R : FRes → Heap → Prop} {H K : Heap}

def Sch.eqv (a b : Sch) : Bool := decide (a.mets = b.mets) && (all2 Hdr.eqv a.headers b.headers && (all2 Sta.eqv a.states b.states && (all2 Act.eqv a.actions b.actions && (all2 Tbl.eqv a.tables b.tables && eqvL a.control b.control))))

set_option maxHeartbeats 2000000 in
theorem same_s {a b : Sch} (ha : a.OK K) (hb : b.OK K) (h : R (.ret (.bool (a.eqv b))) K) : WD T 15 [.agg a.cells.toArray, .agg b.cells.toArray] K R := by
  refine WD.gc0 (WD.of follows t15 (by simp) ?_)
  obtain ⟨o0, o1, o2, o3, o4, o5⟩ := ha.one
  obtain ⟨q0, q1, q2, q3, q4, q5⟩ := hb.one
  simp only [Sch.cells]
  simp (disch := omega) only [kB, kcx, kdm, kdn, kel, aop, resultsL, resultOf, Nat.reduceEqDiff, reduceCtorEq, eq1, apartOK, apart2, AObj.live, Int.reduceEq, Int.reduceLT, Int.reduceLE, Int.reduceAdd, Int.reduceSub, Int.reduceMul, Int.reduceToNat, cutCells, Nat.reduceAdd, Nat.reduceLeDiff, Nat.reduceLT, Nat.reduceMul, Nat.reduceSub, o0, o1, o2, o3, o4, o5, q0, q1, q2, q3, q4, q5]
  generalize hK2 : (K ++ [AObj.row _ 0 true, AObj.row _ 0 true] : Heap) = K2
  have r1 : hget K2 K.length = .row [a.hv, a.mv, a.sv, a.av, a.tv, a.cv] 0 true := by rw [← hK2, hget_base0]; rfl
  have r2 : hget K2 (K.length + 1) = .row [b.hv, b.mv, b.sv, b.av, b.tv, b.cv] 0 true := by rw [← hK2, hget_base]; rfl
  have bK : Base K K2 := by rw [← hK2]; exact Base.app0 _
  clear hK2
  refine equF_s (ha.ms.1.base bK) ha.ms.2.1 (hb.ms.1.base bK) ?_
  have fin : ∀ v, a.eqv b = v → (∃ v', FRes.ret (.bool v) = .ret v' ∧ (∃ g, K2 = K ++ g) ∧ Scoped K.length v' ∧ R (.ret v') K) := fun v e => ⟨_, rfl, bK.ext, .bool, by rw [← e]; exact h⟩
  by_cases c1 : a.mets = b.mets
  · rw [decide_eq_true c1]
    simp (disch := omega) only [kB, kcx, kdm, kdn, kel, aop, resultsL, resultOf, Nat.reduceEqDiff, reduceCtorEq, eq1, apartOK, apart2, AObj.live, Int.reduceEq, Int.reduceLT, Int.reduceLE, Int.reduceAdd, Int.reduceSub, Int.reduceMul, Int.reduceToNat, cutCells, Nat.reduceAdd, Nat.reduceLeDiff, Nat.reduceLT, Nat.reduceMul, Nat.reduceSub, r1, r2]
    refine eqfH_s (ha.hs.1.base bK) ha.hs.2.1 (fun x hx => (ha.hs.2.2 x hx).base bK) (hb.hs.1.base bK) (fun x hx => (hb.hs.2.2 x hx).base bK) ?_
    by_cases c2 : all2 Hdr.eqv a.headers b.headers = true
    · rw [c2]
      simp (disch := omega) only [kB, kcx, kdm, kdn, kel, aop, resultsL, resultOf, Nat.reduceEqDiff, reduceCtorEq, eq1, apartOK, apart2, AObj.live, Int.reduceEq, Int.reduceLT, Int.reduceLE, Int.reduceAdd, Int.reduceSub, Int.reduceMul, Int.reduceToNat, cutCells, Nat.reduceAdd, Nat.reduceLeDiff, Nat.reduceLT, Nat.reduceMul, Nat.reduceSub, r1, r2]
      refine eqfS_s (ha.ss.1.base bK) ha.ss.2.1 (fun x hx => (ha.ss.2.2 x hx).base bK) (hb.ss.1.base bK) (fun x hx => (hb.ss.2.2 x hx).base bK) ?_
      by_cases c3 : all2 Sta.eqv a.states b.states = true
      · rw [c3]
        simp (disch := omega) only [kB, kcx, kdm, kdn, kel, aop, resultsL, resultOf, Nat.reduceEqDiff, reduceCtorEq, eq1, apartOK, apart2, AObj.live, Int.reduceEq, Int.reduceLT, Int.reduceLE, Int.reduceAdd, Int.reduceSub, Int.reduceMul, Int.reduceToNat, cutCells, Nat.reduceAdd, Nat.reduceLeDiff, Nat.reduceLT, Nat.reduceMul, Nat.reduceSub, r1, r2]
        refine eqfA_s (ha.acs.1.base bK) ha.acs.2.1 (fun x hx => (ha.acs.2.2 x hx).base bK) (hb.acs.1.base bK) (fun x hx => (hb.acs.2.2 x hx).base bK) ?_
        by_cases c4 : all2 Act.eqv a.actions b.actions = true
        · rw [c4]
          simp (disch := omega) only [kB, kcx, kdm, kdn, kel, aop, resultsL, resultOf, Nat.reduceEqDiff, reduceCtorEq, eq1, apartOK, apart2, AObj.live, Int.reduceEq, Int.reduceLT, Int.reduceLE, Int.reduceAdd, Int.reduceSub, Int.reduceMul, Int.reduceToNat, cutCells, Nat.reduceAdd, Nat.reduceLeDiff, Nat.reduceLT, Nat.reduceMul, Nat.reduceSub, r1, r2]
          refine eqfT_s (ha.ts.1.base bK) ha.ts.2.1 (fun x hx => (ha.ts.2.2 x hx).base bK) (hb.ts.1.base bK) (fun x hx => (hb.ts.2.2 x hx).base bK) ?_
          by_cases c5 : all2 Tbl.eqv a.tables b.tables = true
          · rw [c5]
            simp (disch := omega) only [kB, kcx, kdm, kdn, kel, aop, resultsL, resultOf, Nat.reduceEqDiff, reduceCtorEq, eq1, apartOK, apart2, AObj.live, Int.reduceEq, Int.reduceLT, Int.reduceLE, Int.reduceAdd, Int.reduceSub, Int.reduceMul, Int.reduceToNat, cutCells, Nat.reduceAdd, Nat.reduceLeDiff, Nat.reduceLT, Nat.reduceMul, Nat.reduceSub, r1, r2]
            refine sameStages_s _ _ (Nat.le_refl _) _ _ _ _ _ (ha.cs.base bK) (hb.cs.base bK) ?_
            have e := fin (eqvL a.control b.control) (by rw [Sch.eqv, decide_eq_true c1, c2, c3, c4, c5]; simp)
            simp (disch := omega) only [kB, kcx, kdm, kdn, kel, aop, resultsL, resultOf, Nat.reduceEqDiff, reduceCtorEq, eq1, apartOK, apart2, AObj.live, Int.reduceEq, Int.reduceLT, Int.reduceLE, Int.reduceAdd, Int.reduceSub, Int.reduceMul, Int.reduceToNat, cutCells, Nat.reduceAdd, Nat.reduceLeDiff, Nat.reduceLT, Nat.reduceMul, Nat.reduceSub]
            exact e
          · have e := fin false (by rw [Bool.not_eq_true] at c5; rw [Sch.eqv, c5]; simp)
            rw [Bool.not_eq_true] at c5
            rw [c5]
            simp (disch := omega) only [kB, kcx, kdm, kdn, kel, aop, resultsL, resultOf, Nat.reduceEqDiff, reduceCtorEq, eq1, apartOK, apart2, AObj.live, Int.reduceEq, Int.reduceLT, Int.reduceLE, Int.reduceAdd, Int.reduceSub, Int.reduceMul, Int.reduceToNat, cutCells, Nat.reduceAdd, Nat.reduceLeDiff, Nat.reduceLT, Nat.reduceMul, Nat.reduceSub]
            exact e
        · have e := fin false (by rw [Bool.not_eq_true] at c4; rw [Sch.eqv, c4]; simp)
          rw [Bool.not_eq_true] at c4
          rw [c4]
          simp (disch := omega) only [kB, kcx, kdm, kdn, kel, aop, resultsL, resultOf, Nat.reduceEqDiff, reduceCtorEq, eq1, apartOK, apart2, AObj.live, Int.reduceEq, Int.reduceLT, Int.reduceLE, Int.reduceAdd, Int.reduceSub, Int.reduceMul, Int.reduceToNat, cutCells, Nat.reduceAdd, Nat.reduceLeDiff, Nat.reduceLT, Nat.reduceMul, Nat.reduceSub]
          exact e
      · have e := fin false (by rw [Bool.not_eq_true] at c3; rw [Sch.eqv, c3]; simp)
        rw [Bool.not_eq_true] at c3
        rw [c3]
        simp (disch := omega) only [kB, kcx, kdm, kdn, kel, aop, resultsL, resultOf, Nat.reduceEqDiff, reduceCtorEq, eq1, apartOK, apart2, AObj.live, Int.reduceEq, Int.reduceLT, Int.reduceLE, Int.reduceAdd, Int.reduceSub, Int.reduceMul, Int.reduceToNat, cutCells, Nat.reduceAdd, Nat.reduceLeDiff, Nat.reduceLT, Nat.reduceMul, Nat.reduceSub]
        exact e
    · have e := fin false (by rw [Bool.not_eq_true] at c2; rw [Sch.eqv, c2]; simp)
      rw [Bool.not_eq_true] at c2
      rw [c2]
      simp (disch := omega) only [kB, kcx, kdm, kdn, kel, aop, resultsL, resultOf, Nat.reduceEqDiff, reduceCtorEq, eq1, apartOK, apart2, AObj.live, Int.reduceEq, Int.reduceLT, Int.reduceLE, Int.reduceAdd, Int.reduceSub, Int.reduceMul, Int.reduceToNat, cutCells, Nat.reduceAdd, Nat.reduceLeDiff, Nat.reduceLT, Nat.reduceMul, Nat.reduceSub]
      exact e
  · have e := fin false (by rw [Sch.eqv, decide_eq_false c1]; simp)
    rw [decide_eq_false c1]
    simp (disch := omega) only [kB, kcx, kdm, kdn, kel, aop, resultsL, resultOf, Nat.reduceEqDiff, reduceCtorEq, eq1, apartOK, apart2, AObj.live, Int.reduceEq, Int.reduceLT, Int.reduceLE, Int.reduceAdd, Int.reduceSub, Int.reduceMul, Int.reduceToNat, cutCells, Nat.reduceAdd, Nat.reduceLeDiff, Nat.reduceLT, Nat.reduceMul, Nat.reduceSub]
    exact e

end Go.Proofs.YtpllhhaeclnngaaGreat.Ev

/- Eq of schemas: the document. Printed by gen_z8.py. -/
namespace Go.Proofs.YtpllhhaeclnngaaGreat.Ev
set_option maxRecDepth 100000
set_option linter.unusedSimpArgs false
set_option linter.unusedVariables false
variable {R : FRes → Heap → Prop} {H K : Heap}

theorem Sch.OK.base {s : Sch} (h : s.OK H) (hb : Base H K) : s.OK K where
  hs := ⟨h.hs.1.base hb, h.hs.2.1, fun x hx => (h.hs.2.2 x hx).base hb⟩
  ms := ⟨h.ms.1.base hb, h.ms.2⟩
  ss := ⟨h.ss.1.base hb, h.ss.2.1, fun x hx => (h.ss.2.2 x hx).base hb⟩
  acs := ⟨h.acs.1.base hb, h.acs.2.1, fun x hx => (h.acs.2.2 x hx).base hb⟩
  ts := ⟨h.ts.1.base hb, h.ts.2.1, fun x hx => (h.ts.2.2 x hx).base hb⟩
  cs := h.cs.base hb

theorem eqc_w {a b : Sch} (ha : a.OK K) (hb : b.OK K) {bx : Nat} {e : Env} (r1 : hget K bx = .row [a.hv, a.mv, a.sv, a.av, a.tv, a.cv] 0 true) (r2 : hget K (bx + 1) = .row [b.hv, b.mv, b.sv, b.av, b.tv, b.cv] 0 true)
    (he : (∃ x : Nat → Value, e = [x 0, x 1, .pointer (some ⟨bx, 0, none⟩), .pointer (some ⟨bx + 1, 0, none⟩), x 4, x 5, x 6, x 7, x 8, x 9, x 10, x 11, x 12, x 13, x 14, x 15, x 16, x 17, x 18, x 19, x 20, x 21, x 22, x 23, x 24, x 25, x 26, x 27, x 28, x 29, x 30, x 31, x 32, x 33, x 34, x 35, x 36, x 37, x 38, x 39, x 40, x 41, x 42, x 43, x 44, x 45, x 46, x 47, x 48, x 49, x 50, x 51, x 52, x 53, x 54, x 55, x 56, x 57, x 58, x 59, x 60, x 61, x 62, x 63, x 64, x 65, x 66, x 67, x 68, x 69, x 70, x 71, x 72, x 73, x 74, x 75, x 76, x 77, x 78, x 79, x 80, x 81, x 82, x 83, x 84, x 85, x 86, x 87, x 88, x 89, x 90, x 91, x 92, x 93, x 94, x 95, x 96, x 97, x 98, x 99, x 100, x 101, x 102, x 103, x 104, x 105, x 106, x 107, x 108, x 109, x 110, x 111, x 112, x 113, x 114, x 115, x 116, x 117, x 118, x 119, x 120, x 121, x 122, x 123, x 124, x 125, x 126, x 127, x 128, x 129, x 130, x 131, x 132, x 133, x 134, x 135, x 136, x 137, x 138, x 139, x 140, x 141, x 142, x 143])) (h : R (.ret (.bool (eqvL a.control b.control))) K) : WC T (g14.body.at [1, 1, 1, 1, 1, 1, 1]) e K (retK [.tmp 4] R) := by
  obtain ⟨x, rfl⟩ := he
  simp only [AFunc.body, g14, ACode.at]
  simp (disch := omega) only [kB, kcx, kdm, kdn, kel, aop, resultsL, resultOf, Nat.reduceEqDiff, reduceCtorEq, eq1, apartOK, apart2, AObj.live, Int.reduceEq, Int.reduceLT, Int.reduceLE, Int.reduceAdd, Int.reduceSub, Int.reduceMul, Int.reduceToNat, cutCells, Nat.reduceAdd, Nat.reduceLeDiff, Nat.reduceLT, Nat.reduceMul, Nat.reduceSub, r1, r2]
  refine eqStages_s _ _ (Nat.le_refl _) _ _ _ K _ ha.cs hb.cs ?_
  simp (disch := omega) only [kB, kcx, kdm, kdn, kel, aop, resultsL, resultOf, Nat.reduceEqDiff, reduceCtorEq, eq1, apartOK, apart2, AObj.live, Int.reduceEq, Int.reduceLT, Int.reduceLE, Int.reduceAdd, Int.reduceSub, Int.reduceMul, Int.reduceToNat, cutCells, Nat.reduceAdd, Nat.reduceLeDiff, Nat.reduceLT, Nat.reduceMul, Nat.reduceSub]
  exact h

def eq12I (K : Heap) (bx : Nat) (l m : List Tbl) : Nat → Env → Heap → Prop := fun z e K' =>
  ∃ i : Nat, i ≤ l.length ∧ z = l.length - i ∧ K' = K ∧ (∀ j (h1 : j < l.length) (h2 : j < m.length), j < i → l[j].eqv m[j] = true) ∧ (∃ x : Nat → Value, e = [x 0, x 1, .pointer (some ⟨bx, 0, none⟩), .pointer (some ⟨bx + 1, 0, none⟩), x 4, x 5, x 6, x 7, x 8, x 9, x 10, x 11, .int .i64 (i : Int), x 13, x 14, x 15, x 16, x 17, x 18, x 19, x 20, x 21, x 22, x 23, x 24, x 25, x 26, x 27, x 28, x 29, x 30, x 31, x 32, x 33, x 34, x 35, x 36, x 37, x 38, x 39, x 40, x 41, x 42, x 43, x 44, x 45, x 46, x 47, x 48, x 49, x 50, x 51, x 52, x 53, x 54, x 55, x 56, x 57, x 58, x 59, x 60, x 61, x 62, x 63, x 64, x 65, x 66, x 67, x 68, x 69, x 70, x 71, x 72, x 73, x 74, x 75, x 76, x 77, x 78, x 79, x 80, x 81, x 82, x 83, x 84, x 85, x 86, x 87, x 88, x 89, x 90, x 91, x 92, x 93, x 94, x 95, x 96, x 97, x 98, x 99, x 100, x 101, x 102, x 103, x 104, x 105, x 106, x 107, x 108, x 109, x 110, x 111, x 112, x 113, x 114, x 115, x 116, x 117, x 118, x 119, x 120, x 121, x 122, x 123, x 124, x 125, x 126, x 127, x 128, x 129, x 130, x 131, x 132, x 133, x 134, x 135, x 136, x 137, x 138, x 139, x 140, x 141, x 142, x 143])

set_option maxHeartbeats 2000000 in
theorem eq12_w {a b : Sch} (ha : a.OK K) (hb : b.OK K) {bx : Nat} {e : Env} (r1 : hget K bx = .row [a.hv, a.mv, a.sv, a.av, a.tv, a.cv] 0 true) (r2 : hget K (bx + 1) = .row [b.hv, b.mv, b.sv, b.av, b.tv, b.cv] 0 true)
    (hn : a.tables.length = b.tables.length)
    (he : (∃ x : Nat → Value, e = [x 0, x 1, .pointer (some ⟨bx, 0, none⟩), .pointer (some ⟨bx + 1, 0, none⟩), x 4, x 5, x 6, x 7, x 8, x 9, x 10, x 11, x 12, x 13, x 14, x 15, x 16, x 17, x 18, x 19, x 20, x 21, x 22, x 23, x 24, x 25, x 26, x 27, x 28, x 29, x 30, x 31, x 32, x 33, x 34, x 35, x 36, x 37, x 38, x 39, x 40, x 41, x 42, x 43, x 44, x 45, x 46, x 47, x 48, x 49, x 50, x 51, x 52, x 53, x 54, x 55, x 56, x 57, x 58, x 59, x 60, x 61, x 62, x 63, x 64, x 65, x 66, x 67, x 68, x 69, x 70, x 71, x 72, x 73, x 74, x 75, x 76, x 77, x 78, x 79, x 80, x 81, x 82, x 83, x 84, x 85, x 86, x 87, x 88, x 89, x 90, x 91, x 92, x 93, x 94, x 95, x 96, x 97, x 98, x 99, x 100, x 101, x 102, x 103, x 104, x 105, x 106, x 107, x 108, x 109, x 110, x 111, x 112, x 113, x 114, x 115, x 116, x 117, x 118, x 119, x 120, x 121, x 122, x 123, x 124, x 125, x 126, x 127, x 128, x 129, x 130, x 131, x 132, x 133, x 134, x 135, x 136, x 137, x 138, x 139, x 140, x 141, x 142, x 143])) (h : R (.ret (.bool (all2 Tbl.eqv a.tables b.tables && (eqvL a.control b.control)))) K) : WC T (g14.body.at [1, 1, 1, 1, 1, 1]) e K (retK [.tmp 4] R) := by
  obtain ⟨x, rfl⟩ := he
  obtain ⟨Z, hZ⟩ : ∃ Z, Z = WC T (g14.body.at [1, 1, 1, 1, 1, 1, 1]) := ⟨_, rfl⟩
  have hZ' := hZ.symm
  simp only [AFunc.body, g14, ACode.at] at hZ' ⊢
  have cont : ∀ (e : Env), R (.ret (.bool (eqvL a.control b.control))) K → (∃ x : Nat → Value, e = [x 0, x 1, .pointer (some ⟨bx, 0, none⟩), .pointer (some ⟨bx + 1, 0, none⟩), x 4, x 5, x 6, x 7, x 8, x 9, x 10, x 11, x 12, x 13, x 14, x 15, x 16, x 17, x 18, x 19, x 20, x 21, x 22, x 23, x 24, x 25, x 26, x 27, x 28, x 29, x 30, x 31, x 32, x 33, x 34, x 35, x 36, x 37, x 38, x 39, x 40, x 41, x 42, x 43, x 44, x 45, x 46, x 47, x 48, x 49, x 50, x 51, x 52, x 53, x 54, x 55, x 56, x 57, x 58, x 59, x 60, x 61, x 62, x 63, x 64, x 65, x 66, x 67, x 68, x 69, x 70, x 71, x 72, x 73, x 74, x 75, x 76, x 77, x 78, x 79, x 80, x 81, x 82, x 83, x 84, x 85, x 86, x 87, x 88, x 89, x 90, x 91, x 92, x 93, x 94, x 95, x 96, x 97, x 98, x 99, x 100, x 101, x 102, x 103, x 104, x 105, x 106, x 107, x 108, x 109, x 110, x 111, x 112, x 113, x 114, x 115, x 116, x 117, x 118, x 119, x 120, x 121, x 122, x 123, x 124, x 125, x 126, x 127, x 128, x 129, x 130, x 131, x 132, x 133, x 134, x 135, x 136, x 137, x 138, x 139, x 140, x 141, x 142, x 143]) → Z e K (retK [.tmp 4] R) := fun e q1 q2 => by
    rw [hZ]
    exact eqc_w ha hb r1 r2 q2 q1
  obtain ⟨h1, n1, k1⟩ := ha.ts
  obtain ⟨h2, n2, k2⟩ := hb.ts
  unfold few at n1
  obtain ⟨ad1, e1⟩ := h1.sl
  obtain ⟨ad2, e2⟩ := h2.sl
  rw [e1] at h1
  rw [e2] at h2
  rw [List.length_map] at h1 h2 e1 e2
  have r1' := r1
  have r2' := r2
  rw [e1] at r1'
  rw [e2] at r2'
  generalize a.tables = l at *
  generalize b.tables = m at *
  simp (disch := omega) only [kB, kcx, kdm, kdn, kel, aop, resultsL, resultOf, Nat.reduceEqDiff, reduceCtorEq, eq1, apartOK, apart2, AObj.live, Int.reduceEq, Int.reduceLT, Int.reduceLE, Int.reduceAdd, Int.reduceSub, Int.reduceMul, Int.reduceToNat, cutCells, Nat.reduceAdd, Nat.reduceLeDiff, Nat.reduceLT, Nat.reduceMul, Nat.reduceSub]
  refine WLoop.inv (eq12I K bx l m) ?_ l.length _ _ ⟨0, Nat.zero_le _, by omega, rfl, fun j _ _ h0 => by omega, by exact ex_env rfl⟩
  rintro z e K' ⟨i, hi, rfl, rfl, hq, ⟨x, rfl⟩⟩
  by_cases hlt : i < l.length
  · have c1 : (i : Int) < (l.length : Int) := by omega
    have c2 : (i : Int) < (m.length : Int) := by omega
    obtain ⟨b1, u0, w0, rfl, p1, p2, p3, p4, p5⟩ := h1.at Tbl.len hlt
    obtain ⟨b2, u2, w2', rfl, q1, q2, q3, q4, q5⟩ := h2.at Tbl.len (show i < m.length by omega)
    have w2 : IntKind.i64.wrap ((i : Int) + 1) = ((i + 1 : Nat) : Int) := by rw [show (i : Int) + 1 = ((i + 1 : Nat) : Int) by omega]; exact wr_i64 (by omega) (by omega)
    have hne : ¬ l[i].eqv m[i] = true → all2 Tbl.eqv l m = false := fun hd => by
      rw [← Bool.not_eq_true, all2_iff]
      exact fun q => hd (q.2 i hlt (by omega))
    have hq2 : l[i].eqv m[i] = true → ∀ j (h1 : j < l.length) (h2 : j < m.length), j < i + 1 → l[j].eqv m[j] = true := fun he j a b hj => by
      by_cases q : j = i
      · subst q; exact he
      · exact hq j a b (by omega)
    have ho1 := k1 _ (List.getElem_mem hlt)
    have ho2 := k2 _ (List.getElem_mem (show i < m.length by omega))
    generalize l[i] = x at *
    generalize m[i] = y at *
    simp (disch := omega) only [kB, kcx, kdm, kdn, kel, aop, resultsL, resultOf, Nat.reduceEqDiff, reduceCtorEq, eq1, apartOK, apart2, AObj.live, Int.reduceEq, Int.reduceLT, Int.reduceLE, Int.reduceAdd, Int.reduceSub, Int.reduceMul, Int.reduceToNat, cutCells, Nat.reduceAdd, Nat.reduceLeDiff, Nat.reduceLT, Nat.reduceMul, Nat.reduceSub, c1, c2, r1', r2', p2, q2, p3, p4, q3, q4]
    refine eqTbl_s ho1 ho2 ?_
    by_cases he : x.eqv y = true
    · rw [he]
      simp (disch := omega) only [kB, kcx, kdm, kdn, kel, aop, resultsL, resultOf, Nat.reduceEqDiff, reduceCtorEq, eq1, apartOK, apart2, AObj.live, Int.reduceEq, Int.reduceLT, Int.reduceLE, Int.reduceAdd, Int.reduceSub, Int.reduceMul, Int.reduceToNat, cutCells, Nat.reduceAdd, Nat.reduceLeDiff, Nat.reduceLT, Nat.reduceMul, Nat.reduceSub, w2]
      exact ⟨l.length - (i + 1), by omega, i + 1, by omega, rfl, rfl, hq2 he, by exact ex_env rfl⟩
    · rw [hne he, Bool.false_and] at h
      rw [Bool.not_eq_true] at he
      rw [he]
      simp (disch := omega) only [kB, kcx, kdm, kdn, kel, aop, resultsL, resultOf, Nat.reduceEqDiff, reduceCtorEq, eq1, apartOK, apart2, AObj.live, Int.reduceEq, Int.reduceLT, Int.reduceLE, Int.reduceAdd, Int.reduceSub, Int.reduceMul, Int.reduceToNat, cutCells, Nat.reduceAdd, Nat.reduceLeDiff, Nat.reduceLT, Nat.reduceMul, Nat.reduceSub]
      exact h
  · have c1 : ¬ (i : Int) < (l.length : Int) := by omega
    have he : all2 Tbl.eqv l m = true := (all2_iff _).2 ⟨hn, fun j a b => hq j a b (by omega)⟩
    rw [he, Bool.true_and] at h
    simp (disch := omega) only [kB, kcx, kdm, kdn, kel, aop, resultsL, resultOf, Nat.reduceEqDiff, reduceCtorEq, eq1, apartOK, apart2, AObj.live, Int.reduceEq, Int.reduceLT, Int.reduceLE, Int.reduceAdd, Int.reduceSub, Int.reduceMul, Int.reduceToNat, cutCells, Nat.reduceAdd, Nat.reduceLeDiff, Nat.reduceLT, Nat.reduceMul, Nat.reduceSub, c1, r1', hZ']
    exact cont _ h (by exact ex_env rfl)

def eq10I (K : Heap) (bx : Nat) (l m : List Act) : Nat → Env → Heap → Prop := fun z e K' =>
  ∃ i : Nat, i ≤ l.length ∧ z = l.length - i ∧ K' = K ∧ (∀ j (h1 : j < l.length) (h2 : j < m.length), j < i → l[j].eqv m[j] = true) ∧ (∃ x : Nat → Value, e = [x 0, x 1, .pointer (some ⟨bx, 0, none⟩), .pointer (some ⟨bx + 1, 0, none⟩), x 4, x 5, x 6, x 7, x 8, x 9, .int .i64 (i : Int), x 11, x 12, x 13, x 14, x 15, x 16, x 17, x 18, x 19, x 20, x 21, x 22, x 23, x 24, x 25, x 26, x 27, x 28, x 29, x 30, x 31, x 32, x 33, x 34, x 35, x 36, x 37, x 38, x 39, x 40, x 41, x 42, x 43, x 44, x 45, x 46, x 47, x 48, x 49, x 50, x 51, x 52, x 53, x 54, x 55, x 56, x 57, x 58, x 59, x 60, x 61, x 62, x 63, x 64, x 65, x 66, x 67, x 68, x 69, x 70, x 71, x 72, x 73, x 74, x 75, x 76, x 77, x 78, x 79, x 80, x 81, x 82, x 83, x 84, x 85, x 86, x 87, x 88, x 89, x 90, x 91, x 92, x 93, x 94, x 95, x 96, x 97, x 98, x 99, x 100, x 101, x 102, x 103, x 104, x 105, x 106, x 107, x 108, x 109, x 110, x 111, x 112, x 113, x 114, x 115, x 116, x 117, x 118, x 119, x 120, x 121, x 122, x 123, x 124, x 125, x 126, x 127, x 128, x 129, x 130, x 131, x 132, x 133, x 134, x 135, x 136, x 137, x 138, x 139, x 140, x 141, x 142, x 143])

set_option maxHeartbeats 2000000 in
theorem eq10_w {a b : Sch} (ha : a.OK K) (hb : b.OK K) {bx : Nat} {e : Env} (r1 : hget K bx = .row [a.hv, a.mv, a.sv, a.av, a.tv, a.cv] 0 true) (r2 : hget K (bx + 1) = .row [b.hv, b.mv, b.sv, b.av, b.tv, b.cv] 0 true)
    (hn : a.actions.length = b.actions.length) (hn12 : a.tables.length = b.tables.length)
    (he : (∃ x : Nat → Value, e = [x 0, x 1, .pointer (some ⟨bx, 0, none⟩), .pointer (some ⟨bx + 1, 0, none⟩), x 4, x 5, x 6, x 7, x 8, x 9, x 10, x 11, x 12, x 13, x 14, x 15, x 16, x 17, x 18, x 19, x 20, x 21, x 22, x 23, x 24, x 25, x 26, x 27, x 28, x 29, x 30, x 31, x 32, x 33, x 34, x 35, x 36, x 37, x 38, x 39, x 40, x 41, x 42, x 43, x 44, x 45, x 46, x 47, x 48, x 49, x 50, x 51, x 52, x 53, x 54, x 55, x 56, x 57, x 58, x 59, x 60, x 61, x 62, x 63, x 64, x 65, x 66, x 67, x 68, x 69, x 70, x 71, x 72, x 73, x 74, x 75, x 76, x 77, x 78, x 79, x 80, x 81, x 82, x 83, x 84, x 85, x 86, x 87, x 88, x 89, x 90, x 91, x 92, x 93, x 94, x 95, x 96, x 97, x 98, x 99, x 100, x 101, x 102, x 103, x 104, x 105, x 106, x 107, x 108, x 109, x 110, x 111, x 112, x 113, x 114, x 115, x 116, x 117, x 118, x 119, x 120, x 121, x 122, x 123, x 124, x 125, x 126, x 127, x 128, x 129, x 130, x 131, x 132, x 133, x 134, x 135, x 136, x 137, x 138, x 139, x 140, x 141, x 142, x 143])) (h : R (.ret (.bool (all2 Act.eqv a.actions b.actions && (all2 Tbl.eqv a.tables b.tables && (eqvL a.control b.control))))) K) : WC T (g14.body.at [1, 1, 1, 1, 1]) e K (retK [.tmp 4] R) := by
  obtain ⟨x, rfl⟩ := he
  obtain ⟨Z, hZ⟩ : ∃ Z, Z = WC T (g14.body.at [1, 1, 1, 1, 1, 1]) := ⟨_, rfl⟩
  have hZ' := hZ.symm
  simp only [AFunc.body, g14, ACode.at] at hZ' ⊢
  have cont : ∀ (e : Env), R (.ret (.bool (all2 Tbl.eqv a.tables b.tables && (eqvL a.control b.control)))) K → (∃ x : Nat → Value, e = [x 0, x 1, .pointer (some ⟨bx, 0, none⟩), .pointer (some ⟨bx + 1, 0, none⟩), x 4, x 5, x 6, x 7, x 8, x 9, x 10, x 11, x 12, x 13, x 14, x 15, x 16, x 17, x 18, x 19, x 20, x 21, x 22, x 23, x 24, x 25, x 26, x 27, x 28, x 29, x 30, x 31, x 32, x 33, x 34, x 35, x 36, x 37, x 38, x 39, x 40, x 41, x 42, x 43, x 44, x 45, x 46, x 47, x 48, x 49, x 50, x 51, x 52, x 53, x 54, x 55, x 56, x 57, x 58, x 59, x 60, x 61, x 62, x 63, x 64, x 65, x 66, x 67, x 68, x 69, x 70, x 71, x 72, x 73, x 74, x 75, x 76, x 77, x 78, x 79, x 80, x 81, x 82, x 83, x 84, x 85, x 86, x 87, x 88, x 89, x 90, x 91, x 92, x 93, x 94, x 95, x 96, x 97, x 98, x 99, x 100, x 101, x 102, x 103, x 104, x 105, x 106, x 107, x 108, x 109, x 110, x 111, x 112, x 113, x 114, x 115, x 116, x 117, x 118, x 119, x 120, x 121, x 122, x 123, x 124, x 125, x 126, x 127, x 128, x 129, x 130, x 131, x 132, x 133, x 134, x 135, x 136, x 137, x 138, x 139, x 140, x 141, x 142, x 143]) → Z e K (retK [.tmp 4] R) := fun e q1 q2 => by
    rw [hZ]
    exact eq12_w ha hb r1 r2 hn12 q2 q1
  obtain ⟨h1, n1, k1⟩ := ha.acs
  obtain ⟨h2, n2, k2⟩ := hb.acs
  unfold few at n1
  obtain ⟨ad1, e1⟩ := h1.sl
  obtain ⟨ad2, e2⟩ := h2.sl
  rw [e1] at h1
  rw [e2] at h2
  rw [List.length_map] at h1 h2 e1 e2
  have r1' := r1
  have r2' := r2
  rw [e1] at r1'
  rw [e2] at r2'
  generalize a.actions = l at *
  generalize b.actions = m at *
  simp (disch := omega) only [kB, kcx, kdm, kdn, kel, aop, resultsL, resultOf, Nat.reduceEqDiff, reduceCtorEq, eq1, apartOK, apart2, AObj.live, Int.reduceEq, Int.reduceLT, Int.reduceLE, Int.reduceAdd, Int.reduceSub, Int.reduceMul, Int.reduceToNat, cutCells, Nat.reduceAdd, Nat.reduceLeDiff, Nat.reduceLT, Nat.reduceMul, Nat.reduceSub]
  refine WLoop.inv (eq10I K bx l m) ?_ l.length _ _ ⟨0, Nat.zero_le _, by omega, rfl, fun j _ _ h0 => by omega, by exact ex_env rfl⟩
  rintro z e K' ⟨i, hi, rfl, rfl, hq, ⟨x, rfl⟩⟩
  by_cases hlt : i < l.length
  · have c1 : (i : Int) < (l.length : Int) := by omega
    have c2 : (i : Int) < (m.length : Int) := by omega
    obtain ⟨b1, u0, w0, rfl, p1, p2, p3, p4, p5⟩ := h1.at Act.len hlt
    obtain ⟨b2, u2, w2', rfl, q1, q2, q3, q4, q5⟩ := h2.at Act.len (show i < m.length by omega)
    have w2 : IntKind.i64.wrap ((i : Int) + 1) = ((i + 1 : Nat) : Int) := by rw [show (i : Int) + 1 = ((i + 1 : Nat) : Int) by omega]; exact wr_i64 (by omega) (by omega)
    have hne : ¬ l[i].eqv m[i] = true → all2 Act.eqv l m = false := fun hd => by
      rw [← Bool.not_eq_true, all2_iff]
      exact fun q => hd (q.2 i hlt (by omega))
    have hq2 : l[i].eqv m[i] = true → ∀ j (h1 : j < l.length) (h2 : j < m.length), j < i + 1 → l[j].eqv m[j] = true := fun he j a b hj => by
      by_cases q : j = i
      · subst q; exact he
      · exact hq j a b (by omega)
    have ho1 := k1 _ (List.getElem_mem hlt)
    have ho2 := k2 _ (List.getElem_mem (show i < m.length by omega))
    generalize l[i] = x at *
    generalize m[i] = y at *
    simp (disch := omega) only [kB, kcx, kdm, kdn, kel, aop, resultsL, resultOf, Nat.reduceEqDiff, reduceCtorEq, eq1, apartOK, apart2, AObj.live, Int.reduceEq, Int.reduceLT, Int.reduceLE, Int.reduceAdd, Int.reduceSub, Int.reduceMul, Int.reduceToNat, cutCells, Nat.reduceAdd, Nat.reduceLeDiff, Nat.reduceLT, Nat.reduceMul, Nat.reduceSub, c1, c2, r1', r2', p2, q2, p3, p4, q3, q4]
    refine eqAct_s ho1 ho2 ?_
    by_cases he : x.eqv y = true
    · rw [he]
      simp (disch := omega) only [kB, kcx, kdm, kdn, kel, aop, resultsL, resultOf, Nat.reduceEqDiff, reduceCtorEq, eq1, apartOK, apart2, AObj.live, Int.reduceEq, Int.reduceLT, Int.reduceLE, Int.reduceAdd, Int.reduceSub, Int.reduceMul, Int.reduceToNat, cutCells, Nat.reduceAdd, Nat.reduceLeDiff, Nat.reduceLT, Nat.reduceMul, Nat.reduceSub, w2]
      exact ⟨l.length - (i + 1), by omega, i + 1, by omega, rfl, rfl, hq2 he, by exact ex_env rfl⟩
    · rw [hne he, Bool.false_and] at h
      rw [Bool.not_eq_true] at he
      rw [he]
      simp (disch := omega) only [kB, kcx, kdm, kdn, kel, aop, resultsL, resultOf, Nat.reduceEqDiff, reduceCtorEq, eq1, apartOK, apart2, AObj.live, Int.reduceEq, Int.reduceLT, Int.reduceLE, Int.reduceAdd, Int.reduceSub, Int.reduceMul, Int.reduceToNat, cutCells, Nat.reduceAdd, Nat.reduceLeDiff, Nat.reduceLT, Nat.reduceMul, Nat.reduceSub]
      exact h
  · have c1 : ¬ (i : Int) < (l.length : Int) := by omega
    have he : all2 Act.eqv l m = true := (all2_iff _).2 ⟨hn, fun j a b => hq j a b (by omega)⟩
    rw [he, Bool.true_and] at h
    simp (disch := omega) only [kB, kcx, kdm, kdn, kel, aop, resultsL, resultOf, Nat.reduceEqDiff, reduceCtorEq, eq1, apartOK, apart2, AObj.live, Int.reduceEq, Int.reduceLT, Int.reduceLE, Int.reduceAdd, Int.reduceSub, Int.reduceMul, Int.reduceToNat, cutCells, Nat.reduceAdd, Nat.reduceLeDiff, Nat.reduceLT, Nat.reduceMul, Nat.reduceSub, c1, r1', hZ']
    exact cont _ h (by exact ex_env rfl)

def eq8I (K : Heap) (bx : Nat) (l m : List Sta) : Nat → Env → Heap → Prop := fun z e K' =>
  ∃ i : Nat, i ≤ l.length ∧ z = l.length - i ∧ K' = K ∧ (∀ j (h1 : j < l.length) (h2 : j < m.length), j < i → l[j].eqv m[j] = true) ∧ (∃ x : Nat → Value, e = [x 0, x 1, .pointer (some ⟨bx, 0, none⟩), .pointer (some ⟨bx + 1, 0, none⟩), x 4, x 5, x 6, x 7, .int .i64 (i : Int), x 9, x 10, x 11, x 12, x 13, x 14, x 15, x 16, x 17, x 18, x 19, x 20, x 21, x 22, x 23, x 24, x 25, x 26, x 27, x 28, x 29, x 30, x 31, x 32, x 33, x 34, x 35, x 36, x 37, x 38, x 39, x 40, x 41, x 42, x 43, x 44, x 45, x 46, x 47, x 48, x 49, x 50, x 51, x 52, x 53, x 54, x 55, x 56, x 57, x 58, x 59, x 60, x 61, x 62, x 63, x 64, x 65, x 66, x 67, x 68, x 69, x 70, x 71, x 72, x 73, x 74, x 75, x 76, x 77, x 78, x 79, x 80, x 81, x 82, x 83, x 84, x 85, x 86, x 87, x 88, x 89, x 90, x 91, x 92, x 93, x 94, x 95, x 96, x 97, x 98, x 99, x 100, x 101, x 102, x 103, x 104, x 105, x 106, x 107, x 108, x 109, x 110, x 111, x 112, x 113, x 114, x 115, x 116, x 117, x 118, x 119, x 120, x 121, x 122, x 123, x 124, x 125, x 126, x 127, x 128, x 129, x 130, x 131, x 132, x 133, x 134, x 135, x 136, x 137, x 138, x 139, x 140, x 141, x 142, x 143])

set_option maxHeartbeats 2000000 in
theorem eq8_w {a b : Sch} (ha : a.OK K) (hb : b.OK K) {bx : Nat} {e : Env} (r1 : hget K bx = .row [a.hv, a.mv, a.sv, a.av, a.tv, a.cv] 0 true) (r2 : hget K (bx + 1) = .row [b.hv, b.mv, b.sv, b.av, b.tv, b.cv] 0 true)
    (hn : a.states.length = b.states.length) (hn10 : a.actions.length = b.actions.length) (hn12 : a.tables.length = b.tables.length)
    (he : (∃ x : Nat → Value, e = [x 0, x 1, .pointer (some ⟨bx, 0, none⟩), .pointer (some ⟨bx + 1, 0, none⟩), x 4, x 5, x 6, x 7, x 8, x 9, x 10, x 11, x 12, x 13, x 14, x 15, x 16, x 17, x 18, x 19, x 20, x 21, x 22, x 23, x 24, x 25, x 26, x 27, x 28, x 29, x 30, x 31, x 32, x 33, x 34, x 35, x 36, x 37, x 38, x 39, x 40, x 41, x 42, x 43, x 44, x 45, x 46, x 47, x 48, x 49, x 50, x 51, x 52, x 53, x 54, x 55, x 56, x 57, x 58, x 59, x 60, x 61, x 62, x 63, x 64, x 65, x 66, x 67, x 68, x 69, x 70, x 71, x 72, x 73, x 74, x 75, x 76, x 77, x 78, x 79, x 80, x 81, x 82, x 83, x 84, x 85, x 86, x 87, x 88, x 89, x 90, x 91, x 92, x 93, x 94, x 95, x 96, x 97, x 98, x 99, x 100, x 101, x 102, x 103, x 104, x 105, x 106, x 107, x 108, x 109, x 110, x 111, x 112, x 113, x 114, x 115, x 116, x 117, x 118, x 119, x 120, x 121, x 122, x 123, x 124, x 125, x 126, x 127, x 128, x 129, x 130, x 131, x 132, x 133, x 134, x 135, x 136, x 137, x 138, x 139, x 140, x 141, x 142, x 143])) (h : R (.ret (.bool (all2 Sta.eqv a.states b.states && (all2 Act.eqv a.actions b.actions && (all2 Tbl.eqv a.tables b.tables && (eqvL a.control b.control)))))) K) : WC T (g14.body.at [1, 1, 1, 1]) e K (retK [.tmp 4] R) := by
  obtain ⟨x, rfl⟩ := he
  obtain ⟨Z, hZ⟩ : ∃ Z, Z = WC T (g14.body.at [1, 1, 1, 1, 1]) := ⟨_, rfl⟩
  have hZ' := hZ.symm
  simp only [AFunc.body, g14, ACode.at] at hZ' ⊢
  have cont : ∀ (e : Env), R (.ret (.bool (all2 Act.eqv a.actions b.actions && (all2 Tbl.eqv a.tables b.tables && (eqvL a.control b.control))))) K → (∃ x : Nat → Value, e = [x 0, x 1, .pointer (some ⟨bx, 0, none⟩), .pointer (some ⟨bx + 1, 0, none⟩), x 4, x 5, x 6, x 7, x 8, x 9, x 10, x 11, x 12, x 13, x 14, x 15, x 16, x 17, x 18, x 19, x 20, x 21, x 22, x 23, x 24, x 25, x 26, x 27, x 28, x 29, x 30, x 31, x 32, x 33, x 34, x 35, x 36, x 37, x 38, x 39, x 40, x 41, x 42, x 43, x 44, x 45, x 46, x 47, x 48, x 49, x 50, x 51, x 52, x 53, x 54, x 55, x 56, x 57, x 58, x 59, x 60, x 61, x 62, x 63, x 64, x 65, x 66, x 67, x 68, x 69, x 70, x 71, x 72, x 73, x 74, x 75, x 76, x 77, x 78, x 79, x 80, x 81, x 82, x 83, x 84, x 85, x 86, x 87, x 88, x 89, x 90, x 91, x 92, x 93, x 94, x 95, x 96, x 97, x 98, x 99, x 100, x 101, x 102, x 103, x 104, x 105, x 106, x 107, x 108, x 109, x 110, x 111, x 112, x 113, x 114, x 115, x 116, x 117, x 118, x 119, x 120, x 121, x 122, x 123, x 124, x 125, x 126, x 127, x 128, x 129, x 130, x 131, x 132, x 133, x 134, x 135, x 136, x 137, x 138, x 139, x 140, x 141, x 142, x 143]) → Z e K (retK [.tmp 4] R) := fun e q1 q2 => by
    rw [hZ]
    exact eq10_w ha hb r1 r2 hn10 hn12 q2 q1
  obtain ⟨h1, n1, k1⟩ := ha.ss
  obtain ⟨h2, n2, k2⟩ := hb.ss
  unfold few at n1
  obtain ⟨ad1, e1⟩ := h1.sl
  obtain ⟨ad2, e2⟩ := h2.sl
  rw [e1] at h1
  rw [e2] at h2
  rw [List.length_map] at h1 h2 e1 e2
  have r1' := r1
  have r2' := r2
  rw [e1] at r1'
  rw [e2] at r2'
  generalize a.states = l at *
  generalize b.states = m at *
  simp (disch := omega) only [kB, kcx, kdm, kdn, kel, aop, resultsL, resultOf, Nat.reduceEqDiff, reduceCtorEq, eq1, apartOK, apart2, AObj.live, Int.reduceEq, Int.reduceLT, Int.reduceLE, Int.reduceAdd, Int.reduceSub, Int.reduceMul, Int.reduceToNat, cutCells, Nat.reduceAdd, Nat.reduceLeDiff, Nat.reduceLT, Nat.reduceMul, Nat.reduceSub]
  refine WLoop.inv (eq8I K bx l m) ?_ l.length _ _ ⟨0, Nat.zero_le _, by omega, rfl, fun j _ _ h0 => by omega, by exact ex_env rfl⟩
  rintro z e K' ⟨i, hi, rfl, rfl, hq, ⟨x, rfl⟩⟩
  by_cases hlt : i < l.length
  · have c1 : (i : Int) < (l.length : Int) := by omega
    have c2 : (i : Int) < (m.length : Int) := by omega
    obtain ⟨b1, u0, w0, rfl, p1, p2, p3, p4, p5⟩ := h1.at Sta.len hlt
    obtain ⟨b2, u2, w2', rfl, q1, q2, q3, q4, q5⟩ := h2.at Sta.len (show i < m.length by omega)
    have w2 : IntKind.i64.wrap ((i : Int) + 1) = ((i + 1 : Nat) : Int) := by rw [show (i : Int) + 1 = ((i + 1 : Nat) : Int) by omega]; exact wr_i64 (by omega) (by omega)
    have hne : ¬ l[i].eqv m[i] = true → all2 Sta.eqv l m = false := fun hd => by
      rw [← Bool.not_eq_true, all2_iff]
      exact fun q => hd (q.2 i hlt (by omega))
    have hq2 : l[i].eqv m[i] = true → ∀ j (h1 : j < l.length) (h2 : j < m.length), j < i + 1 → l[j].eqv m[j] = true := fun he j a b hj => by
      by_cases q : j = i
      · subst q; exact he
      · exact hq j a b (by omega)
    have ho1 := k1 _ (List.getElem_mem hlt)
    have ho2 := k2 _ (List.getElem_mem (show i < m.length by omega))
    generalize l[i] = x at *
    generalize m[i] = y at *
    simp (disch := omega) only [kB, kcx, kdm, kdn, kel, aop, resultsL, resultOf, Nat.reduceEqDiff, reduceCtorEq, eq1, apartOK, apart2, AObj.live, Int.reduceEq, Int.reduceLT, Int.reduceLE, Int.reduceAdd, Int.reduceSub, Int.reduceMul, Int.reduceToNat, cutCells, Nat.reduceAdd, Nat.reduceLeDiff, Nat.reduceLT, Nat.reduceMul, Nat.reduceSub, c1, c2, r1', r2', p2, q2, p3, p4, q3, q4]
    refine eqSta_s ho1 ho2 ?_
    by_cases he : x.eqv y = true
    · rw [he]
      simp (disch := omega) only [kB, kcx, kdm, kdn, kel, aop, resultsL, resultOf, Nat.reduceEqDiff, reduceCtorEq, eq1, apartOK, apart2, AObj.live, Int.reduceEq, Int.reduceLT, Int.reduceLE, Int.reduceAdd, Int.reduceSub, Int.reduceMul, Int.reduceToNat, cutCells, Nat.reduceAdd, Nat.reduceLeDiff, Nat.reduceLT, Nat.reduceMul, Nat.reduceSub, w2]
      exact ⟨l.length - (i + 1), by omega, i + 1, by omega, rfl, rfl, hq2 he, by exact ex_env rfl⟩
    · rw [hne he, Bool.false_and] at h
      rw [Bool.not_eq_true] at he
      rw [he]
      simp (disch := omega) only [kB, kcx, kdm, kdn, kel, aop, resultsL, resultOf, Nat.reduceEqDiff, reduceCtorEq, eq1, apartOK, apart2, AObj.live, Int.reduceEq, Int.reduceLT, Int.reduceLE, Int.reduceAdd, Int.reduceSub, Int.reduceMul, Int.reduceToNat, cutCells, Nat.reduceAdd, Nat.reduceLeDiff, Nat.reduceLT, Nat.reduceMul, Nat.reduceSub]
      exact h
  · have c1 : ¬ (i : Int) < (l.length : Int) := by omega
    have he : all2 Sta.eqv l m = true := (all2_iff _).2 ⟨hn, fun j a b => hq j a b (by omega)⟩
    rw [he, Bool.true_and] at h
    simp (disch := omega) only [kB, kcx, kdm, kdn, kel, aop, resultsL, resultOf, Nat.reduceEqDiff, reduceCtorEq, eq1, apartOK, apart2, AObj.live, Int.reduceEq, Int.reduceLT, Int.reduceLE, Int.reduceAdd, Int.reduceSub, Int.reduceMul, Int.reduceToNat, cutCells, Nat.reduceAdd, Nat.reduceLeDiff, Nat.reduceLT, Nat.reduceMul, Nat.reduceSub, c1, r1', hZ']
    exact cont _ h (by exact ex_env rfl)

def eq6I (K : Heap) (bx : Nat) (l m : List Hdr) : Nat → Env → Heap → Prop := fun z e K' =>
  ∃ i : Nat, i ≤ l.length ∧ z = l.length - i ∧ K' = K ∧ (∀ j (h1 : j < l.length) (h2 : j < m.length), j < i → l[j].eqv m[j] = true) ∧ (∃ x : Nat → Value, e = [x 0, x 1, .pointer (some ⟨bx, 0, none⟩), .pointer (some ⟨bx + 1, 0, none⟩), x 4, x 5, .int .i64 (i : Int), x 7, x 8, x 9, x 10, x 11, x 12, x 13, x 14, x 15, x 16, x 17, x 18, x 19, x 20, x 21, x 22, x 23, x 24, x 25, x 26, x 27, x 28, x 29, x 30, x 31, x 32, x 33, x 34, x 35, x 36, x 37, x 38, x 39, x 40, x 41, x 42, x 43, x 44, x 45, x 46, x 47, x 48, x 49, x 50, x 51, x 52, x 53, x 54, x 55, x 56, x 57, x 58, x 59, x 60, x 61, x 62, x 63, x 64, x 65, x 66, x 67, x 68, x 69, x 70, x 71, x 72, x 73, x 74, x 75, x 76, x 77, x 78, x 79, x 80, x 81, x 82, x 83, x 84, x 85, x 86, x 87, x 88, x 89, x 90, x 91, x 92, x 93, x 94, x 95, x 96, x 97, x 98, x 99, x 100, x 101, x 102, x 103, x 104, x 105, x 106, x 107, x 108, x 109, x 110, x 111, x 112, x 113, x 114, x 115, x 116, x 117, x 118, x 119, x 120, x 121, x 122, x 123, x 124, x 125, x 126, x 127, x 128, x 129, x 130, x 131, x 132, x 133, x 134, x 135, x 136, x 137, x 138, x 139, x 140, x 141, x 142, x 143])

set_option maxHeartbeats 2000000 in
theorem eq6_w {a b : Sch} (ha : a.OK K) (hb : b.OK K) {bx : Nat} {e : Env} (r1 : hget K bx = .row [a.hv, a.mv, a.sv, a.av, a.tv, a.cv] 0 true) (r2 : hget K (bx + 1) = .row [b.hv, b.mv, b.sv, b.av, b.tv, b.cv] 0 true)
    (hn : a.headers.length = b.headers.length) (hn8 : a.states.length = b.states.length) (hn10 : a.actions.length = b.actions.length) (hn12 : a.tables.length = b.tables.length)
    (he : (∃ x : Nat → Value, e = [x 0, x 1, .pointer (some ⟨bx, 0, none⟩), .pointer (some ⟨bx + 1, 0, none⟩), x 4, x 5, x 6, x 7, x 8, x 9, x 10, x 11, x 12, x 13, x 14, x 15, x 16, x 17, x 18, x 19, x 20, x 21, x 22, x 23, x 24, x 25, x 26, x 27, x 28, x 29, x 30, x 31, x 32, x 33, x 34, x 35, x 36, x 37, x 38, x 39, x 40, x 41, x 42, x 43, x 44, x 45, x 46, x 47, x 48, x 49, x 50, x 51, x 52, x 53, x 54, x 55, x 56, x 57, x 58, x 59, x 60, x 61, x 62, x 63, x 64, x 65, x 66, x 67, x 68, x 69, x 70, x 71, x 72, x 73, x 74, x 75, x 76, x 77, x 78, x 79, x 80, x 81, x 82, x 83, x 84, x 85, x 86, x 87, x 88, x 89, x 90, x 91, x 92, x 93, x 94, x 95, x 96, x 97, x 98, x 99, x 100, x 101, x 102, x 103, x 104, x 105, x 106, x 107, x 108, x 109, x 110, x 111, x 112, x 113, x 114, x 115, x 116, x 117, x 118, x 119, x 120, x 121, x 122, x 123, x 124, x 125, x 126, x 127, x 128, x 129, x 130, x 131, x 132, x 133, x 134, x 135, x 136, x 137, x 138, x 139, x 140, x 141, x 142, x 143])) (h : R (.ret (.bool (all2 Hdr.eqv a.headers b.headers && (all2 Sta.eqv a.states b.states && (all2 Act.eqv a.actions b.actions && (all2 Tbl.eqv a.tables b.tables && (eqvL a.control b.control))))))) K) : WC T (g14.body.at [1, 1, 1]) e K (retK [.tmp 4] R) := by
  obtain ⟨x, rfl⟩ := he
  obtain ⟨Z, hZ⟩ : ∃ Z, Z = WC T (g14.body.at [1, 1, 1, 1]) := ⟨_, rfl⟩
  have hZ' := hZ.symm
  simp only [AFunc.body, g14, ACode.at] at hZ' ⊢
  have cont : ∀ (e : Env), R (.ret (.bool (all2 Sta.eqv a.states b.states && (all2 Act.eqv a.actions b.actions && (all2 Tbl.eqv a.tables b.tables && (eqvL a.control b.control)))))) K → (∃ x : Nat → Value, e = [x 0, x 1, .pointer (some ⟨bx, 0, none⟩), .pointer (some ⟨bx + 1, 0, none⟩), x 4, x 5, x 6, x 7, x 8, x 9, x 10, x 11, x 12, x 13, x 14, x 15, x 16, x 17, x 18, x 19, x 20, x 21, x 22, x 23, x 24, x 25, x 26, x 27, x 28, x 29, x 30, x 31, x 32, x 33, x 34, x 35, x 36, x 37, x 38, x 39, x 40, x 41, x 42, x 43, x 44, x 45, x 46, x 47, x 48, x 49, x 50, x 51, x 52, x 53, x 54, x 55, x 56, x 57, x 58, x 59, x 60, x 61, x 62, x 63, x 64, x 65, x 66, x 67, x 68, x 69, x 70, x 71, x 72, x 73, x 74, x 75, x 76, x 77, x 78, x 79, x 80, x 81, x 82, x 83, x 84, x 85, x 86, x 87, x 88, x 89, x 90, x 91, x 92, x 93, x 94, x 95, x 96, x 97, x 98, x 99, x 100, x 101, x 102, x 103, x 104, x 105, x 106, x 107, x 108, x 109, x 110, x 111, x 112, x 113, x 114, x 115, x 116, x 117, x 118, x 119, x 120, x 121, x 122, x 123, x 124, x 125, x 126, x 127, x 128, x 129, x 130, x 131, x 132, x 133, x 134, x 135, x 136, x 137, x 138, x 139, x 140, x 141, x 142, x 143]) → Z e K (retK [.tmp 4] R) := fun e q1 q2 => by
    rw [hZ]
    exact eq8_w ha hb r1 r2 hn8 hn10 hn12 q2 q1
  obtain ⟨h1, n1, k1⟩ := ha.hs
  obtain ⟨h2, n2, k2⟩ := hb.hs
  unfold few at n1
  obtain ⟨ad1, e1⟩ := h1.sl
  obtain ⟨ad2, e2⟩ := h2.sl
  rw [e1] at h1
  rw [e2] at h2
  rw [List.length_map] at h1 h2 e1 e2
  have r1' := r1
  have r2' := r2
  rw [e1] at r1'
  rw [e2] at r2'
  generalize a.headers = l at *
  generalize b.headers = m at *
  simp (disch := omega) only [kB, kcx, kdm, kdn, kel, aop, resultsL, resultOf, Nat.reduceEqDiff, reduceCtorEq, eq1, apartOK, apart2, AObj.live, Int.reduceEq, Int.reduceLT, Int.reduceLE, Int.reduceAdd, Int.reduceSub, Int.reduceMul, Int.reduceToNat, cutCells, Nat.reduceAdd, Nat.reduceLeDiff, Nat.reduceLT, Nat.reduceMul, Nat.reduceSub]
  refine WLoop.inv (eq6I K bx l m) ?_ l.length _ _ ⟨0, Nat.zero_le _, by omega, rfl, fun j _ _ h0 => by omega, by exact ex_env rfl⟩
  rintro z e K' ⟨i, hi, rfl, rfl, hq, ⟨x, rfl⟩⟩
  by_cases hlt : i < l.length
  · have c1 : (i : Int) < (l.length : Int) := by omega
    have c2 : (i : Int) < (m.length : Int) := by omega
    obtain ⟨b1, u0, w0, rfl, p1, p2, p3, p4, p5⟩ := h1.at Hdr.len hlt
    obtain ⟨b2, u2, w2', rfl, q1, q2, q3, q4, q5⟩ := h2.at Hdr.len (show i < m.length by omega)
    have w2 : IntKind.i64.wrap ((i : Int) + 1) = ((i + 1 : Nat) : Int) := by rw [show (i : Int) + 1 = ((i + 1 : Nat) : Int) by omega]; exact wr_i64 (by omega) (by omega)
    have hne : ¬ l[i].eqv m[i] = true → all2 Hdr.eqv l m = false := fun hd => by
      rw [← Bool.not_eq_true, all2_iff]
      exact fun q => hd (q.2 i hlt (by omega))
    have hq2 : l[i].eqv m[i] = true → ∀ j (h1 : j < l.length) (h2 : j < m.length), j < i + 1 → l[j].eqv m[j] = true := fun he j a b hj => by
      by_cases q : j = i
      · subst q; exact he
      · exact hq j a b (by omega)
    have ho1 := k1 _ (List.getElem_mem hlt)
    have ho2 := k2 _ (List.getElem_mem (show i < m.length by omega))
    generalize l[i] = x at *
    generalize m[i] = y at *
    simp (disch := omega) only [kB, kcx, kdm, kdn, kel, aop, resultsL, resultOf, Nat.reduceEqDiff, reduceCtorEq, eq1, apartOK, apart2, AObj.live, Int.reduceEq, Int.reduceLT, Int.reduceLE, Int.reduceAdd, Int.reduceSub, Int.reduceMul, Int.reduceToNat, cutCells, Nat.reduceAdd, Nat.reduceLeDiff, Nat.reduceLT, Nat.reduceMul, Nat.reduceSub, c1, c2, r1', r2', p2, q2, p3, p4, q3, q4]
    refine eqHdr_s ho1 ho2 ?_
    by_cases he : x.eqv y = true
    · rw [he]
      simp (disch := omega) only [kB, kcx, kdm, kdn, kel, aop, resultsL, resultOf, Nat.reduceEqDiff, reduceCtorEq, eq1, apartOK, apart2, AObj.live, Int.reduceEq, Int.reduceLT, Int.reduceLE, Int.reduceAdd, Int.reduceSub, Int.reduceMul, Int.reduceToNat, cutCells, Nat.reduceAdd, Nat.reduceLeDiff, Nat.reduceLT, Nat.reduceMul, Nat.reduceSub, w2]
      exact ⟨l.length - (i + 1), by omega, i + 1, by omega, rfl, rfl, hq2 he, by exact ex_env rfl⟩
    · rw [hne he, Bool.false_and] at h
      rw [Bool.not_eq_true] at he
      rw [he]
      simp (disch := omega) only [kB, kcx, kdm, kdn, kel, aop, resultsL, resultOf, Nat.reduceEqDiff, reduceCtorEq, eq1, apartOK, apart2, AObj.live, Int.reduceEq, Int.reduceLT, Int.reduceLE, Int.reduceAdd, Int.reduceSub, Int.reduceMul, Int.reduceToNat, cutCells, Nat.reduceAdd, Nat.reduceLeDiff, Nat.reduceLT, Nat.reduceMul, Nat.reduceSub]
      exact h
  · have c1 : ¬ (i : Int) < (l.length : Int) := by omega
    have he : all2 Hdr.eqv l m = true := (all2_iff _).2 ⟨hn, fun j a b => hq j a b (by omega)⟩
    rw [he, Bool.true_and] at h
    simp (disch := omega) only [kB, kcx, kdm, kdn, kel, aop, resultsL, resultOf, Nat.reduceEqDiff, reduceCtorEq, eq1, apartOK, apart2, AObj.live, Int.reduceEq, Int.reduceLT, Int.reduceLE, Int.reduceAdd, Int.reduceSub, Int.reduceMul, Int.reduceToNat, cutCells, Nat.reduceAdd, Nat.reduceLeDiff, Nat.reduceLT, Nat.reduceMul, Nat.reduceSub, c1, r1', hZ']
    exact cont _ h (by exact ex_env rfl)

set_option maxHeartbeats 2000000 in
theorem eq_s {a b : Sch} (ha : a.OK K) (hb : b.OK K) (h : R (.ret (.bool (a.eqv b))) K) : WD T 14 [.agg a.cells.toArray, .agg b.cells.toArray] K R := by
  obtain ⟨Z, hZ⟩ : ∃ Z, Z = WC T (g14.body.at [1, 1, 1]) := ⟨_, rfl⟩
  have hZ' := hZ.symm
  simp only [AFunc.body, g14, ACode.at] at hZ'
  refine WD.gc0 (WD.of follows t14 (by simp) ?_)
  obtain ⟨o0, o1, o2, o3, o4, o5⟩ := ha.one
  obtain ⟨q0, q1, q2, q3, q4, q5⟩ := hb.one
  obtain ⟨a0, e0⟩ := ha.hs.1.sl
  obtain ⟨a2, e2⟩ := ha.ss.1.sl
  obtain ⟨a3, e3⟩ := ha.acs.1.sl
  obtain ⟨a4, e4⟩ := ha.ts.1.sl
  obtain ⟨b0, f0⟩ := hb.hs.1.sl
  obtain ⟨b2, f2⟩ := hb.ss.1.sl
  obtain ⟨b3, f3⟩ := hb.acs.1.sl
  obtain ⟨b4, f4⟩ := hb.ts.1.sl
  rw [List.length_map] at e0 e2 e3 e4 f0 f2 f3 f4
  simp only [Sch.cells]
  simp (disch := omega) only [kB, kcx, kdm, kdn, kel, aop, resultsL, resultOf, Nat.reduceEqDiff, reduceCtorEq, eq1, apartOK, apart2, AObj.live, Int.reduceEq, Int.reduceLT, Int.reduceLE, Int.reduceAdd, Int.reduceSub, Int.reduceMul, Int.reduceToNat, cutCells, Nat.reduceAdd, Nat.reduceLeDiff, Nat.reduceLT, Nat.reduceMul, Nat.reduceSub, o0, o1, o2, o3, o4, o5, q0, q1, q2, q3, q4, q5, hZ']
  generalize hK2 : (K ++ [AObj.row _ 0 true, AObj.row _ 0 true] : Heap) = K2
  have r1 : hget K2 K.length = .row [a.hv, a.mv, a.sv, a.av, a.tv, a.cv] 0 true := by rw [← hK2, hget_base0]; rfl
  have r2 : hget K2 (K.length + 1) = .row [b.hv, b.mv, b.sv, b.av, b.tv, b.cv] 0 true := by rw [← hK2, hget_base]; rfl
  have bK : Base K K2 := by rw [← hK2]; exact Base.app0 _
  clear hK2
  refine eqFields_s (ha.ms.1.base bK) ha.ms.2.1 (hb.ms.1.base bK) ?_
  have fin : ∀ v, a.eqv b = v → (∃ v', FRes.ret (.bool v) = .ret v' ∧ (∃ g, K2 = K ++ g) ∧ Scoped K.length v' ∧ R (.ret v') K) := fun v e => ⟨_, rfl, bK.ext, .bool, by rw [← e]; exact h⟩
  have s1 := r1
  have s2 := r2
  rw [e0, e2, e3, e4] at s1
  rw [f0, f2, f3, f4] at s2
  have okK := ha.base bK
  have okK2 := hb.base bK
  by_cases c1 : a.mets = b.mets
  · by_cases n0 : a.headers.length = b.headers.length
    · by_cases n2 : a.states.length = b.states.length
      · by_cases n3 : a.actions.length = b.actions.length
        · by_cases n4 : a.tables.length = b.tables.length
          · rw [decide_eq_true c1]
            simp (disch := omega) only [kB, kcx, kdm, kdn, kel, aop, resultsL, resultOf, Nat.reduceEqDiff, reduceCtorEq, eq1, apartOK, apart2, AObj.live, Int.reduceEq, Int.reduceLT, Int.reduceLE, Int.reduceAdd, Int.reduceSub, Int.reduceMul, Int.reduceToNat, cutCells, Nat.reduceAdd, Nat.reduceLeDiff, Nat.reduceLT, Nat.reduceMul, Nat.reduceSub, s1, s2, n0, n2, n3, n4, hZ']
            rw [hZ]
            refine eq6_w okK okK2 r1 r2 n0 n2 n3 n4 (by exact ex_env rfl) ?_
            exact fin _ (by rw [Sch.eqv, decide_eq_true c1, Bool.true_and])
          · have x4 : ¬ (a.tables.length : Int) = (b.tables.length : Int) := by omega
            have e := fin false (by rw [Sch.eqv, show all2 Tbl.eqv a.tables b.tables = false from by rw [← Bool.not_eq_true, all2_iff]; exact fun q => n4 q.1]; simp)
            rw [decide_eq_true c1]
            simp (disch := omega) only [kB, kcx, kdm, kdn, kel, aop, resultsL, resultOf, Nat.reduceEqDiff, reduceCtorEq, eq1, apartOK, apart2, AObj.live, Int.reduceEq, Int.reduceLT, Int.reduceLE, Int.reduceAdd, Int.reduceSub, Int.reduceMul, Int.reduceToNat, cutCells, Nat.reduceAdd, Nat.reduceLeDiff, Nat.reduceLT, Nat.reduceMul, Nat.reduceSub, s1, s2, n0, n2, n3, x4]
            exact e
        · have x3 : ¬ (a.actions.length : Int) = (b.actions.length : Int) := by omega
          have e := fin false (by rw [Sch.eqv, show all2 Act.eqv a.actions b.actions = false from by rw [← Bool.not_eq_true, all2_iff]; exact fun q => n3 q.1]; simp)
          rw [decide_eq_true c1]
          simp (disch := omega) only [kB, kcx, kdm, kdn, kel, aop, resultsL, resultOf, Nat.reduceEqDiff, reduceCtorEq, eq1, apartOK, apart2, AObj.live, Int.reduceEq, Int.reduceLT, Int.reduceLE, Int.reduceAdd, Int.reduceSub, Int.reduceMul, Int.reduceToNat, cutCells, Nat.reduceAdd, Nat.reduceLeDiff, Nat.reduceLT, Nat.reduceMul, Nat.reduceSub, s1, s2, n0, n2, x3]
          exact e
      · have x2 : ¬ (a.states.length : Int) = (b.states.length : Int) := by omega
        have e := fin false (by rw [Sch.eqv, show all2 Sta.eqv a.states b.states = false from by rw [← Bool.not_eq_true, all2_iff]; exact fun q => n2 q.1]; simp)
        rw [decide_eq_true c1]
        simp (disch := omega) only [kB, kcx, kdm, kdn, kel, aop, resultsL, resultOf, Nat.reduceEqDiff, reduceCtorEq, eq1, apartOK, apart2, AObj.live, Int.reduceEq, Int.reduceLT, Int.reduceLE, Int.reduceAdd, Int.reduceSub, Int.reduceMul, Int.reduceToNat, cutCells, Nat.reduceAdd, Nat.reduceLeDiff, Nat.reduceLT, Nat.reduceMul, Nat.reduceSub, s1, s2, n0, x2]
        exact e
    · have x0 : ¬ (a.headers.length : Int) = (b.headers.length : Int) := by omega
      have e := fin false (by rw [Sch.eqv, show all2 Hdr.eqv a.headers b.headers = false from by rw [← Bool.not_eq_true, all2_iff]; exact fun q => n0 q.1]; simp)
      rw [decide_eq_true c1]
      simp (disch := omega) only [kB, kcx, kdm, kdn, kel, aop, resultsL, resultOf, Nat.reduceEqDiff, reduceCtorEq, eq1, apartOK, apart2, AObj.live, Int.reduceEq, Int.reduceLT, Int.reduceLE, Int.reduceAdd, Int.reduceSub, Int.reduceMul, Int.reduceToNat, cutCells, Nat.reduceAdd, Nat.reduceLeDiff, Nat.reduceLT, Nat.reduceMul, Nat.reduceSub, s1, s2, x0]
      exact e
  · have e := fin false (by rw [Sch.eqv, decide_eq_false c1]; simp)
    rw [decide_eq_false c1]
    simp (disch := omega) only [kB, kcx, kdm, kdn, kel, aop, resultsL, resultOf, Nat.reduceEqDiff, reduceCtorEq, eq1, apartOK, apart2, AObj.live, Int.reduceEq, Int.reduceLT, Int.reduceLE, Int.reduceAdd, Int.reduceSub, Int.reduceMul, Int.reduceToNat, cutCells, Nat.reduceAdd, Nat.reduceLeDiff, Nat.reduceLT, Nat.reduceMul, Nat.reduceSub, s1, s2]
    exact e

end Go.Proofs.YtpllhhaeclnngaaGreat.Ev

/- Lists of structs that are copied: new memory that may be turned. Printed by gen_z9.py. -/
namespace Go.Proofs.YtpllhhaeclnngaaGreat.Ev
set_option maxRecDepth 100000
set_option linter.unusedSimpArgs false
set_option linter.unusedVariables false
variable {R : FRes → Heap → Prop} {H K : Heap}

theorem New.none {n : Nat} : New n (.slice none 0 0) := fun c hc => by cases hc
/-- A list in new memory, its owner's. -/
def Own (u : Nat) (K : Heap) (n : Nat) (v : Value) (css : List (List Value)) : Prop :=
  RoSl K v css ∧ New n v ∧ (css ≠ [] → ∃ nb, v = .slice (some ⟨nb, 0, none⟩) css.length css.length ∧ n ≤ nb ∧ nb < K.length ∧ hget K nb = .row css.flatten u true)

theorem app_own {u bys : Nat} {v : Value} {css : List (List Value)} (hr : RoSl K v css) (hu : ∀ cs ∈ css, cs.length = u) (hone : ∀ cs ∈ css, cs.all oneCell = true) (hroom : css.length * bys ≤ 140737488355328 ∧ css.length ≤ 140737488355328) :
    ∃ v' K', appendV (K ++ [.row [] u true]) u bys (.slice (some ⟨K.length, 0, none⟩) 0 0) v = .val v' K' ∧ Base K K' ∧ Own u K' K.length v' css := by
  obtain ⟨s1, s2⟩ := (hr.base (Base.app0 [.row [] u true])).src hu
  by_cases h0 : css = []
  · obtain ⟨v', K', a1, a2, a3, a4⟩ := app_new (bys := bys) hr hu hone hroom
    exact ⟨v', K', a1, a2, a3, a4, fun q => absurd h0 q⟩
  · have hp : 0 < css.length := List.length_pos_iff.2 h0
    have hf := flat_len_u hu
    have hall : css.flatten.all oneCell = true := List.all_eq_true.2 fun x hx => by
      obtain ⟨cs, h1, h2⟩ := List.mem_flatten.1 hx
      exact List.all_eq_true.1 (hone cs h1) x h2
    have e : ((K ++ [AObj.row [] u true]).set K.length .dead).length = K.length + 1 := by simp
    have hl : hget ((K ++ [AObj.row [] u true]).set K.length .dead ++ [.row css.flatten u true]) (K.length + 1) = .row css.flatten u true := by rw [← e, hget_last]
    refine ⟨.slice (some ⟨K.length + 1, 0, none⟩) css.length css.length, (K ++ [AObj.row [] u true]).set K.length .dead ++ [.row css.flatten u true], ?_, ⟨by simp, fun c hc => ?_⟩, .inr ⟨K.length + 1, rfl, by simp, u, true, hl⟩, fun c hc => by cases hc; omega, fun _ => ⟨K.length + 1, rfl, by omega, by simp, hl⟩⟩
    · simp only [appendV, s1, s2, hget_last, Nat.zero_add, Nat.zero_mul, List.length_nil]
      rw [if_neg (by omega), if_pos ⟨trivial, Nat.le_refl _, Nat.le_refl _, hf⟩, if_neg (by omega), if_pos ⟨by simp only [roomMax]; omega, by simp only [roomMax]; omega, hall⟩]
      simp
    · rw [hget_old (by simp; omega), hget_ne (by omega), hget_old hc]

/-- A call over blocks that are frozen for it, that leaves all that stood. -/
theorem thaw_pre {bs : List Nat} {K : Heap} (h : Base (Ev.frz H bs) K) :
    Base H (thaw H bs K) ∧ (∀ c, H.length ≤ c → hget (thaw H bs K) c = hget K c) ∧ (thaw H bs K).length = K.length := by
  obtain ⟨g, rfl⟩ := h.ext
  rw [thaw_frz]
  refine ⟨Base.app0 _, fun c hc => ?_, by simp [frz_length]⟩
  obtain ⟨k, rfl⟩ : ∃ k, c = H.length + k := ⟨c - H.length, by omega⟩
  rw [hget_base]
  have := hget_base (Ev.frz H bs) g k
  rw [frz_length] at this
  exact this.symm

/-- An element of a flat list is turned. -/
theorem flat_set {α : Type} {u : Nat} {f : α → List Value} (hu : ∀ x, (f x).length = u) : ∀ {l : List α} {i j : Nat} {v : Value} {y : α} (hi : i < l.length), j < u → f y = (f l[i]).set j v → ((l.map f).flatten).set (i * u + j) v = ((l.set i y).map f).flatten
  | [], i, j, v, y, hi, _, _ => by simp at hi
  | x :: l, 0, j, v, y, hi, hj, hy => by
    simp only [List.getElem_cons_zero] at hy
    have h1 := hu x
    simp only [List.map_cons, List.flatten_cons, List.set_cons_zero, Nat.zero_mul, Nat.zero_add]
    rw [List.set_append_left _ _ (by omega), hy]
  | x :: l, i + 1, j, v, y, hi, hj, hy => by
    simp only [List.getElem_cons_succ] at hy
    have h1 := hu x
    have ih := flat_set hu (l := l) (i := i) (j := j) (v := v) (y := y) (by simpa using hi) hj hy
    simp only [List.map_cons, List.flatten_cons, List.set_cons_succ]
    rw [List.set_append_right _ _ (by rw [h1, Nat.succ_mul]; omega), h1, ← ih]
    congr 2
    rw [Nat.succ_mul]; omega
theorem setL_left {a b c : List Value} (h : c.length = a.length) : setL (a ++ b) 0 c = c ++ b := by
  refine List.ext_getElem? fun j => ?_
  rw [setL_get]
  by_cases hj : j < a.length
  · rw [if_pos ⟨Nat.zero_le _, by omega, by simp; omega⟩, List.getElem?_append_left (by omega)]; rfl
  · rw [if_neg (by omega), List.getElem?_append_right (by omega), List.getElem?_append_right (by omega), h]
theorem setL_right {a b c : List Value} {k : Nat} : setL (a ++ b) (a.length + k) c = a ++ setL b k c := by
  refine List.ext_getElem? fun j => ?_
  rw [setL_get]
  by_cases hj : j < a.length
  · rw [if_neg (by omega), List.getElem?_append_left hj, List.getElem?_append_left hj]
  · rw [List.getElem?_append_right (l₁ := a) (by omega), List.getElem?_append_right (l₁ := a) (by omega), setL_get]
    by_cases hk : k ≤ j - a.length ∧ j - a.length < k + c.length ∧ j - a.length < b.length
    · rw [if_pos hk, if_pos ⟨by omega, by omega, by simp; omega⟩]
      congr 1; omega
    · rw [if_neg hk, if_neg (by simp; omega)]
/-- A whole element is turned. -/
theorem flat_setL {α : Type} {u : Nat} {f : α → List Value} (hu : ∀ x, (f x).length = u) : ∀ {l : List α} {i : Nat} {y : α}, i < l.length → setL ((l.map f).flatten) (i * u) (f y) = ((l.set i y).map f).flatten
  | [], i, y, hi => by simp at hi
  | x :: l, 0, y, hi => by
    simp only [List.map_cons, List.flatten_cons, List.set_cons_zero, Nat.zero_mul]
    exact setL_left (by rw [hu, hu])
  | x :: l, i + 1, y, hi => by
    have ih := flat_setL hu (l := l) (i := i) (y := y) (by simpa using hi)
    simp only [List.map_cons, List.flatten_cons, List.set_cons_succ]
    rw [show (i + 1) * u = (f x).length + i * u by rw [hu, Nat.succ_mul]; omega, setL_right, ih]

theorem St.one {s : St} (h : StOK H s) : s.cells.all oneCell = true := by
  have h1 := h.sa.one
  have h2 := h.sb.one
  rw [St.cells_eq]
  simp [Tst.cells, h1, h2, one_int, one_string]

theorem clnH_s {v : Value} {l : List Hdr} (hr0 : RoSl H v (l.map Hdr.cells)) (hn : few 40 l.length) (k : ∀ x ∈ l, x.OK H) (hb : Base H K) (h : ∀ v' K', Base K K' → Own 2 K' K.length v' (l.map Hdr.cells) → R (.ret v') K') : WD T 71 [v] K R := by
  unfold few at hn
  have hr := hr0.base hb
  obtain ⟨ad, rfl⟩ := hr.sl
  refine WD.of follows t71 (by simp) ?_
  obtain ⟨v', K', e1, e2, e3⟩ := app_own (u := 2) (bys := 40) hr (fun cs hc => by obtain ⟨x, _, rfl⟩ := List.mem_map.1 hc; exact Hdr.len x) (fun cs hc => by
    obtain ⟨x, hx, rfl⟩ := List.mem_map.1 hc
    simp [Hdr.cells, Hdr.OK.one (k x hx), one_int, one_string, one_bool]) (by rw [List.length_map]; omega)
  match ad with
  | none =>
    have h0 : l.map Hdr.cells = [] := by
      rcases hr with q | ⟨b, q2, _⟩
      · exact q.1
      · cases q2
    have hh := h (.slice none 0 0) K Base.refl ⟨.inl ⟨h0, .inl rfl⟩, New.none, fun q => absurd h0 q⟩
    simp (disch := omega) only [kB, kcx, kdm, kdn, kel, aop, resultsL, resultOf, Nat.reduceEqDiff, reduceCtorEq, eq1, apartOK, apart2, AObj.live, Int.reduceEq, Int.reduceLT, Int.reduceLE, Int.reduceAdd, Int.reduceSub, Int.reduceMul, Int.reduceToNat, cutCells, Nat.reduceAdd, Nat.reduceLeDiff, Nat.reduceLT, Nat.reduceMul, Nat.reduceSub, eqL_sn, eqL_nn]
    exact hh
  | some a =>
    have hh := h v' K' e2 e3
    simp (disch := omega) only [kB, kcx, kdm, kdn, kel, aop, resultsL, resultOf, Nat.reduceEqDiff, reduceCtorEq, eq1, apartOK, apart2, AObj.live, Int.reduceEq, Int.reduceLT, Int.reduceLE, Int.reduceAdd, Int.reduceSub, Int.reduceMul, Int.reduceToNat, cutCells, Nat.reduceAdd, Nat.reduceLeDiff, Nat.reduceLT, Nat.reduceMul, Nat.reduceSub, eqL_sn, eqL_nn, e1]
    exact hh

theorem clnS_s {v : Value} {l : List Sta} (hr0 : RoSl H v (l.map Sta.cells)) (hn : few 104 l.length) (k : ∀ x ∈ l, x.OK H) (hb : Base H K) (h : ∀ v' K', Base K K' → Own 6 K' K.length v' (l.map Sta.cells) → R (.ret v') K') : WD T 73 [v] K R := by
  unfold few at hn
  have hr := hr0.base hb
  obtain ⟨ad, rfl⟩ := hr.sl
  refine WD.of follows t73 (by simp) ?_
  obtain ⟨v', K', e1, e2, e3⟩ := app_own (u := 6) (bys := 104) hr (fun cs hc => by obtain ⟨x, _, rfl⟩ := List.mem_map.1 hc; exact Sta.len x) (fun cs hc => by
    obtain ⟨x, hx, rfl⟩ := List.mem_map.1 hc
    simp [Sta.cells, Sta.OK.one (k x hx), one_int, one_string, one_bool]) (by rw [List.length_map]; omega)
  match ad with
  | none =>
    have h0 : l.map Sta.cells = [] := by
      rcases hr with q | ⟨b, q2, _⟩
      · exact q.1
      · cases q2
    have hh := h (.slice none 0 0) K Base.refl ⟨.inl ⟨h0, .inl rfl⟩, New.none, fun q => absurd h0 q⟩
    simp (disch := omega) only [kB, kcx, kdm, kdn, kel, aop, resultsL, resultOf, Nat.reduceEqDiff, reduceCtorEq, eq1, apartOK, apart2, AObj.live, Int.reduceEq, Int.reduceLT, Int.reduceLE, Int.reduceAdd, Int.reduceSub, Int.reduceMul, Int.reduceToNat, cutCells, Nat.reduceAdd, Nat.reduceLeDiff, Nat.reduceLT, Nat.reduceMul, Nat.reduceSub, eqL_sn, eqL_nn]
    exact hh
  | some a =>
    have hh := h v' K' e2 e3
    simp (disch := omega) only [kB, kcx, kdm, kdn, kel, aop, resultsL, resultOf, Nat.reduceEqDiff, reduceCtorEq, eq1, apartOK, apart2, AObj.live, Int.reduceEq, Int.reduceLT, Int.reduceLE, Int.reduceAdd, Int.reduceSub, Int.reduceMul, Int.reduceToNat, cutCells, Nat.reduceAdd, Nat.reduceLeDiff, Nat.reduceLT, Nat.reduceMul, Nat.reduceSub, eqL_sn, eqL_nn, e1]
    exact hh

theorem clnA_s {v : Value} {l : List Act} (hr0 : RoSl H v (l.map Act.cells)) (hn : few 64 l.length) (k : ∀ x ∈ l, x.OK H) (hb : Base H K) (h : ∀ v' K', Base K K' → Own 3 K' K.length v' (l.map Act.cells) → R (.ret v') K') : WD T 75 [v] K R := by
  unfold few at hn
  have hr := hr0.base hb
  obtain ⟨ad, rfl⟩ := hr.sl
  refine WD.of follows t75 (by simp) ?_
  obtain ⟨v', K', e1, e2, e3⟩ := app_own (u := 3) (bys := 64) hr (fun cs hc => by obtain ⟨x, _, rfl⟩ := List.mem_map.1 hc; exact Act.len x) (fun cs hc => by
    obtain ⟨x, hx, rfl⟩ := List.mem_map.1 hc
    simp [Act.cells, (Act.OK.one (k x hx)).1, (Act.OK.one (k x hx)).2, one_int, one_string, one_bool]) (by rw [List.length_map]; omega)
  match ad with
  | none =>
    have h0 : l.map Act.cells = [] := by
      rcases hr with q | ⟨b, q2, _⟩
      · exact q.1
      · cases q2
    have hh := h (.slice none 0 0) K Base.refl ⟨.inl ⟨h0, .inl rfl⟩, New.none, fun q => absurd h0 q⟩
    simp (disch := omega) only [kB, kcx, kdm, kdn, kel, aop, resultsL, resultOf, Nat.reduceEqDiff, reduceCtorEq, eq1, apartOK, apart2, AObj.live, Int.reduceEq, Int.reduceLT, Int.reduceLE, Int.reduceAdd, Int.reduceSub, Int.reduceMul, Int.reduceToNat, cutCells, Nat.reduceAdd, Nat.reduceLeDiff, Nat.reduceLT, Nat.reduceMul, Nat.reduceSub, eqL_sn, eqL_nn]
    exact hh
  | some a =>
    have hh := h v' K' e2 e3
    simp (disch := omega) only [kB, kcx, kdm, kdn, kel, aop, resultsL, resultOf, Nat.reduceEqDiff, reduceCtorEq, eq1, apartOK, apart2, AObj.live, Int.reduceEq, Int.reduceLT, Int.reduceLE, Int.reduceAdd, Int.reduceSub, Int.reduceMul, Int.reduceToNat, cutCells, Nat.reduceAdd, Nat.reduceLeDiff, Nat.reduceLT, Nat.reduceMul, Nat.reduceSub, eqL_sn, eqL_nn, e1]
    exact hh

theorem clnT_s {v : Value} {l : List Tbl} (hr0 : RoSl H v (l.map Tbl.cells)) (hn : few 120 l.length) (k : ∀ x ∈ l, x.OK H) (hb : Base H K) (h : ∀ v' K', Base K K' → Own 7 K' K.length v' (l.map Tbl.cells) → R (.ret v') K') : WD T 77 [v] K R := by
  unfold few at hn
  have hr := hr0.base hb
  obtain ⟨ad, rfl⟩ := hr.sl
  refine WD.of follows t77 (by simp) ?_
  obtain ⟨v', K', e1, e2, e3⟩ := app_own (u := 7) (bys := 120) hr (fun cs hc => by obtain ⟨x, _, rfl⟩ := List.mem_map.1 hc; exact Tbl.len x) (fun cs hc => by
    obtain ⟨x, hx, rfl⟩ := List.mem_map.1 hc
    simp [Tbl.cells, (Tbl.OK.one (k x hx)).1, (Tbl.OK.one (k x hx)).2.1, (Tbl.OK.one (k x hx)).2.2, one_int, one_string, one_bool]) (by rw [List.length_map]; omega)
  match ad with
  | none =>
    have h0 : l.map Tbl.cells = [] := by
      rcases hr with q | ⟨b, q2, _⟩
      · exact q.1
      · cases q2
    have hh := h (.slice none 0 0) K Base.refl ⟨.inl ⟨h0, .inl rfl⟩, New.none, fun q => absurd h0 q⟩
    simp (disch := omega) only [kB, kcx, kdm, kdn, kel, aop, resultsL, resultOf, Nat.reduceEqDiff, reduceCtorEq, eq1, apartOK, apart2, AObj.live, Int.reduceEq, Int.reduceLT, Int.reduceLE, Int.reduceAdd, Int.reduceSub, Int.reduceMul, Int.reduceToNat, cutCells, Nat.reduceAdd, Nat.reduceLeDiff, Nat.reduceLT, Nat.reduceMul, Nat.reduceSub, eqL_sn, eqL_nn]
    exact hh
  | some a =>
    have hh := h v' K' e2 e3
    simp (disch := omega) only [kB, kcx, kdm, kdn, kel, aop, resultsL, resultOf, Nat.reduceEqDiff, reduceCtorEq, eq1, apartOK, apart2, AObj.live, Int.reduceEq, Int.reduceLT, Int.reduceLE, Int.reduceAdd, Int.reduceSub, Int.reduceMul, Int.reduceToNat, cutCells, Nat.reduceAdd, Nat.reduceLeDiff, Nat.reduceLT, Nat.reduceMul, Nat.reduceSub, eqL_sn, eqL_nn, e1]
    exact hh

theorem clnG_s {v : Value} {l : List St} (hr0 : RoSl H v (l.map St.cells)) (hn : few 176 l.length) (k : ∀ x ∈ l, StOK H x) (hb : Base H K) (h : ∀ v' K', Base K K' → Own 13 K' K.length v' (l.map St.cells) → R (.ret v') K') : WD T 148 [v] K R := by
  unfold few at hn
  have hr := hr0.base hb
  obtain ⟨ad, rfl⟩ := hr.sl
  refine WD.of follows t148 (by simp) ?_
  obtain ⟨v', K', e1, e2, e3⟩ := app_own (u := 13) (bys := 176) hr (fun cs hc => by obtain ⟨x, _, rfl⟩ := List.mem_map.1 hc; exact St.len x) (fun cs hc => by
    obtain ⟨x, hx, rfl⟩ := List.mem_map.1 hc
    exact St.one (k x hx)) (by rw [List.length_map]; omega)
  match ad with
  | none =>
    have h0 : l.map St.cells = [] := by
      rcases hr with q | ⟨b, q2, _⟩
      · exact q.1
      · cases q2
    have hh := h (.slice none 0 0) K Base.refl ⟨.inl ⟨h0, .inl rfl⟩, New.none, fun q => absurd h0 q⟩
    simp (disch := omega) only [kB, kcx, kdm, kdn, kel, aop, resultsL, resultOf, Nat.reduceEqDiff, reduceCtorEq, eq1, apartOK, apart2, AObj.live, Int.reduceEq, Int.reduceLT, Int.reduceLE, Int.reduceAdd, Int.reduceSub, Int.reduceMul, Int.reduceToNat, cutCells, Nat.reduceAdd, Nat.reduceLeDiff, Nat.reduceLT, Nat.reduceMul, Nat.reduceSub, eqL_sn, eqL_nn]
    exact hh
  | some a =>
    have hh := h v' K' e2 e3
    simp (disch := omega) only [kB, kcx, kdm, kdn, kel, aop, resultsL, resultOf, Nat.reduceEqDiff, reduceCtorEq, eq1, apartOK, apart2, AObj.live, Int.reduceEq, Int.reduceLT, Int.reduceLE, Int.reduceAdd, Int.reduceSub, Int.reduceMul, Int.reduceToNat, cutCells, Nat.reduceAdd, Nat.reduceLeDiff, Nat.reduceLT, Nat.reduceMul, Nat.reduceSub, eqL_sn, eqL_nn, e1]
    exact hh

theorem clnC_s {v : Value} {l : List Cas} (hr0 : RoSl H v (l.map Cas.cells)) (hn : few 48 l.length) (k : ∀ x ∈ l, True) (hb : Base H K) (h : ∀ v' K', Base K K' → Own 5 K' K.length v' (l.map Cas.cells) → R (.ret v') K') : WD T 74 [v] K R := by
  unfold few at hn
  have hr := hr0.base hb
  obtain ⟨ad, rfl⟩ := hr.sl
  refine WD.of follows t74 (by simp) ?_
  obtain ⟨v', K', e1, e2, e3⟩ := app_own (u := 5) (bys := 48) hr (fun cs hc => by obtain ⟨x, _, rfl⟩ := List.mem_map.1 hc; exact Cas.len x) (fun cs hc => by
    obtain ⟨x, hx, rfl⟩ := List.mem_map.1 hc
    rfl) (by rw [List.length_map]; omega)
  match ad with
  | none =>
    have h0 : l.map Cas.cells = [] := by
      rcases hr with q | ⟨b, q2, _⟩
      · exact q.1
      · cases q2
    have hh := h (.slice none 0 0) K Base.refl ⟨.inl ⟨h0, .inl rfl⟩, New.none, fun q => absurd h0 q⟩
    simp (disch := omega) only [kB, kcx, kdm, kdn, kel, aop, resultsL, resultOf, Nat.reduceEqDiff, reduceCtorEq, eq1, apartOK, apart2, AObj.live, Int.reduceEq, Int.reduceLT, Int.reduceLE, Int.reduceAdd, Int.reduceSub, Int.reduceMul, Int.reduceToNat, cutCells, Nat.reduceAdd, Nat.reduceLeDiff, Nat.reduceLT, Nat.reduceMul, Nat.reduceSub, eqL_sn, eqL_nn]
    exact hh
  | some a =>
    have hh := h v' K' e2 e3
    simp (disch := omega) only [kB, kcx, kdm, kdn, kel, aop, resultsL, resultOf, Nat.reduceEqDiff, reduceCtorEq, eq1, apartOK, apart2, AObj.live, Int.reduceEq, Int.reduceLT, Int.reduceLE, Int.reduceAdd, Int.reduceSub, Int.reduceMul, Int.reduceToNat, cutCells, Nat.reduceAdd, Nat.reduceLeDiff, Nat.reduceLT, Nat.reduceMul, Nat.reduceSub, eqL_sn, eqL_nn, e1]
    exact hh

end Go.Proofs.YtpllhhaeclnngaaGreat.Ev

/- Copy: the lists of headers, states, actions, tables. Printed by gen_z10.py. -/
namespace Go.Proofs.YtpllhhaeclnngaaGreat.Ev
set_option maxRecDepth 100000
set_option linter.unusedSimpArgs false
set_option linter.unusedVariables false
variable {R : FRes → Heap → Prop} {H K : Heap}

theorem Base.rowc {K K' : Heap} {b u : Nat} {cs : List Value} {w : Bool} (hb : Base K K') (h : hget K b = .row cs u w) : hget K' b = .row cs u w := by rw [hb.2 b (hget_lt h rfl)]; exact h
def Sta.New (n : Nat) (x : Sta) : Prop := Ev.New n x.cv
theorem Hdr.OK.same {x : Hdr} {n : Nat} (h : x.OK H) (hn : x.New n) (hl : H.length ≤ K.length) (hk : ∀ c, c < H.length → n ≤ c → hget K c = hget H c) : x.OK K :=
  ⟨h.1.same fun c hc => ⟨Nat.lt_of_lt_of_le (h.1.lt hc) hl, hk c (h.1.lt hc) (hn c hc)⟩, h.2⟩
theorem Sta.OK.same {x : Sta} {n : Nat} (h : x.OK H) (hn : x.New n) (hl : H.length ≤ K.length) (hk : ∀ c, c < H.length → n ≤ c → hget K c = hget H c) : x.OK K :=
  ⟨h.1.same fun c hc => ⟨Nat.lt_of_lt_of_le (h.1.lt hc) hl, hk c (h.1.lt hc) (hn c hc)⟩, h.2⟩
theorem Hdr.New.low {x : Hdr} {n m : Nat} (h : x.New n) (hm : m ≤ n) : x.New m := Ev.New.low h hm
theorem Sta.New.low {x : Sta} {n m : Nat} (h : x.New n) (hm : m ≤ n) : x.New m := Ev.New.low h hm
theorem Act.New.low {x : Act} {n m : Nat} (h : x.New n) (hm : m ≤ n) : x.New m := ⟨Ev.New.low h.1 hm, Ev.New.low h.2 hm⟩
theorem Tbl.New.low {x : Tbl} {n m : Nat} (h : x.New n) (hm : m ≤ n) : x.New m := ⟨Ev.New.low h.1 hm, Ev.New.low h.2.1 hm, Ev.New.low h.2.2 hm⟩
theorem Act.like.eqv {x y : Act} (h : x.like y) : x.eqv y = true := decide_eq_true h
theorem Tbl.like.eqv {x y : Tbl} (h : x.like y) : x.eqv y = true := decide_eq_true ⟨h.1, h.2.2.2.1, h.2.2.2.2.2.2, h.2.2.2.2.1, h.2.1, h.2.2.1, h.2.2.2.2.2.1⟩

/-- A list of copies. -/
structure GdH (n : Nat) (K : Heap) (v : Value) (l' l : List Hdr) : Prop where
  ro : RoSl K v (l'.map Hdr.cells)
  nw : Ev.New n v
  ok : ∀ x ∈ l', x.OK K ∧ x.New n
  eq : all2 Hdr.eqv l' l = true
theorem GdH.step {n bx : Nat} {K' : Heap} {v : Value} {l' l : List Hdr} (g : GdH n K v l' l) (hb : But bx K K') (hn : bx < n) : GdH n K' v l' l where
  ro := g.ro.same fun c hc => ⟨Nat.lt_of_lt_of_le (g.ro.lt hc) hb.1, hb.2 c (g.ro.lt hc) (by have := g.nw c hc; omega)⟩
  nw := g.nw
  ok := fun x hx => ⟨(g.ok x hx).1.same (g.ok x hx).2 hb.1 fun c h1 h2 => hb.2 c h1 (by omega), (g.ok x hx).2⟩
  eq := g.eq

theorem GdH.step2 {n : Nat} {K' : Heap} {v : Value} {l' l : List Hdr} (g : GdH n K v l' l) (hl : K.length ≤ K'.length) (hk : ∀ c, c < K.length → n ≤ c → hget K' c = hget K c) : GdH n K' v l' l where
  ro := g.ro.same fun c hc => ⟨Nat.lt_of_lt_of_le (g.ro.lt hc) hl, hk c (g.ro.lt hc) (g.nw c hc)⟩
  nw := g.nw
  ok := fun x hx => ⟨(g.ok x hx).1.same (g.ok x hx).2 hl hk, (g.ok x hx).2⟩
  eq := g.eq

def cpHI (Kb : Heap) (bx nb lo : Nat) (l : List Hdr) : Nat → Env → Heap → Prop := fun z e K' =>
  ∃ (i : Nat) (l' : List Hdr), i ≤ l.length ∧ z = l.length - i ∧ l'.length = l.length ∧ But nb Kb K' ∧ hget K' nb = .row (l'.map Hdr.cells).flatten 2 true ∧
    (∀ j (h1 : j < l'.length) (h2 : j < l.length), j < i → l'[j].OK K' ∧ l'[j].New lo ∧ l'[j].eqv l[j] = true) ∧ (∀ j (h1 : j < l'.length) (h2 : j < l.length), i ≤ j → l'[j] = l[j]) ∧
    (∃ x : Nat → Value, e = [x 0, .pointer (some ⟨bx, 0, none⟩), .pointer (some ⟨bx + 1, 0, none⟩), x 3, x 4, x 5, x 6, x 7, x 8, x 9, x 10, x 11, x 12, .int .i64 (l.length : Int), .int .i64 (i : Int), x 15, x 16, x 17, x 18, x 19, x 20, x 21, x 22, x 23, x 24, x 25, x 26, x 27, x 28, x 29, x 30, x 31, x 32, x 33, x 34, x 35, x 36, x 37, x 38, x 39, x 40, x 41, x 42, x 43, x 44, x 45, x 46, x 47, x 48, x 49, x 50, x 51, x 52, x 53, x 54, x 55, x 56, x 57, x 58, x 59, x 60, x 61, x 62, x 63, x 64, x 65, x 66, x 67, x 68, x 69, x 70, x 71, x 72, x 73, x 74, x 75, x 76, x 77, x 78, x 79, x 80, x 81, x 82, x 83, x 84, x 85, x 86, x 87, x 88, x 89, x 90, x 91, x 92, x 93, x 94, x 95, x 96, x 97, x 98, x 99, x 100, x 101, x 102, x 103])

set_option maxHeartbeats 4000000 in
theorem cpH_w {l : List Hdr} {v0 : Value} (h0 : RoSl H v0 (l.map Hdr.cells)) (hn : few 40 l.length) (k0 : ∀ x ∈ l, x.OK H) {bx : Nat} (hbx : H.length ≤ bx) (hb : Base H K) (lbx : bx + 1 < K.length) {c1 c2 c3 c4 c5 : Value} (r : hget K bx = .row [v0, c1, c2, c3, c4, c5] 0 true) {e : Env} {Q : Post}
    (he : (∃ x : Nat → Value, e = [x 0, .pointer (some ⟨bx, 0, none⟩), .pointer (some ⟨bx + 1, 0, none⟩), x 3, x 4, x 5, x 6, x 7, x 8, x 9, x 10, x 11, x 12, x 13, x 14, x 15, x 16, x 17, x 18, x 19, x 20, x 21, x 22, x 23, x 24, x 25, x 26, x 27, x 28, x 29, x 30, x 31, x 32, x 33, x 34, x 35, x 36, x 37, x 38, x 39, x 40, x 41, x 42, x 43, x 44, x 45, x 46, x 47, x 48, x 49, x 50, x 51, x 52, x 53, x 54, x 55, x 56, x 57, x 58, x 59, x 60, x 61, x 62, x 63, x 64, x 65, x 66, x 67, x 68, x 69, x 70, x 71, x 72, x 73, x 74, x 75, x 76, x 77, x 78, x 79, x 80, x 81, x 82, x 83, x 84, x 85, x 86, x 87, x 88, x 89, x 90, x 91, x 92, x 93, x 94, x 95, x 96, x 97, x 98, x 99, x 100, x 101, x 102, x 103]))
    (h : ∀ K' v l' e, But bx K K' → hget K' bx = .row [v, c1, c2, c3, c4, c5] 0 true → GdH (bx + 2) K' v l' l → (∃ x : Nat → Value, e = [x 0, .pointer (some ⟨bx, 0, none⟩), .pointer (some ⟨bx + 1, 0, none⟩), x 3, x 4, x 5, x 6, x 7, x 8, x 9, x 10, x 11, x 12, x 13, x 14, x 15, x 16, x 17, x 18, x 19, x 20, x 21, x 22, x 23, x 24, x 25, x 26, x 27, x 28, x 29, x 30, x 31, x 32, x 33, x 34, x 35, x 36, x 37, x 38, x 39, x 40, x 41, x 42, x 43, x 44, x 45, x 46, x 47, x 48, x 49, x 50, x 51, x 52, x 53, x 54, x 55, x 56, x 57, x 58, x 59, x 60, x 61, x 62, x 63, x 64, x 65, x 66, x 67, x 68, x 69, x 70, x 71, x 72, x 73, x 74, x 75, x 76, x 77, x 78, x 79, x 80, x 81, x 82, x 83, x 84, x 85, x 86, x 87, x 88, x 89, x 90, x 91, x 92, x 93, x 94, x 95, x 96, x 97, x 98, x 99, x 100, x 101, x 102, x 103]) → WC T (g13.body.at [1, 1, 1]) e K' Q) : WC T (g13.body.at [1]) e K Q := by
  obtain ⟨x, rfl⟩ := he
  obtain ⟨Z, hZ⟩ : ∃ Z, Z = WC T (g13.body.at [1, 1, 1]) := ⟨_, rfl⟩
  have hZ' := hZ.symm
  rw [← hZ] at h
  simp only [AFunc.body, g13, ACode.at] at hZ' ⊢
  clear hZ
  obtain ⟨ad0, rfl⟩ := h0.sl
  simp (disch := omega) only [kB, kcx, kdm, kdn, kel, aop, resultsL, resultOf, Nat.reduceEqDiff, reduceCtorEq, eq1, apartOK, apart2, AObj.live, Int.reduceEq, Int.reduceLT, Int.reduceLE, Int.reduceAdd, Int.reduceSub, Int.reduceMul, Int.reduceToNat, cutCells, Nat.reduceAdd, Nat.reduceLeDiff, Nat.reduceLT, Nat.reduceMul, Nat.reduceSub, r]
  refine clnH_s h0 hn k0 hb ?_
  intro v K1 b1 own
  have hn' := hn
  unfold few at hn'
  have r1 := b1.rowc r
  have lr1 := hget_lt r1 rfl
  have l1 := b1.1
  obtain ⟨ro, nw, ow⟩ := own
  obtain ⟨adn, rfl⟩ := ro.sl
  rw [List.length_map] at ro nw ow ⊢
  obtain ⟨Kb, hKb⟩ : ∃ Kb, Kb = K1.set bx (.row [.slice adn l.length l.length, c1, c2, c3, c4, c5] 0 true) := ⟨_, rfl⟩
  have rb : hget Kb bx = .row [.slice adn l.length l.length, c1, c2, c3, c4, c5] 0 true := by rw [hKb, hget_set' lr1]
  have bbx : But bx K Kb := by rw [hKb]; exact But.set ⟨b1.1, fun c h1 _ => b1.2 c h1⟩
  have lKb : Kb.length = K1.length := by rw [hKb]; simp
  have sKb : ∀ c, c ≠ bx → hget Kb c = hget K1 c := fun c hc => by rw [hKb, hget_ne (Ne.symm hc)]
  have hKb' := hKb.symm
  simp (disch := omega) only [kB, kcx, kdm, kdn, kel, aop, resultsL, resultOf, Nat.reduceEqDiff, reduceCtorEq, eq1, apartOK, apart2, AObj.live, Int.reduceEq, Int.reduceLT, Int.reduceLE, Int.reduceAdd, Int.reduceSub, Int.reduceMul, Int.reduceToNat, cutCells, Nat.reduceAdd, Nat.reduceLeDiff, Nat.reduceLT, Nat.reduceMul, Nat.reduceSub, r1, hKb', rb]
  clear hKb hKb'
  have roB : RoSl Kb (.slice adn l.length l.length) (l.map Hdr.cells) := ro.same fun c hc => ⟨by rw [lKb]; exact ro.lt hc, sKb c (by have := nw c hc; omega)⟩
  have hbB : Base H Kb := bbx.base hb hbx
  by_cases hl : l = []
  · subst hl
    refine WLoop.inv (fun z e K' => K' = Kb ∧ (∃ x : Nat → Value, e = [x 0, .pointer (some ⟨bx, 0, none⟩), .pointer (some ⟨bx + 1, 0, none⟩), x 3, x 4, x 5, x 6, x 7, x 8, x 9, x 10, x 11, x 12, .int .i64 0, .int .i64 0, x 15, x 16, x 17, x 18, x 19, x 20, x 21, x 22, x 23, x 24, x 25, x 26, x 27, x 28, x 29, x 30, x 31, x 32, x 33, x 34, x 35, x 36, x 37, x 38, x 39, x 40, x 41, x 42, x 43, x 44, x 45, x 46, x 47, x 48, x 49, x 50, x 51, x 52, x 53, x 54, x 55, x 56, x 57, x 58, x 59, x 60, x 61, x 62, x 63, x 64, x 65, x 66, x 67, x 68, x 69, x 70, x 71, x 72, x 73, x 74, x 75, x 76, x 77, x 78, x 79, x 80, x 81, x 82, x 83, x 84, x 85, x 86, x 87, x 88, x 89, x 90, x 91, x 92, x 93, x 94, x 95, x 96, x 97, x 98, x 99, x 100, x 101, x 102, x 103])) ?_ 0 _ _ ⟨rfl, by exact ex_env rfl⟩
    rintro z e K' ⟨rfl, ⟨x, rfl⟩⟩
    simp (disch := omega) only [kB, kcx, kdm, kdn, kel, aop, resultsL, resultOf, Nat.reduceEqDiff, reduceCtorEq, eq1, apartOK, apart2, AObj.live, Int.reduceEq, Int.reduceLT, Int.reduceLE, Int.reduceAdd, Int.reduceSub, Int.reduceMul, Int.reduceToNat, cutCells, Nat.reduceAdd, Nat.reduceLeDiff, Nat.reduceLT, Nat.reduceMul, Nat.reduceSub, hZ']
    exact h K' _ [] _ bbx rb ⟨roB, fun c hc => by have := nw c hc; omega, fun x hx => by (cases hx), rfl⟩ (by exact ex_env rfl)
  · obtain ⟨nb, env, n1, n2, rowb⟩ := ow (by simpa using hl)
    have hne : nb ≠ bx := by omega
    have rowb' : hget Kb nb = .row (l.map Hdr.cells).flatten 2 true := by rw [sKb nb hne]; exact rowb
    injection env with ead
    subst ead
    refine WLoop.inv (cpHI Kb bx nb Kb.length l) ?_ l.length _ _ ⟨0, l, Nat.zero_le _, by omega, rfl, But.refl, rowb', fun j _ _ hj => by omega, fun j _ _ _ => rfl, by exact ex_env rfl⟩
    rintro z e K' ⟨i, l', hi, rfl, hln, bt, rw', done, rest, ⟨x, rfl⟩⟩
    have rb' := bt.row rb (Ne.symm hne)
    have lbx' := hget_lt rb' rfl
    have lnb := hget_lt rw' rfl
    have lK' := bt.1
    have hb' : Base H K' := bt.base hbB (by have := hb.1; omega)
    by_cases hlt : i < l.length
    · have c1 : (i : Int) < (l.length : Int) := by omega
      have w2 : IntKind.i64.wrap ((i : Int) + 1) = ((i + 1 : Nat) : Int) := by rw [show (i : Int) + 1 = ((i + 1 : Nat) : Int) by omega]; exact wr_i64 (by omega) (by omega)
      have roK : RoSl K' (.slice (some ⟨nb, 0, none⟩) l'.length l'.length) (l'.map Hdr.cells) := .inr ⟨nb, by rw [List.length_map], lnb, _, _, rw'⟩
      obtain ⟨b, u0, w0, eb, p1, p2, p3, p4, p5⟩ := roK.at Hdr.len (show i < l'.length by omega)
      injection eb with eb; injection eb with eb
      subst eb
      have hxi := rest i (by omega) hlt (Nat.le_refl _)
      have okx := k0 _ (List.getElem_mem hlt)
      rw [hxi] at p3 p5
      have hxe : l'[i]'(by omega) = l[i] := hxi
      have fs : ∀ (y : Hdr), y.cells.length = 2 := Hdr.len
      have q1 := p5 1 (by decide)
      simp only [Hdr.cells, List.getElem?_cons_succ, List.getElem?_cons_zero] at q1
      simp (disch := omega) only [kB, kcx, kdm, kdn, kel, aop, resultsL, resultOf, Nat.reduceEqDiff, reduceCtorEq, eq1, apartOK, apart2, AObj.live, Int.reduceEq, Int.reduceLT, Int.reduceLE, Int.reduceAdd, Int.reduceSub, Int.reduceMul, Int.reduceToNat, cutCells, Nat.reduceAdd, Nat.reduceLeDiff, Nat.reduceLT, Nat.reduceMul, Nat.reduceSub, c1, rb', rw', q1]
      refine WV.of (fun c hc => ?_) ?_
      · simp only [List.mem_cons, List.not_mem_nil, or_false] at hc
        subst hc
        rw [rb']; rfl
      refine cloneF_s okx.1 okx.2.1 (hb'.frz (fun c hc => by simp only [List.mem_cons, List.not_mem_nil, or_false] at hc; subst hc; omega)) ?_
      intro v' Kf bf rof nwf
      obtain ⟨adv, rfl⟩ := rof.sl
      obtain ⟨tb, tn, tl⟩ := thaw_pre bf
      rw [frz_length] at nwf
      have rof2 := rof.same (K := thaw K' [bx] Kf) fun c hc => ⟨by rw [tl]; exact rof.lt hc, tn c (nwf c hc)⟩
      rw [List.length_map] at rof2 nwf ⊢
      generalize thaw K' [bx] Kf = K2 at *
      have rw2 := tb.rowc rw'
      have ln2 := hget_lt rw2 rfl
      have hset := flat_set (f := Hdr.cells) Hdr.len (l := l') (i := i) (j := 1) (v := .slice adv l[i].fields.length l[i].fields.length) (y := ⟨l[i].name, .slice adv l[i].fields.length l[i].fields.length, l[i].fields⟩) (by omega) (by decide) (by rw [hxe]; rfl)
      obtain ⟨y, hy⟩ : ∃ y : Hdr, y = ⟨l[i].name, .slice adv l[i].fields.length l[i].fields.length, l[i].fields⟩ := ⟨_, rfl⟩
      rw [← hy] at hset
      have hyk : ∀ Kx, RoSl Kx (.slice adv l[i].fields.length l[i].fields.length) (l[i].fields.map Fld.cells) → y.OK Kx := fun Kx q => by rw [hy]; exact ⟨q, okx.2⟩
      have hyn : y.New K'.length := by rw [hy]; exact nwf
      have hye : y.eqv l[i] = true := by rw [hy]; simp [Hdr.eqv]
      have hyr := rof2
      have le1 : i * 2 + 1 + 1 ≤ ((l'.map Hdr.cells).flatten).length := by omega
      simp (disch := omega) only [kB, kcx, kdm, kdn, kel, aop, resultsL, resultOf, Nat.reduceEqDiff, reduceCtorEq, eq1, apartOK, apart2, AObj.live, Int.reduceEq, Int.reduceLT, Int.reduceLE, Int.reduceAdd, Int.reduceSub, Int.reduceMul, Int.reduceToNat, cutCells, Nat.reduceAdd, Nat.reduceLeDiff, Nat.reduceLT, Nat.reduceMul, Nat.reduceSub, c1, rw2, hset, le1, w2]
      have bt2 : But nb K' (K2.set nb (.row (((l'.set i y).map Hdr.cells).flatten) 2 true)) := But.set ⟨tb.1, fun c h1 _ => tb.2 c h1⟩
      have rw3 : hget (K2.set nb (.row (((l'.set i y).map Hdr.cells).flatten) 2 true)) nb = .row (((l'.set i y).map Hdr.cells).flatten) 2 true := hget_set' ln2
      have yk3 : y.OK (K2.set nb (.row (((l'.set i y).map Hdr.cells).flatten) 2 true)) := by
        refine hyk _ (hyr.same fun c hc => ⟨by simpa using hyr.lt hc, ?_⟩)
        have := nwf c hc
        rw [hget_ne (by omega)]
      generalize K2.set nb (.row (((l'.set i y).map Hdr.cells).flatten) 2 true) = K3 at *
      refine ⟨l.length - (i + 1), by omega, i + 1, l'.set i y, by omega, rfl, by simpa using hln, bt.trans bt2, rw3, fun j g1 g2 g3 => ?_, fun j g1 g2 g3 => ?_, by exact ex_env rfl⟩
      · rw [List.length_set] at g1
        by_cases hj : j = i
        · subst hj
          rw [List.getElem_set_self]
          exact ⟨yk3, hyn.low (by omega), hye⟩
        · rw [List.getElem_set_ne (Ne.symm hj)]
          obtain ⟨d1, d2, d3⟩ := done j g1 g2 (by omega)
          exact ⟨d1.same d2 bt2.1 fun c h1 h2 => bt2.2 c h1 (by omega), d2, d3⟩
      · rw [List.length_set] at g1
        rw [List.getElem_set_ne (by omega)]
        exact rest j g1 g2 (by omega)
    · have c1 : ¬ (i : Int) < (l.length : Int) := by omega
      simp (disch := omega) only [kB, kcx, kdm, kdn, kel, aop, resultsL, resultOf, Nat.reduceEqDiff, reduceCtorEq, eq1, apartOK, apart2, AObj.live, Int.reduceEq, Int.reduceLT, Int.reduceLE, Int.reduceAdd, Int.reduceSub, Int.reduceMul, Int.reduceToNat, cutCells, Nat.reduceAdd, Nat.reduceLeDiff, Nat.reduceLT, Nat.reduceMul, Nat.reduceSub, c1, hZ']
      refine h K' (.slice (some ⟨nb, 0, none⟩) l.length l.length) l' _ ⟨Nat.le_trans bbx.1 bt.1, fun c h1 h2 => ?_⟩ rb' ⟨.inr ⟨nb, by rw [List.length_map, hln], lnb, _, _, rw'⟩, fun c hc => by (cases hc; omega), fun x hx => ?_, ?_⟩ (by exact ex_env rfl)
      · rw [bt.2 c (by have := bbx.1; omega) (by omega)]
        exact bbx.2 c h1 h2
      · obtain ⟨j, hj, rfl⟩ := List.getElem_of_mem hx
        obtain ⟨d1, d2, d3⟩ := done j hj (by omega) (by omega)
        exact ⟨d1, d2.low (by omega)⟩
      · exact (all2_iff _).2 ⟨hln, fun j h1 h2 => (done j h1 h2 (by omega)).2.2⟩

/-- A list of copies. -/
structure GdS (n : Nat) (K : Heap) (v : Value) (l' l : List Sta) : Prop where
  ro : RoSl K v (l'.map Sta.cells)
  nw : Ev.New n v
  ok : ∀ x ∈ l', x.OK K ∧ x.New n
  eq : all2 Sta.eqv l' l = true
theorem GdS.step {n bx : Nat} {K' : Heap} {v : Value} {l' l : List Sta} (g : GdS n K v l' l) (hb : But bx K K') (hn : bx < n) : GdS n K' v l' l where
  ro := g.ro.same fun c hc => ⟨Nat.lt_of_lt_of_le (g.ro.lt hc) hb.1, hb.2 c (g.ro.lt hc) (by have := g.nw c hc; omega)⟩
  nw := g.nw
  ok := fun x hx => ⟨(g.ok x hx).1.same (g.ok x hx).2 hb.1 fun c h1 h2 => hb.2 c h1 (by omega), (g.ok x hx).2⟩
  eq := g.eq

theorem GdS.step2 {n : Nat} {K' : Heap} {v : Value} {l' l : List Sta} (g : GdS n K v l' l) (hl : K.length ≤ K'.length) (hk : ∀ c, c < K.length → n ≤ c → hget K' c = hget K c) : GdS n K' v l' l where
  ro := g.ro.same fun c hc => ⟨Nat.lt_of_lt_of_le (g.ro.lt hc) hl, hk c (g.ro.lt hc) (g.nw c hc)⟩
  nw := g.nw
  ok := fun x hx => ⟨(g.ok x hx).1.same (g.ok x hx).2 hl hk, (g.ok x hx).2⟩
  eq := g.eq

def cpSI (Kb : Heap) (bx nb lo : Nat) (l : List Sta) : Nat → Env → Heap → Prop := fun z e K' =>
  ∃ (i : Nat) (l' : List Sta), i ≤ l.length ∧ z = l.length - i ∧ l'.length = l.length ∧ But nb Kb K' ∧ hget K' nb = .row (l'.map Sta.cells).flatten 6 true ∧
    (∀ j (h1 : j < l'.length) (h2 : j < l.length), j < i → l'[j].OK K' ∧ l'[j].New lo ∧ l'[j].eqv l[j] = true) ∧ (∀ j (h1 : j < l'.length) (h2 : j < l.length), i ≤ j → l'[j] = l[j]) ∧
    (∃ x : Nat → Value, e = [x 0, .pointer (some ⟨bx, 0, none⟩), .pointer (some ⟨bx + 1, 0, none⟩), x 3, x 4, x 5, x 6, x 7, x 8, x 9, x 10, x 11, x 12, x 13, x 14, x 15, x 16, x 17, x 18, x 19, x 20, x 21, x 22, x 23, x 24, x 25, x 26, x 27, x 28, x 29, x 30, x 31, x 32, x 33, x 34, x 35, x 36, x 37, x 38, x 39, .int .i64 (l.length : Int), .int .i64 (i : Int), x 42, x 43, x 44, x 45, x 46, x 47, x 48, x 49, x 50, x 51, x 52, x 53, x 54, x 55, x 56, x 57, x 58, x 59, x 60, x 61, x 62, x 63, x 64, x 65, x 66, x 67, x 68, x 69, x 70, x 71, x 72, x 73, x 74, x 75, x 76, x 77, x 78, x 79, x 80, x 81, x 82, x 83, x 84, x 85, x 86, x 87, x 88, x 89, x 90, x 91, x 92, x 93, x 94, x 95, x 96, x 97, x 98, x 99, x 100, x 101, x 102, x 103])

set_option maxHeartbeats 4000000 in
theorem cpS_w {l : List Sta} {v0 : Value} (h0 : RoSl H v0 (l.map Sta.cells)) (hn : few 104 l.length) (k0 : ∀ x ∈ l, x.OK H) {bx : Nat} (hbx : H.length ≤ bx) (hb : Base H K) (lbx : bx + 1 < K.length) {c0 c1 c3 c4 c5 : Value} (r : hget K bx = .row [c0, c1, v0, c3, c4, c5] 0 true) {e : Env} {Q : Post}
    (he : (∃ x : Nat → Value, e = [x 0, .pointer (some ⟨bx, 0, none⟩), .pointer (some ⟨bx + 1, 0, none⟩), x 3, x 4, x 5, x 6, x 7, x 8, x 9, x 10, x 11, x 12, x 13, x 14, x 15, x 16, x 17, x 18, x 19, x 20, x 21, x 22, x 23, x 24, x 25, x 26, x 27, x 28, x 29, x 30, x 31, x 32, x 33, x 34, x 35, x 36, x 37, x 38, x 39, x 40, x 41, x 42, x 43, x 44, x 45, x 46, x 47, x 48, x 49, x 50, x 51, x 52, x 53, x 54, x 55, x 56, x 57, x 58, x 59, x 60, x 61, x 62, x 63, x 64, x 65, x 66, x 67, x 68, x 69, x 70, x 71, x 72, x 73, x 74, x 75, x 76, x 77, x 78, x 79, x 80, x 81, x 82, x 83, x 84, x 85, x 86, x 87, x 88, x 89, x 90, x 91, x 92, x 93, x 94, x 95, x 96, x 97, x 98, x 99, x 100, x 101, x 102, x 103]))
    (h : ∀ K' v l' e, But bx K K' → hget K' bx = .row [c0, c1, v, c3, c4, c5] 0 true → GdS (bx + 2) K' v l' l → (∃ x : Nat → Value, e = [x 0, .pointer (some ⟨bx, 0, none⟩), .pointer (some ⟨bx + 1, 0, none⟩), x 3, x 4, x 5, x 6, x 7, x 8, x 9, x 10, x 11, x 12, x 13, x 14, x 15, x 16, x 17, x 18, x 19, x 20, x 21, x 22, x 23, x 24, x 25, x 26, x 27, x 28, x 29, x 30, x 31, x 32, x 33, x 34, x 35, x 36, x 37, x 38, x 39, x 40, x 41, x 42, x 43, x 44, x 45, x 46, x 47, x 48, x 49, x 50, x 51, x 52, x 53, x 54, x 55, x 56, x 57, x 58, x 59, x 60, x 61, x 62, x 63, x 64, x 65, x 66, x 67, x 68, x 69, x 70, x 71, x 72, x 73, x 74, x 75, x 76, x 77, x 78, x 79, x 80, x 81, x 82, x 83, x 84, x 85, x 86, x 87, x 88, x 89, x 90, x 91, x 92, x 93, x 94, x 95, x 96, x 97, x 98, x 99, x 100, x 101, x 102, x 103]) → WC T (g13.body.at [1, 1, 1, 1, 1, 1]) e K' Q) : WC T (g13.body.at [1, 1, 1, 1]) e K Q := by
  obtain ⟨x, rfl⟩ := he
  obtain ⟨Z, hZ⟩ : ∃ Z, Z = WC T (g13.body.at [1, 1, 1, 1, 1, 1]) := ⟨_, rfl⟩
  have hZ' := hZ.symm
  rw [← hZ] at h
  simp only [AFunc.body, g13, ACode.at] at hZ' ⊢
  clear hZ
  obtain ⟨ad0, rfl⟩ := h0.sl
  simp (disch := omega) only [kB, kcx, kdm, kdn, kel, aop, resultsL, resultOf, Nat.reduceEqDiff, reduceCtorEq, eq1, apartOK, apart2, AObj.live, Int.reduceEq, Int.reduceLT, Int.reduceLE, Int.reduceAdd, Int.reduceSub, Int.reduceMul, Int.reduceToNat, cutCells, Nat.reduceAdd, Nat.reduceLeDiff, Nat.reduceLT, Nat.reduceMul, Nat.reduceSub, r]
  refine clnS_s h0 hn k0 hb ?_
  intro v K1 b1 own
  have hn' := hn
  unfold few at hn'
  have r1 := b1.rowc r
  have lr1 := hget_lt r1 rfl
  have l1 := b1.1
  obtain ⟨ro, nw, ow⟩ := own
  obtain ⟨adn, rfl⟩ := ro.sl
  rw [List.length_map] at ro nw ow ⊢
  obtain ⟨Kb, hKb⟩ : ∃ Kb, Kb = K1.set bx (.row [c0, c1, .slice adn l.length l.length, c3, c4, c5] 0 true) := ⟨_, rfl⟩
  have rb : hget Kb bx = .row [c0, c1, .slice adn l.length l.length, c3, c4, c5] 0 true := by rw [hKb, hget_set' lr1]
  have bbx : But bx K Kb := by rw [hKb]; exact But.set ⟨b1.1, fun c h1 _ => b1.2 c h1⟩
  have lKb : Kb.length = K1.length := by rw [hKb]; simp
  have sKb : ∀ c, c ≠ bx → hget Kb c = hget K1 c := fun c hc => by rw [hKb, hget_ne (Ne.symm hc)]
  have hKb' := hKb.symm
  simp (disch := omega) only [kB, kcx, kdm, kdn, kel, aop, resultsL, resultOf, Nat.reduceEqDiff, reduceCtorEq, eq1, apartOK, apart2, AObj.live, Int.reduceEq, Int.reduceLT, Int.reduceLE, Int.reduceAdd, Int.reduceSub, Int.reduceMul, Int.reduceToNat, cutCells, Nat.reduceAdd, Nat.reduceLeDiff, Nat.reduceLT, Nat.reduceMul, Nat.reduceSub, r1, hKb', rb]
  clear hKb hKb'
  have roB : RoSl Kb (.slice adn l.length l.length) (l.map Sta.cells) := ro.same fun c hc => ⟨by rw [lKb]; exact ro.lt hc, sKb c (by have := nw c hc; omega)⟩
  have hbB : Base H Kb := bbx.base hb hbx
  by_cases hl : l = []
  · subst hl
    refine WLoop.inv (fun z e K' => K' = Kb ∧ (∃ x : Nat → Value, e = [x 0, .pointer (some ⟨bx, 0, none⟩), .pointer (some ⟨bx + 1, 0, none⟩), x 3, x 4, x 5, x 6, x 7, x 8, x 9, x 10, x 11, x 12, x 13, x 14, x 15, x 16, x 17, x 18, x 19, x 20, x 21, x 22, x 23, x 24, x 25, x 26, x 27, x 28, x 29, x 30, x 31, x 32, x 33, x 34, x 35, x 36, x 37, x 38, x 39, .int .i64 0, .int .i64 0, x 42, x 43, x 44, x 45, x 46, x 47, x 48, x 49, x 50, x 51, x 52, x 53, x 54, x 55, x 56, x 57, x 58, x 59, x 60, x 61, x 62, x 63, x 64, x 65, x 66, x 67, x 68, x 69, x 70, x 71, x 72, x 73, x 74, x 75, x 76, x 77, x 78, x 79, x 80, x 81, x 82, x 83, x 84, x 85, x 86, x 87, x 88, x 89, x 90, x 91, x 92, x 93, x 94, x 95, x 96, x 97, x 98, x 99, x 100, x 101, x 102, x 103])) ?_ 0 _ _ ⟨rfl, by exact ex_env rfl⟩
    rintro z e K' ⟨rfl, ⟨x, rfl⟩⟩
    simp (disch := omega) only [kB, kcx, kdm, kdn, kel, aop, resultsL, resultOf, Nat.reduceEqDiff, reduceCtorEq, eq1, apartOK, apart2, AObj.live, Int.reduceEq, Int.reduceLT, Int.reduceLE, Int.reduceAdd, Int.reduceSub, Int.reduceMul, Int.reduceToNat, cutCells, Nat.reduceAdd, Nat.reduceLeDiff, Nat.reduceLT, Nat.reduceMul, Nat.reduceSub, hZ']
    exact h K' _ [] _ bbx rb ⟨roB, fun c hc => by have := nw c hc; omega, fun x hx => by (cases hx), rfl⟩ (by exact ex_env rfl)
  · obtain ⟨nb, env, n1, n2, rowb⟩ := ow (by simpa using hl)
    have hne : nb ≠ bx := by omega
    have rowb' : hget Kb nb = .row (l.map Sta.cells).flatten 6 true := by rw [sKb nb hne]; exact rowb
    injection env with ead
    subst ead
    refine WLoop.inv (cpSI Kb bx nb Kb.length l) ?_ l.length _ _ ⟨0, l, Nat.zero_le _, by omega, rfl, But.refl, rowb', fun j _ _ hj => by omega, fun j _ _ _ => rfl, by exact ex_env rfl⟩
    rintro z e K' ⟨i, l', hi, rfl, hln, bt, rw', done, rest, ⟨x, rfl⟩⟩
    have rb' := bt.row rb (Ne.symm hne)
    have lbx' := hget_lt rb' rfl
    have lnb := hget_lt rw' rfl
    have lK' := bt.1
    have hb' : Base H K' := bt.base hbB (by have := hb.1; omega)
    by_cases hlt : i < l.length
    · have c1 : (i : Int) < (l.length : Int) := by omega
      have w2 : IntKind.i64.wrap ((i : Int) + 1) = ((i + 1 : Nat) : Int) := by rw [show (i : Int) + 1 = ((i + 1 : Nat) : Int) by omega]; exact wr_i64 (by omega) (by omega)
      have roK : RoSl K' (.slice (some ⟨nb, 0, none⟩) l'.length l'.length) (l'.map Sta.cells) := .inr ⟨nb, by rw [List.length_map], lnb, _, _, rw'⟩
      obtain ⟨b, u0, w0, eb, p1, p2, p3, p4, p5⟩ := roK.at Sta.len (show i < l'.length by omega)
      injection eb with eb; injection eb with eb
      subst eb
      have hxi := rest i (by omega) hlt (Nat.le_refl _)
      have okx := k0 _ (List.getElem_mem hlt)
      rw [hxi] at p3 p5
      have hxe : l'[i]'(by omega) = l[i] := hxi
      have fs : ∀ (y : Sta), y.cells.length = 6 := Sta.len
      have q1 := p5 4 (by decide)
      simp only [Sta.cells, List.getElem?_cons_succ, List.getElem?_cons_zero] at q1
      simp (disch := omega) only [kB, kcx, kdm, kdn, kel, aop, resultsL, resultOf, Nat.reduceEqDiff, reduceCtorEq, eq1, apartOK, apart2, AObj.live, Int.reduceEq, Int.reduceLT, Int.reduceLE, Int.reduceAdd, Int.reduceSub, Int.reduceMul, Int.reduceToNat, cutCells, Nat.reduceAdd, Nat.reduceLeDiff, Nat.reduceLT, Nat.reduceMul, Nat.reduceSub, c1, rb', rw', q1]
      refine WV.of (fun c hc => ?_) ?_
      · simp only [List.mem_cons, List.not_mem_nil, or_false] at hc
        subst hc
        rw [rb']; rfl
      refine clnC_s okx.1 okx.2.1 (fun _ _ => trivial) (hb'.frz (fun c hc => by simp only [List.mem_cons, List.not_mem_nil, or_false] at hc; subst hc; omega)) ?_
      intro v' Kf bf owf
      obtain ⟨rof, nwf, _⟩ := owf
      obtain ⟨adv, rfl⟩ := rof.sl
      obtain ⟨tb, tn, tl⟩ := thaw_pre bf
      rw [frz_length] at nwf
      have rof2 := rof.same (K := thaw K' [bx] Kf) fun c hc => ⟨by rw [tl]; exact rof.lt hc, tn c (nwf c hc)⟩
      rw [List.length_map] at rof2 nwf ⊢
      generalize thaw K' [bx] Kf = K2 at *
      have rw2 := tb.rowc rw'
      have ln2 := hget_lt rw2 rfl
      have hset := flat_set (f := Sta.cells) Sta.len (l := l') (i := i) (j := 4) (v := .slice adv l[i].cases.length l[i].cases.length) (y := ⟨l[i].name, l[i].header, l[i].on, .slice adv l[i].cases.length l[i].cases.length, l[i].cases, l[i].next⟩) (by omega) (by decide) (by rw [hxe]; rfl)
      obtain ⟨y, hy⟩ : ∃ y : Sta, y = ⟨l[i].name, l[i].header, l[i].on, .slice adv l[i].cases.length l[i].cases.length, l[i].cases, l[i].next⟩ := ⟨_, rfl⟩
      rw [← hy] at hset
      have hyk : ∀ Kx, RoSl Kx (.slice adv l[i].cases.length l[i].cases.length) (l[i].cases.map Cas.cells) → y.OK Kx := fun Kx q => by rw [hy]; exact ⟨q, okx.2⟩
      have hyn : y.New K'.length := by rw [hy]; exact nwf
      have hye : y.eqv l[i] = true := by rw [hy]; simp [Sta.eqv]
      have hyr := rof2
      have le1 : i * 6 + 4 + 1 ≤ ((l'.map Sta.cells).flatten).length := by omega
      simp (disch := omega) only [kB, kcx, kdm, kdn, kel, aop, resultsL, resultOf, Nat.reduceEqDiff, reduceCtorEq, eq1, apartOK, apart2, AObj.live, Int.reduceEq, Int.reduceLT, Int.reduceLE, Int.reduceAdd, Int.reduceSub, Int.reduceMul, Int.reduceToNat, cutCells, Nat.reduceAdd, Nat.reduceLeDiff, Nat.reduceLT, Nat.reduceMul, Nat.reduceSub, c1, rw2, hset, le1, w2]
      have bt2 : But nb K' (K2.set nb (.row (((l'.set i y).map Sta.cells).flatten) 6 true)) := But.set ⟨tb.1, fun c h1 _ => tb.2 c h1⟩
      have rw3 : hget (K2.set nb (.row (((l'.set i y).map Sta.cells).flatten) 6 true)) nb = .row (((l'.set i y).map Sta.cells).flatten) 6 true := hget_set' ln2
      have yk3 : y.OK (K2.set nb (.row (((l'.set i y).map Sta.cells).flatten) 6 true)) := by
        refine hyk _ (hyr.same fun c hc => ⟨by simpa using hyr.lt hc, ?_⟩)
        have := nwf c hc
        rw [hget_ne (by omega)]
      generalize K2.set nb (.row (((l'.set i y).map Sta.cells).flatten) 6 true) = K3 at *
      refine ⟨l.length - (i + 1), by omega, i + 1, l'.set i y, by omega, rfl, by simpa using hln, bt.trans bt2, rw3, fun j g1 g2 g3 => ?_, fun j g1 g2 g3 => ?_, by exact ex_env rfl⟩
      · rw [List.length_set] at g1
        by_cases hj : j = i
        · subst hj
          rw [List.getElem_set_self]
          exact ⟨yk3, hyn.low (by omega), hye⟩
        · rw [List.getElem_set_ne (Ne.symm hj)]
          obtain ⟨d1, d2, d3⟩ := done j g1 g2 (by omega)
          exact ⟨d1.same d2 bt2.1 fun c h1 h2 => bt2.2 c h1 (by omega), d2, d3⟩
      · rw [List.length_set] at g1
        rw [List.getElem_set_ne (by omega)]
        exact rest j g1 g2 (by omega)
    · have c1 : ¬ (i : Int) < (l.length : Int) := by omega
      simp (disch := omega) only [kB, kcx, kdm, kdn, kel, aop, resultsL, resultOf, Nat.reduceEqDiff, reduceCtorEq, eq1, apartOK, apart2, AObj.live, Int.reduceEq, Int.reduceLT, Int.reduceLE, Int.reduceAdd, Int.reduceSub, Int.reduceMul, Int.reduceToNat, cutCells, Nat.reduceAdd, Nat.reduceLeDiff, Nat.reduceLT, Nat.reduceMul, Nat.reduceSub, c1, hZ']
      refine h K' (.slice (some ⟨nb, 0, none⟩) l.length l.length) l' _ ⟨Nat.le_trans bbx.1 bt.1, fun c h1 h2 => ?_⟩ rb' ⟨.inr ⟨nb, by rw [List.length_map, hln], lnb, _, _, rw'⟩, fun c hc => by (cases hc; omega), fun x hx => ?_, ?_⟩ (by exact ex_env rfl)
      · rw [bt.2 c (by have := bbx.1; omega) (by omega)]
        exact bbx.2 c h1 h2
      · obtain ⟨j, hj, rfl⟩ := List.getElem_of_mem hx
        obtain ⟨d1, d2, d3⟩ := done j hj (by omega) (by omega)
        exact ⟨d1, d2.low (by omega)⟩
      · exact (all2_iff _).2 ⟨hln, fun j h1 h2 => (done j h1 h2 (by omega)).2.2⟩

/-- A list of copies. -/
structure GdA (n : Nat) (K : Heap) (v : Value) (l' l : List Act) : Prop where
  ro : RoSl K v (l'.map Act.cells)
  nw : Ev.New n v
  ok : ∀ x ∈ l', x.OK K ∧ x.New n
  eq : all2 Act.eqv l' l = true
theorem GdA.step {n bx : Nat} {K' : Heap} {v : Value} {l' l : List Act} (g : GdA n K v l' l) (hb : But bx K K') (hn : bx < n) : GdA n K' v l' l where
  ro := g.ro.same fun c hc => ⟨Nat.lt_of_lt_of_le (g.ro.lt hc) hb.1, hb.2 c (g.ro.lt hc) (by have := g.nw c hc; omega)⟩
  nw := g.nw
  ok := fun x hx => ⟨(g.ok x hx).1.same (g.ok x hx).2 hb.1 fun c h1 h2 => hb.2 c h1 (by omega), (g.ok x hx).2⟩
  eq := g.eq

theorem GdA.step2 {n : Nat} {K' : Heap} {v : Value} {l' l : List Act} (g : GdA n K v l' l) (hl : K.length ≤ K'.length) (hk : ∀ c, c < K.length → n ≤ c → hget K' c = hget K c) : GdA n K' v l' l where
  ro := g.ro.same fun c hc => ⟨Nat.lt_of_lt_of_le (g.ro.lt hc) hl, hk c (g.ro.lt hc) (g.nw c hc)⟩
  nw := g.nw
  ok := fun x hx => ⟨(g.ok x hx).1.same (g.ok x hx).2 hl hk, (g.ok x hx).2⟩
  eq := g.eq

def cpAI (Kb : Heap) (bx nb lo : Nat) (l : List Act) : Nat → Env → Heap → Prop := fun z e K' =>
  ∃ (i : Nat) (l' : List Act), i ≤ l.length ∧ z = l.length - i ∧ l'.length = l.length ∧ But nb Kb K' ∧ hget K' nb = .row (l'.map Act.cells).flatten 3 true ∧
    (∀ j (h1 : j < l'.length) (h2 : j < l.length), j < i → l'[j].OK K' ∧ l'[j].New lo ∧ l'[j].eqv l[j] = true) ∧ (∀ j (h1 : j < l'.length) (h2 : j < l.length), i ≤ j → l'[j] = l[j]) ∧
    (∃ x : Nat → Value, e = [x 0, .pointer (some ⟨bx, 0, none⟩), .pointer (some ⟨bx + 1, 0, none⟩), x 3, x 4, x 5, x 6, x 7, x 8, x 9, x 10, x 11, x 12, x 13, x 14, x 15, x 16, x 17, x 18, x 19, x 20, x 21, x 22, x 23, x 24, x 25, x 26, x 27, x 28, x 29, x 30, x 31, x 32, x 33, x 34, x 35, x 36, x 37, x 38, x 39, x 40, x 41, x 42, x 43, x 44, x 45, x 46, x 47, x 48, x 49, x 50, x 51, x 52, x 53, x 54, x 55, x 56, x 57, x 58, x 59, x 60, x 61, x 62, .int .i64 (l.length : Int), .int .i64 (i : Int), x 65, x 66, x 67, x 68, x 69, x 70, x 71, x 72, x 73, x 74, x 75, x 76, x 77, x 78, x 79, x 80, x 81, x 82, x 83, x 84, x 85, x 86, x 87, x 88, x 89, x 90, x 91, x 92, x 93, x 94, x 95, x 96, x 97, x 98, x 99, x 100, x 101, x 102, x 103])

set_option maxHeartbeats 4000000 in
theorem cpA_w {l : List Act} {v0 : Value} (h0 : RoSl H v0 (l.map Act.cells)) (hn : few 64 l.length) (k0 : ∀ x ∈ l, x.OK H) {bx : Nat} (hbx : H.length ≤ bx) (hb : Base H K) (lbx : bx + 1 < K.length) {c0 c1 c2 c4 c5 : Value} (r : hget K bx = .row [c0, c1, c2, v0, c4, c5] 0 true) {e : Env} {Q : Post}
    (he : (∃ x : Nat → Value, e = [x 0, .pointer (some ⟨bx, 0, none⟩), .pointer (some ⟨bx + 1, 0, none⟩), x 3, x 4, x 5, x 6, x 7, x 8, x 9, x 10, x 11, x 12, x 13, x 14, x 15, x 16, x 17, x 18, x 19, x 20, x 21, x 22, x 23, x 24, x 25, x 26, x 27, x 28, x 29, x 30, x 31, x 32, x 33, x 34, x 35, x 36, x 37, x 38, x 39, x 40, x 41, x 42, x 43, x 44, x 45, x 46, x 47, x 48, x 49, x 50, x 51, x 52, x 53, x 54, x 55, x 56, x 57, x 58, x 59, x 60, x 61, x 62, x 63, x 64, x 65, x 66, x 67, x 68, x 69, x 70, x 71, x 72, x 73, x 74, x 75, x 76, x 77, x 78, x 79, x 80, x 81, x 82, x 83, x 84, x 85, x 86, x 87, x 88, x 89, x 90, x 91, x 92, x 93, x 94, x 95, x 96, x 97, x 98, x 99, x 100, x 101, x 102, x 103]))
    (h : ∀ K' v l' e, But bx K K' → hget K' bx = .row [c0, c1, c2, v, c4, c5] 0 true → GdA (bx + 2) K' v l' l → (∃ x : Nat → Value, e = [x 0, .pointer (some ⟨bx, 0, none⟩), .pointer (some ⟨bx + 1, 0, none⟩), x 3, x 4, x 5, x 6, x 7, x 8, x 9, x 10, x 11, x 12, x 13, x 14, x 15, x 16, x 17, x 18, x 19, x 20, x 21, x 22, x 23, x 24, x 25, x 26, x 27, x 28, x 29, x 30, x 31, x 32, x 33, x 34, x 35, x 36, x 37, x 38, x 39, x 40, x 41, x 42, x 43, x 44, x 45, x 46, x 47, x 48, x 49, x 50, x 51, x 52, x 53, x 54, x 55, x 56, x 57, x 58, x 59, x 60, x 61, x 62, x 63, x 64, x 65, x 66, x 67, x 68, x 69, x 70, x 71, x 72, x 73, x 74, x 75, x 76, x 77, x 78, x 79, x 80, x 81, x 82, x 83, x 84, x 85, x 86, x 87, x 88, x 89, x 90, x 91, x 92, x 93, x 94, x 95, x 96, x 97, x 98, x 99, x 100, x 101, x 102, x 103]) → WC T (g13.body.at [1, 1, 1, 1, 1, 1, 1, 1]) e K' Q) : WC T (g13.body.at [1, 1, 1, 1, 1, 1]) e K Q := by
  obtain ⟨x, rfl⟩ := he
  obtain ⟨Z, hZ⟩ : ∃ Z, Z = WC T (g13.body.at [1, 1, 1, 1, 1, 1, 1, 1]) := ⟨_, rfl⟩
  have hZ' := hZ.symm
  rw [← hZ] at h
  simp only [AFunc.body, g13, ACode.at] at hZ' ⊢
  clear hZ
  obtain ⟨ad0, rfl⟩ := h0.sl
  simp (disch := omega) only [kB, kcx, kdm, kdn, kel, aop, resultsL, resultOf, Nat.reduceEqDiff, reduceCtorEq, eq1, apartOK, apart2, AObj.live, Int.reduceEq, Int.reduceLT, Int.reduceLE, Int.reduceAdd, Int.reduceSub, Int.reduceMul, Int.reduceToNat, cutCells, Nat.reduceAdd, Nat.reduceLeDiff, Nat.reduceLT, Nat.reduceMul, Nat.reduceSub, r]
  refine clnA_s h0 hn k0 hb ?_
  intro v K1 b1 own
  have hn' := hn
  unfold few at hn'
  have r1 := b1.rowc r
  have lr1 := hget_lt r1 rfl
  have l1 := b1.1
  obtain ⟨ro, nw, ow⟩ := own
  obtain ⟨adn, rfl⟩ := ro.sl
  rw [List.length_map] at ro nw ow ⊢
  obtain ⟨Kb, hKb⟩ : ∃ Kb, Kb = K1.set bx (.row [c0, c1, c2, .slice adn l.length l.length, c4, c5] 0 true) := ⟨_, rfl⟩
  have rb : hget Kb bx = .row [c0, c1, c2, .slice adn l.length l.length, c4, c5] 0 true := by rw [hKb, hget_set' lr1]
  have bbx : But bx K Kb := by rw [hKb]; exact But.set ⟨b1.1, fun c h1 _ => b1.2 c h1⟩
  have lKb : Kb.length = K1.length := by rw [hKb]; simp
  have sKb : ∀ c, c ≠ bx → hget Kb c = hget K1 c := fun c hc => by rw [hKb, hget_ne (Ne.symm hc)]
  have hKb' := hKb.symm
  simp (disch := omega) only [kB, kcx, kdm, kdn, kel, aop, resultsL, resultOf, Nat.reduceEqDiff, reduceCtorEq, eq1, apartOK, apart2, AObj.live, Int.reduceEq, Int.reduceLT, Int.reduceLE, Int.reduceAdd, Int.reduceSub, Int.reduceMul, Int.reduceToNat, cutCells, Nat.reduceAdd, Nat.reduceLeDiff, Nat.reduceLT, Nat.reduceMul, Nat.reduceSub, r1, hKb', rb]
  clear hKb hKb'
  have roB : RoSl Kb (.slice adn l.length l.length) (l.map Act.cells) := ro.same fun c hc => ⟨by rw [lKb]; exact ro.lt hc, sKb c (by have := nw c hc; omega)⟩
  have hbB : Base H Kb := bbx.base hb hbx
  by_cases hl : l = []
  · subst hl
    refine WLoop.inv (fun z e K' => K' = Kb ∧ (∃ x : Nat → Value, e = [x 0, .pointer (some ⟨bx, 0, none⟩), .pointer (some ⟨bx + 1, 0, none⟩), x 3, x 4, x 5, x 6, x 7, x 8, x 9, x 10, x 11, x 12, x 13, x 14, x 15, x 16, x 17, x 18, x 19, x 20, x 21, x 22, x 23, x 24, x 25, x 26, x 27, x 28, x 29, x 30, x 31, x 32, x 33, x 34, x 35, x 36, x 37, x 38, x 39, x 40, x 41, x 42, x 43, x 44, x 45, x 46, x 47, x 48, x 49, x 50, x 51, x 52, x 53, x 54, x 55, x 56, x 57, x 58, x 59, x 60, x 61, x 62, .int .i64 0, .int .i64 0, x 65, x 66, x 67, x 68, x 69, x 70, x 71, x 72, x 73, x 74, x 75, x 76, x 77, x 78, x 79, x 80, x 81, x 82, x 83, x 84, x 85, x 86, x 87, x 88, x 89, x 90, x 91, x 92, x 93, x 94, x 95, x 96, x 97, x 98, x 99, x 100, x 101, x 102, x 103])) ?_ 0 _ _ ⟨rfl, by exact ex_env rfl⟩
    rintro z e K' ⟨rfl, ⟨x, rfl⟩⟩
    simp (disch := omega) only [kB, kcx, kdm, kdn, kel, aop, resultsL, resultOf, Nat.reduceEqDiff, reduceCtorEq, eq1, apartOK, apart2, AObj.live, Int.reduceEq, Int.reduceLT, Int.reduceLE, Int.reduceAdd, Int.reduceSub, Int.reduceMul, Int.reduceToNat, cutCells, Nat.reduceAdd, Nat.reduceLeDiff, Nat.reduceLT, Nat.reduceMul, Nat.reduceSub, hZ']
    exact h K' _ [] _ bbx rb ⟨roB, fun c hc => by have := nw c hc; omega, fun x hx => by (cases hx), rfl⟩ (by exact ex_env rfl)
  · obtain ⟨nb, env, n1, n2, rowb⟩ := ow (by simpa using hl)
    have hne : nb ≠ bx := by omega
    have rowb' : hget Kb nb = .row (l.map Act.cells).flatten 3 true := by rw [sKb nb hne]; exact rowb
    injection env with ead
    subst ead
    refine WLoop.inv (cpAI Kb bx nb Kb.length l) ?_ l.length _ _ ⟨0, l, Nat.zero_le _, by omega, rfl, But.refl, rowb', fun j _ _ hj => by omega, fun j _ _ _ => rfl, by exact ex_env rfl⟩
    rintro z e K' ⟨i, l', hi, rfl, hln, bt, rw', done, rest, ⟨x, rfl⟩⟩
    have rb' := bt.row rb (Ne.symm hne)
    have lbx' := hget_lt rb' rfl
    have lnb := hget_lt rw' rfl
    have lK' := bt.1
    have hb' : Base H K' := bt.base hbB (by have := hb.1; omega)
    by_cases hlt : i < l.length
    · have c1 : (i : Int) < (l.length : Int) := by omega
      have w2 : IntKind.i64.wrap ((i : Int) + 1) = ((i + 1 : Nat) : Int) := by rw [show (i : Int) + 1 = ((i + 1 : Nat) : Int) by omega]; exact wr_i64 (by omega) (by omega)
      have roK : RoSl K' (.slice (some ⟨nb, 0, none⟩) l'.length l'.length) (l'.map Act.cells) := .inr ⟨nb, by rw [List.length_map], lnb, _, _, rw'⟩
      obtain ⟨b, u0, w0, eb, p1, p2, p3, p4, p5⟩ := roK.at Act.len (show i < l'.length by omega)
      injection eb with eb; injection eb with eb
      subst eb
      have hxi := rest i (by omega) hlt (Nat.le_refl _)
      have okx := k0 _ (List.getElem_mem hlt)
      rw [hxi] at p3 p5
      have hxe : l'[i]'(by omega) = l[i] := hxi
      have fs : ∀ (y : Act), y.cells.length = 3 := Act.len
      have p3' := p3
      simp (disch := omega) only [kB, kcx, kdm, kdn, kel, aop, resultsL, resultOf, Nat.reduceEqDiff, reduceCtorEq, eq1, apartOK, apart2, AObj.live, Int.reduceEq, Int.reduceLT, Int.reduceLE, Int.reduceAdd, Int.reduceSub, Int.reduceMul, Int.reduceToNat, cutCells, Nat.reduceAdd, Nat.reduceLeDiff, Nat.reduceLT, Nat.reduceMul, Nat.reduceSub, c1, rb', rw', p3', p4]
      refine WV.of (fun c hc => ?_) ?_
      · simp only [List.mem_cons, List.not_mem_nil, or_false] at hc
        subst hc
        rw [rb']; rfl
      refine actC_s okx (hb'.frz (fun c hc => by simp only [List.mem_cons, List.not_mem_nil, or_false] at hc; subst hc; omega)) ?_
      intro y Kf bf yok ynw ylk
      obtain ⟨tb, tn, tl⟩ := thaw_pre bf
      rw [frz_length] at ynw
      have yok2 := yok.same (K := thaw K' [bx] Kf) ynw (by rw [tl]; exact Nat.le_refl _) fun c _ h2 => tn c h2
      generalize thaw K' [bx] Kf = K2 at *
      have rw2 := tb.rowc rw'
      have ln2 := hget_lt rw2 rfl
      have hset := flat_setL (f := Act.cells) Act.len (l := l') (i := i) (y := y) (by omega)
      have hyn := ynw
      have hye := ylk.eqv
      obtain ⟨o1, o2⟩ := yok.one
      have hyone : y.cells.all oneCell = true := by simp [Act.cells, o1, o2, one_string]
      have hyl := Act.len y
      simp (disch := omega) only [kB, kcx, kdm, kdn, kel, aop, resultsL, resultOf, Nat.reduceEqDiff, reduceCtorEq, eq1, apartOK, apart2, AObj.live, Int.reduceEq, Int.reduceLT, Int.reduceLE, Int.reduceAdd, Int.reduceSub, Int.reduceMul, Int.reduceToNat, cutCells, Nat.reduceAdd, Nat.reduceLeDiff, Nat.reduceLT, Nat.reduceMul, Nat.reduceSub, c1, rw2, hset, p4, hyone, hyl, w2]
      have bt2 : But nb K' (K2.set nb (.row (((l'.set i y).map Act.cells).flatten) 3 true)) := But.set ⟨tb.1, fun c h1 _ => tb.2 c h1⟩
      have rw3 : hget (K2.set nb (.row (((l'.set i y).map Act.cells).flatten) 3 true)) nb = .row (((l'.set i y).map Act.cells).flatten) 3 true := hget_set' ln2
      have yk3 : y.OK (K2.set nb (.row (((l'.set i y).map Act.cells).flatten) 3 true)) := by
        refine yok2.same ynw (by simp) fun c h1 h2 => ?_
        rw [hget_ne (by omega)]
      generalize K2.set nb (.row (((l'.set i y).map Act.cells).flatten) 3 true) = K3 at *
      refine ⟨l.length - (i + 1), by omega, i + 1, l'.set i y, by omega, rfl, by simpa using hln, bt.trans bt2, rw3, fun j g1 g2 g3 => ?_, fun j g1 g2 g3 => ?_, by exact ex_env rfl⟩
      · rw [List.length_set] at g1
        by_cases hj : j = i
        · subst hj
          rw [List.getElem_set_self]
          exact ⟨yk3, hyn.low (by omega), hye⟩
        · rw [List.getElem_set_ne (Ne.symm hj)]
          obtain ⟨d1, d2, d3⟩ := done j g1 g2 (by omega)
          exact ⟨d1.same d2 bt2.1 fun c h1 h2 => bt2.2 c h1 (by omega), d2, d3⟩
      · rw [List.length_set] at g1
        rw [List.getElem_set_ne (by omega)]
        exact rest j g1 g2 (by omega)
    · have c1 : ¬ (i : Int) < (l.length : Int) := by omega
      simp (disch := omega) only [kB, kcx, kdm, kdn, kel, aop, resultsL, resultOf, Nat.reduceEqDiff, reduceCtorEq, eq1, apartOK, apart2, AObj.live, Int.reduceEq, Int.reduceLT, Int.reduceLE, Int.reduceAdd, Int.reduceSub, Int.reduceMul, Int.reduceToNat, cutCells, Nat.reduceAdd, Nat.reduceLeDiff, Nat.reduceLT, Nat.reduceMul, Nat.reduceSub, c1, hZ']
      refine h K' (.slice (some ⟨nb, 0, none⟩) l.length l.length) l' _ ⟨Nat.le_trans bbx.1 bt.1, fun c h1 h2 => ?_⟩ rb' ⟨.inr ⟨nb, by rw [List.length_map, hln], lnb, _, _, rw'⟩, fun c hc => by (cases hc; omega), fun x hx => ?_, ?_⟩ (by exact ex_env rfl)
      · rw [bt.2 c (by have := bbx.1; omega) (by omega)]
        exact bbx.2 c h1 h2
      · obtain ⟨j, hj, rfl⟩ := List.getElem_of_mem hx
        obtain ⟨d1, d2, d3⟩ := done j hj (by omega) (by omega)
        exact ⟨d1, d2.low (by omega)⟩
      · exact (all2_iff _).2 ⟨hln, fun j h1 h2 => (done j h1 h2 (by omega)).2.2⟩

/-- A list of copies. -/
structure GdT (n : Nat) (K : Heap) (v : Value) (l' l : List Tbl) : Prop where
  ro : RoSl K v (l'.map Tbl.cells)
  nw : Ev.New n v
  ok : ∀ x ∈ l', x.OK K ∧ x.New n
  eq : all2 Tbl.eqv l' l = true
theorem GdT.step {n bx : Nat} {K' : Heap} {v : Value} {l' l : List Tbl} (g : GdT n K v l' l) (hb : But bx K K') (hn : bx < n) : GdT n K' v l' l where
  ro := g.ro.same fun c hc => ⟨Nat.lt_of_lt_of_le (g.ro.lt hc) hb.1, hb.2 c (g.ro.lt hc) (by have := g.nw c hc; omega)⟩
  nw := g.nw
  ok := fun x hx => ⟨(g.ok x hx).1.same (g.ok x hx).2 hb.1 fun c h1 h2 => hb.2 c h1 (by omega), (g.ok x hx).2⟩
  eq := g.eq

theorem GdT.step2 {n : Nat} {K' : Heap} {v : Value} {l' l : List Tbl} (g : GdT n K v l' l) (hl : K.length ≤ K'.length) (hk : ∀ c, c < K.length → n ≤ c → hget K' c = hget K c) : GdT n K' v l' l where
  ro := g.ro.same fun c hc => ⟨Nat.lt_of_lt_of_le (g.ro.lt hc) hl, hk c (g.ro.lt hc) (g.nw c hc)⟩
  nw := g.nw
  ok := fun x hx => ⟨(g.ok x hx).1.same (g.ok x hx).2 hl hk, (g.ok x hx).2⟩
  eq := g.eq

def cpTI (Kb : Heap) (bx nb lo : Nat) (l : List Tbl) : Nat → Env → Heap → Prop := fun z e K' =>
  ∃ (i : Nat) (l' : List Tbl), i ≤ l.length ∧ z = l.length - i ∧ l'.length = l.length ∧ But nb Kb K' ∧ hget K' nb = .row (l'.map Tbl.cells).flatten 7 true ∧
    (∀ j (h1 : j < l'.length) (h2 : j < l.length), j < i → l'[j].OK K' ∧ l'[j].New lo ∧ l'[j].eqv l[j] = true) ∧ (∀ j (h1 : j < l'.length) (h2 : j < l.length), i ≤ j → l'[j] = l[j]) ∧
    (∃ x : Nat → Value, e = [x 0, .pointer (some ⟨bx, 0, none⟩), .pointer (some ⟨bx + 1, 0, none⟩), x 3, x 4, x 5, x 6, x 7, x 8, x 9, x 10, x 11, x 12, x 13, x 14, x 15, x 16, x 17, x 18, x 19, x 20, x 21, x 22, x 23, x 24, x 25, x 26, x 27, x 28, x 29, x 30, x 31, x 32, x 33, x 34, x 35, x 36, x 37, x 38, x 39, x 40, x 41, x 42, x 43, x 44, x 45, x 46, x 47, x 48, x 49, x 50, x 51, x 52, x 53, x 54, x 55, x 56, x 57, x 58, x 59, x 60, x 61, x 62, x 63, x 64, x 65, x 66, x 67, x 68, x 69, x 70, x 71, x 72, x 73, x 74, x 75, x 76, x 77, x 78, x 79, x 80, x 81, x 82, x 83, .int .i64 (l.length : Int), .int .i64 (i : Int), x 86, x 87, x 88, x 89, x 90, x 91, x 92, x 93, x 94, x 95, x 96, x 97, x 98, x 99, x 100, x 101, x 102, x 103])

set_option maxHeartbeats 4000000 in
theorem cpT_w {l : List Tbl} {v0 : Value} (h0 : RoSl H v0 (l.map Tbl.cells)) (hn : few 120 l.length) (k0 : ∀ x ∈ l, x.OK H) {bx : Nat} (hbx : H.length ≤ bx) (hb : Base H K) (lbx : bx + 1 < K.length) {c0 c1 c2 c3 c5 : Value} (r : hget K bx = .row [c0, c1, c2, c3, v0, c5] 0 true) {e : Env} {Q : Post}
    (he : (∃ x : Nat → Value, e = [x 0, .pointer (some ⟨bx, 0, none⟩), .pointer (some ⟨bx + 1, 0, none⟩), x 3, x 4, x 5, x 6, x 7, x 8, x 9, x 10, x 11, x 12, x 13, x 14, x 15, x 16, x 17, x 18, x 19, x 20, x 21, x 22, x 23, x 24, x 25, x 26, x 27, x 28, x 29, x 30, x 31, x 32, x 33, x 34, x 35, x 36, x 37, x 38, x 39, x 40, x 41, x 42, x 43, x 44, x 45, x 46, x 47, x 48, x 49, x 50, x 51, x 52, x 53, x 54, x 55, x 56, x 57, x 58, x 59, x 60, x 61, x 62, x 63, x 64, x 65, x 66, x 67, x 68, x 69, x 70, x 71, x 72, x 73, x 74, x 75, x 76, x 77, x 78, x 79, x 80, x 81, x 82, x 83, x 84, x 85, x 86, x 87, x 88, x 89, x 90, x 91, x 92, x 93, x 94, x 95, x 96, x 97, x 98, x 99, x 100, x 101, x 102, x 103]))
    (h : ∀ K' v l' e, But bx K K' → hget K' bx = .row [c0, c1, c2, c3, v, c5] 0 true → GdT (bx + 2) K' v l' l → (∃ x : Nat → Value, e = [x 0, .pointer (some ⟨bx, 0, none⟩), .pointer (some ⟨bx + 1, 0, none⟩), x 3, x 4, x 5, x 6, x 7, x 8, x 9, x 10, x 11, x 12, x 13, x 14, x 15, x 16, x 17, x 18, x 19, x 20, x 21, x 22, x 23, x 24, x 25, x 26, x 27, x 28, x 29, x 30, x 31, x 32, x 33, x 34, x 35, x 36, x 37, x 38, x 39, x 40, x 41, x 42, x 43, x 44, x 45, x 46, x 47, x 48, x 49, x 50, x 51, x 52, x 53, x 54, x 55, x 56, x 57, x 58, x 59, x 60, x 61, x 62, x 63, x 64, x 65, x 66, x 67, x 68, x 69, x 70, x 71, x 72, x 73, x 74, x 75, x 76, x 77, x 78, x 79, x 80, x 81, x 82, x 83, x 84, x 85, x 86, x 87, x 88, x 89, x 90, x 91, x 92, x 93, x 94, x 95, x 96, x 97, x 98, x 99, x 100, x 101, x 102, x 103]) → WC T (g13.body.at [1, 1, 1, 1, 1, 1, 1, 1, 1, 1]) e K' Q) : WC T (g13.body.at [1, 1, 1, 1, 1, 1, 1, 1]) e K Q := by
  obtain ⟨x, rfl⟩ := he
  obtain ⟨Z, hZ⟩ : ∃ Z, Z = WC T (g13.body.at [1, 1, 1, 1, 1, 1, 1, 1, 1, 1]) := ⟨_, rfl⟩
  have hZ' := hZ.symm
  rw [← hZ] at h
  simp only [AFunc.body, g13, ACode.at] at hZ' ⊢
  clear hZ
  obtain ⟨ad0, rfl⟩ := h0.sl
  simp (disch := omega) only [kB, kcx, kdm, kdn, kel, aop, resultsL, resultOf, Nat.reduceEqDiff, reduceCtorEq, eq1, apartOK, apart2, AObj.live, Int.reduceEq, Int.reduceLT, Int.reduceLE, Int.reduceAdd, Int.reduceSub, Int.reduceMul, Int.reduceToNat, cutCells, Nat.reduceAdd, Nat.reduceLeDiff, Nat.reduceLT, Nat.reduceMul, Nat.reduceSub, r]
  refine clnT_s h0 hn k0 hb ?_
  intro v K1 b1 own
  have hn' := hn
  unfold few at hn'
  have r1 := b1.rowc r
  have lr1 := hget_lt r1 rfl
  have l1 := b1.1
  obtain ⟨ro, nw, ow⟩ := own
  obtain ⟨adn, rfl⟩ := ro.sl
  rw [List.length_map] at ro nw ow ⊢
  obtain ⟨Kb, hKb⟩ : ∃ Kb, Kb = K1.set bx (.row [c0, c1, c2, c3, .slice adn l.length l.length, c5] 0 true) := ⟨_, rfl⟩
  have rb : hget Kb bx = .row [c0, c1, c2, c3, .slice adn l.length l.length, c5] 0 true := by rw [hKb, hget_set' lr1]
  have bbx : But bx K Kb := by rw [hKb]; exact But.set ⟨b1.1, fun c h1 _ => b1.2 c h1⟩
  have lKb : Kb.length = K1.length := by rw [hKb]; simp
  have sKb : ∀ c, c ≠ bx → hget Kb c = hget K1 c := fun c hc => by rw [hKb, hget_ne (Ne.symm hc)]
  have hKb' := hKb.symm
  simp (disch := omega) only [kB, kcx, kdm, kdn, kel, aop, resultsL, resultOf, Nat.reduceEqDiff, reduceCtorEq, eq1, apartOK, apart2, AObj.live, Int.reduceEq, Int.reduceLT, Int.reduceLE, Int.reduceAdd, Int.reduceSub, Int.reduceMul, Int.reduceToNat, cutCells, Nat.reduceAdd, Nat.reduceLeDiff, Nat.reduceLT, Nat.reduceMul, Nat.reduceSub, r1, hKb', rb]
  clear hKb hKb'
  have roB : RoSl Kb (.slice adn l.length l.length) (l.map Tbl.cells) := ro.same fun c hc => ⟨by rw [lKb]; exact ro.lt hc, sKb c (by have := nw c hc; omega)⟩
  have hbB : Base H Kb := bbx.base hb hbx
  by_cases hl : l = []
  · subst hl
    refine WLoop.inv (fun z e K' => K' = Kb ∧ (∃ x : Nat → Value, e = [x 0, .pointer (some ⟨bx, 0, none⟩), .pointer (some ⟨bx + 1, 0, none⟩), x 3, x 4, x 5, x 6, x 7, x 8, x 9, x 10, x 11, x 12, x 13, x 14, x 15, x 16, x 17, x 18, x 19, x 20, x 21, x 22, x 23, x 24, x 25, x 26, x 27, x 28, x 29, x 30, x 31, x 32, x 33, x 34, x 35, x 36, x 37, x 38, x 39, x 40, x 41, x 42, x 43, x 44, x 45, x 46, x 47, x 48, x 49, x 50, x 51, x 52, x 53, x 54, x 55, x 56, x 57, x 58, x 59, x 60, x 61, x 62, x 63, x 64, x 65, x 66, x 67, x 68, x 69, x 70, x 71, x 72, x 73, x 74, x 75, x 76, x 77, x 78, x 79, x 80, x 81, x 82, x 83, .int .i64 0, .int .i64 0, x 86, x 87, x 88, x 89, x 90, x 91, x 92, x 93, x 94, x 95, x 96, x 97, x 98, x 99, x 100, x 101, x 102, x 103])) ?_ 0 _ _ ⟨rfl, by exact ex_env rfl⟩
    rintro z e K' ⟨rfl, ⟨x, rfl⟩⟩
    simp (disch := omega) only [kB, kcx, kdm, kdn, kel, aop, resultsL, resultOf, Nat.reduceEqDiff, reduceCtorEq, eq1, apartOK, apart2, AObj.live, Int.reduceEq, Int.reduceLT, Int.reduceLE, Int.reduceAdd, Int.reduceSub, Int.reduceMul, Int.reduceToNat, cutCells, Nat.reduceAdd, Nat.reduceLeDiff, Nat.reduceLT, Nat.reduceMul, Nat.reduceSub, hZ']
    exact h K' _ [] _ bbx rb ⟨roB, fun c hc => by have := nw c hc; omega, fun x hx => by (cases hx), rfl⟩ (by exact ex_env rfl)
  · obtain ⟨nb, env, n1, n2, rowb⟩ := ow (by simpa using hl)
    have hne : nb ≠ bx := by omega
    have rowb' : hget Kb nb = .row (l.map Tbl.cells).flatten 7 true := by rw [sKb nb hne]; exact rowb
    injection env with ead
    subst ead
    refine WLoop.inv (cpTI Kb bx nb Kb.length l) ?_ l.length _ _ ⟨0, l, Nat.zero_le _, by omega, rfl, But.refl, rowb', fun j _ _ hj => by omega, fun j _ _ _ => rfl, by exact ex_env rfl⟩
    rintro z e K' ⟨i, l', hi, rfl, hln, bt, rw', done, rest, ⟨x, rfl⟩⟩
    have rb' := bt.row rb (Ne.symm hne)
    have lbx' := hget_lt rb' rfl
    have lnb := hget_lt rw' rfl
    have lK' := bt.1
    have hb' : Base H K' := bt.base hbB (by have := hb.1; omega)
    by_cases hlt : i < l.length
    · have c1 : (i : Int) < (l.length : Int) := by omega
      have w2 : IntKind.i64.wrap ((i : Int) + 1) = ((i + 1 : Nat) : Int) := by rw [show (i : Int) + 1 = ((i + 1 : Nat) : Int) by omega]; exact wr_i64 (by omega) (by omega)
      have roK : RoSl K' (.slice (some ⟨nb, 0, none⟩) l'.length l'.length) (l'.map Tbl.cells) := .inr ⟨nb, by rw [List.length_map], lnb, _, _, rw'⟩
      obtain ⟨b, u0, w0, eb, p1, p2, p3, p4, p5⟩ := roK.at Tbl.len (show i < l'.length by omega)
      injection eb with eb; injection eb with eb
      subst eb
      have hxi := rest i (by omega) hlt (Nat.le_refl _)
      have okx := k0 _ (List.getElem_mem hlt)
      rw [hxi] at p3 p5
      have hxe : l'[i]'(by omega) = l[i] := hxi
      have fs : ∀ (y : Tbl), y.cells.length = 7 := Tbl.len
      have p3' := p3
      simp (disch := omega) only [kB, kcx, kdm, kdn, kel, aop, resultsL, resultOf, Nat.reduceEqDiff, reduceCtorEq, eq1, apartOK, apart2, AObj.live, Int.reduceEq, Int.reduceLT, Int.reduceLE, Int.reduceAdd, Int.reduceSub, Int.reduceMul, Int.reduceToNat, cutCells, Nat.reduceAdd, Nat.reduceLeDiff, Nat.reduceLT, Nat.reduceMul, Nat.reduceSub, c1, rb', rw', p3', p4]
      refine WV.of (fun c hc => ?_) ?_
      · simp only [List.mem_cons, List.not_mem_nil, or_false] at hc
        subst hc
        rw [rb']; rfl
      refine tblC_s okx (hb'.frz (fun c hc => by simp only [List.mem_cons, List.not_mem_nil, or_false] at hc; subst hc; omega)) ?_
      intro y Kf bf yok ynw ylk
      obtain ⟨tb, tn, tl⟩ := thaw_pre bf
      rw [frz_length] at ynw
      have yok2 := yok.same (K := thaw K' [bx] Kf) ynw (by rw [tl]; exact Nat.le_refl _) fun c _ h2 => tn c h2
      generalize thaw K' [bx] Kf = K2 at *
      have rw2 := tb.rowc rw'
      have ln2 := hget_lt rw2 rfl
      have hset := flat_setL (f := Tbl.cells) Tbl.len (l := l') (i := i) (y := y) (by omega)
      have hyn := ynw
      have hye := ylk.eqv
      obtain ⟨o1, o2, o3⟩ := yok.one
      have hyone : y.cells.all oneCell = true := by simp [Tbl.cells, o1, o2, o3, one_string, one_int, one_bool]
      have hyl := Tbl.len y
      simp (disch := omega) only [kB, kcx, kdm, kdn, kel, aop, resultsL, resultOf, Nat.reduceEqDiff, reduceCtorEq, eq1, apartOK, apart2, AObj.live, Int.reduceEq, Int.reduceLT, Int.reduceLE, Int.reduceAdd, Int.reduceSub, Int.reduceMul, Int.reduceToNat, cutCells, Nat.reduceAdd, Nat.reduceLeDiff, Nat.reduceLT, Nat.reduceMul, Nat.reduceSub, c1, rw2, hset, p4, hyone, hyl, w2]
      have bt2 : But nb K' (K2.set nb (.row (((l'.set i y).map Tbl.cells).flatten) 7 true)) := But.set ⟨tb.1, fun c h1 _ => tb.2 c h1⟩
      have rw3 : hget (K2.set nb (.row (((l'.set i y).map Tbl.cells).flatten) 7 true)) nb = .row (((l'.set i y).map Tbl.cells).flatten) 7 true := hget_set' ln2
      have yk3 : y.OK (K2.set nb (.row (((l'.set i y).map Tbl.cells).flatten) 7 true)) := by
        refine yok2.same ynw (by simp) fun c h1 h2 => ?_
        rw [hget_ne (by omega)]
      generalize K2.set nb (.row (((l'.set i y).map Tbl.cells).flatten) 7 true) = K3 at *
      refine ⟨l.length - (i + 1), by omega, i + 1, l'.set i y, by omega, rfl, by simpa using hln, bt.trans bt2, rw3, fun j g1 g2 g3 => ?_, fun j g1 g2 g3 => ?_, by exact ex_env rfl⟩
      · rw [List.length_set] at g1
        by_cases hj : j = i
        · subst hj
          rw [List.getElem_set_self]
          exact ⟨yk3, hyn.low (by omega), hye⟩
        · rw [List.getElem_set_ne (Ne.symm hj)]
          obtain ⟨d1, d2, d3⟩ := done j g1 g2 (by omega)
          exact ⟨d1.same d2 bt2.1 fun c h1 h2 => bt2.2 c h1 (by omega), d2, d3⟩
      · rw [List.length_set] at g1
        rw [List.getElem_set_ne (by omega)]
        exact rest j g1 g2 (by omega)
    · have c1 : ¬ (i : Int) < (l.length : Int) := by omega
      simp (disch := omega) only [kB, kcx, kdm, kdn, kel, aop, resultsL, resultOf, Nat.reduceEqDiff, reduceCtorEq, eq1, apartOK, apart2, AObj.live, Int.reduceEq, Int.reduceLT, Int.reduceLE, Int.reduceAdd, Int.reduceSub, Int.reduceMul, Int.reduceToNat, cutCells, Nat.reduceAdd, Nat.reduceLeDiff, Nat.reduceLT, Nat.reduceMul, Nat.reduceSub, c1, hZ']
      refine h K' (.slice (some ⟨nb, 0, none⟩) l.length l.length) l' _ ⟨Nat.le_trans bbx.1 bt.1, fun c h1 h2 => ?_⟩ rb' ⟨.inr ⟨nb, by rw [List.length_map, hln], lnb, _, _, rw'⟩, fun c hc => by (cases hc; omega), fun x hx => ?_, ?_⟩ (by exact ex_env rfl)
      · rw [bt.2 c (by have := bbx.1; omega) (by omega)]
        exact bbx.2 c h1 h2
      · obtain ⟨j, hj, rfl⟩ := List.getElem_of_mem hx
        obtain ⟨d1, d2, d3⟩ := done j hj (by omega) (by omega)
        exact ⟨d1, d2.low (by omega)⟩
      · exact (all2_iff _).2 ⟨hln, fun j h1 h2 => (done j h1 h2 (by omega)).2.2⟩

end Go.Proofs.YtpllhhaeclnngaaGreat.Ev

/- Copy: the control. -/
namespace Go.Proofs.YtpllhhaeclnngaaGreat.Ev
set_option maxRecDepth 100000
set_option linter.unusedSimpArgs false
set_option linter.unusedVariables false
variable {R : FRes → Heap → Prop} {H K : Heap}

mutual
/-- All memory of such ones lies from there on. -/
def LoS (n : Nat) : St → Prop
  | .mk _ _ _ va vb a b => LoL n a va ∧ LoL n b vb
def LoL (n : Nat) : List St → Value → Prop
  | [], v => Ev.New n v
  | s :: l, v => Ev.New n v ∧ LoS n s ∧ LoSs n l
def LoSs (n : Nat) : List St → Prop
  | [] => True
  | s :: l => LoS n s ∧ LoSs n l
end

theorem lo_key (n m : Nat) (hm : m ≤ n) : ∀ (N : Nat) (l : List St) (v : Value), SizeOf.sizeOf l ≤ N → (LoL n l v → LoL m l v) ∧ (LoSs n l → LoSs m l) := by
  intro N
  induction N with
  | zero => intro l v h; cases l <;> simp at h
  | succ N ih =>
    intro l v h
    cases l with
    | nil => exact ⟨fun q => by simp only [LoL] at q ⊢; exact q.low hm, fun _ => trivial⟩
    | cons s l =>
      have hl : SizeOf.sizeOf l ≤ N := by simp at h; omega
      have hs : LoS n s → LoS m s := by
        cases s with
        | mk k t c va vb a b =>
          intro q
          simp only [LoS] at q ⊢
          simp at h
          exact ⟨(ih a va (by omega)).1 q.1, (ih b vb (by omega)).1 q.2⟩
      refine ⟨fun q => ?_, fun q => ?_⟩
      · simp only [LoL] at q ⊢
        exact ⟨q.1.low hm, hs q.2.1, (ih l v hl).2 q.2.2⟩
      · simp only [LoSs] at q ⊢
        exact ⟨hs q.1, (ih l v hl).2 q.2⟩
theorem LoL.low {n m : Nat} {l : List St} {v : Value} (h : LoL n l v) (hm : m ≤ n) : LoL m l v := (lo_key n m hm _ l v (Nat.le_refl _)).1 h
theorem LoS.low {n m : Nat} {s : St} (h : LoS n s) (hm : m ≤ n) : LoS m s := by
  cases s
  simp only [LoS] at h ⊢
  exact ⟨h.1.low hm, h.2.low hm⟩

theorem st_same {n : Nat} (hl : H.length ≤ K.length) (hk : ∀ c, c < H.length → n ≤ c → hget K c = hget H c) : ∀ (N : Nat) (l : List St) (v : Value), SizeOf.sizeOf l ≤ N → (StSl H l v → LoL n l v → StSl K l v) ∧ (StOKs H l → LoSs n l → StOKs K l) := by
  intro N
  induction N with
  | zero => intro l v h; cases l <;> simp at h
  | succ N ih =>
    intro l v h
    cases l with
    | nil =>
      refine ⟨fun q q2 => ?_, fun _ _ => trivial⟩
      simp only [StSl] at q ⊢
      simp only [LoL] at q2
      exact q.same fun c hc => ⟨Nat.lt_of_lt_of_le (q.lt hc) hl, hk c (q.lt hc) (q2 c hc)⟩
    | cons s l =>
      have hl2 : SizeOf.sizeOf l ≤ N := by simp at h; omega
      have hs : StOK H s → LoS n s → StOK K s := by
        cases s with
        | mk k t c va vb a b =>
          intro q q2
          simp only [StOK] at q ⊢
          simp only [LoS] at q2
          simp at h
          exact ⟨q.1, (ih a va (by omega)).1 q.2.1 q2.1, (ih b vb (by omega)).1 q.2.2 q2.2⟩
      refine ⟨fun q q2 => ?_, fun q q2 => ?_⟩
      · simp only [StSl] at q ⊢
        simp only [LoL] at q2
        obtain ⟨⟨b, e1, e2, u, wr, e3⟩, e4, e5, e6⟩ := q
        subst e1
        exact ⟨⟨b, rfl, Nat.lt_of_lt_of_le e2 hl, u, wr, by rw [hk b e2 (q2.1 b rfl)]; exact e3⟩, e4, hs e5 q2.2.1, (ih l (.slice none 0 0) hl2).2 e6 q2.2.2⟩
      · simp only [StOKs] at q ⊢
        simp only [LoSs] at q2
        exact ⟨hs q.1 q2.1, (ih l v hl2).2 q.2 q2.2⟩
theorem StSl.same {n : Nat} {l : List St} {v : Value} (h : StSl H l v) (hn : LoL n l v) (hl : H.length ≤ K.length) (hk : ∀ c, c < H.length → n ≤ c → hget K c = hget H c) : StSl K l v := (st_same hl hk _ l v (Nat.le_refl _)).1 h hn
theorem StOK.same {n : Nat} {s : St} (h : StOK H s) (hn : LoS n s) (hl : H.length ≤ K.length) (hk : ∀ c, c < H.length → n ≤ c → hget K c = hget H c) : StOK K s := by
  cases s
  simp only [StOK] at h ⊢
  simp only [LoS] at hn
  exact ⟨h.1, h.2.1.same hn.1 hl hk, h.2.2.same hn.2 hl hk⟩
theorem stOKs_of : ∀ {l : List St}, (∀ s ∈ l, StOK H s) → StOKs H l
  | [], _ => trivial
  | s :: l, h => by simp only [StOKs]; exact ⟨h s (by simp), stOKs_of fun x hx => h x (by simp [hx])⟩
theorem loSs_of {n : Nat} : ∀ {l : List St}, (∀ s ∈ l, LoS n s) → LoSs n l
  | [], _ => trivial
  | s :: l, h => by simp only [LoSs]; exact ⟨h s (by simp), loSs_of fun x hx => h x (by simp [hx])⟩
theorem StSl.ro {l : List St} {v : Value} (h : StSl H l v) : RoSl H v (l.map St.cells) := by
  cases l with
  | nil => simp only [StSl] at h; exact h
  | cons x l =>
    simp only [StSl] at h
    obtain ⟨⟨b, rfl, h1, u, w, h2⟩, _⟩ := h
    exact .inr ⟨b, by simp, h1, u, w, h2⟩
theorem StSl.oks {l : List St} {v : Value} (h : StSl H l v) : StOKs H l := by
  cases l with
  | nil => trivial
  | cons x l => simp only [StSl] at h; simp only [StOKs]; exact h.2.2

def cpgI (Kb : Heap) (nb lo : Nat) (l : List St) : Nat → Env → Heap → Prop := fun z e K' =>
  ∃ (i : Nat) (l' : List St), i ≤ l.length ∧ z = l.length - i ∧ l'.length = l.length ∧ But nb Kb K' ∧ hget K' nb = .row (l'.map St.cells).flatten 13 true ∧
    (∀ j (h1 : j < l'.length) (h2 : j < l.length), j < i → StOK K' l'[j] ∧ LoS lo l'[j] ∧ l'[j].eqv l[j] = true) ∧ (∀ j (h1 : j < l'.length) (h2 : j < l.length), i ≤ j → l'[j] = l[j]) ∧
    (∃ x : Nat → Value, e = [.slice (some ⟨nb, 0, none⟩) l.length l.length, x 1, x 2, x 3, x 4, x 5, x 6, .int .i64 (l.length : Int), .int .i64 (i : Int), x 9, x 10, x 11, x 12, x 13, x 14, x 15, x 16, x 17, x 18, x 19, x 20, x 21, x 22, x 23, x 24, x 25, x 26, x 27, x 28, x 29, x 30, x 31, x 32])

set_option maxHeartbeats 4000000 in
theorem copyStages_s : ∀ (N : Nat) (l : List St), SizeOf.sizeOf l ≤ N → ∀ (v : Value) (K : Heap) (R : FRes → Heap → Prop), StSl H l v → Base H K →
    (∀ v' l' K', Base K K' → StSl K' l' v' → LoL K.length l' v' → eqvL l' l = true → R (.ret v') K') → WD T 79 [v] K R := by
  intro N
  induction N with
  | zero => intro l h; cases l <;> simp at h
  | succ N ih =>
    intro l hN v K R hv hb h
    obtain ⟨ad0, rfl⟩ := hv.sl
    have hfew := hv.few
    refine WD.of follows t79 (by simp) ?_
    simp (disch := omega) only [kB, kcx, kdm, kdn, kel, aop, resultsL, resultOf, Nat.reduceEqDiff, reduceCtorEq, eq1, apartOK, apart2, AObj.live, Int.reduceEq, Int.reduceLT, Int.reduceLE, Int.reduceAdd, Int.reduceSub, Int.reduceMul, Int.reduceToNat, cutCells, Nat.reduceAdd, Nat.reduceLeDiff, Nat.reduceLT, Nat.reduceMul, Nat.reduceSub]
    have hro := hv.ro
    have hok := hv.oks
    refine clnG_s hro hfew (fun x hx => hok.get hx) hb ?_
    intro v1 K1 b1 own
    obtain ⟨ro, nw, ow⟩ := own
    obtain ⟨adn, rfl⟩ := ro.sl
    rw [List.length_map] at ro nw ow ⊢
    have hfew' := hfew
    unfold few at hfew'
    have l1 := b1.1
    simp (disch := omega) only [kB, kcx, kdm, kdn, kel, aop, resultsL, resultOf, Nat.reduceEqDiff, reduceCtorEq, eq1, apartOK, apart2, AObj.live, Int.reduceEq, Int.reduceLT, Int.reduceLE, Int.reduceAdd, Int.reduceSub, Int.reduceMul, Int.reduceToNat, cutCells, Nat.reduceAdd, Nat.reduceLeDiff, Nat.reduceLT, Nat.reduceMul, Nat.reduceSub]
    by_cases hl : l = []
    · subst hl
      refine WLoop.inv (fun z e K' => K' = K1 ∧ (∃ x : Nat → Value, e = [.slice adn 0 0, x 1, x 2, x 3, x 4, x 5, x 6, .int .i64 0, .int .i64 0, x 9, x 10, x 11, x 12, x 13, x 14, x 15, x 16, x 17, x 18, x 19, x 20, x 21, x 22, x 23, x 24, x 25, x 26, x 27, x 28, x 29, x 30, x 31, x 32])) ?_ 0 _ _ ⟨rfl, by exact ex_env rfl⟩
      rintro z e K' ⟨rfl, ⟨x, rfl⟩⟩
      simp (disch := omega) only [kB, kcx, kdm, kdn, kel, aop, resultsL, resultOf, Nat.reduceEqDiff, reduceCtorEq, eq1, apartOK, apart2, AObj.live, Int.reduceEq, Int.reduceLT, Int.reduceLE, Int.reduceAdd, Int.reduceSub, Int.reduceMul, Int.reduceToNat, cutCells, Nat.reduceAdd, Nat.reduceLeDiff, Nat.reduceLT, Nat.reduceMul, Nat.reduceSub]
      exact h _ [] K' b1 ro nw rfl
    · obtain ⟨nb, env, n1, n2, rowb⟩ := ow (by simpa using hl)
      injection env with ead
      subst ead
      have hbB : Base H K1 := hb.trans b1
      have hHn : H.length ≤ nb := Nat.le_trans hb.1 n1
      refine WLoop.inv (cpgI K1 nb K1.length l) ?_ l.length _ _ ⟨0, l, Nat.zero_le _, by omega, rfl, But.refl, rowb, fun j _ _ hj => by omega, fun j _ _ _ => rfl, by exact ex_env rfl⟩
      rintro z e K' ⟨i, l', hi, rfl, hln, bt, rw', done, rest, ⟨x, rfl⟩⟩
      have lnb := hget_lt rw' rfl
      have lK' := bt.1
      have hb' : Base H K' := bt.base hbB hHn
      by_cases hlt : i < l.length
      · have c1 : (i : Int) < (l.length : Int) := by omega
        have w2 : IntKind.i64.wrap ((i : Int) + 1) = ((i + 1 : Nat) : Int) := by rw [show (i : Int) + 1 = ((i + 1 : Nat) : Int) by omega]; exact wr_i64 (by omega) (by omega)
        have roK : RoSl K' (.slice (some ⟨nb, 0, none⟩) l'.length l'.length) (l'.map St.cells) := .inr ⟨nb, by rw [List.length_map], lnb, _, _, rw'⟩
        obtain ⟨b, u0, w0, eb, p1, p2, p3, p4, p5⟩ := roK.at St.len (show i < l'.length by omega)
        injection eb with eb; injection eb with eb
        subst eb
        have hxi := rest i (by omega) hlt (Nat.le_refl _)
        have okx := hok.get (List.getElem_mem hlt)
        obtain ⟨z1, z2⟩ := St.size (List.getElem_mem hlt)
        have q11 := p5 11 (by decide)
        rw [hxi] at q11
        obtain ⟨x, hx⟩ : ∃ x, x = l[i] := ⟨_, rfl⟩
        have hxl : l'[i]'(by omega) = x := by rw [hx]; exact hxi
        rw [← hx] at okx z1 z2 q11
        rw [St.cells_eq] at q11
        simp only [Tst.cells, List.cons_append, List.nil_append, List.getElem?_cons_succ, List.getElem?_cons_zero] at q11
        simp (disch := omega) only [kB, kcx, kdm, kdn, kel, aop, resultsL, resultOf, Nat.reduceEqDiff, reduceCtorEq, eq1, apartOK, apart2, AObj.live, Int.reduceEq, Int.reduceLT, Int.reduceLE, Int.reduceAdd, Int.reduceSub, Int.reduceMul, Int.reduceToNat, cutCells, Nat.reduceAdd, Nat.reduceLeDiff, Nat.reduceLT, Nat.reduceMul, Nat.reduceSub, c1, rw', q11]
        refine ih x.thn (by omega) x.va K' _ okx.sa hb' ?_
        intro va' a' K2 ba sa la ea
        obtain ⟨ada, rfl⟩ := sa.sl
        have rw2 := ba.rowc rw'
        have ln2 := hget_lt rw2 rfl
        have le1 : i * 13 + 11 + 1 ≤ ((l'.map St.cells).flatten).length := by omega
        have hset := flat_set (f := St.cells) St.len (l := l') (i := i) (j := 11) (v := .slice ada a'.length a'.length) (y := .mk x.kind x.table x.test (.slice ada a'.length a'.length) x.vb a' x.els) (by omega) (by decide) (by rw [hxl]; cases x; rfl)
        obtain ⟨y1, hy1⟩ : ∃ y1 : St, y1 = .mk x.kind x.table x.test (.slice ada a'.length a'.length) x.vb a' x.els := ⟨_, rfl⟩
        rw [← hy1] at hset
        have bt2 : But nb K' (K2.set nb (.row (((l'.set i y1).map St.cells).flatten) 13 true)) := But.set ⟨ba.1, fun c h1 _ => ba.2 c h1⟩
        have rw3 : hget (K2.set nb (.row (((l'.set i y1).map St.cells).flatten) 13 true)) nb = .row (((l'.set i y1).map St.cells).flatten) 13 true := hget_set' ln2
        have sa3 : StSl (K2.set nb (.row (((l'.set i y1).map St.cells).flatten) 13 true)) a' (.slice ada a'.length a'.length) := sa.same la (by simp) fun c h1 h2 => by rw [hget_ne (by omega)]
        have fl1 : (((l'.set i y1).map St.cells).flatten).length = ((l'.map St.cells).flatten).length := by rw [← hset, List.length_set]
        have hq12 : (((l'.set i y1).map St.cells).flatten)[i * 13 + 12]? = some x.vb := by
          have q12 := p5 12 (by decide)
          rw [hxi, ← hx, St.cells_eq] at q12
          simp only [Tst.cells, List.cons_append, List.nil_append, List.getElem?_cons_succ, List.getElem?_cons_zero] at q12
          rw [← hset, List.getElem?_set_ne (by omega)]
          exact q12
        have lK2 : K'.length ≤ (K2.set nb (.row (((l'.set i y1).map St.cells).flatten) 13 true)).length := bt2.1
        simp (disch := omega) only [kB, kcx, kdm, kdn, kel, aop, resultsL, resultOf, Nat.reduceEqDiff, reduceCtorEq, eq1, apartOK, apart2, AObj.live, Int.reduceEq, Int.reduceLT, Int.reduceLE, Int.reduceAdd, Int.reduceSub, Int.reduceMul, Int.reduceToNat, cutCells, Nat.reduceAdd, Nat.reduceLeDiff, Nat.reduceLT, Nat.reduceMul, Nat.reduceSub, c1, rw2, hset, le1]
        generalize K2.set nb (.row (((l'.set i y1).map St.cells).flatten) 13 true) = K3 at *
        have hb3 : Base H K3 := bt2.base hb' hHn
        simp (disch := omega) only [kB, kcx, kdm, kdn, kel, aop, resultsL, resultOf, Nat.reduceEqDiff, reduceCtorEq, eq1, apartOK, apart2, AObj.live, Int.reduceEq, Int.reduceLT, Int.reduceLE, Int.reduceAdd, Int.reduceSub, Int.reduceMul, Int.reduceToNat, cutCells, Nat.reduceAdd, Nat.reduceLeDiff, Nat.reduceLT, Nat.reduceMul, Nat.reduceSub, c1, rw3, hq12]
        refine ih x.els (by omega) x.vb K3 _ okx.sb hb3 ?_
        intro vb' b' K4 bb sb' lb eb'
        obtain ⟨adb, rfl⟩ := sb'.sl
        have rw4 := bb.rowc rw3
        have ln4 := hget_lt rw4 rfl
        have le2 : i * 13 + 12 + 1 ≤ (((l'.set i y1).map St.cells).flatten).length := by omega
        have hset2 := flat_set (f := St.cells) St.len (l := l'.set i y1) (i := i) (j := 12) (v := .slice adb b'.length b'.length) (y := .mk x.kind x.table x.test (.slice ada a'.length a'.length) (.slice adb b'.length b'.length) a' b') (by rw [List.length_set]; omega) (by decide) (by rw [List.getElem_set_self, hy1]; rfl)
        rw [List.set_set] at hset2
        obtain ⟨y2, hy2⟩ : ∃ y2 : St, y2 = .mk x.kind x.table x.test (.slice ada a'.length a'.length) (.slice adb b'.length b'.length) a' b' := ⟨_, rfl⟩
        rw [← hy2] at hset2
        have bt4 : But nb K3 (K4.set nb (.row (((l'.set i y2).map St.cells).flatten) 13 true)) := But.set ⟨bb.1, fun c h1 _ => bb.2 c h1⟩
        have rw5 : hget (K4.set nb (.row (((l'.set i y2).map St.cells).flatten) 13 true)) nb = .row (((l'.set i y2).map St.cells).flatten) 13 true := hget_set' ln4
        have sa5 : StSl (K4.set nb (.row (((l'.set i y2).map St.cells).flatten) 13 true)) a' (.slice ada a'.length a'.length) := sa3.same la (by simpa using bb.1) fun c h1 h2 => by rw [hget_ne (by omega)]; exact bb.2 c h1
        have sb5 : StSl (K4.set nb (.row (((l'.set i y2).map St.cells).flatten) 13 true)) b' (.slice adb b'.length b'.length) := sb'.same lb (by simp) fun c h1 h2 => by rw [hget_ne (by omega)]
        simp (disch := omega) only [kB, kcx, kdm, kdn, kel, aop, resultsL, resultOf, Nat.reduceEqDiff, reduceCtorEq, eq1, apartOK, apart2, AObj.live, Int.reduceEq, Int.reduceLT, Int.reduceLE, Int.reduceAdd, Int.reduceSub, Int.reduceMul, Int.reduceToNat, cutCells, Nat.reduceAdd, Nat.reduceLeDiff, Nat.reduceLT, Nat.reduceMul, Nat.reduceSub, c1, rw4, hset2, le2, w2]
        generalize K4.set nb (.row (((l'.set i y2).map St.cells).flatten) 13 true) = K5 at *
        have bt5 : But nb K' K5 := bt2.trans bt4
        have ly2 : LoS K1.length y2 := by rw [hy2]; simp only [LoS]; exact ⟨la.low (by omega), lb.low (by omega)⟩
        have oy2 : StOK K5 y2 := by
          rw [hy2]
          simp only [StOK]
          refine ⟨?_, sa5, sb5⟩
          cases x
          simp only [StOK] at okx
          exact okx.1
        have ey2 : y2.eqv x = true := by
          rw [St.eqv_eq, hy2]
          show (decide (x.kind = x.kind ∧ x.table = x.table ∧ x.test = x.test) && (eqvL a' x.thn && eqvL b' x.els)) = true
          rw [ea, eb']
          simp
        refine ⟨l.length - (i + 1), by omega, i + 1, l'.set i y2, by omega, rfl, by simpa using hln, bt.trans bt5, rw5, fun j g1 g2 g3 => ?_, fun j g1 g2 g3 => ?_, by exact ex_env rfl⟩
        · rw [List.length_set] at g1
          by_cases hj : j = i
          · subst hj
            rw [List.getElem_set_self]
            exact ⟨oy2, ly2, by rw [← hx]; exact ey2⟩
          · rw [List.getElem_set_ne (Ne.symm hj)]
            obtain ⟨d1, d2, d3⟩ := done j g1 g2 (by omega)
            exact ⟨d1.same d2 bt5.1 fun c h1 h2 => bt5.2 c h1 (by omega), d2, d3⟩
        · rw [List.length_set] at g1
          rw [List.getElem_set_ne (by omega)]
          exact rest j g1 g2 (by omega)
      · have c1 : ¬ (i : Int) < (l.length : Int) := by omega
        simp (disch := omega) only [kB, kcx, kdm, kdn, kel, aop, resultsL, resultOf, Nat.reduceEqDiff, reduceCtorEq, eq1, apartOK, apart2, AObj.live, Int.reduceEq, Int.reduceLT, Int.reduceLE, Int.reduceAdd, Int.reduceSub, Int.reduceMul, Int.reduceToNat, cutCells, Nat.reduceAdd, Nat.reduceLeDiff, Nat.reduceLT, Nat.reduceMul, Nat.reduceSub, c1]
        have hall : ∀ s ∈ l', StOK K' s ∧ LoS K1.length s := fun s hs => by
          obtain ⟨j, hj, rfl⟩ := List.getElem_of_mem hs
          obtain ⟨d1, d2, d3⟩ := done j hj (by omega) (by omega)
          exact ⟨d1, d2⟩
        have hbase : Base K K' := ⟨Nat.le_trans l1 bt.1, fun c hc => by rw [bt.2 c (by omega) (by omega)]; exact b1.2 c hc⟩
        have heq : eqvL l' l = true := by
          rw [eqvL_all2]
          exact (all2_iff _).2 ⟨hln, fun j h1 h2 => (done j h1 h2 (by omega)).2.2⟩
        refine h _ l' K' hbase ?_ ?_ heq
        · cases l' with
          | nil => simp at hln; exact absurd (List.length_eq_zero_iff.1 hln.symm) hl
          | cons s l' =>
            simp only [StSl]
            have := stOKs_of fun s hs => (hall s hs).1
            simp only [StOKs] at this
            exact ⟨⟨nb, by rw [← hln]; rfl, lnb, _, _, rw'⟩, by rw [List.length_cons] at hln; rw [hln]; exact hfew, this⟩
        · cases l' with
          | nil => simp only [LoL]; exact fun c hc => by cases hc; exact n1
          | cons s l' =>
            simp only [LoL]
            have := loSs_of fun s hs => ((hall s hs).2).low (Nat.le_trans (by omega : K.length ≤ K1.length) (Nat.le_refl _))
            simp only [LoSs] at this
            exact ⟨fun c hc => by cases hc; exact n1, this⟩

end Go.Proofs.YtpllhhaeclnngaaGreat.Ev

/- Is a schema light? Printed by gen_z2.py. -/
namespace Go.Proofs.YtpllhhaeclnngaaGreat.Ev
set_option maxRecDepth 100000
set_option linter.unusedSimpArgs false
set_option linter.unusedVariables false
variable {R : FRes → Heap → Prop} {H K : Heap}

def wl4I (K0 : Heap) (sb bx len : Nat) : Nat → Env → Heap → Prop := fun z e K' =>
  ∃ (i : Nat) (n : Int), i ≤ len ∧ z = len - i ∧ But sb K0 K' ∧ hget K' sb = .row [.int .i64 n] 0 true ∧ Left n ∧ (∃ x : Nat → Value, e = [.pointer (some ⟨sb, 0, none⟩), x 1, x 2, .pointer (some ⟨bx, 0, none⟩), .int .i64 (i : Int), x 5, x 6, x 7, x 8, x 9, x 10, x 11, x 12, x 13, x 14, x 15, x 16, x 17, x 18, x 19, x 20, x 21, x 22, x 23, x 24, x 25, x 26, x 27, x 28, x 29, x 30, x 31, x 32, x 33, x 34, x 35, x 36, x 37, x 38, x 39, x 40, x 41, x 42, x 43, x 44, x 45, x 46, x 47, x 48, x 49, x 50, x 51, x 52, x 53, x 54, x 55, x 56, x 57, x 58, x 59, x 60, x 61, x 62, x 63, x 64, x 65, x 66, x 67, x 68, x 69, x 70, x 71, x 72, x 73, x 74, x 75, x 76, x 77, x 78, x 79, x 80, x 81, x 82, x 83, x 84, x 85, x 86, x 87, x 88, x 89, x 90, x 91, x 92, x 93, x 94, x 95, x 96, x 97, x 98, x 99, x 100, x 101, x 102, x 103, x 104, x 105, x 106, x 107, x 108, x 109, x 110, x 111, x 112, x 113, x 114, x 115, x 116, x 117])
def wl5I (K0 : Heap) (sb bx len : Nat) : Nat → Env → Heap → Prop := fun z e K' =>
  ∃ (i : Nat) (n : Int), i ≤ len ∧ z = len - i ∧ But sb K0 K' ∧ hget K' sb = .row [.int .i64 n] 0 true ∧ Left n ∧ (∃ x : Nat → Value, e = [.pointer (some ⟨sb, 0, none⟩), x 1, x 2, .pointer (some ⟨bx, 0, none⟩), x 4, .int .i64 (i : Int), x 6, x 7, x 8, x 9, x 10, x 11, x 12, x 13, x 14, x 15, x 16, x 17, x 18, x 19, x 20, x 21, x 22, x 23, x 24, x 25, x 26, x 27, x 28, x 29, x 30, x 31, x 32, x 33, x 34, x 35, x 36, x 37, x 38, x 39, x 40, x 41, x 42, x 43, x 44, x 45, x 46, x 47, x 48, x 49, x 50, x 51, x 52, x 53, x 54, x 55, x 56, x 57, x 58, x 59, x 60, x 61, x 62, x 63, x 64, x 65, x 66, x 67, x 68, x 69, x 70, x 71, x 72, x 73, x 74, x 75, x 76, x 77, x 78, x 79, x 80, x 81, x 82, x 83, x 84, x 85, x 86, x 87, x 88, x 89, x 90, x 91, x 92, x 93, x 94, x 95, x 96, x 97, x 98, x 99, x 100, x 101, x 102, x 103, x 104, x 105, x 106, x 107, x 108, x 109, x 110, x 111, x 112, x 113, x 114, x 115, x 116, x 117])
def wl6I (K0 : Heap) (sb bx len : Nat) : Nat → Env → Heap → Prop := fun z e K' =>
  ∃ (i : Nat) (n : Int), i ≤ len ∧ z = len - i ∧ But sb K0 K' ∧ hget K' sb = .row [.int .i64 n] 0 true ∧ Left n ∧ (∃ x : Nat → Value, e = [.pointer (some ⟨sb, 0, none⟩), x 1, x 2, .pointer (some ⟨bx, 0, none⟩), x 4, x 5, .int .i64 (i : Int), x 7, x 8, x 9, x 10, x 11, x 12, x 13, x 14, x 15, x 16, x 17, x 18, x 19, x 20, x 21, x 22, x 23, x 24, x 25, x 26, x 27, x 28, x 29, x 30, x 31, x 32, x 33, x 34, x 35, x 36, x 37, x 38, x 39, x 40, x 41, x 42, x 43, x 44, x 45, x 46, x 47, x 48, x 49, x 50, x 51, x 52, x 53, x 54, x 55, x 56, x 57, x 58, x 59, x 60, x 61, x 62, x 63, x 64, x 65, x 66, x 67, x 68, x 69, x 70, x 71, x 72, x 73, x 74, x 75, x 76, x 77, x 78, x 79, x 80, x 81, x 82, x 83, x 84, x 85, x 86, x 87, x 88, x 89, x 90, x 91, x 92, x 93, x 94, x 95, x 96, x 97, x 98, x 99, x 100, x 101, x 102, x 103, x 104, x 105, x 106, x 107, x 108, x 109, x 110, x 111, x 112, x 113, x 114, x 115, x 116, x 117])
def wl7I (K0 : Heap) (sb bx len : Nat) : Nat → Env → Heap → Prop := fun z e K' =>
  ∃ (i : Nat) (n : Int), i ≤ len ∧ z = len - i ∧ But sb K0 K' ∧ hget K' sb = .row [.int .i64 n] 0 true ∧ Left n ∧ (∃ x : Nat → Value, e = [.pointer (some ⟨sb, 0, none⟩), x 1, x 2, .pointer (some ⟨bx, 0, none⟩), x 4, x 5, x 6, .int .i64 (i : Int), x 8, x 9, x 10, x 11, x 12, x 13, x 14, x 15, x 16, x 17, x 18, x 19, x 20, x 21, x 22, x 23, x 24, x 25, x 26, x 27, x 28, x 29, x 30, x 31, x 32, x 33, x 34, x 35, x 36, x 37, x 38, x 39, x 40, x 41, x 42, x 43, x 44, x 45, x 46, x 47, x 48, x 49, x 50, x 51, x 52, x 53, x 54, x 55, x 56, x 57, x 58, x 59, x 60, x 61, x 62, x 63, x 64, x 65, x 66, x 67, x 68, x 69, x 70, x 71, x 72, x 73, x 74, x 75, x 76, x 77, x 78, x 79, x 80, x 81, x 82, x 83, x 84, x 85, x 86, x 87, x 88, x 89, x 90, x 91, x 92, x 93, x 94, x 95, x 96, x 97, x 98, x 99, x 100, x 101, x 102, x 103, x 104, x 105, x 106, x 107, x 108, x 109, x 110, x 111, x 112, x 113, x 114, x 115, x 116, x 117])


theorem wst_w {s : Sch} (hs : s.OK H) {sb bx : Nat} (hsb : H.length ≤ sb) {n : Int} {e : Env} {Q : Post} (hb : Base H K) (hg : hget K sb = .row [.int .i64 n] 0 true) (hn : Left n) (hx : hget K bx = .row [s.hv, s.mv, s.sv, s.av, s.tv, s.cv] 0 true)
    (he : (∃ x : Nat → Value, e = [.pointer (some ⟨sb, 0, none⟩), x 1, x 2, .pointer (some ⟨bx, 0, none⟩), x 4, x 5, x 6, x 7, x 8, x 9, x 10, x 11, x 12, x 13, x 14, x 15, x 16, x 17, x 18, x 19, x 20, x 21, x 22, x 23, x 24, x 25, x 26, x 27, x 28, x 29, x 30, x 31, x 32, x 33, x 34, x 35, x 36, x 37, x 38, x 39, x 40, x 41, x 42, x 43, x 44, x 45, x 46, x 47, x 48, x 49, x 50, x 51, x 52, x 53, x 54, x 55, x 56, x 57, x 58, x 59, x 60, x 61, x 62, x 63, x 64, x 65, x 66, x 67, x 68, x 69, x 70, x 71, x 72, x 73, x 74, x 75, x 76, x 77, x 78, x 79, x 80, x 81, x 82, x 83, x 84, x 85, x 86, x 87, x 88, x 89, x 90, x 91, x 92, x 93, x 94, x 95, x 96, x 97, x 98, x 99, x 100, x 101, x 102, x 103, x 104, x 105, x 106, x 107, x 108, x 109, x 110, x 111, x 112, x 113, x 114, x 115, x 116, x 117]))
    (h : ∀ K' n' e, But sb K K' → hget K' sb = .row [.int .i64 n'] 0 true → Left n' → e.length = 118 → Q .norm e K') : WC T (g69.body.at [1, 1, 1, 1, 1, 1]) e K Q := by
  obtain ⟨x, rfl⟩ := he
  simp only [AFunc.body, g69, ACode.at]
  simp (disch := omega) only [kB, kcx, kdm, kdn, kel, aop, resultsL, resultOf, Nat.reduceEqDiff, reduceCtorEq, eq1, apartOK, apart2, AObj.live, Int.reduceEq, Int.reduceLT, Int.reduceLE, Int.reduceAdd, Int.reduceSub, Int.reduceMul, Int.reduceToNat, cutCells, Nat.reduceAdd, Nat.reduceLeDiff, Nat.reduceLT, Nat.reduceMul, Nat.reduceSub, hx]
  refine wstages_s hsb _ s.control (Nat.le_refl _) _ K n _ hs.cs hb hg hn ?_
  intro K' n' b1 b2 b3
  simp (disch := omega) only [kB, kcx, kdm, kdn, kel, aop, resultsL, resultOf, Nat.reduceEqDiff, reduceCtorEq, eq1, apartOK, apart2, AObj.live, Int.reduceEq, Int.reduceLT, Int.reduceLE, Int.reduceAdd, Int.reduceSub, Int.reduceMul, Int.reduceToNat, cutCells, Nat.reduceAdd, Nat.reduceLeDiff, Nat.reduceLT, Nat.reduceMul, Nat.reduceSub]
  exact h K' n' _ b1 b2 b3 rfl

set_option maxHeartbeats 2000000 in
theorem wl7_w {s : Sch} (hs : s.OK H) {sb bx : Nat} (hsb : H.length ≤ sb) (hbx : H.length ≤ bx) (nsb : bx ≠ sb) {n : Int} {e : Env} {Q : Post} (hb : Base H K) (hg : hget K sb = .row [.int .i64 n] 0 true) (hn : Left n) (hx : hget K bx = .row [s.hv, s.mv, s.sv, s.av, s.tv, s.cv] 0 true)
    (he : (∃ x : Nat → Value, e = [.pointer (some ⟨sb, 0, none⟩), x 1, x 2, .pointer (some ⟨bx, 0, none⟩), x 4, x 5, x 6, x 7, x 8, x 9, x 10, x 11, x 12, x 13, x 14, x 15, x 16, x 17, x 18, x 19, x 20, x 21, x 22, x 23, x 24, x 25, x 26, x 27, x 28, x 29, x 30, x 31, x 32, x 33, x 34, x 35, x 36, x 37, x 38, x 39, x 40, x 41, x 42, x 43, x 44, x 45, x 46, x 47, x 48, x 49, x 50, x 51, x 52, x 53, x 54, x 55, x 56, x 57, x 58, x 59, x 60, x 61, x 62, x 63, x 64, x 65, x 66, x 67, x 68, x 69, x 70, x 71, x 72, x 73, x 74, x 75, x 76, x 77, x 78, x 79, x 80, x 81, x 82, x 83, x 84, x 85, x 86, x 87, x 88, x 89, x 90, x 91, x 92, x 93, x 94, x 95, x 96, x 97, x 98, x 99, x 100, x 101, x 102, x 103, x 104, x 105, x 106, x 107, x 108, x 109, x 110, x 111, x 112, x 113, x 114, x 115, x 116, x 117]))
    (h : ∀ K' n' e, But sb K K' → hget K' sb = .row [.int .i64 n'] 0 true → Left n' → e.length = 118 → Q .norm e K') : WC T (g69.body.at [1, 1, 1, 1, 1]) e K Q := by
  obtain ⟨x, rfl⟩ := he
  obtain ⟨Z, hZ⟩ : ∃ Z, Z = WC T (g69.body.at [1, 1, 1, 1, 1, 1]) := ⟨_, rfl⟩
  have hZ' := hZ.symm
  simp only [AFunc.body, g69, ACode.at] at hZ' ⊢
  have cont : ∀ (K' : Heap) (n' : Int) (e : Env), But sb K K' → hget K' sb = .row [.int .i64 n'] 0 true → Left n' → hget K' bx = .row [s.hv, s.mv, s.sv, s.av, s.tv, s.cv] 0 true → (∃ x : Nat → Value, e = [.pointer (some ⟨sb, 0, none⟩), x 1, x 2, .pointer (some ⟨bx, 0, none⟩), x 4, x 5, x 6, x 7, x 8, x 9, x 10, x 11, x 12, x 13, x 14, x 15, x 16, x 17, x 18, x 19, x 20, x 21, x 22, x 23, x 24, x 25, x 26, x 27, x 28, x 29, x 30, x 31, x 32, x 33, x 34, x 35, x 36, x 37, x 38, x 39, x 40, x 41, x 42, x 43, x 44, x 45, x 46, x 47, x 48, x 49, x 50, x 51, x 52, x 53, x 54, x 55, x 56, x 57, x 58, x 59, x 60, x 61, x 62, x 63, x 64, x 65, x 66, x 67, x 68, x 69, x 70, x 71, x 72, x 73, x 74, x 75, x 76, x 77, x 78, x 79, x 80, x 81, x 82, x 83, x 84, x 85, x 86, x 87, x 88, x 89, x 90, x 91, x 92, x 93, x 94, x 95, x 96, x 97, x 98, x 99, x 100, x 101, x 102, x 103, x 104, x 105, x 106, x 107, x 108, x 109, x 110, x 111, x 112, x 113, x 114, x 115, x 116, x 117]) → Z e K' Q := fun K' n' e q1 q2 q3 q4 q5 => by
    rw [hZ]
    exact wst_w hs hsb (q1.base hb hsb) q2 q3 q4 q5 fun K2 n2 e2 b2 => h K2 n2 e2 (q1.trans b2)
  simp (disch := omega) only [kB, kcx, kdm, kdn, kel, aop, resultsL, resultOf, Nat.reduceEqDiff, reduceCtorEq, eq1, apartOK, apart2, AObj.live, Int.reduceEq, Int.reduceLT, Int.reduceLE, Int.reduceAdd, Int.reduceSub, Int.reduceMul, Int.reduceToNat, cutCells, Nat.reduceAdd, Nat.reduceLeDiff, Nat.reduceLT, Nat.reduceMul, Nat.reduceSub]
  obtain ⟨lr, ln, lo⟩ := hs.ts
  unfold few at ln
  obtain ⟨ad, ev⟩ := lr.sl
  rw [ev] at lr
  rw [List.length_map] at ev lr
  refine WLoop.inv (wl7I K sb bx s.tables.length) ?_ s.tables.length _ _ ⟨0, n, Nat.zero_le _, by omega, But.refl, hg, hn, by exact ex_env rfl⟩
  rintro z e K' ⟨i, m, hi, rfl, bt', hg', hm, ⟨x, rfl⟩⟩
  have hb' := bt'.base hb hsb
  have hx' := bt'.row hx nsb
  have hx2 := hx'
  rw [ev] at hx2
  have lbx := hget_lt hx' rfl
  have lsb' := hget_lt hg' rfl
  by_cases hlt : i < s.tables.length
  · have c1 : (i : Int) < (s.tables.length : Int) := by omega
    obtain ⟨b, u0, w0, rfl, p1, p2, p3, p4, p5⟩ := lr.at Tbl.len hlt
    have prow : hget K' b = .row (s.tables.map Tbl.cells).flatten u0 w0 := by rw [hb'.2 b p1]; exact p2
    have lb : b < K'.length := Nat.lt_of_lt_of_le p1 hb'.1
    have w2 : IntKind.i64.wrap ((i : Int) + 1) = ((i + 1 : Nat) : Int) := by rw [show (i : Int) + 1 = ((i + 1 : Nat) : Int) by omega]; exact wr_i64 (by omega) (by omega)
    have hok := lo _ (List.getElem_mem hlt)
    generalize s.tables[i] = x at *
    · obtain ⟨⟨fr, fn, _⟩, ⟨gr, gn⟩, _, hr, hn', _⟩ := hok
      unfold few at fn gn hn'
      obtain ⟨adf, ef⟩ := fr.sl
      obtain ⟨adg, eg⟩ := gr.sl
      obtain ⟨adh, eh⟩ := hr.sl
      rw [List.length_map] at ef eg eh
      have e1 := p5 1 (by decide)
      have e2 := p5 2 (by decide)
      have e3 := p5 5 (by decide)
      simp only [Tbl.cells, List.getElem?_cons_succ, List.getElem?_cons_zero, ef, eg, eh] at e1 e2 e3
      have v1 : IntKind.i64.wrap (1 + (x.keys.length : Int)) = 1 + (x.keys.length : Int) := wr_i64 (by omega) (by omega)
      have v2 : IntKind.i64.wrap (1 + (x.keys.length : Int) + (x.actions.length : Int)) = 1 + (x.keys.length : Int) + (x.actions.length : Int) := wr_i64 (by omega) (by omega)
      have v3 : IntKind.i64.wrap (1 + (x.keys.length : Int) + (x.actions.length : Int) + (x.dargs.length : Int)) = 1 + (x.keys.length : Int) + (x.actions.length : Int) + (x.dargs.length : Int) := wr_i64 (by omega) (by omega)
      simp (disch := omega) only [kB, kcx, kdm, kdn, kel, aop, resultsL, resultOf, Nat.reduceEqDiff, reduceCtorEq, eq1, apartOK, apart2, AObj.live, Int.reduceEq, Int.reduceLT, Int.reduceLE, Int.reduceAdd, Int.reduceSub, Int.reduceMul, Int.reduceToNat, cutCells, Nat.reduceAdd, Nat.reduceLeDiff, Nat.reduceLT, Nat.reduceMul, Nat.reduceSub, c1, hx2, prow, e1, e2, e3, v1, v2, v3]
      refine take_s hg' hm (by omega) (by omega) ?_
      have hm2 := takeV_left hm (k := 1 + (x.keys.length : Int) + (x.actions.length : Int) + (x.dargs.length : Int)) (by omega) (by omega)
      have bt2 := bt'.set (o := .row [.int .i64 (takeV m (1 + (x.keys.length : Int) + (x.actions.length : Int) + (x.dargs.length : Int)))] 0 true)
      have hg2 : hget (K'.set sb (.row [.int .i64 (takeV m (1 + (x.keys.length : Int) + (x.actions.length : Int) + (x.dargs.length : Int)))] 0 true)) sb = .row [.int .i64 (takeV m (1 + (x.keys.length : Int) + (x.actions.length : Int) + (x.dargs.length : Int)))] 0 true := hget_set' lsb'
      generalize takeV m (1 + (x.keys.length : Int) + (x.actions.length : Int) + (x.dargs.length : Int)) = m2 at *
      generalize K'.set sb (.row [.int .i64 m2] 0 true) = K2 at *
      by_cases g : 0 ≤ m2
      · rw [decide_eq_true g]
        simp (disch := omega) only [kB, kcx, kdm, kdn, kel, aop, resultsL, resultOf, Nat.reduceEqDiff, reduceCtorEq, eq1, apartOK, apart2, AObj.live, Int.reduceEq, Int.reduceLT, Int.reduceLE, Int.reduceAdd, Int.reduceSub, Int.reduceMul, Int.reduceToNat, cutCells, Nat.reduceAdd, Nat.reduceLeDiff, Nat.reduceLT, Nat.reduceMul, Nat.reduceSub, w2]
        exact ⟨s.tables.length - (i + 1), by omega, i + 1, m2, by omega, rfl, bt2, hg2, hm2, by exact ex_env rfl⟩
      · rw [decide_eq_false g]
        simp (disch := omega) only [kB, kcx, kdm, kdn, kel, aop, resultsL, resultOf, Nat.reduceEqDiff, reduceCtorEq, eq1, apartOK, apart2, AObj.live, Int.reduceEq, Int.reduceLT, Int.reduceLE, Int.reduceAdd, Int.reduceSub, Int.reduceMul, Int.reduceToNat, cutCells, Nat.reduceAdd, Nat.reduceLeDiff, Nat.reduceLT, Nat.reduceMul, Nat.reduceSub, hZ']
        exact cont K2 m2 _ bt2 hg2 hm2 (bt2.row hx nsb) (by exact ex_env rfl)
  · have c1 : ¬ (i : Int) < (s.tables.length : Int) := by omega
    simp (disch := omega) only [kB, kcx, kdm, kdn, kel, aop, resultsL, resultOf, Nat.reduceEqDiff, reduceCtorEq, eq1, apartOK, apart2, AObj.live, Int.reduceEq, Int.reduceLT, Int.reduceLE, Int.reduceAdd, Int.reduceSub, Int.reduceMul, Int.reduceToNat, cutCells, Nat.reduceAdd, Nat.reduceLeDiff, Nat.reduceLT, Nat.reduceMul, Nat.reduceSub, c1, hx2, hZ']
    exact cont K' m _ bt' hg' hm hx' (by exact ex_env rfl)

set_option maxHeartbeats 2000000 in
theorem wl6_w {s : Sch} (hs : s.OK H) {sb bx : Nat} (hsb : H.length ≤ sb) (hbx : H.length ≤ bx) (nsb : bx ≠ sb) {n : Int} {e : Env} {Q : Post} (hb : Base H K) (hg : hget K sb = .row [.int .i64 n] 0 true) (hn : Left n) (hx : hget K bx = .row [s.hv, s.mv, s.sv, s.av, s.tv, s.cv] 0 true)
    (he : (∃ x : Nat → Value, e = [.pointer (some ⟨sb, 0, none⟩), x 1, x 2, .pointer (some ⟨bx, 0, none⟩), x 4, x 5, x 6, x 7, x 8, x 9, x 10, x 11, x 12, x 13, x 14, x 15, x 16, x 17, x 18, x 19, x 20, x 21, x 22, x 23, x 24, x 25, x 26, x 27, x 28, x 29, x 30, x 31, x 32, x 33, x 34, x 35, x 36, x 37, x 38, x 39, x 40, x 41, x 42, x 43, x 44, x 45, x 46, x 47, x 48, x 49, x 50, x 51, x 52, x 53, x 54, x 55, x 56, x 57, x 58, x 59, x 60, x 61, x 62, x 63, x 64, x 65, x 66, x 67, x 68, x 69, x 70, x 71, x 72, x 73, x 74, x 75, x 76, x 77, x 78, x 79, x 80, x 81, x 82, x 83, x 84, x 85, x 86, x 87, x 88, x 89, x 90, x 91, x 92, x 93, x 94, x 95, x 96, x 97, x 98, x 99, x 100, x 101, x 102, x 103, x 104, x 105, x 106, x 107, x 108, x 109, x 110, x 111, x 112, x 113, x 114, x 115, x 116, x 117]))
    (h : ∀ K' n' e, But sb K K' → hget K' sb = .row [.int .i64 n'] 0 true → Left n' → e.length = 118 → Q .norm e K') : WC T (g69.body.at [1, 1, 1, 1]) e K Q := by
  obtain ⟨x, rfl⟩ := he
  obtain ⟨Z, hZ⟩ : ∃ Z, Z = WC T (g69.body.at [1, 1, 1, 1, 1]) := ⟨_, rfl⟩
  have hZ' := hZ.symm
  simp only [AFunc.body, g69, ACode.at] at hZ' ⊢
  have cont : ∀ (K' : Heap) (n' : Int) (e : Env), But sb K K' → hget K' sb = .row [.int .i64 n'] 0 true → Left n' → hget K' bx = .row [s.hv, s.mv, s.sv, s.av, s.tv, s.cv] 0 true → (∃ x : Nat → Value, e = [.pointer (some ⟨sb, 0, none⟩), x 1, x 2, .pointer (some ⟨bx, 0, none⟩), x 4, x 5, x 6, x 7, x 8, x 9, x 10, x 11, x 12, x 13, x 14, x 15, x 16, x 17, x 18, x 19, x 20, x 21, x 22, x 23, x 24, x 25, x 26, x 27, x 28, x 29, x 30, x 31, x 32, x 33, x 34, x 35, x 36, x 37, x 38, x 39, x 40, x 41, x 42, x 43, x 44, x 45, x 46, x 47, x 48, x 49, x 50, x 51, x 52, x 53, x 54, x 55, x 56, x 57, x 58, x 59, x 60, x 61, x 62, x 63, x 64, x 65, x 66, x 67, x 68, x 69, x 70, x 71, x 72, x 73, x 74, x 75, x 76, x 77, x 78, x 79, x 80, x 81, x 82, x 83, x 84, x 85, x 86, x 87, x 88, x 89, x 90, x 91, x 92, x 93, x 94, x 95, x 96, x 97, x 98, x 99, x 100, x 101, x 102, x 103, x 104, x 105, x 106, x 107, x 108, x 109, x 110, x 111, x 112, x 113, x 114, x 115, x 116, x 117]) → Z e K' Q := fun K' n' e q1 q2 q3 q4 q5 => by
    rw [hZ]
    exact wl7_w hs hsb hbx nsb (q1.base hb hsb) q2 q3 q4 q5 fun K2 n2 e2 b2 => h K2 n2 e2 (q1.trans b2)
  simp (disch := omega) only [kB, kcx, kdm, kdn, kel, aop, resultsL, resultOf, Nat.reduceEqDiff, reduceCtorEq, eq1, apartOK, apart2, AObj.live, Int.reduceEq, Int.reduceLT, Int.reduceLE, Int.reduceAdd, Int.reduceSub, Int.reduceMul, Int.reduceToNat, cutCells, Nat.reduceAdd, Nat.reduceLeDiff, Nat.reduceLT, Nat.reduceMul, Nat.reduceSub]
  obtain ⟨lr, ln, lo⟩ := hs.acs
  unfold few at ln
  obtain ⟨ad, ev⟩ := lr.sl
  rw [ev] at lr
  rw [List.length_map] at ev lr
  refine WLoop.inv (wl6I K sb bx s.actions.length) ?_ s.actions.length _ _ ⟨0, n, Nat.zero_le _, by omega, But.refl, hg, hn, by exact ex_env rfl⟩
  rintro z e K' ⟨i, m, hi, rfl, bt', hg', hm, ⟨x, rfl⟩⟩
  have hb' := bt'.base hb hsb
  have hx' := bt'.row hx nsb
  have hx2 := hx'
  rw [ev] at hx2
  have lbx := hget_lt hx' rfl
  have lsb' := hget_lt hg' rfl
  by_cases hlt : i < s.actions.length
  · have c1 : (i : Int) < (s.actions.length : Int) := by omega
    obtain ⟨b, u0, w0, rfl, p1, p2, p3, p4, p5⟩ := lr.at Act.len hlt
    have prow : hget K' b = .row (s.actions.map Act.cells).flatten u0 w0 := by rw [hb'.2 b p1]; exact p2
    have lb : b < K'.length := Nat.lt_of_lt_of_le p1 hb'.1
    have w2 : IntKind.i64.wrap ((i : Int) + 1) = ((i + 1 : Nat) : Int) := by rw [show (i : Int) + 1 = ((i + 1 : Nat) : Int) by omega]; exact wr_i64 (by omega) (by omega)
    have hok := lo _ (List.getElem_mem hlt)
    generalize s.actions[i] = x at *
    · obtain ⟨⟨fr, fn, _⟩, gr, gn, _⟩ := hok
      unfold few at fn gn
      obtain ⟨adf, ef⟩ := fr.sl
      obtain ⟨adg, eg⟩ := gr.sl
      rw [List.length_map] at ef eg
      have e1 := p5 1 (by decide)
      have e2 := p5 2 (by decide)
      simp only [Act.cells, List.getElem?_cons_succ, List.getElem?_cons_zero, ef, eg] at e1 e2
      have v1 : IntKind.i64.wrap (1 + (x.params.length : Int)) = 1 + (x.params.length : Int) := wr_i64 (by omega) (by omega)
      have v2 : IntKind.i64.wrap (1 + (x.params.length : Int) + (x.steps.length : Int)) = 1 + (x.params.length : Int) + (x.steps.length : Int) := wr_i64 (by omega) (by omega)
      simp (disch := omega) only [kB, kcx, kdm, kdn, kel, aop, resultsL, resultOf, Nat.reduceEqDiff, reduceCtorEq, eq1, apartOK, apart2, AObj.live, Int.reduceEq, Int.reduceLT, Int.reduceLE, Int.reduceAdd, Int.reduceSub, Int.reduceMul, Int.reduceToNat, cutCells, Nat.reduceAdd, Nat.reduceLeDiff, Nat.reduceLT, Nat.reduceMul, Nat.reduceSub, c1, hx2, prow, e1, e2, v1, v2]
      refine take_s hg' hm (by omega) (by omega) ?_
      have hm2 := takeV_left hm (k := 1 + (x.params.length : Int) + (x.steps.length : Int)) (by omega) (by omega)
      have bt2 := bt'.set (o := .row [.int .i64 (takeV m (1 + (x.params.length : Int) + (x.steps.length : Int)))] 0 true)
      have hg2 : hget (K'.set sb (.row [.int .i64 (takeV m (1 + (x.params.length : Int) + (x.steps.length : Int)))] 0 true)) sb = .row [.int .i64 (takeV m (1 + (x.params.length : Int) + (x.steps.length : Int)))] 0 true := hget_set' lsb'
      generalize takeV m (1 + (x.params.length : Int) + (x.steps.length : Int)) = m2 at *
      generalize K'.set sb (.row [.int .i64 m2] 0 true) = K2 at *
      by_cases g : 0 ≤ m2
      · rw [decide_eq_true g]
        simp (disch := omega) only [kB, kcx, kdm, kdn, kel, aop, resultsL, resultOf, Nat.reduceEqDiff, reduceCtorEq, eq1, apartOK, apart2, AObj.live, Int.reduceEq, Int.reduceLT, Int.reduceLE, Int.reduceAdd, Int.reduceSub, Int.reduceMul, Int.reduceToNat, cutCells, Nat.reduceAdd, Nat.reduceLeDiff, Nat.reduceLT, Nat.reduceMul, Nat.reduceSub, w2]
        exact ⟨s.actions.length - (i + 1), by omega, i + 1, m2, by omega, rfl, bt2, hg2, hm2, by exact ex_env rfl⟩
      · rw [decide_eq_false g]
        simp (disch := omega) only [kB, kcx, kdm, kdn, kel, aop, resultsL, resultOf, Nat.reduceEqDiff, reduceCtorEq, eq1, apartOK, apart2, AObj.live, Int.reduceEq, Int.reduceLT, Int.reduceLE, Int.reduceAdd, Int.reduceSub, Int.reduceMul, Int.reduceToNat, cutCells, Nat.reduceAdd, Nat.reduceLeDiff, Nat.reduceLT, Nat.reduceMul, Nat.reduceSub, hZ']
        exact cont K2 m2 _ bt2 hg2 hm2 (bt2.row hx nsb) (by exact ex_env rfl)
  · have c1 : ¬ (i : Int) < (s.actions.length : Int) := by omega
    simp (disch := omega) only [kB, kcx, kdm, kdn, kel, aop, resultsL, resultOf, Nat.reduceEqDiff, reduceCtorEq, eq1, apartOK, apart2, AObj.live, Int.reduceEq, Int.reduceLT, Int.reduceLE, Int.reduceAdd, Int.reduceSub, Int.reduceMul, Int.reduceToNat, cutCells, Nat.reduceAdd, Nat.reduceLeDiff, Nat.reduceLT, Nat.reduceMul, Nat.reduceSub, c1, hx2, hZ']
    exact cont K' m _ bt' hg' hm hx' (by exact ex_env rfl)

set_option maxHeartbeats 2000000 in
theorem wl5_w {s : Sch} (hs : s.OK H) {sb bx : Nat} (hsb : H.length ≤ sb) (hbx : H.length ≤ bx) (nsb : bx ≠ sb) {n : Int} {e : Env} {Q : Post} (hb : Base H K) (hg : hget K sb = .row [.int .i64 n] 0 true) (hn : Left n) (hx : hget K bx = .row [s.hv, s.mv, s.sv, s.av, s.tv, s.cv] 0 true)
    (he : (∃ x : Nat → Value, e = [.pointer (some ⟨sb, 0, none⟩), x 1, x 2, .pointer (some ⟨bx, 0, none⟩), x 4, x 5, x 6, x 7, x 8, x 9, x 10, x 11, x 12, x 13, x 14, x 15, x 16, x 17, x 18, x 19, x 20, x 21, x 22, x 23, x 24, x 25, x 26, x 27, x 28, x 29, x 30, x 31, x 32, x 33, x 34, x 35, x 36, x 37, x 38, x 39, x 40, x 41, x 42, x 43, x 44, x 45, x 46, x 47, x 48, x 49, x 50, x 51, x 52, x 53, x 54, x 55, x 56, x 57, x 58, x 59, x 60, x 61, x 62, x 63, x 64, x 65, x 66, x 67, x 68, x 69, x 70, x 71, x 72, x 73, x 74, x 75, x 76, x 77, x 78, x 79, x 80, x 81, x 82, x 83, x 84, x 85, x 86, x 87, x 88, x 89, x 90, x 91, x 92, x 93, x 94, x 95, x 96, x 97, x 98, x 99, x 100, x 101, x 102, x 103, x 104, x 105, x 106, x 107, x 108, x 109, x 110, x 111, x 112, x 113, x 114, x 115, x 116, x 117]))
    (h : ∀ K' n' e, But sb K K' → hget K' sb = .row [.int .i64 n'] 0 true → Left n' → e.length = 118 → Q .norm e K') : WC T (g69.body.at [1, 1, 1]) e K Q := by
  obtain ⟨x, rfl⟩ := he
  obtain ⟨Z, hZ⟩ : ∃ Z, Z = WC T (g69.body.at [1, 1, 1, 1]) := ⟨_, rfl⟩
  have hZ' := hZ.symm
  simp only [AFunc.body, g69, ACode.at] at hZ' ⊢
  have cont : ∀ (K' : Heap) (n' : Int) (e : Env), But sb K K' → hget K' sb = .row [.int .i64 n'] 0 true → Left n' → hget K' bx = .row [s.hv, s.mv, s.sv, s.av, s.tv, s.cv] 0 true → (∃ x : Nat → Value, e = [.pointer (some ⟨sb, 0, none⟩), x 1, x 2, .pointer (some ⟨bx, 0, none⟩), x 4, x 5, x 6, x 7, x 8, x 9, x 10, x 11, x 12, x 13, x 14, x 15, x 16, x 17, x 18, x 19, x 20, x 21, x 22, x 23, x 24, x 25, x 26, x 27, x 28, x 29, x 30, x 31, x 32, x 33, x 34, x 35, x 36, x 37, x 38, x 39, x 40, x 41, x 42, x 43, x 44, x 45, x 46, x 47, x 48, x 49, x 50, x 51, x 52, x 53, x 54, x 55, x 56, x 57, x 58, x 59, x 60, x 61, x 62, x 63, x 64, x 65, x 66, x 67, x 68, x 69, x 70, x 71, x 72, x 73, x 74, x 75, x 76, x 77, x 78, x 79, x 80, x 81, x 82, x 83, x 84, x 85, x 86, x 87, x 88, x 89, x 90, x 91, x 92, x 93, x 94, x 95, x 96, x 97, x 98, x 99, x 100, x 101, x 102, x 103, x 104, x 105, x 106, x 107, x 108, x 109, x 110, x 111, x 112, x 113, x 114, x 115, x 116, x 117]) → Z e K' Q := fun K' n' e q1 q2 q3 q4 q5 => by
    rw [hZ]
    exact wl6_w hs hsb hbx nsb (q1.base hb hsb) q2 q3 q4 q5 fun K2 n2 e2 b2 => h K2 n2 e2 (q1.trans b2)
  simp (disch := omega) only [kB, kcx, kdm, kdn, kel, aop, resultsL, resultOf, Nat.reduceEqDiff, reduceCtorEq, eq1, apartOK, apart2, AObj.live, Int.reduceEq, Int.reduceLT, Int.reduceLE, Int.reduceAdd, Int.reduceSub, Int.reduceMul, Int.reduceToNat, cutCells, Nat.reduceAdd, Nat.reduceLeDiff, Nat.reduceLT, Nat.reduceMul, Nat.reduceSub]
  obtain ⟨lr, ln, lo⟩ := hs.ss
  unfold few at ln
  obtain ⟨ad, ev⟩ := lr.sl
  rw [ev] at lr
  rw [List.length_map] at ev lr
  refine WLoop.inv (wl5I K sb bx s.states.length) ?_ s.states.length _ _ ⟨0, n, Nat.zero_le _, by omega, But.refl, hg, hn, by exact ex_env rfl⟩
  rintro z e K' ⟨i, m, hi, rfl, bt', hg', hm, ⟨x, rfl⟩⟩
  have hb' := bt'.base hb hsb
  have hx' := bt'.row hx nsb
  have hx2 := hx'
  rw [ev] at hx2
  have lbx := hget_lt hx' rfl
  have lsb' := hget_lt hg' rfl
  by_cases hlt : i < s.states.length
  · have c1 : (i : Int) < (s.states.length : Int) := by omega
    obtain ⟨b, u0, w0, rfl, p1, p2, p3, p4, p5⟩ := lr.at Sta.len hlt
    have prow : hget K' b = .row (s.states.map Sta.cells).flatten u0 w0 := by rw [hb'.2 b p1]; exact p2
    have lb : b < K'.length := Nat.lt_of_lt_of_le p1 hb'.1
    have w2 : IntKind.i64.wrap ((i : Int) + 1) = ((i + 1 : Nat) : Int) := by rw [show (i : Int) + 1 = ((i + 1 : Nat) : Int) by omega]; exact wr_i64 (by omega) (by omega)
    have hok := lo _ (List.getElem_mem hlt)
    generalize s.states[i] = x at *
    · obtain ⟨fr, fn, _⟩ := hok
      unfold few at fn
      obtain ⟨adf, ef⟩ := fr.sl
      rw [List.length_map] at ef
      have e1 := p5 4 (by decide)
      simp only [Sta.cells, List.getElem?_cons_succ, List.getElem?_cons_zero, ef] at e1
      have v1 : IntKind.i64.wrap (1 + (x.cases.length : Int)) = 1 + (x.cases.length : Int) := wr_i64 (by omega) (by omega)
      simp (disch := omega) only [kB, kcx, kdm, kdn, kel, aop, resultsL, resultOf, Nat.reduceEqDiff, reduceCtorEq, eq1, apartOK, apart2, AObj.live, Int.reduceEq, Int.reduceLT, Int.reduceLE, Int.reduceAdd, Int.reduceSub, Int.reduceMul, Int.reduceToNat, cutCells, Nat.reduceAdd, Nat.reduceLeDiff, Nat.reduceLT, Nat.reduceMul, Nat.reduceSub, c1, hx2, prow, e1, v1]
      refine take_s hg' hm (by omega) (by omega) ?_
      have hm2 := takeV_left hm (k := 1 + (x.cases.length : Int)) (by omega) (by omega)
      have bt2 := bt'.set (o := .row [.int .i64 (takeV m (1 + (x.cases.length : Int)))] 0 true)
      have hg2 : hget (K'.set sb (.row [.int .i64 (takeV m (1 + (x.cases.length : Int)))] 0 true)) sb = .row [.int .i64 (takeV m (1 + (x.cases.length : Int)))] 0 true := hget_set' lsb'
      generalize takeV m (1 + (x.cases.length : Int)) = m2 at *
      generalize K'.set sb (.row [.int .i64 m2] 0 true) = K2 at *
      by_cases g : 0 ≤ m2
      · rw [decide_eq_true g]
        simp (disch := omega) only [kB, kcx, kdm, kdn, kel, aop, resultsL, resultOf, Nat.reduceEqDiff, reduceCtorEq, eq1, apartOK, apart2, AObj.live, Int.reduceEq, Int.reduceLT, Int.reduceLE, Int.reduceAdd, Int.reduceSub, Int.reduceMul, Int.reduceToNat, cutCells, Nat.reduceAdd, Nat.reduceLeDiff, Nat.reduceLT, Nat.reduceMul, Nat.reduceSub, w2]
        exact ⟨s.states.length - (i + 1), by omega, i + 1, m2, by omega, rfl, bt2, hg2, hm2, by exact ex_env rfl⟩
      · rw [decide_eq_false g]
        simp (disch := omega) only [kB, kcx, kdm, kdn, kel, aop, resultsL, resultOf, Nat.reduceEqDiff, reduceCtorEq, eq1, apartOK, apart2, AObj.live, Int.reduceEq, Int.reduceLT, Int.reduceLE, Int.reduceAdd, Int.reduceSub, Int.reduceMul, Int.reduceToNat, cutCells, Nat.reduceAdd, Nat.reduceLeDiff, Nat.reduceLT, Nat.reduceMul, Nat.reduceSub, hZ']
        exact cont K2 m2 _ bt2 hg2 hm2 (bt2.row hx nsb) (by exact ex_env rfl)
  · have c1 : ¬ (i : Int) < (s.states.length : Int) := by omega
    simp (disch := omega) only [kB, kcx, kdm, kdn, kel, aop, resultsL, resultOf, Nat.reduceEqDiff, reduceCtorEq, eq1, apartOK, apart2, AObj.live, Int.reduceEq, Int.reduceLT, Int.reduceLE, Int.reduceAdd, Int.reduceSub, Int.reduceMul, Int.reduceToNat, cutCells, Nat.reduceAdd, Nat.reduceLeDiff, Nat.reduceLT, Nat.reduceMul, Nat.reduceSub, c1, hx2, hZ']
    exact cont K' m _ bt' hg' hm hx' (by exact ex_env rfl)

set_option maxHeartbeats 2000000 in
theorem wl4_w {s : Sch} (hs : s.OK H) {sb bx : Nat} (hsb : H.length ≤ sb) (hbx : H.length ≤ bx) (nsb : bx ≠ sb) {n : Int} {e : Env} {Q : Post} (hb : Base H K) (hg : hget K sb = .row [.int .i64 n] 0 true) (hn : Left n) (hx : hget K bx = .row [s.hv, s.mv, s.sv, s.av, s.tv, s.cv] 0 true)
    (he : (∃ x : Nat → Value, e = [.pointer (some ⟨sb, 0, none⟩), x 1, x 2, .pointer (some ⟨bx, 0, none⟩), x 4, x 5, x 6, x 7, x 8, x 9, x 10, x 11, x 12, x 13, x 14, x 15, x 16, x 17, x 18, x 19, x 20, x 21, x 22, x 23, x 24, x 25, x 26, x 27, x 28, x 29, x 30, x 31, x 32, x 33, x 34, x 35, x 36, x 37, x 38, x 39, x 40, x 41, x 42, x 43, x 44, x 45, x 46, x 47, x 48, x 49, x 50, x 51, x 52, x 53, x 54, x 55, x 56, x 57, x 58, x 59, x 60, x 61, x 62, x 63, x 64, x 65, x 66, x 67, x 68, x 69, x 70, x 71, x 72, x 73, x 74, x 75, x 76, x 77, x 78, x 79, x 80, x 81, x 82, x 83, x 84, x 85, x 86, x 87, x 88, x 89, x 90, x 91, x 92, x 93, x 94, x 95, x 96, x 97, x 98, x 99, x 100, x 101, x 102, x 103, x 104, x 105, x 106, x 107, x 108, x 109, x 110, x 111, x 112, x 113, x 114, x 115, x 116, x 117]))
    (h : ∀ K' n' e, But sb K K' → hget K' sb = .row [.int .i64 n'] 0 true → Left n' → e.length = 118 → Q .norm e K') : WC T (g69.body.at [1, 1]) e K Q := by
  obtain ⟨x, rfl⟩ := he
  obtain ⟨Z, hZ⟩ : ∃ Z, Z = WC T (g69.body.at [1, 1, 1]) := ⟨_, rfl⟩
  have hZ' := hZ.symm
  simp only [AFunc.body, g69, ACode.at] at hZ' ⊢
  have cont : ∀ (K' : Heap) (n' : Int) (e : Env), But sb K K' → hget K' sb = .row [.int .i64 n'] 0 true → Left n' → hget K' bx = .row [s.hv, s.mv, s.sv, s.av, s.tv, s.cv] 0 true → (∃ x : Nat → Value, e = [.pointer (some ⟨sb, 0, none⟩), x 1, x 2, .pointer (some ⟨bx, 0, none⟩), x 4, x 5, x 6, x 7, x 8, x 9, x 10, x 11, x 12, x 13, x 14, x 15, x 16, x 17, x 18, x 19, x 20, x 21, x 22, x 23, x 24, x 25, x 26, x 27, x 28, x 29, x 30, x 31, x 32, x 33, x 34, x 35, x 36, x 37, x 38, x 39, x 40, x 41, x 42, x 43, x 44, x 45, x 46, x 47, x 48, x 49, x 50, x 51, x 52, x 53, x 54, x 55, x 56, x 57, x 58, x 59, x 60, x 61, x 62, x 63, x 64, x 65, x 66, x 67, x 68, x 69, x 70, x 71, x 72, x 73, x 74, x 75, x 76, x 77, x 78, x 79, x 80, x 81, x 82, x 83, x 84, x 85, x 86, x 87, x 88, x 89, x 90, x 91, x 92, x 93, x 94, x 95, x 96, x 97, x 98, x 99, x 100, x 101, x 102, x 103, x 104, x 105, x 106, x 107, x 108, x 109, x 110, x 111, x 112, x 113, x 114, x 115, x 116, x 117]) → Z e K' Q := fun K' n' e q1 q2 q3 q4 q5 => by
    rw [hZ]
    exact wl5_w hs hsb hbx nsb (q1.base hb hsb) q2 q3 q4 q5 fun K2 n2 e2 b2 => h K2 n2 e2 (q1.trans b2)
  simp (disch := omega) only [kB, kcx, kdm, kdn, kel, aop, resultsL, resultOf, Nat.reduceEqDiff, reduceCtorEq, eq1, apartOK, apart2, AObj.live, Int.reduceEq, Int.reduceLT, Int.reduceLE, Int.reduceAdd, Int.reduceSub, Int.reduceMul, Int.reduceToNat, cutCells, Nat.reduceAdd, Nat.reduceLeDiff, Nat.reduceLT, Nat.reduceMul, Nat.reduceSub]
  obtain ⟨lr, ln, lo⟩ := hs.hs
  unfold few at ln
  obtain ⟨ad, ev⟩ := lr.sl
  rw [ev] at lr
  rw [List.length_map] at ev lr
  refine WLoop.inv (wl4I K sb bx s.headers.length) ?_ s.headers.length _ _ ⟨0, n, Nat.zero_le _, by omega, But.refl, hg, hn, by exact ex_env rfl⟩
  rintro z e K' ⟨i, m, hi, rfl, bt', hg', hm, ⟨x, rfl⟩⟩
  have hb' := bt'.base hb hsb
  have hx' := bt'.row hx nsb
  have hx2 := hx'
  rw [ev] at hx2
  have lbx := hget_lt hx' rfl
  have lsb' := hget_lt hg' rfl
  by_cases hlt : i < s.headers.length
  · have c1 : (i : Int) < (s.headers.length : Int) := by omega
    obtain ⟨b, u0, w0, rfl, p1, p2, p3, p4, p5⟩ := lr.at Hdr.len hlt
    have prow : hget K' b = .row (s.headers.map Hdr.cells).flatten u0 w0 := by rw [hb'.2 b p1]; exact p2
    have lb : b < K'.length := Nat.lt_of_lt_of_le p1 hb'.1
    have w2 : IntKind.i64.wrap ((i : Int) + 1) = ((i + 1 : Nat) : Int) := by rw [show (i : Int) + 1 = ((i + 1 : Nat) : Int) by omega]; exact wr_i64 (by omega) (by omega)
    have hok := lo _ (List.getElem_mem hlt)
    generalize s.headers[i] = x at *
    · obtain ⟨fr, fn, _⟩ := hok
      unfold few at fn
      obtain ⟨adf, ef⟩ := fr.sl
      rw [List.length_map] at ef
      have e1 := p5 1 (by decide)
      simp only [Hdr.cells, List.getElem?_cons_succ, List.getElem?_cons_zero, ef] at e1
      have v1 : IntKind.i64.wrap (1 + (x.fields.length : Int)) = 1 + (x.fields.length : Int) := wr_i64 (by omega) (by omega)
      simp (disch := omega) only [kB, kcx, kdm, kdn, kel, aop, resultsL, resultOf, Nat.reduceEqDiff, reduceCtorEq, eq1, apartOK, apart2, AObj.live, Int.reduceEq, Int.reduceLT, Int.reduceLE, Int.reduceAdd, Int.reduceSub, Int.reduceMul, Int.reduceToNat, cutCells, Nat.reduceAdd, Nat.reduceLeDiff, Nat.reduceLT, Nat.reduceMul, Nat.reduceSub, c1, hx2, prow, e1, v1]
      refine take_s hg' hm (by omega) (by omega) ?_
      have hm2 := takeV_left hm (k := 1 + (x.fields.length : Int)) (by omega) (by omega)
      have bt2 := bt'.set (o := .row [.int .i64 (takeV m (1 + (x.fields.length : Int)))] 0 true)
      have hg2 : hget (K'.set sb (.row [.int .i64 (takeV m (1 + (x.fields.length : Int)))] 0 true)) sb = .row [.int .i64 (takeV m (1 + (x.fields.length : Int)))] 0 true := hget_set' lsb'
      generalize takeV m (1 + (x.fields.length : Int)) = m2 at *
      generalize K'.set sb (.row [.int .i64 m2] 0 true) = K2 at *
      by_cases g : 0 ≤ m2
      · rw [decide_eq_true g]
        simp (disch := omega) only [kB, kcx, kdm, kdn, kel, aop, resultsL, resultOf, Nat.reduceEqDiff, reduceCtorEq, eq1, apartOK, apart2, AObj.live, Int.reduceEq, Int.reduceLT, Int.reduceLE, Int.reduceAdd, Int.reduceSub, Int.reduceMul, Int.reduceToNat, cutCells, Nat.reduceAdd, Nat.reduceLeDiff, Nat.reduceLT, Nat.reduceMul, Nat.reduceSub, w2]
        exact ⟨s.headers.length - (i + 1), by omega, i + 1, m2, by omega, rfl, bt2, hg2, hm2, by exact ex_env rfl⟩
      · rw [decide_eq_false g]
        simp (disch := omega) only [kB, kcx, kdm, kdn, kel, aop, resultsL, resultOf, Nat.reduceEqDiff, reduceCtorEq, eq1, apartOK, apart2, AObj.live, Int.reduceEq, Int.reduceLT, Int.reduceLE, Int.reduceAdd, Int.reduceSub, Int.reduceMul, Int.reduceToNat, cutCells, Nat.reduceAdd, Nat.reduceLeDiff, Nat.reduceLT, Nat.reduceMul, Nat.reduceSub, hZ']
        exact cont K2 m2 _ bt2 hg2 hm2 (bt2.row hx nsb) (by exact ex_env rfl)
  · have c1 : ¬ (i : Int) < (s.headers.length : Int) := by omega
    simp (disch := omega) only [kB, kcx, kdm, kdn, kel, aop, resultsL, resultOf, Nat.reduceEqDiff, reduceCtorEq, eq1, apartOK, apart2, AObj.live, Int.reduceEq, Int.reduceLT, Int.reduceLE, Int.reduceAdd, Int.reduceSub, Int.reduceMul, Int.reduceToNat, cutCells, Nat.reduceAdd, Nat.reduceLeDiff, Nat.reduceLT, Nat.reduceMul, Nat.reduceSub, c1, hx2, hZ']
    exact cont K' m _ bt' hg' hm hx' (by exact ex_env rfl)

theorem light_s {s : Sch} (hs : s.OK H) (hb : Base H K) (h : ∀ b, R (.ret (.bool b)) K) : WD T 12 [.agg s.cells.toArray] K R := by
  obtain ⟨Z, hZ⟩ : ∃ Z, Z = WC T (g69.body.at [1, 1]) := ⟨_, rfl⟩
  have hZ' := hZ.symm
  simp only [AFunc.body, g69, ACode.at] at hZ'
  refine WD.gc0 (WD.of follows t12 (by simp) ?_)
  obtain ⟨o0, o1, o2, o3, o4, o5⟩ := hs.one
  obtain ⟨mr, mn, _⟩ := hs.ms
  unfold few at mn
  obtain ⟨adm, em⟩ := mr.sl
  rw [List.length_map] at em
  simp only [Sch.cells]
  simp (disch := omega) only [kB, kcx, kdm, kdn, kel, aop, resultsL, resultOf, Nat.reduceEqDiff, reduceCtorEq, eq1, apartOK, apart2, AObj.live, Int.reduceEq, Int.reduceLT, Int.reduceLE, Int.reduceAdd, Int.reduceSub, Int.reduceMul, Int.reduceToNat, cutCells, Nat.reduceAdd, Nat.reduceLeDiff, Nat.reduceLT, Nat.reduceMul, Nat.reduceSub, o0, o1, o2, o3, o4, o5]
  refine WD.of follows t68 (by simp) ?_
  simp (disch := omega) only [kB, kcx, kdm, kdn, kel, aop, resultsL, resultOf, Nat.reduceEqDiff, reduceCtorEq, eq1, apartOK, apart2, AObj.live, Int.reduceEq, Int.reduceLT, Int.reduceLE, Int.reduceAdd, Int.reduceSub, Int.reduceMul, Int.reduceToNat, cutCells, Nat.reduceAdd, Nat.reduceLeDiff, Nat.reduceLT, Nat.reduceMul, Nat.reduceSub]
  refine WD.of follows t69 (by simp) ?_
  simp (disch := omega) only [kB, kcx, kdm, kdn, kel, aop, resultsL, resultOf, Nat.reduceEqDiff, reduceCtorEq, eq1, apartOK, apart2, AObj.live, Int.reduceEq, Int.reduceLT, Int.reduceLE, Int.reduceAdd, Int.reduceSub, Int.reduceMul, Int.reduceToNat, cutCells, Nat.reduceAdd, Nat.reduceLeDiff, Nat.reduceLT, Nat.reduceMul, Nat.reduceSub, em, hZ']
  have lb := hb.1
  obtain ⟨K1, hK1⟩ : ∃ K1, K1 = K ++ [AObj.row [s.hv, s.mv, s.sv, s.av, s.tv, s.cv] 0 true, .row [.int .i64 1048576] 0 true, .row [s.hv, s.mv, s.sv, s.av, s.tv, s.cv] 0 true] := ⟨_, rfl⟩
  have hb1 : Base K K1 := by rw [hK1]; exact Base.app0 _
  have hg1 : hget K1 (K.length + 1) = .row [.int .i64 1048576] 0 true := by rw [hK1, hget_base]; rfl
  have hx1 : hget K1 (K.length + 2) = .row [s.hv, s.mv, s.sv, s.av, s.tv, s.cv] 0 true := by rw [hK1, hget_base]; rfl
  have hK1' := hK1.symm
  simp only [em] at hK1'
  rw [hK1']
  clear hK1 hK1'
  have hl : Left 1048576 := ⟨by decide, by decide⟩
  refine take_s hg1 hl (by omega) (by omega) ?_
  have hm2 := takeV_left hl (k := (s.mets.length : Int)) (by omega) (by omega)
  have l1 := hget_lt hg1 rfl
  have bt2 : But (K.length + 1) K1 (K1.set (K.length + 1) (.row [.int .i64 (takeV 1048576 (s.mets.length : Int))] 0 true)) := But.refl.set
  have hg2 : hget (K1.set (K.length + 1) (.row [.int .i64 (takeV 1048576 (s.mets.length : Int))] 0 true)) (K.length + 1) = .row [.int .i64 (takeV 1048576 (s.mets.length : Int))] 0 true := hget_set' l1
  generalize takeV 1048576 (s.mets.length : Int) = m2 at *
  generalize K1.set (K.length + 1) (.row [.int .i64 m2] 0 true) = K2 at *
  have hx2 := bt2.row hx1 (by omega)
  have hb2 : Base K K2 := bt2.base hb1 (by omega)
  simp (disch := omega) only [kB, kcx, kdm, kdn, kel, aop, resultsL, resultOf, Nat.reduceEqDiff, reduceCtorEq, eq1, apartOK, apart2, AObj.live, Int.reduceEq, Int.reduceLT, Int.reduceLE, Int.reduceAdd, Int.reduceSub, Int.reduceMul, Int.reduceToNat, cutCells, Nat.reduceAdd, Nat.reduceLeDiff, Nat.reduceLT, Nat.reduceMul, Nat.reduceSub, hZ']
  rw [hZ]
  refine wl4_w hs (sb := K.length + 1) (bx := K.length + 2) (by omega) (by omega) (by omega) (hb.trans hb2) hg2 hm2 hx2 (by exact ex_env rfl) ?_
  intro K3 n3 e3 b3 hg3 hn3 _
  have hb3 : Base K K3 := b3.base hb2 (by omega)
  have l3 := hget_lt hg3 rfl
  simp (disch := omega) only [kB, kcx, kdm, kdn, kel, aop, resultsL, resultOf, Nat.reduceEqDiff, reduceCtorEq, eq1, apartOK, apart2, AObj.live, Int.reduceEq, Int.reduceLT, Int.reduceLE, Int.reduceAdd, Int.reduceSub, Int.reduceMul, Int.reduceToNat, cutCells, Nat.reduceAdd, Nat.reduceLeDiff, Nat.reduceLT, Nat.reduceMul, Nat.reduceSub]
  refine WD.of follows t70 (by simp) ?_
  by_cases g : 0 ≤ n3
  · simp (disch := omega) only [kB, kcx, kdm, kdn, kel, aop, resultsL, resultOf, Nat.reduceEqDiff, reduceCtorEq, eq1, apartOK, apart2, AObj.live, Int.reduceEq, Int.reduceLT, Int.reduceLE, Int.reduceAdd, Int.reduceSub, Int.reduceMul, Int.reduceToNat, cutCells, Nat.reduceAdd, Nat.reduceLeDiff, Nat.reduceLT, Nat.reduceMul, Nat.reduceSub, hg3, g]
    exact ⟨_, rfl, hb3.ext, .bool, h _⟩
  · simp (disch := omega) only [kB, kcx, kdm, kdn, kel, aop, resultsL, resultOf, Nat.reduceEqDiff, reduceCtorEq, eq1, apartOK, apart2, AObj.live, Int.reduceEq, Int.reduceLT, Int.reduceLE, Int.reduceAdd, Int.reduceSub, Int.reduceMul, Int.reduceToNat, cutCells, Nat.reduceAdd, Nat.reduceLeDiff, Nat.reduceLT, Nat.reduceMul, Nat.reduceSub, hg3, g]
    exact ⟨_, rfl, hb3.ext, .bool, h _⟩

end Go.Proofs.YtpllhhaeclnngaaGreat.Ev

/- Copy of a schema; the law SchemaCopies. -/
namespace Go.Proofs.YtpllhhaeclnngaaGreat.Ev
set_option maxRecDepth 100000
set_option linter.unusedSimpArgs false
set_option linter.unusedVariables false
variable {R : FRes → Heap → Prop} {H K : Heap}

theorem all2_len {α : Type} {r : α → α → Bool} {l m : List α} (h : all2 r l m = true) : l.length = m.length := ((all2_iff r).1 h).1

theorem meta_w {l : List Fld} {v0 : Value} (h0 : FldL H v0 l) {bx : Nat} (hbx : H.length ≤ bx) (hb : Base H K) (lbx : bx + 1 < K.length) {c0 c2 c3 c4 c5 : Value} (r : hget K bx = .row [c0, v0, c2, c3, c4, c5] 0 true) {e : Env} {Q : Post}
    (he : (∃ x : Nat → Value, e = [x 0, .pointer (some ⟨bx, 0, none⟩), .pointer (some ⟨bx + 1, 0, none⟩), x 3, x 4, x 5, x 6, x 7, x 8, x 9, x 10, x 11, x 12, x 13, x 14, x 15, x 16, x 17, x 18, x 19, x 20, x 21, x 22, x 23, x 24, x 25, x 26, x 27, x 28, x 29, x 30, x 31, x 32, x 33, x 34, x 35, x 36, x 37, x 38, x 39, x 40, x 41, x 42, x 43, x 44, x 45, x 46, x 47, x 48, x 49, x 50, x 51, x 52, x 53, x 54, x 55, x 56, x 57, x 58, x 59, x 60, x 61, x 62, x 63, x 64, x 65, x 66, x 67, x 68, x 69, x 70, x 71, x 72, x 73, x 74, x 75, x 76, x 77, x 78, x 79, x 80, x 81, x 82, x 83, x 84, x 85, x 86, x 87, x 88, x 89, x 90, x 91, x 92, x 93, x 94, x 95, x 96, x 97, x 98, x 99, x 100, x 101, x 102, x 103]))
    (h : ∀ K' v e, But bx K K' → hget K' bx = .row [c0, v, c2, c3, c4, c5] 0 true → FldL K' v l → Ev.New (bx + 2) v → (∃ x : Nat → Value, e = [x 0, .pointer (some ⟨bx, 0, none⟩), .pointer (some ⟨bx + 1, 0, none⟩), x 3, x 4, x 5, x 6, x 7, x 8, x 9, x 10, x 11, x 12, x 13, x 14, x 15, x 16, x 17, x 18, x 19, x 20, x 21, x 22, x 23, x 24, x 25, x 26, x 27, x 28, x 29, x 30, x 31, x 32, x 33, x 34, x 35, x 36, x 37, x 38, x 39, x 40, x 41, x 42, x 43, x 44, x 45, x 46, x 47, x 48, x 49, x 50, x 51, x 52, x 53, x 54, x 55, x 56, x 57, x 58, x 59, x 60, x 61, x 62, x 63, x 64, x 65, x 66, x 67, x 68, x 69, x 70, x 71, x 72, x 73, x 74, x 75, x 76, x 77, x 78, x 79, x 80, x 81, x 82, x 83, x 84, x 85, x 86, x 87, x 88, x 89, x 90, x 91, x 92, x 93, x 94, x 95, x 96, x 97, x 98, x 99, x 100, x 101, x 102, x 103]) → WC T (g13.body.at [1, 1, 1, 1]) e K' Q) : WC T (g13.body.at [1, 1, 1]) e K Q := by
  obtain ⟨x, rfl⟩ := he
  obtain ⟨Z, hZ⟩ : ∃ Z, Z = WC T (g13.body.at [1, 1, 1, 1]) := ⟨_, rfl⟩
  have hZ' := hZ.symm
  rw [← hZ] at h
  simp only [AFunc.body, g13, ACode.at] at hZ' ⊢
  clear hZ
  simp (disch := omega) only [kB, kcx, kdm, kdn, kel, aop, resultsL, resultOf, Nat.reduceEqDiff, reduceCtorEq, eq1, apartOK, apart2, AObj.live, Int.reduceEq, Int.reduceLT, Int.reduceLE, Int.reduceAdd, Int.reduceSub, Int.reduceMul, Int.reduceToNat, cutCells, Nat.reduceAdd, Nat.reduceLeDiff, Nat.reduceLT, Nat.reduceMul, Nat.reduceSub, r]
  refine cloneF_s h0.1 h0.2.1 hb ?_
  intro v K1 b1 ro nw
  have r1 := b1.rowc r
  have lr1 := hget_lt r1 rfl
  have l1 := b1.1
  obtain ⟨adn, rfl⟩ := ro.sl
  rw [List.length_map] at ro nw ⊢
  have fin := h (K1.set bx (.row [c0, .slice adn l.length l.length, c2, c3, c4, c5] 0 true)) (.slice adn l.length l.length)
  have g1 : But bx K (K1.set bx (.row [c0, .slice adn l.length l.length, c2, c3, c4, c5] 0 true)) := But.set ⟨b1.1, fun c h1 _ => b1.2 c h1⟩
  have g2 : hget (K1.set bx (.row [c0, .slice adn l.length l.length, c2, c3, c4, c5] 0 true)) bx = .row [c0, .slice adn l.length l.length, c2, c3, c4, c5] 0 true := hget_set' lr1
  have g3 : FldL (K1.set bx (.row [c0, .slice adn l.length l.length, c2, c3, c4, c5] 0 true)) (.slice adn l.length l.length) l := ⟨ro.same fun c hc => ⟨by simpa using ro.lt hc, by rw [hget_ne (by have := nw c hc; omega)]⟩, h0.2⟩
  simp (disch := omega) only [kB, kcx, kdm, kdn, kel, aop, resultsL, resultOf, Nat.reduceEqDiff, reduceCtorEq, eq1, apartOK, apart2, AObj.live, Int.reduceEq, Int.reduceLT, Int.reduceLE, Int.reduceAdd, Int.reduceSub, Int.reduceMul, Int.reduceToNat, cutCells, Nat.reduceAdd, Nat.reduceLeDiff, Nat.reduceLT, Nat.reduceMul, Nat.reduceSub, r1, hZ']
  exact fin _ g1 g2 g3 (nw.low (by omega)) (by exact ex_env rfl)

theorem ctl_w {l : List St} {v0 : Value} (h0 : StSl H l v0) {bx : Nat} (hbx : H.length ≤ bx) (hb : Base H K) (lbx : bx + 1 < K.length) {c0 c1 c2 c3 c4 : Value} (hone : oneCell c0 = true ∧ oneCell c1 = true ∧ oneCell c2 = true ∧ oneCell c3 = true ∧ oneCell c4 = true) (r : hget K bx = .row [c0, c1, c2, c3, c4, v0] 0 true) (r2 : hget K (bx + 1) = .row [.slice none 0 0, .slice none 0 0, .slice none 0 0, .slice none 0 0, .slice none 0 0, .slice none 0 0] 0 true) {e : Env}
    (he : (∃ x : Nat → Value, e = [x 0, .pointer (some ⟨bx, 0, none⟩), .pointer (some ⟨bx + 1, 0, none⟩), x 3, x 4, x 5, x 6, x 7, x 8, x 9, x 10, x 11, x 12, x 13, x 14, x 15, x 16, x 17, x 18, x 19, x 20, x 21, x 22, x 23, x 24, x 25, x 26, x 27, x 28, x 29, x 30, x 31, x 32, x 33, x 34, x 35, x 36, x 37, x 38, x 39, x 40, x 41, x 42, x 43, x 44, x 45, x 46, x 47, x 48, x 49, x 50, x 51, x 52, x 53, x 54, x 55, x 56, x 57, x 58, x 59, x 60, x 61, x 62, x 63, x 64, x 65, x 66, x 67, x 68, x 69, x 70, x 71, x 72, x 73, x 74, x 75, x 76, x 77, x 78, x 79, x 80, x 81, x 82, x 83, x 84, x 85, x 86, x 87, x 88, x 89, x 90, x 91, x 92, x 93, x 94, x 95, x 96, x 97, x 98, x 99, x 100, x 101, x 102, x 103]))
    (h : ∀ K' v l', (∀ c, c < K.length → c ≠ bx → c ≠ bx + 1 → hget K' c = hget K c) → K.length ≤ K'.length → StSl K' l' v → eqvL l' l = true → R (.ret (.agg #[c0, c1, c2, c3, c4, v])) K') : WC T (g13.body.at [1, 1, 1, 1, 1, 1, 1, 1, 1, 1]) e K (retK [.cellN 2 6] R) := by
  obtain ⟨x, rfl⟩ := he
  simp only [AFunc.body, g13, ACode.at]
  simp (disch := omega) only [kB, kcx, kdm, kdn, kel, aop, resultsL, resultOf, Nat.reduceEqDiff, reduceCtorEq, eq1, apartOK, apart2, AObj.live, Int.reduceEq, Int.reduceLT, Int.reduceLE, Int.reduceAdd, Int.reduceSub, Int.reduceMul, Int.reduceToNat, cutCells, Nat.reduceAdd, Nat.reduceLeDiff, Nat.reduceLT, Nat.reduceMul, Nat.reduceSub, r]
  refine copyStages_s _ l (Nat.le_refl _) _ K _ h0 hb ?_
  intro v l' K1 b1 sv lo eq
  obtain ⟨ad, rfl⟩ := sv.sl
  have r1 := b1.rowc r
  have r21 := b1.rowc r2
  have lr1 := hget_lt r1 rfl
  have lr2 := hget_lt r21 rfl
  have l1 := b1.1
  have n1 : bx ≠ bx + 1 := by omega
  obtain ⟨o0, o1, o2, o3, o4⟩ := hone
  have sv2 : StSl ((K1.set bx (.row [c0, c1, c2, c3, c4, .slice ad l'.length l'.length] 0 true)).set (bx + 1) (.row [c0, c1, c2, c3, c4, .slice ad l'.length l'.length] 0 true)) l' (.slice ad l'.length l'.length) := sv.same lo (by simp) fun c h1 h2 => by rw [hget_ne (by omega), hget_ne (by omega)]
  have fin := h ((K1.set bx (.row [c0, c1, c2, c3, c4, .slice ad l'.length l'.length] 0 true)).set (bx + 1) (.row [c0, c1, c2, c3, c4, .slice ad l'.length l'.length] 0 true)) (.slice ad l'.length l'.length) l' (fun c h1 h2 h3 => by rw [hget_ne (Ne.symm h3), hget_ne (Ne.symm h2)]; exact b1.2 c h1) (by simpa using l1) sv2 eq
  simp (disch := omega) only [kB, kcx, kdm, kdn, kel, aop, resultsL, resultOf, Nat.reduceEqDiff, reduceCtorEq, eq1, apartOK, apart2, AObj.live, Int.reduceEq, Int.reduceLT, Int.reduceLE, Int.reduceAdd, Int.reduceSub, Int.reduceMul, Int.reduceToNat, cutCells, Nat.reduceAdd, Nat.reduceLeDiff, Nat.reduceLT, Nat.reduceMul, Nat.reduceSub, r1, r21, hget_ne n1, o0, o1, o2, o3, o4]
  exact fin

set_option maxHeartbeats 4000000 in
theorem copy_s {s : Sch} (hs : s.OK H) (hb : Base H K) (h : ∀ (c : Sch) K', Base K K' → c.OK K' → c.eqv s = true → R (.ret (.agg c.cells.toArray)) K') : WD T 13 [.agg s.cells.toArray] K R := by
  obtain ⟨Z, hZ⟩ : ∃ Z, Z = WC T (g13.body.at [1]) := ⟨_, rfl⟩
  have hZ' := hZ.symm
  simp only [AFunc.body, g13, ACode.at] at hZ'
  refine WD.of follows t13 (by simp) ?_
  obtain ⟨o0, o1, o2, o3, o4, o5⟩ := hs.one
  simp only [Sch.cells]
  simp (disch := omega) only [kB, kcx, kdm, kdn, kel, aop, resultsL, resultOf, Nat.reduceEqDiff, reduceCtorEq, eq1, apartOK, apart2, AObj.live, Int.reduceEq, Int.reduceLT, Int.reduceLE, Int.reduceAdd, Int.reduceSub, Int.reduceMul, Int.reduceToNat, cutCells, Nat.reduceAdd, Nat.reduceLeDiff, Nat.reduceLT, Nat.reduceMul, Nat.reduceSub, o0, o1, o2, o3, o4, o5, hZ']
  rw [hZ]
  have lb := hb.1
  obtain ⟨K0, hK0⟩ : ∃ K0, K0 = K ++ [AObj.row [s.hv, s.mv, s.sv, s.av, s.tv, s.cv] 0 true, .row [.slice none 0 0, .slice none 0 0, .slice none 0 0, .slice none 0 0, .slice none 0 0, .slice none 0 0] 0 true] := ⟨_, rfl⟩
  rw [← hK0]
  have bK0 : Base K K0 := by rw [hK0]; exact Base.app0 _
  have r0 : hget K0 K.length = .row [s.hv, s.mv, s.sv, s.av, s.tv, s.cv] 0 true := by rw [hK0, hget_base0]; rfl
  have t0 : hget K0 (K.length + 1) = .row [.slice none 0 0, .slice none 0 0, .slice none 0 0, .slice none 0 0, .slice none 0 0, .slice none 0 0] 0 true := by rw [hK0, hget_base]; rfl
  have lK0 : K.length + 1 < K0.length := hget_lt t0 rfl
  clear hK0
  have hbx : H.length ≤ K.length := lb
  refine cpH_w hs.hs.1 hs.hs.2.1 hs.hs.2.2 hbx (hb.trans bK0) lK0 r0 (by exact ex_env rfl) ?_
  intro K1 v0 l0 e1 b1 r1 gH he1
  have hb1 := b1.base (hb.trans bK0) hbx
  have lK1 : K.length + 1 < K1.length := Nat.lt_of_lt_of_le lK0 b1.1
  refine meta_w hs.ms hbx hb1 lK1 r1 he1 ?_
  intro K2 v1 e2 b2 r2 gM nM he2
  have hb2 := b2.base hb1 hbx
  have lK2 : K.length + 1 < K2.length := Nat.lt_of_lt_of_le lK1 b2.1
  refine cpS_w hs.ss.1 hs.ss.2.1 hs.ss.2.2 hbx hb2 lK2 r2 he2 ?_
  intro K3 v2 l2 e3 b3 r3 gS he3
  have hb3 := b3.base hb2 hbx
  have lK3 : K.length + 1 < K3.length := Nat.lt_of_lt_of_le lK2 b3.1
  refine cpA_w hs.acs.1 hs.acs.2.1 hs.acs.2.2 hbx hb3 lK3 r3 he3 ?_
  intro K4 v3 l3 e4 b4 r4 gA he4
  have hb4 := b4.base hb3 hbx
  have lK4 : K.length + 1 < K4.length := Nat.lt_of_lt_of_le lK3 b4.1
  refine cpT_w hs.ts.1 hs.ts.2.1 hs.ts.2.2 hbx hb4 lK4 r4 he4 ?_
  intro K5 v4 l4 e5 b5 r5 gT he5
  have hb5 := b5.base hb4 hbx
  have lK5 : K.length + 1 < K5.length := Nat.lt_of_lt_of_le lK4 b5.1
  have b05 : But K.length K0 K5 := (((b1.trans b2).trans b3).trans b4).trans b5
  have t5 := b05.row t0 (by omega)
  have b25 : But K.length K2 K5 := (b3.trans b4).trans b5
  have roM : RoSl K5 v1 (s.mets.map Fld.cells) := gM.1.same fun c hc => ⟨Nat.lt_of_lt_of_le (gM.1.lt hc) b25.1, b25.2 c (gM.1.lt hc) (by have := nM c hc; omega)⟩
  have gH5 := gH.step ((b2.trans b3).trans (b4.trans b5)) (by omega)
  have gS5 := gS.step (b4.trans b5) (by omega)
  have gA5 := gA.step b5 (by omega)
  refine ctl_w hs.cs hbx hb5 lK5 ⟨gH5.ro.one, roM.one, gS5.ro.one, gA5.ro.one, gT.ro.one⟩ r5 t5 he5 ?_
  intro K6 v5 l5 b6 lK6 sv ev
  have hk : ∀ c, c < K5.length → K.length + 2 ≤ c → hget K6 c = hget K5 c := fun c h1 h2 => b6 c h1 (by omega) (by omega)
  have gH6 := gH5.step2 lK6 hk
  have gS6 := gS5.step2 lK6 hk
  have gA6 := gA5.step2 lK6 hk
  have gT6 := gT.step2 lK6 hk
  have roM6 : RoSl K6 v1 (s.mets.map Fld.cells) := roM.same fun c hc => ⟨Nat.lt_of_lt_of_le (roM.lt hc) lK6, hk c (roM.lt hc) (nM c hc)⟩
  have bK6 : Base K K6 := ⟨by have := b05.1; have := bK0.1; omega, fun c hc => by
    have := b05.1
    rw [b6 c (by omega) (by omega) (by omega), b05.2 c (by omega) (by omega)]
    exact bK0.2 c hc⟩
  refine h ⟨v0, v1, v2, v3, v4, v5, l0, s.mets, l2, l3, l4, l5⟩ K6 bK6 ?_ ?_
  · exact ⟨⟨gH6.ro, by rw [all2_len gH6.eq]; exact hs.hs.2.1, fun x hx => (gH6.ok x hx).1⟩, ⟨roM6, hs.ms.2⟩, ⟨gS6.ro, by rw [all2_len gS6.eq]; exact hs.ss.2.1, fun x hx => (gS6.ok x hx).1⟩,
      ⟨gA6.ro, by rw [all2_len gA6.eq]; exact hs.acs.2.1, fun x hx => (gA6.ok x hx).1⟩, ⟨gT6.ro, by rw [all2_len gT6.eq]; exact hs.ts.2.1, fun x hx => (gT6.ok x hx).1⟩, sv⟩
  · simp only [Sch.eqv, gH6.eq, gS6.eq, gA6.eq, gT6.eq, ev, decide_true, Bool.and_self]

end Go.Proofs.YtpllhhaeclnngaaGreat.Ev
