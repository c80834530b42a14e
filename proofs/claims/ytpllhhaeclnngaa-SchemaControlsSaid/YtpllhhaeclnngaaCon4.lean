/- SchemaControls: which tables a control asks, and how many a pass, by the program and by the document: whatever the schema, the law answers true. Conditions: none. -/
import Derived.Test.YtpllhhaeclnngaaCon3
import Derived.ChangeArms
import Derived.ChangeStays
import Derived.ChangeOld
import Derived.ChangeShapes
import Derived.WideShapes
import Derived.DataReads
import Derived.RowKit
import Derived.ProofKit
import Derived.SizedLaws
import Derived.Test.YtpllhhaeclnngaaRows
import Derived.OpenShut
import Derived.JoinedOf
import Derived.MakeChecks
import Derived.Stop.Joined
/- How many tables a pass asks: the document's count. Printed by gen_m3.py. -/
namespace Go.Proofs.Ytpllhhaeclnngaa.Ev
set_option maxRecDepth 100000
set_option linter.unusedSimpArgs false
set_option linter.unusedVariables false
variable {R : FRes → Heap → Prop} {H : Heap}

theorem mst_bound {n : Nat} {l : List St} (hl : SmallL n l) : -1 ≤ (mstL l 0 (-1)).1 ∧ (mstL l 0 (-1)).1 ≤ (flatL 0 l).length ∧ -1 ≤ (mstL l 0 (-1)).2 ∧ (mstL l 0 (-1)).2 ≤ (flatL 0 l).length := by
  obtain ⟨⟨a1, a2, a3, a4⟩, a5⟩ := thr_law n l hl 0 [] (by omega) (by simp)
  have e : maxs [] (-1) = -1 := rfl
  rw [e] at a5
  rw [a5]
  refine ⟨a1, by simp only; omega, maxs_ge _ _, ?_⟩
  have : ∀ (E : List Int) (z : Int), z ≤ (flatL 0 l).length → (∀ x ∈ E, x ≤ (flatL 0 l).length) → maxs E z ≤ (flatL 0 l).length := by
    intro E
    induction E with
    | nil => intro z hz _; exact hz
    | cons x E ih => intro z hz hx; exact ih _ (by have := hx x (by simp); omega) fun y hy => hx y (by simp [hy])
  refine this _ _ (by omega) fun x hx => ?_
  obtain ⟨_, h | h⟩ := a3 x hx
  · omega
  · cases h

def moI (K : Heap) (l : List St) (v : Value) : Nat → Env → Heap → Prop := fun z e K' =>
  ∃ (i : Nat) (on en : Int), i ≤ l.length ∧ z = l.length - i ∧ K' = K ∧ mstL l 0 (-1) = mstL (l.drop i) on en ∧ -1 ≤ on ∧ on + (flatL 0 (l.drop i)).length ≤ 128 ∧ -1 ≤ en ∧ en ≤ 128 ∧
    (∃ x : Nat → Value, e = [v, x 1, x 2, x 3, .int .i64 on, .int .i64 en, .int .i64 (i : Int), x 7, x 8, x 9, x 10, x 11, x 12, x 13, x 14, x 15, x 16, x 17, x 18, x 19, x 20, x 21, x 22, x 23, x 24, x 25, x 26, x 27, x 28, x 29, x 30, x 31, x 32, x 33, x 34, x 35, x 36, x 37, x 38, x 39, x 40, x 41, x 42, x 43, x 44, x 45, x 46, x 47, x 48, x 49, x 50, x 51, x 52, x 53, x 54, x 55, x 56, x 57, x 58, x 59, x 60, x 61, x 62, x 63, x 64, x 65, x 66, x 67, x 68, x 69, x 70, x 71, x 72, x 73, x 74, x 75, x 76, x 77, x 78, x 79, x 80, x 81, x 82, x 83, x 84, x 85])

set_option maxHeartbeats 4000000 in
theorem most_s : ∀ (n : Nat) (l : List St), SmallL n l → (flatL 0 l).length ≤ 128 → ∀ (K : Heap) (v : Value) (R : FRes → Heap → Prop), StSl H l v → H.length ≤ K.length → (∀ c, c < H.length → hget K c = hget H c) →
    R (.ret (.tuple #[.int .i64 (mstL l 0 (-1)).1, .int .i64 (mstL l 0 (-1)).2])) K → WD T 39 [v] K R := by
  intro n
  induction n with
  | zero =>
    intro l hl _ K v R hv hn hk h
    obtain rfl : l = [] := hl
    simp only [StSl] at hv
    obtain ⟨ad, rfl⟩ := hv
    refine WD.of follows t39 (by simp) ?_
    simp (disch := omega) only [kB, kcx, kdm, kdn, kel, aop, resultsL, resultOf, Nat.reduceEqDiff, reduceCtorEq, eq1, apartOK, apart2, AObj.live, Int.reduceEq, Int.reduceLT, Int.reduceLE, Int.reduceAdd, Int.reduceSub, Int.reduceMul, Int.reduceToNat, cutCells, Nat.reduceAdd, Nat.reduceLeDiff, Nat.reduceLT, Nat.reduceMul, Nat.reduceSub]
    refine WLoop.inv (fun z e K' => K' = K ∧ (∃ x : Nat → Value, e = [.slice ad 0 0, x 1, x 2, x 3, .int .i64 0, .int .i64 (-1), .int .i64 0, x 7, x 8, x 9, x 10, x 11, x 12, x 13, x 14, x 15, x 16, x 17, x 18, x 19, x 20, x 21, x 22, x 23, x 24, x 25, x 26, x 27, x 28, x 29, x 30, x 31, x 32, x 33, x 34, x 35, x 36, x 37, x 38, x 39, x 40, x 41, x 42, x 43, x 44, x 45, x 46, x 47, x 48, x 49, x 50, x 51, x 52, x 53, x 54, x 55, x 56, x 57, x 58, x 59, x 60, x 61, x 62, x 63, x 64, x 65, x 66, x 67, x 68, x 69, x 70, x 71, x 72, x 73, x 74, x 75, x 76, x 77, x 78, x 79, x 80, x 81, x 82, x 83, x 84, x 85])) ?_ 0 _ _ ⟨rfl, by exact ex_env rfl⟩
    rintro z e K' ⟨rfl, ⟨x, rfl⟩⟩
    simp (disch := omega) only [kB, kcx, kdm, kdn, kel, aop, resultsL, resultOf, Nat.reduceEqDiff, reduceCtorEq, eq1, apartOK, apart2, AObj.live, Int.reduceEq, Int.reduceLT, Int.reduceLE, Int.reduceAdd, Int.reduceSub, Int.reduceMul, Int.reduceToNat, cutCells, Nat.reduceAdd, Nat.reduceLeDiff, Nat.reduceLT, Nat.reduceMul, Nat.reduceSub]
    exact h
  | succ n ih =>
    intro l hl hW K v R hv hn hk h
    have hsub : ∀ s ∈ l, SmallL n s.thn ∧ SmallL n s.els := fun s hs => hl.sub hs
    have hlen := hl.1
    obtain ⟨ad, rfl⟩ := hv.sl
    have hall := hv.all
    refine WD.of follows t39 (by simp) ?_
    simp (disch := omega) only [kB, kcx, kdm, kdn, kel, aop, resultsL, resultOf, Nat.reduceEqDiff, reduceCtorEq, eq1, apartOK, apart2, AObj.live, Int.reduceEq, Int.reduceLT, Int.reduceLE, Int.reduceAdd, Int.reduceSub, Int.reduceMul, Int.reduceToNat, cutCells, Nat.reduceAdd, Nat.reduceLeDiff, Nat.reduceLT, Nat.reduceMul, Nat.reduceSub]
    refine WLoop.inv (moI K l (.slice ad l.length l.length)) ?_ l.length _ _ ⟨0, 0, -1, Nat.zero_le _, by omega, rfl, rfl, by omega, by rw [List.drop_zero]; omega, by omega, by omega, by exact ex_env rfl⟩
    rintro z e K' ⟨i, on, en, hi, rfl, rfl, hT, b1, b2, b3, b4, ⟨x, rfl⟩⟩
    by_cases hlt : i < l.length
    · have c0 : (i : Int) < (l.length : Int) := by omega
      by_cases hon : 0 ≤ on
      · obtain ⟨b, rfl, hb, hrow0⟩ := hv.row (by omega)
        have hsc : StOK H l[i] := hall.get (List.getElem_mem hlt)
        have hrow : hget K' b = .row (cellsL l) 0 false := by rw [hk b hb]; exact hrow0
        have w2 : IntKind.i64.wrap ((i : Int) + 1) = ((i + 1 : Nat) : Int) := by rw [show (i : Int) + 1 = ((i + 1 : Nat) : Int) by omega]; exact wr_i64 (by omega) (by omega)
        have h0 := cellsL_at hall (j := 0) hlt (by decide)
        have h11 := cellsL_at hall (j := 11) hlt (by decide)
        have h12 := cellsL_at hall (j := 12) hlt (by decide)
        rw [St.c0] at h0
        rw [hsc.c11] at h11
        rw [hsc.c12] at h12
        simp only [Nat.add_zero] at h0
        have hsa := hsc.sa
        have hsb := hsc.sb
        obtain ⟨hsma, hsmb⟩ := hsub l[i] (List.getElem_mem hlt)
        rw [List.drop_eq_getElem_cons hlt] at hT b2
        generalize l[i] = x at *
        have hfl : (flatL 0 (x :: l.drop (i + 1))).length = 1 + ((flatL 0 x.thn).length + (flatL 0 x.els).length) + (flatL 0 (l.drop (i + 1))).length := by
          simp only [flatL, flat1_eq, List.length_append, List.length_cons, flat_len1 1 0 n _ hsma, flat_len1 1 0 n _ hsmb]
          omega
        rw [hfl] at b2
        have e0 : mst1 x on en = mstN x.kind on en (mstL x.thn 0 (-1)) (mstL x.els 0 (-1)) := by cases x; rfl
        rw [mstL, if_pos hon, e0] at hT
        by_cases k3 : x.kind = 3
        · rw [k3] at h0
          simp (disch := omega) only [kB, kcx, kdm, kdn, kel, aop, resultsL, resultOf, Nat.reduceEqDiff, reduceCtorEq, eq1, apartOK, apart2, AObj.live, Int.reduceEq, Int.reduceLT, Int.reduceLE, Int.reduceAdd, Int.reduceSub, Int.reduceMul, Int.reduceToNat, cutCells, Nat.reduceAdd, Nat.reduceLeDiff, Nat.reduceLT, Nat.reduceMul, Nat.reduceSub, c0, hon, hrow, h0, mm_max, w2]
          rw [mstN, if_pos k3] at hT
          exact ⟨l.length - (i + 1), by omega, i + 1, -1, max en on, by omega, rfl, rfl, hT, by omega, by omega, by omega, by omega, by exact ex_env rfl⟩
        · by_cases k1 : x.kind = 1 ∨ x.kind = 2
          · obtain ⟨p1, p2, p3, p4⟩ := mst_bound hsma
            obtain ⟨q1, q2, q3, q4⟩ := mst_bound hsmb
            have ca : ∀ (R2 : FRes → Heap → Prop), R2 (.ret (.tuple #[.int .i64 (mstL x.thn 0 (-1)).1, .int .i64 (mstL x.thn 0 (-1)).2])) K' → WD T 39 [x.va] K' R2 := fun R2 hr => ih _ hsma (by omega) K' _ R2 hsa hn hk hr
            have cb : ∀ (R2 : FRes → Heap → Prop), R2 (.ret (.tuple #[.int .i64 (mstL x.els 0 (-1)).1, .int .i64 (mstL x.els 0 (-1)).2])) K' → WD T 39 [x.vb] K' R2 := fun R2 hr => ih _ hsmb (by omega) K' _ R2 hsb hn hk hr
            rw [mstN, if_neg k3, if_pos k1] at hT
            generalize (mstL x.thn 0 (-1)).1 = pa at *
            generalize (mstL x.thn 0 (-1)).2 = pb at *
            generalize (mstL x.els 0 (-1)).1 = qa at *
            generalize (mstL x.els 0 (-1)).2 = qb at *
            generalize (flatL 0 x.thn).length = pm at *
            generalize (flatL 0 x.els).length = qm at *
            have w1 : IntKind.i64.wrap (on + 1) = on + 1 := wr_i64 (by omega) (by omega)
            rcases k1 with k1 | k1
            · rw [k1] at h0
              simp only [k1, if_true] at hT
              have w3 : IntKind.i64.wrap ((on + 1) + max pb qb) = (on + 1) + max pb qb := wr_i64 (by omega) (by omega)
              have w4 : IntKind.i64.wrap ((on + 1) + max pa qa) = (on + 1) + max pa qa := wr_i64 (by omega) (by omega)
              have hcl : ∀ on' en' : Int, mstL l 0 (-1) = mstL (l.drop (i + 1)) on' en' → -1 ≤ on' → on' + (flatL 0 (l.drop (i + 1))).length ≤ 128 → -1 ≤ en' → en' ≤ 128 → ∀ e, (∃ x : Nat → Value, e = [.slice (some ⟨b, 0, none⟩) l.length l.length, x 1, x 2, x 3, .int .i64 on', .int .i64 en', .int .i64 ((i + 1 : Nat) : Int), x 7, x 8, x 9, x 10, x 11, x 12, x 13, x 14, x 15, x 16, x 17, x 18, x 19, x 20, x 21, x 22, x 23, x 24, x 25, x 26, x 27, x 28, x 29, x 30, x 31, x 32, x 33, x 34, x 35, x 36, x 37, x 38, x 39, x 40, x 41, x 42, x 43, x 44, x 45, x 46, x 47, x 48, x 49, x 50, x 51, x 52, x 53, x 54, x 55, x 56, x 57, x 58, x 59, x 60, x 61, x 62, x 63, x 64, x 65, x 66, x 67, x 68, x 69, x 70, x 71, x 72, x 73, x 74, x 75, x 76, x 77, x 78, x 79, x 80, x 81, x 82, x 83, x 84, x 85]) →
                  ∃ m, m < l.length - i ∧ moI K' l (.slice (some ⟨b, 0, none⟩) l.length l.length) m e K' := fun on' en' t1 t2 t3 t4 t5 e' he' =>
                ⟨l.length - (i + 1), by omega, i + 1, on', en', by omega, rfl, rfl, t1, t2, t3, t4, t5, he'⟩
              by_cases d1 : 0 ≤ pb
              · by_cases d3 : pa < 0
                · by_cases d4 : qa < 0
                  · simp only [d3, d4, and_self, if_true, d1, true_or] at hT
                    simp (disch := omega) only [kB, kcx, kdm, kdn, kel, aop, resultsL, resultOf, Nat.reduceEqDiff, reduceCtorEq, eq1, apartOK, apart2, AObj.live, Int.reduceEq, Int.reduceLT, Int.reduceLE, Int.reduceAdd, Int.reduceSub, Int.reduceMul, Int.reduceToNat, cutCells, Nat.reduceAdd, Nat.reduceLeDiff, Nat.reduceLT, Nat.reduceMul, Nat.reduceSub, c0, hon, hrow, h0,  h11, w1]
                    refine ca _ ?_
                    simp (disch := omega) only [kB, kcx, kdm, kdn, kel, aop, resultsL, resultOf, Nat.reduceEqDiff, reduceCtorEq, eq1, apartOK, apart2, AObj.live, Int.reduceEq, Int.reduceLT, Int.reduceLE, Int.reduceAdd, Int.reduceSub, Int.reduceMul, Int.reduceToNat, cutCells, Nat.reduceAdd, Nat.reduceLeDiff, Nat.reduceLT, Nat.reduceMul, Nat.reduceSub, c0, hrow, h12]
                    refine cb _ ?_
                    simp (disch := omega) only [kB, kcx, kdm, kdn, kel, aop, resultsL, resultOf, Nat.reduceEqDiff, reduceCtorEq, eq1, apartOK, apart2, AObj.live, Int.reduceEq, Int.reduceLT, Int.reduceLE, Int.reduceAdd, Int.reduceSub, Int.reduceMul, Int.reduceToNat, cutCells, Nat.reduceAdd, Nat.reduceLeDiff, Nat.reduceLT, Nat.reduceMul, Nat.reduceSub, c0, hrow, h0,  w1, d1, d3, d4, mm_max, w3, w4, w2]
                    exact hcl _ _ hT (by omega) (by omega) (by omega) (by omega) _ (by exact ex_env rfl)
                  · simp only [d3, d4, and_false, if_false, d1, true_or] at hT
                    simp (disch := omega) only [kB, kcx, kdm, kdn, kel, aop, resultsL, resultOf, Nat.reduceEqDiff, reduceCtorEq, eq1, apartOK, apart2, AObj.live, Int.reduceEq, Int.reduceLT, Int.reduceLE, Int.reduceAdd, Int.reduceSub, Int.reduceMul, Int.reduceToNat, cutCells, Nat.reduceAdd, Nat.reduceLeDiff, Nat.reduceLT, Nat.reduceMul, Nat.reduceSub, c0, hon, hrow, h0,  h11, w1]
                    refine ca _ ?_
                    simp (disch := omega) only [kB, kcx, kdm, kdn, kel, aop, resultsL, resultOf, Nat.reduceEqDiff, reduceCtorEq, eq1, apartOK, apart2, AObj.live, Int.reduceEq, Int.reduceLT, Int.reduceLE, Int.reduceAdd, Int.reduceSub, Int.reduceMul, Int.reduceToNat, cutCells, Nat.reduceAdd, Nat.reduceLeDiff, Nat.reduceLT, Nat.reduceMul, Nat.reduceSub, c0, hrow, h12]
                    refine cb _ ?_
                    simp (disch := omega) only [kB, kcx, kdm, kdn, kel, aop, resultsL, resultOf, Nat.reduceEqDiff, reduceCtorEq, eq1, apartOK, apart2, AObj.live, Int.reduceEq, Int.reduceLT, Int.reduceLE, Int.reduceAdd, Int.reduceSub, Int.reduceMul, Int.reduceToNat, cutCells, Nat.reduceAdd, Nat.reduceLeDiff, Nat.reduceLT, Nat.reduceMul, Nat.reduceSub, c0, hrow, h0,  w1, d1, d3, d4, mm_max, w3, w4, w2]
                    exact hcl _ _ hT (by omega) (by omega) (by omega) (by omega) _ (by exact ex_env rfl)
                · simp only [d3, false_and, if_false, d1, true_or] at hT
                  simp (disch := omega) only [kB, kcx, kdm, kdn, kel, aop, resultsL, resultOf, Nat.reduceEqDiff, reduceCtorEq, eq1, apartOK, apart2, AObj.live, Int.reduceEq, Int.reduceLT, Int.reduceLE, Int.reduceAdd, Int.reduceSub, Int.reduceMul, Int.reduceToNat, cutCells, Nat.reduceAdd, Nat.reduceLeDiff, Nat.reduceLT, Nat.reduceMul, Nat.reduceSub, c0, hon, hrow, h0,  h11, w1]
                  refine ca _ ?_
                  simp (disch := omega) only [kB, kcx, kdm, kdn, kel, aop, resultsL, resultOf, Nat.reduceEqDiff, reduceCtorEq, eq1, apartOK, apart2, AObj.live, Int.reduceEq, Int.reduceLT, Int.reduceLE, Int.reduceAdd, Int.reduceSub, Int.reduceMul, Int.reduceToNat, cutCells, Nat.reduceAdd, Nat.reduceLeDiff, Nat.reduceLT, Nat.reduceMul, Nat.reduceSub, c0, hrow, h12]
                  refine cb _ ?_
                  simp (disch := omega) only [kB, kcx, kdm, kdn, kel, aop, resultsL, resultOf, Nat.reduceEqDiff, reduceCtorEq, eq1, apartOK, apart2, AObj.live, Int.reduceEq, Int.reduceLT, Int.reduceLE, Int.reduceAdd, Int.reduceSub, Int.reduceMul, Int.reduceToNat, cutCells, Nat.reduceAdd, Nat.reduceLeDiff, Nat.reduceLT, Nat.reduceMul, Nat.reduceSub, c0, hrow, h0,  w1, d1, d3, mm_max, w3, w4, w2]
                  exact hcl _ _ hT (by omega) (by omega) (by omega) (by omega) _ (by exact ex_env rfl)
              · by_cases d2 : 0 ≤ qb
                · by_cases d3 : pa < 0
                  · by_cases d4 : qa < 0
                    · simp only [d3, d4, and_self, if_true, d1, d2, or_true] at hT
                      simp (disch := omega) only [kB, kcx, kdm, kdn, kel, aop, resultsL, resultOf, Nat.reduceEqDiff, reduceCtorEq, eq1, apartOK, apart2, AObj.live, Int.reduceEq, Int.reduceLT, Int.reduceLE, Int.reduceAdd, Int.reduceSub, Int.reduceMul, Int.reduceToNat, cutCells, Nat.reduceAdd, Nat.reduceLeDiff, Nat.reduceLT, Nat.reduceMul, Nat.reduceSub, c0, hon, hrow, h0,  h11, w1]
                      refine ca _ ?_
                      simp (disch := omega) only [kB, kcx, kdm, kdn, kel, aop, resultsL, resultOf, Nat.reduceEqDiff, reduceCtorEq, eq1, apartOK, apart2, AObj.live, Int.reduceEq, Int.reduceLT, Int.reduceLE, Int.reduceAdd, Int.reduceSub, Int.reduceMul, Int.reduceToNat, cutCells, Nat.reduceAdd, Nat.reduceLeDiff, Nat.reduceLT, Nat.reduceMul, Nat.reduceSub, c0, hrow, h12]
                      refine cb _ ?_
                      simp (disch := omega) only [kB, kcx, kdm, kdn, kel, aop, resultsL, resultOf, Nat.reduceEqDiff, reduceCtorEq, eq1, apartOK, apart2, AObj.live, Int.reduceEq, Int.reduceLT, Int.reduceLE, Int.reduceAdd, Int.reduceSub, Int.reduceMul, Int.reduceToNat, cutCells, Nat.reduceAdd, Nat.reduceLeDiff, Nat.reduceLT, Nat.reduceMul, Nat.reduceSub, c0, hrow, h0,  w1, d1, d2, d3, d4, mm_max, w3, w4, w2]
                      exact hcl _ _ hT (by omega) (by omega) (by omega) (by omega) _ (by exact ex_env rfl)
                    · simp only [d3, d4, and_false, if_false, d1, d2, or_true] at hT
                      simp (disch := omega) only [kB, kcx, kdm, kdn, kel, aop, resultsL, resultOf, Nat.reduceEqDiff, reduceCtorEq, eq1, apartOK, apart2, AObj.live, Int.reduceEq, Int.reduceLT, Int.reduceLE, Int.reduceAdd, Int.reduceSub, Int.reduceMul, Int.reduceToNat, cutCells, Nat.reduceAdd, Nat.reduceLeDiff, Nat.reduceLT, Nat.reduceMul, Nat.reduceSub, c0, hon, hrow, h0,  h11, w1]
                      refine ca _ ?_
                      simp (disch := omega) only [kB, kcx, kdm, kdn, kel, aop, resultsL, resultOf, Nat.reduceEqDiff, reduceCtorEq, eq1, apartOK, apart2, AObj.live, Int.reduceEq, Int.reduceLT, Int.reduceLE, Int.reduceAdd, Int.reduceSub, Int.reduceMul, Int.reduceToNat, cutCells, Nat.reduceAdd, Nat.reduceLeDiff, Nat.reduceLT, Nat.reduceMul, Nat.reduceSub, c0, hrow, h12]
                      refine cb _ ?_
                      simp (disch := omega) only [kB, kcx, kdm, kdn, kel, aop, resultsL, resultOf, Nat.reduceEqDiff, reduceCtorEq, eq1, apartOK, apart2, AObj.live, Int.reduceEq, Int.reduceLT, Int.reduceLE, Int.reduceAdd, Int.reduceSub, Int.reduceMul, Int.reduceToNat, cutCells, Nat.reduceAdd, Nat.reduceLeDiff, Nat.reduceLT, Nat.reduceMul, Nat.reduceSub, c0, hrow, h0,  w1, d1, d2, d3, d4, mm_max, w3, w4, w2]
                      exact hcl _ _ hT (by omega) (by omega) (by omega) (by omega) _ (by exact ex_env rfl)
                  · simp only [d3, false_and, if_false, d1, d2, or_true] at hT
                    simp (disch := omega) only [kB, kcx, kdm, kdn, kel, aop, resultsL, resultOf, Nat.reduceEqDiff, reduceCtorEq, eq1, apartOK, apart2, AObj.live, Int.reduceEq, Int.reduceLT, Int.reduceLE, Int.reduceAdd, Int.reduceSub, Int.reduceMul, Int.reduceToNat, cutCells, Nat.reduceAdd, Nat.reduceLeDiff, Nat.reduceLT, Nat.reduceMul, Nat.reduceSub, c0, hon, hrow, h0,  h11, w1]
                    refine ca _ ?_
                    simp (disch := omega) only [kB, kcx, kdm, kdn, kel, aop, resultsL, resultOf, Nat.reduceEqDiff, reduceCtorEq, eq1, apartOK, apart2, AObj.live, Int.reduceEq, Int.reduceLT, Int.reduceLE, Int.reduceAdd, Int.reduceSub, Int.reduceMul, Int.reduceToNat, cutCells, Nat.reduceAdd, Nat.reduceLeDiff, Nat.reduceLT, Nat.reduceMul, Nat.reduceSub, c0, hrow, h12]
                    refine cb _ ?_
                    simp (disch := omega) only [kB, kcx, kdm, kdn, kel, aop, resultsL, resultOf, Nat.reduceEqDiff, reduceCtorEq, eq1, apartOK, apart2, AObj.live, Int.reduceEq, Int.reduceLT, Int.reduceLE, Int.reduceAdd, Int.reduceSub, Int.reduceMul, Int.reduceToNat, cutCells, Nat.reduceAdd, Nat.reduceLeDiff, Nat.reduceLT, Nat.reduceMul, Nat.reduceSub, c0, hrow, h0,  w1, d1, d2, d3, mm_max, w3, w4, w2]
                    exact hcl _ _ hT (by omega) (by omega) (by omega) (by omega) _ (by exact ex_env rfl)
                · by_cases d3 : pa < 0
                  · by_cases d4 : qa < 0
                    · simp only [d3, d4, and_self, if_true, d1, d2, or_self] at hT
                      simp (disch := omega) only [kB, kcx, kdm, kdn, kel, aop, resultsL, resultOf, Nat.reduceEqDiff, reduceCtorEq, eq1, apartOK, apart2, AObj.live, Int.reduceEq, Int.reduceLT, Int.reduceLE, Int.reduceAdd, Int.reduceSub, Int.reduceMul, Int.reduceToNat, cutCells, Nat.reduceAdd, Nat.reduceLeDiff, Nat.reduceLT, Nat.reduceMul, Nat.reduceSub, c0, hon, hrow, h0,  h11, w1]
                      refine ca _ ?_
                      simp (disch := omega) only [kB, kcx, kdm, kdn, kel, aop, resultsL, resultOf, Nat.reduceEqDiff, reduceCtorEq, eq1, apartOK, apart2, AObj.live, Int.reduceEq, Int.reduceLT, Int.reduceLE, Int.reduceAdd, Int.reduceSub, Int.reduceMul, Int.reduceToNat, cutCells, Nat.reduceAdd, Nat.reduceLeDiff, Nat.reduceLT, Nat.reduceMul, Nat.reduceSub, c0, hrow, h12]
                      refine cb _ ?_
                      simp (disch := omega) only [kB, kcx, kdm, kdn, kel, aop, resultsL, resultOf, Nat.reduceEqDiff, reduceCtorEq, eq1, apartOK, apart2, AObj.live, Int.reduceEq, Int.reduceLT, Int.reduceLE, Int.reduceAdd, Int.reduceSub, Int.reduceMul, Int.reduceToNat, cutCells, Nat.reduceAdd, Nat.reduceLeDiff, Nat.reduceLT, Nat.reduceMul, Nat.reduceSub, c0, hrow, h0,  w1, d1, d2, d3, d4, mm_max, w3, w4, w2]
                      exact hcl _ _ hT (by omega) (by omega) (by omega) (by omega) _ (by exact ex_env rfl)
                    · simp only [d3, d4, and_false, if_false, d1, d2, or_self] at hT
                      simp (disch := omega) only [kB, kcx, kdm, kdn, kel, aop, resultsL, resultOf, Nat.reduceEqDiff, reduceCtorEq, eq1, apartOK, apart2, AObj.live, Int.reduceEq, Int.reduceLT, Int.reduceLE, Int.reduceAdd, Int.reduceSub, Int.reduceMul, Int.reduceToNat, cutCells, Nat.reduceAdd, Nat.reduceLeDiff, Nat.reduceLT, Nat.reduceMul, Nat.reduceSub, c0, hon, hrow, h0,  h11, w1]
                      refine ca _ ?_
                      simp (disch := omega) only [kB, kcx, kdm, kdn, kel, aop, resultsL, resultOf, Nat.reduceEqDiff, reduceCtorEq, eq1, apartOK, apart2, AObj.live, Int.reduceEq, Int.reduceLT, Int.reduceLE, Int.reduceAdd, Int.reduceSub, Int.reduceMul, Int.reduceToNat, cutCells, Nat.reduceAdd, Nat.reduceLeDiff, Nat.reduceLT, Nat.reduceMul, Nat.reduceSub, c0, hrow, h12]
                      refine cb _ ?_
                      simp (disch := omega) only [kB, kcx, kdm, kdn, kel, aop, resultsL, resultOf, Nat.reduceEqDiff, reduceCtorEq, eq1, apartOK, apart2, AObj.live, Int.reduceEq, Int.reduceLT, Int.reduceLE, Int.reduceAdd, Int.reduceSub, Int.reduceMul, Int.reduceToNat, cutCells, Nat.reduceAdd, Nat.reduceLeDiff, Nat.reduceLT, Nat.reduceMul, Nat.reduceSub, c0, hrow, h0,  w1, d1, d2, d3, d4, mm_max, w3, w4, w2]
                      exact hcl _ _ hT (by omega) (by omega) (by omega) (by omega) _ (by exact ex_env rfl)
                  · simp only [d3, false_and, if_false, d1, d2, or_self] at hT
                    simp (disch := omega) only [kB, kcx, kdm, kdn, kel, aop, resultsL, resultOf, Nat.reduceEqDiff, reduceCtorEq, eq1, apartOK, apart2, AObj.live, Int.reduceEq, Int.reduceLT, Int.reduceLE, Int.reduceAdd, Int.reduceSub, Int.reduceMul, Int.reduceToNat, cutCells, Nat.reduceAdd, Nat.reduceLeDiff, Nat.reduceLT, Nat.reduceMul, Nat.reduceSub, c0, hon, hrow, h0,  h11, w1]
                    refine ca _ ?_
                    simp (disch := omega) only [kB, kcx, kdm, kdn, kel, aop, resultsL, resultOf, Nat.reduceEqDiff, reduceCtorEq, eq1, apartOK, apart2, AObj.live, Int.reduceEq, Int.reduceLT, Int.reduceLE, Int.reduceAdd, Int.reduceSub, Int.reduceMul, Int.reduceToNat, cutCells, Nat.reduceAdd, Nat.reduceLeDiff, Nat.reduceLT, Nat.reduceMul, Nat.reduceSub, c0, hrow, h12]
                    refine cb _ ?_
                    simp (disch := omega) only [kB, kcx, kdm, kdn, kel, aop, resultsL, resultOf, Nat.reduceEqDiff, reduceCtorEq, eq1, apartOK, apart2, AObj.live, Int.reduceEq, Int.reduceLT, Int.reduceLE, Int.reduceAdd, Int.reduceSub, Int.reduceMul, Int.reduceToNat, cutCells, Nat.reduceAdd, Nat.reduceLeDiff, Nat.reduceLT, Nat.reduceMul, Nat.reduceSub, c0, hrow, h0,  w1, d1, d2, d3, mm_max, w3, w4, w2]
                    exact hcl _ _ hT (by omega) (by omega) (by omega) (by omega) _ (by exact ex_env rfl)
            · rw [k1] at h0
              simp only [k1, if_true, show ¬ (2 : Int) = 1 by decide, if_false] at hT
              have w3 : IntKind.i64.wrap (on + max pb qb) = on + max pb qb := wr_i64 (by omega) (by omega)
              have w4 : IntKind.i64.wrap (on + max pa qa) = on + max pa qa := wr_i64 (by omega) (by omega)
              have hcl : ∀ on' en' : Int, mstL l 0 (-1) = mstL (l.drop (i + 1)) on' en' → -1 ≤ on' → on' + (flatL 0 (l.drop (i + 1))).length ≤ 128 → -1 ≤ en' → en' ≤ 128 → ∀ e, (∃ x : Nat → Value, e = [.slice (some ⟨b, 0, none⟩) l.length l.length, x 1, x 2, x 3, .int .i64 on', .int .i64 en', .int .i64 ((i + 1 : Nat) : Int), x 7, x 8, x 9, x 10, x 11, x 12, x 13, x 14, x 15, x 16, x 17, x 18, x 19, x 20, x 21, x 22, x 23, x 24, x 25, x 26, x 27, x 28, x 29, x 30, x 31, x 32, x 33, x 34, x 35, x 36, x 37, x 38, x 39, x 40, x 41, x 42, x 43, x 44, x 45, x 46, x 47, x 48, x 49, x 50, x 51, x 52, x 53, x 54, x 55, x 56, x 57, x 58, x 59, x 60, x 61, x 62, x 63, x 64, x 65, x 66, x 67, x 68, x 69, x 70, x 71, x 72, x 73, x 74, x 75, x 76, x 77, x 78, x 79, x 80, x 81, x 82, x 83, x 84, x 85]) →
                  ∃ m, m < l.length - i ∧ moI K' l (.slice (some ⟨b, 0, none⟩) l.length l.length) m e K' := fun on' en' t1 t2 t3 t4 t5 e' he' =>
                ⟨l.length - (i + 1), by omega, i + 1, on', en', by omega, rfl, rfl, t1, t2, t3, t4, t5, he'⟩
              by_cases d1 : 0 ≤ pb
              · by_cases d3 : pa < 0
                · by_cases d4 : qa < 0
                  · simp only [d3, d4, and_self, if_true, d1, true_or] at hT
                    simp (disch := omega) only [kB, kcx, kdm, kdn, kel, aop, resultsL, resultOf, Nat.reduceEqDiff, reduceCtorEq, eq1, apartOK, apart2, AObj.live, Int.reduceEq, Int.reduceLT, Int.reduceLE, Int.reduceAdd, Int.reduceSub, Int.reduceMul, Int.reduceToNat, cutCells, Nat.reduceAdd, Nat.reduceLeDiff, Nat.reduceLT, Nat.reduceMul, Nat.reduceSub, c0, hon, hrow, h0,  h11, w1]
                    refine ca _ ?_
                    simp (disch := omega) only [kB, kcx, kdm, kdn, kel, aop, resultsL, resultOf, Nat.reduceEqDiff, reduceCtorEq, eq1, apartOK, apart2, AObj.live, Int.reduceEq, Int.reduceLT, Int.reduceLE, Int.reduceAdd, Int.reduceSub, Int.reduceMul, Int.reduceToNat, cutCells, Nat.reduceAdd, Nat.reduceLeDiff, Nat.reduceLT, Nat.reduceMul, Nat.reduceSub, c0, hrow, h12]
                    refine cb _ ?_
                    simp (disch := omega) only [kB, kcx, kdm, kdn, kel, aop, resultsL, resultOf, Nat.reduceEqDiff, reduceCtorEq, eq1, apartOK, apart2, AObj.live, Int.reduceEq, Int.reduceLT, Int.reduceLE, Int.reduceAdd, Int.reduceSub, Int.reduceMul, Int.reduceToNat, cutCells, Nat.reduceAdd, Nat.reduceLeDiff, Nat.reduceLT, Nat.reduceMul, Nat.reduceSub, c0, hrow, h0,  w1, d1, d3, d4, mm_max, w3, w4, w2]
                    exact hcl _ _ hT (by omega) (by omega) (by omega) (by omega) _ (by exact ex_env rfl)
                  · simp only [d3, d4, and_false, if_false, d1, true_or] at hT
                    simp (disch := omega) only [kB, kcx, kdm, kdn, kel, aop, resultsL, resultOf, Nat.reduceEqDiff, reduceCtorEq, eq1, apartOK, apart2, AObj.live, Int.reduceEq, Int.reduceLT, Int.reduceLE, Int.reduceAdd, Int.reduceSub, Int.reduceMul, Int.reduceToNat, cutCells, Nat.reduceAdd, Nat.reduceLeDiff, Nat.reduceLT, Nat.reduceMul, Nat.reduceSub, c0, hon, hrow, h0,  h11, w1]
                    refine ca _ ?_
                    simp (disch := omega) only [kB, kcx, kdm, kdn, kel, aop, resultsL, resultOf, Nat.reduceEqDiff, reduceCtorEq, eq1, apartOK, apart2, AObj.live, Int.reduceEq, Int.reduceLT, Int.reduceLE, Int.reduceAdd, Int.reduceSub, Int.reduceMul, Int.reduceToNat, cutCells, Nat.reduceAdd, Nat.reduceLeDiff, Nat.reduceLT, Nat.reduceMul, Nat.reduceSub, c0, hrow, h12]
                    refine cb _ ?_
                    simp (disch := omega) only [kB, kcx, kdm, kdn, kel, aop, resultsL, resultOf, Nat.reduceEqDiff, reduceCtorEq, eq1, apartOK, apart2, AObj.live, Int.reduceEq, Int.reduceLT, Int.reduceLE, Int.reduceAdd, Int.reduceSub, Int.reduceMul, Int.reduceToNat, cutCells, Nat.reduceAdd, Nat.reduceLeDiff, Nat.reduceLT, Nat.reduceMul, Nat.reduceSub, c0, hrow, h0,  w1, d1, d3, d4, mm_max, w3, w4, w2]
                    exact hcl _ _ hT (by omega) (by omega) (by omega) (by omega) _ (by exact ex_env rfl)
                · simp only [d3, false_and, if_false, d1, true_or] at hT
                  simp (disch := omega) only [kB, kcx, kdm, kdn, kel, aop, resultsL, resultOf, Nat.reduceEqDiff, reduceCtorEq, eq1, apartOK, apart2, AObj.live, Int.reduceEq, Int.reduceLT, Int.reduceLE, Int.reduceAdd, Int.reduceSub, Int.reduceMul, Int.reduceToNat, cutCells, Nat.reduceAdd, Nat.reduceLeDiff, Nat.reduceLT, Nat.reduceMul, Nat.reduceSub, c0, hon, hrow, h0,  h11, w1]
                  refine ca _ ?_
                  simp (disch := omega) only [kB, kcx, kdm, kdn, kel, aop, resultsL, resultOf, Nat.reduceEqDiff, reduceCtorEq, eq1, apartOK, apart2, AObj.live, Int.reduceEq, Int.reduceLT, Int.reduceLE, Int.reduceAdd, Int.reduceSub, Int.reduceMul, Int.reduceToNat, cutCells, Nat.reduceAdd, Nat.reduceLeDiff, Nat.reduceLT, Nat.reduceMul, Nat.reduceSub, c0, hrow, h12]
                  refine cb _ ?_
                  simp (disch := omega) only [kB, kcx, kdm, kdn, kel, aop, resultsL, resultOf, Nat.reduceEqDiff, reduceCtorEq, eq1, apartOK, apart2, AObj.live, Int.reduceEq, Int.reduceLT, Int.reduceLE, Int.reduceAdd, Int.reduceSub, Int.reduceMul, Int.reduceToNat, cutCells, Nat.reduceAdd, Nat.reduceLeDiff, Nat.reduceLT, Nat.reduceMul, Nat.reduceSub, c0, hrow, h0,  w1, d1, d3, mm_max, w3, w4, w2]
                  exact hcl _ _ hT (by omega) (by omega) (by omega) (by omega) _ (by exact ex_env rfl)
              · by_cases d2 : 0 ≤ qb
                · by_cases d3 : pa < 0
                  · by_cases d4 : qa < 0
                    · simp only [d3, d4, and_self, if_true, d1, d2, or_true] at hT
                      simp (disch := omega) only [kB, kcx, kdm, kdn, kel, aop, resultsL, resultOf, Nat.reduceEqDiff, reduceCtorEq, eq1, apartOK, apart2, AObj.live, Int.reduceEq, Int.reduceLT, Int.reduceLE, Int.reduceAdd, Int.reduceSub, Int.reduceMul, Int.reduceToNat, cutCells, Nat.reduceAdd, Nat.reduceLeDiff, Nat.reduceLT, Nat.reduceMul, Nat.reduceSub, c0, hon, hrow, h0,  h11, w1]
                      refine ca _ ?_
                      simp (disch := omega) only [kB, kcx, kdm, kdn, kel, aop, resultsL, resultOf, Nat.reduceEqDiff, reduceCtorEq, eq1, apartOK, apart2, AObj.live, Int.reduceEq, Int.reduceLT, Int.reduceLE, Int.reduceAdd, Int.reduceSub, Int.reduceMul, Int.reduceToNat, cutCells, Nat.reduceAdd, Nat.reduceLeDiff, Nat.reduceLT, Nat.reduceMul, Nat.reduceSub, c0, hrow, h12]
                      refine cb _ ?_
                      simp (disch := omega) only [kB, kcx, kdm, kdn, kel, aop, resultsL, resultOf, Nat.reduceEqDiff, reduceCtorEq, eq1, apartOK, apart2, AObj.live, Int.reduceEq, Int.reduceLT, Int.reduceLE, Int.reduceAdd, Int.reduceSub, Int.reduceMul, Int.reduceToNat, cutCells, Nat.reduceAdd, Nat.reduceLeDiff, Nat.reduceLT, Nat.reduceMul, Nat.reduceSub, c0, hrow, h0,  w1, d1, d2, d3, d4, mm_max, w3, w4, w2]
                      exact hcl _ _ hT (by omega) (by omega) (by omega) (by omega) _ (by exact ex_env rfl)
                    · simp only [d3, d4, and_false, if_false, d1, d2, or_true] at hT
                      simp (disch := omega) only [kB, kcx, kdm, kdn, kel, aop, resultsL, resultOf, Nat.reduceEqDiff, reduceCtorEq, eq1, apartOK, apart2, AObj.live, Int.reduceEq, Int.reduceLT, Int.reduceLE, Int.reduceAdd, Int.reduceSub, Int.reduceMul, Int.reduceToNat, cutCells, Nat.reduceAdd, Nat.reduceLeDiff, Nat.reduceLT, Nat.reduceMul, Nat.reduceSub, c0, hon, hrow, h0,  h11, w1]
                      refine ca _ ?_
                      simp (disch := omega) only [kB, kcx, kdm, kdn, kel, aop, resultsL, resultOf, Nat.reduceEqDiff, reduceCtorEq, eq1, apartOK, apart2, AObj.live, Int.reduceEq, Int.reduceLT, Int.reduceLE, Int.reduceAdd, Int.reduceSub, Int.reduceMul, Int.reduceToNat, cutCells, Nat.reduceAdd, Nat.reduceLeDiff, Nat.reduceLT, Nat.reduceMul, Nat.reduceSub, c0, hrow, h12]
                      refine cb _ ?_
                      simp (disch := omega) only [kB, kcx, kdm, kdn, kel, aop, resultsL, resultOf, Nat.reduceEqDiff, reduceCtorEq, eq1, apartOK, apart2, AObj.live, Int.reduceEq, Int.reduceLT, Int.reduceLE, Int.reduceAdd, Int.reduceSub, Int.reduceMul, Int.reduceToNat, cutCells, Nat.reduceAdd, Nat.reduceLeDiff, Nat.reduceLT, Nat.reduceMul, Nat.reduceSub, c0, hrow, h0,  w1, d1, d2, d3, d4, mm_max, w3, w4, w2]
                      exact hcl _ _ hT (by omega) (by omega) (by omega) (by omega) _ (by exact ex_env rfl)
                  · simp only [d3, false_and, if_false, d1, d2, or_true] at hT
                    simp (disch := omega) only [kB, kcx, kdm, kdn, kel, aop, resultsL, resultOf, Nat.reduceEqDiff, reduceCtorEq, eq1, apartOK, apart2, AObj.live, Int.reduceEq, Int.reduceLT, Int.reduceLE, Int.reduceAdd, Int.reduceSub, Int.reduceMul, Int.reduceToNat, cutCells, Nat.reduceAdd, Nat.reduceLeDiff, Nat.reduceLT, Nat.reduceMul, Nat.reduceSub, c0, hon, hrow, h0,  h11, w1]
                    refine ca _ ?_
                    simp (disch := omega) only [kB, kcx, kdm, kdn, kel, aop, resultsL, resultOf, Nat.reduceEqDiff, reduceCtorEq, eq1, apartOK, apart2, AObj.live, Int.reduceEq, Int.reduceLT, Int.reduceLE, Int.reduceAdd, Int.reduceSub, Int.reduceMul, Int.reduceToNat, cutCells, Nat.reduceAdd, Nat.reduceLeDiff, Nat.reduceLT, Nat.reduceMul, Nat.reduceSub, c0, hrow, h12]
                    refine cb _ ?_
                    simp (disch := omega) only [kB, kcx, kdm, kdn, kel, aop, resultsL, resultOf, Nat.reduceEqDiff, reduceCtorEq, eq1, apartOK, apart2, AObj.live, Int.reduceEq, Int.reduceLT, Int.reduceLE, Int.reduceAdd, Int.reduceSub, Int.reduceMul, Int.reduceToNat, cutCells, Nat.reduceAdd, Nat.reduceLeDiff, Nat.reduceLT, Nat.reduceMul, Nat.reduceSub, c0, hrow, h0,  w1, d1, d2, d3, mm_max, w3, w4, w2]
                    exact hcl _ _ hT (by omega) (by omega) (by omega) (by omega) _ (by exact ex_env rfl)
                · by_cases d3 : pa < 0
                  · by_cases d4 : qa < 0
                    · simp only [d3, d4, and_self, if_true, d1, d2, or_self] at hT
                      simp (disch := omega) only [kB, kcx, kdm, kdn, kel, aop, resultsL, resultOf, Nat.reduceEqDiff, reduceCtorEq, eq1, apartOK, apart2, AObj.live, Int.reduceEq, Int.reduceLT, Int.reduceLE, Int.reduceAdd, Int.reduceSub, Int.reduceMul, Int.reduceToNat, cutCells, Nat.reduceAdd, Nat.reduceLeDiff, Nat.reduceLT, Nat.reduceMul, Nat.reduceSub, c0, hon, hrow, h0,  h11, w1]
                      refine ca _ ?_
                      simp (disch := omega) only [kB, kcx, kdm, kdn, kel, aop, resultsL, resultOf, Nat.reduceEqDiff, reduceCtorEq, eq1, apartOK, apart2, AObj.live, Int.reduceEq, Int.reduceLT, Int.reduceLE, Int.reduceAdd, Int.reduceSub, Int.reduceMul, Int.reduceToNat, cutCells, Nat.reduceAdd, Nat.reduceLeDiff, Nat.reduceLT, Nat.reduceMul, Nat.reduceSub, c0, hrow, h12]
                      refine cb _ ?_
                      simp (disch := omega) only [kB, kcx, kdm, kdn, kel, aop, resultsL, resultOf, Nat.reduceEqDiff, reduceCtorEq, eq1, apartOK, apart2, AObj.live, Int.reduceEq, Int.reduceLT, Int.reduceLE, Int.reduceAdd, Int.reduceSub, Int.reduceMul, Int.reduceToNat, cutCells, Nat.reduceAdd, Nat.reduceLeDiff, Nat.reduceLT, Nat.reduceMul, Nat.reduceSub, c0, hrow, h0,  w1, d1, d2, d3, d4, mm_max, w3, w4, w2]
                      exact hcl _ _ hT (by omega) (by omega) (by omega) (by omega) _ (by exact ex_env rfl)
                    · simp only [d3, d4, and_false, if_false, d1, d2, or_self] at hT
                      simp (disch := omega) only [kB, kcx, kdm, kdn, kel, aop, resultsL, resultOf, Nat.reduceEqDiff, reduceCtorEq, eq1, apartOK, apart2, AObj.live, Int.reduceEq, Int.reduceLT, Int.reduceLE, Int.reduceAdd, Int.reduceSub, Int.reduceMul, Int.reduceToNat, cutCells, Nat.reduceAdd, Nat.reduceLeDiff, Nat.reduceLT, Nat.reduceMul, Nat.reduceSub, c0, hon, hrow, h0,  h11, w1]
                      refine ca _ ?_
                      simp (disch := omega) only [kB, kcx, kdm, kdn, kel, aop, resultsL, resultOf, Nat.reduceEqDiff, reduceCtorEq, eq1, apartOK, apart2, AObj.live, Int.reduceEq, Int.reduceLT, Int.reduceLE, Int.reduceAdd, Int.reduceSub, Int.reduceMul, Int.reduceToNat, cutCells, Nat.reduceAdd, Nat.reduceLeDiff, Nat.reduceLT, Nat.reduceMul, Nat.reduceSub, c0, hrow, h12]
                      refine cb _ ?_
                      simp (disch := omega) only [kB, kcx, kdm, kdn, kel, aop, resultsL, resultOf, Nat.reduceEqDiff, reduceCtorEq, eq1, apartOK, apart2, AObj.live, Int.reduceEq, Int.reduceLT, Int.reduceLE, Int.reduceAdd, Int.reduceSub, Int.reduceMul, Int.reduceToNat, cutCells, Nat.reduceAdd, Nat.reduceLeDiff, Nat.reduceLT, Nat.reduceMul, Nat.reduceSub, c0, hrow, h0,  w1, d1, d2, d3, d4, mm_max, w3, w4, w2]
                      exact hcl _ _ hT (by omega) (by omega) (by omega) (by omega) _ (by exact ex_env rfl)
                  · simp only [d3, false_and, if_false, d1, d2, or_self] at hT
                    simp (disch := omega) only [kB, kcx, kdm, kdn, kel, aop, resultsL, resultOf, Nat.reduceEqDiff, reduceCtorEq, eq1, apartOK, apart2, AObj.live, Int.reduceEq, Int.reduceLT, Int.reduceLE, Int.reduceAdd, Int.reduceSub, Int.reduceMul, Int.reduceToNat, cutCells, Nat.reduceAdd, Nat.reduceLeDiff, Nat.reduceLT, Nat.reduceMul, Nat.reduceSub, c0, hon, hrow, h0,  h11, w1]
                    refine ca _ ?_
                    simp (disch := omega) only [kB, kcx, kdm, kdn, kel, aop, resultsL, resultOf, Nat.reduceEqDiff, reduceCtorEq, eq1, apartOK, apart2, AObj.live, Int.reduceEq, Int.reduceLT, Int.reduceLE, Int.reduceAdd, Int.reduceSub, Int.reduceMul, Int.reduceToNat, cutCells, Nat.reduceAdd, Nat.reduceLeDiff, Nat.reduceLT, Nat.reduceMul, Nat.reduceSub, c0, hrow, h12]
                    refine cb _ ?_
                    simp (disch := omega) only [kB, kcx, kdm, kdn, kel, aop, resultsL, resultOf, Nat.reduceEqDiff, reduceCtorEq, eq1, apartOK, apart2, AObj.live, Int.reduceEq, Int.reduceLT, Int.reduceLE, Int.reduceAdd, Int.reduceSub, Int.reduceMul, Int.reduceToNat, cutCells, Nat.reduceAdd, Nat.reduceLeDiff, Nat.reduceLT, Nat.reduceMul, Nat.reduceSub, c0, hrow, h0,  w1, d1, d2, d3, mm_max, w3, w4, w2]
                    exact hcl _ _ hT (by omega) (by omega) (by omega) (by omega) _ (by exact ex_env rfl)
          · have k11 : ¬ x.kind = 1 := fun q => k1 (.inl q)
            have k12 : ¬ x.kind = 2 := fun q => k1 (.inr q)
            rw [mstN, if_neg k3, if_neg k1] at hT
            simp (disch := omega) only [kB, kcx, kdm, kdn, kel, aop, resultsL, resultOf, Nat.reduceEqDiff, reduceCtorEq, eq1, apartOK, apart2, AObj.live, Int.reduceEq, Int.reduceLT, Int.reduceLE, Int.reduceAdd, Int.reduceSub, Int.reduceMul, Int.reduceToNat, cutCells, Nat.reduceAdd, Nat.reduceLeDiff, Nat.reduceLT, Nat.reduceMul, Nat.reduceSub, c0, hon, hrow, h0, k3, k11, k12, w2]
            exact ⟨l.length - (i + 1), by omega, i + 1, on, en, by omega, rfl, rfl, hT, by omega, by omega, by omega, by omega, by exact ex_env rfl⟩
      · have e1 : mstL (l.drop i) on en = (on, en) := by
          cases l.drop i with
          | nil => rfl
          | cons y r => rw [mstL, if_neg hon]
        rw [hT, e1] at h
        simp (disch := omega) only [kB, kcx, kdm, kdn, kel, aop, resultsL, resultOf, Nat.reduceEqDiff, reduceCtorEq, eq1, apartOK, apart2, AObj.live, Int.reduceEq, Int.reduceLT, Int.reduceLE, Int.reduceAdd, Int.reduceSub, Int.reduceMul, Int.reduceToNat, cutCells, Nat.reduceAdd, Nat.reduceLeDiff, Nat.reduceLT, Nat.reduceMul, Nat.reduceSub, c0, hon]
        exact h
    · have c0 : ¬ (i : Int) < (l.length : Int) := by omega
      have hil : i = l.length := by omega
      rw [hil, List.drop_length, mstL] at hT
      rw [hT] at h
      simp (disch := omega) only [kB, kcx, kdm, kdn, kel, aop, resultsL, resultOf, Nat.reduceEqDiff, reduceCtorEq, eq1, apartOK, apart2, AObj.live, Int.reduceEq, Int.reduceLT, Int.reduceLE, Int.reduceAdd, Int.reduceSub, Int.reduceMul, Int.reduceToNat, cutCells, Nat.reduceAdd, Nat.reduceLeDiff, Nat.reduceLT, Nat.reduceMul, Nat.reduceSub, c0]
      exact h

end Go.Proofs.Ytpllhhaeclnngaa.Ev

/- The tables that a control asks: the program. -/
namespace Go.Proofs.Ytpllhhaeclnngaa.Ev
set_option maxRecDepth 100000
set_option linter.unusedSimpArgs false
set_option linter.unusedVariables false
variable {R : FRes → Heap → Prop} {H : Heap}

/-- A text as the cells of an element. -/
def txC (t : List UInt8) : List Value := [.string (bs t)]
/-- A list of texts that grows. -/
def TxG (n0 : Nat) (H : Heap) (sv : Value) (L : List (List UInt8)) : Prop := SLs 1 n0 H sv (L.map txC)
theorem TxG.sl {n0 : Nat} {sv : Value} {L : List (List UInt8)} (h : TxG n0 H sv L) : ∃ ad, sv = .slice ad L.length L.length := by
  obtain ⟨ad, q⟩ := h.len
  exact ⟨ad, by simpa using q⟩
theorem tx_flat (L : List (List UInt8)) : (L.map txC).flatten = L.map fun t => Value.string (bs t) := by
  induction L with
  | nil => rfl
  | cons x L ih => rw [List.map_cons, List.flatten_cons, ih]; rfl
theorem TxG.row {n0 n m : Nat} {ad : Option Addr} {L : List (List UInt8)} (h : TxG n0 H (.slice ad n m) L) (hL : 0 < L.length) : ∃ k, ad = some ⟨k, 0, none⟩ ∧ n0 ≤ k ∧ k < H.length ∧ hget H k = .row (L.map fun t => Value.string (bs t)) 1 true := by
  rcases h with ⟨h1, h2⟩ | ⟨h1, k, k0, h2, h3, h4⟩
  · simp at h1; subst h1; simp at hL
  · injection h2 with e
    rw [tx_flat] at h3
    exact ⟨k, e, k0, hget_lt h3 rfl, h3⟩

def ixI (H : Heap) (ad : Option Addr) (t : List UInt8) (L : List (List UInt8)) : Nat → Env → Heap → Prop := fun z e K =>
  ∃ i : Nat, i ≤ L.length ∧ z = L.length - i ∧ K = H ∧ (∀ j (hj : j < L.length), j < i → L[j] ≠ t) ∧ (∃ x : Nat → Value, e = [.slice ad L.length L.length, .string (bs t), x 2, x 3, x 4, x 5, x 6, .int .i64 (L.length : Int), .int .i64 (i : Int), x 9, x 10, x 11, x 12, x 13, x 14, x 15, x 16, x 17, x 18])

theorem index_s {n0 : Nat} {ad : Option Addr} {t : List UInt8} {L : List (List UInt8)} (hL : L.length ≤ 4611686018427387904) (hs : TxG n0 H (.slice ad L.length L.length) L)
    (h : R (.ret (.bool (decide (t ∈ L)))) H) : WD T 35 [.slice ad L.length L.length, .string (bs t)] H R := by
  refine WD.of follows t35 (by simp) ?_
  simp (disch := omega) only [kB, kcx, kdm, kdn, kel, aop, resultsL, resultOf, Nat.reduceEqDiff, reduceCtorEq, eq1, apartOK, apart2, AObj.live, Int.reduceEq, Int.reduceLT, Int.reduceLE, Int.reduceAdd, Int.reduceSub, Int.reduceMul, Int.reduceToNat, cutCells, Nat.reduceAdd, Nat.reduceLeDiff, Nat.reduceLT, Nat.reduceMul, Nat.reduceSub]
  refine WD.of follows t77 (by simp) ?_
  simp (disch := omega) only [kB, kcx, kdm, kdn, kel, aop, resultsL, resultOf, Nat.reduceEqDiff, reduceCtorEq, eq1, apartOK, apart2, AObj.live, Int.reduceEq, Int.reduceLT, Int.reduceLE, Int.reduceAdd, Int.reduceSub, Int.reduceMul, Int.reduceToNat, cutCells, Nat.reduceAdd, Nat.reduceLeDiff, Nat.reduceLT, Nat.reduceMul, Nat.reduceSub]
  refine WLoop.inv (ixI H ad t L) ?_ L.length _ _ ⟨0, Nat.zero_le _, by omega, rfl, fun j hj h0 => by omega, by exact ex_env rfl⟩
  rintro z e K ⟨i, hi, rfl, rfl, hno, ⟨x, rfl⟩⟩
  by_cases hlt : i < L.length
  · have c0 : (i : Int) < (L.length : Int) := by omega
    obtain ⟨k, rfl, _, hk, hrow⟩ := hs.row (by omega)
    have hg : (L.map fun t => Value.string (bs t))[i]? = some (.string (bs L[i])) := by rw [List.getElem?_map, List.getElem?_eq_getElem hlt]; rfl
    have w2 : IntKind.i64.wrap ((i : Int) + 1) = ((i + 1 : Nat) : Int) := by rw [show (i : Int) + 1 = ((i + 1 : Nat) : Int) by omega]; exact wr_i64 (by omega) (by omega)
    by_cases he : t = L[i]
    · have hin : t ∈ L := by rw [he]; exact List.getElem_mem hlt
      have c3 : (0 : Int) ≤ (i : Int) := by omega
      simp (disch := omega) only [kB, kcx, kdm, kdn, kel, aop, resultsL, resultOf, Nat.reduceEqDiff, reduceCtorEq, eq1, apartOK, apart2, AObj.live, Int.reduceEq, Int.reduceLT, Int.reduceLE, Int.reduceAdd, Int.reduceSub, Int.reduceMul, Int.reduceToNat, cutCells, Nat.reduceAdd, Nat.reduceLeDiff, Nat.reduceLT, Nat.reduceMul, Nat.reduceSub, c0, hrow, hg, decide_eq_true he, c3]
      simpa [hin] using h
    · simp (disch := omega) only [kB, kcx, kdm, kdn, kel, aop, resultsL, resultOf, Nat.reduceEqDiff, reduceCtorEq, eq1, apartOK, apart2, AObj.live, Int.reduceEq, Int.reduceLT, Int.reduceLE, Int.reduceAdd, Int.reduceSub, Int.reduceMul, Int.reduceToNat, cutCells, Nat.reduceAdd, Nat.reduceLeDiff, Nat.reduceLT, Nat.reduceMul, Nat.reduceSub, c0, hrow, hg, decide_eq_false he, w2]
      exact ⟨L.length - (i + 1), by omega, i + 1, by omega, rfl, rfl, fun j hj h1 => by
        by_cases q : j = i
        · subst q; exact fun h => he h.symm
        · exact hno j hj (by omega), by exact ex_env rfl⟩
  · have c0 : ¬ (i : Int) < (L.length : Int) := by omega
    have hin : ¬ t ∈ L := fun h => by
      obtain ⟨j, hj, rfl⟩ := List.getElem_of_mem h
      exact hno j hj (by omega) rfl
    simp (disch := omega) only [kB, kcx, kdm, kdn, kel, aop, resultsL, resultOf, Nat.reduceEqDiff, reduceCtorEq, eq1, apartOK, apart2, AObj.live, Int.reduceEq, Int.reduceLT, Int.reduceLE, Int.reduceAdd, Int.reduceSub, Int.reduceMul, Int.reduceToNat, cutCells, Nat.reduceAdd, Nat.reduceLeDiff, Nat.reduceLT, Nat.reduceMul, Nat.reduceSub, c0]
    simpa [hin] using h

/-- The distinct tables of the stages that ask one. -/
def askS : List (List UInt8) → Nat × St → List (List UInt8) × Bool := fun s x => (if x.2.kind = 1 ∧ ¬ x.2.table ∈ s then s ++ [x.2.table] else s, true)

theorem nodup_len {α : Type} [DecidableEq α] : ∀ {s T : List α}, s.Nodup → (∀ t ∈ s, t ∈ T) → s.length ≤ T.length
  | [], T, _, _ => by simp
  | x :: s, T, h, hs => by
    have hx : x ∈ T := hs x (by simp)
    have ih := nodup_len (s := s) (T := T.erase x) (List.nodup_cons.1 h).2 (fun t ht => by
      have hne : t ≠ x := fun e => (List.nodup_cons.1 h).1 (e ▸ ht)
      exact (List.mem_erase_of_ne hne).2 (hs t (by simp [ht])))
    rw [List.length_erase_of_mem hx] at ih
    have : 0 < T.length := List.length_pos_of_mem hx
    simp only [List.length_cons]
    omega

def askQ (H : Heap) (Ts : List (List UInt8)) (s : List (List UInt8)) (K : Heap) : Prop :=
  H.length + 1 ≤ K.length ∧ (∀ b, b < H.length → hget K b = hget H b) ∧ (s.Nodup ∧ ∀ t ∈ s, t ∈ Ts) ∧ ∃ sv, hget K H.length = .row [sv] 0 true ∧ TxG (H.length + 1) K sv s
def askF (H : Heap) (K : Heap) (c : Nat) : Prop := c = H.length ∨ ∃ sv, hget K H.length = .row [sv] 0 true ∧ blk sv = some c

theorem askOK {Ts : List (List UInt8)} : StateOK H (askQ H Ts) (askF H) where
  old := fun h => ⟨by have := h.1; omega, h.2.1⟩
  app := fun {s K} g h => by
    obtain ⟨h1, h2, h0, sv, h3, h4⟩ := h
    exact ⟨by simp; omega, fun b hb => by rw [hget_old (by omega)]; exact h2 b hb, h0, sv, by rw [hget_old (by omega)]; exact h3, SLs.app h4⟩
  fin := fun {s K c} h hf => by
    obtain ⟨h1, h2, h0, sv, h3, h4⟩ := h
    rcases hf with rfl | ⟨sv2, q1, q2⟩
    · omega
    · rw [h3] at q1
      cases q1
      exact (h4.lt q2).1
  fpa := fun {s K c} g h hf => by
    obtain ⟨h1, h2, h0, sv, h3, h4⟩ := h
    rcases hf with rfl | ⟨sv2, q1, q2⟩
    · exact .inl rfl
    · rw [hget_old (by omega)] at q1
      exact .inr ⟨sv2, q1, q2⟩

theorem St.cell0 {s : St} : ∃ t, s.cells = .int .i64 s.kind :: .string (bs s.table) :: t := by cases s; exact ⟨_, rfl⟩

theorem askC {Ts : List (List UInt8)} (hT : Ts.length ≤ 128) : ClosureOK H (askQ H Ts) (askF H) (fun y => y.1 ≤ 8 ∧ y.2.table ∈ Ts) (fun d s => d ≤ 9) askS 34 [.pointer (some ⟨H.length, 0, none⟩)] := by
  intro s K d x R hq hx hgd hlv h
  have hQ := hq
  obtain ⟨q1, q2, ⟨q3, q4⟩, sv, q5, q6⟩ := hq
  obtain ⟨ad, rfl⟩ := q6.sl
  have hsl : s.length ≤ 128 := Nat.le_trans (nodup_len q3 q4) hT
  have hone := hx.one
  have hp : H.length < K.length := by omega
  obtain ⟨ct, hct⟩ := x.cell0
  have hnew : TxG (H.length + 1) (K ++ [.row x.cells 0 true]) (.slice ad s.length s.length) s := SLs.app q6
  refine WD.of follows t34 (by simp) ?_
  by_cases c1 : x.kind = 1
  · by_cases c2 : x.table ∈ s
    · have e : (askS s (d, x)).1 = s := by simp [askS, c2]
      rw [e] at h
      rw [c1] at hct
      rw [hct] at hone hnew ⊢
      simp (disch := omega) only [kB, kcx, kdm, kdn, kel, aop, resultsL, resultOf, Nat.reduceEqDiff, reduceCtorEq, eq1, apartOK, apart2, AObj.live, Int.reduceEq, Int.reduceLT, Int.reduceLE, Int.reduceAdd, Int.reduceSub, Int.reduceMul, Int.reduceToNat, cutCells, Nat.reduceAdd, Nat.reduceLeDiff, Nat.reduceLT, Nat.reduceMul, Nat.reduceSub, q5, hone]
      refine index_s (by omega) hnew ?_
      simp (disch := omega) only [kB, kcx, kdm, kdn, kel, aop, resultsL, resultOf, Nat.reduceEqDiff, reduceCtorEq, eq1, apartOK, apart2, AObj.live, Int.reduceEq, Int.reduceLT, Int.reduceLE, Int.reduceAdd, Int.reduceSub, Int.reduceMul, Int.reduceToNat, cutCells, Nat.reduceAdd, Nat.reduceLeDiff, Nat.reduceLT, Nat.reduceMul, Nat.reduceSub, decide_eq_true c2]
      exact h _ (by rw [← hct]; exact askOK.app _ hQ) (by rw [← hct]; exact askOK.fr _ hQ)
    · have e : (askS s (d, x)).1 = s ++ [x.table] := by simp [askS, c1, c2]
      rw [e] at h
      rw [c1] at hct
      rw [hct] at hone hnew ⊢
      simp (disch := omega) only [kB, kcx, kdm, kdn, kel, aop, resultsL, resultOf, Nat.reduceEqDiff, reduceCtorEq, eq1, apartOK, apart2, AObj.live, Int.reduceEq, Int.reduceLT, Int.reduceLE, Int.reduceAdd, Int.reduceSub, Int.reduceMul, Int.reduceToNat, cutCells, Nat.reduceAdd, Nat.reduceLeDiff, Nat.reduceLT, Nat.reduceMul, Nat.reduceSub, q5, hone]
      refine index_s (by omega) hnew ?_
      simp (disch := omega) only [kB, kcx, kdm, kdn, kel, aop, resultsL, resultOf, Nat.reduceEqDiff, reduceCtorEq, eq1, apartOK, apart2, AObj.live, Int.reduceEq, Int.reduceLT, Int.reduceLE, Int.reduceAdd, Int.reduceSub, Int.reduceMul, Int.reduceToNat, cutCells, Nat.reduceAdd, Nat.reduceLeDiff, Nat.reduceLT, Nat.reduceMul, Nat.reduceSub, decide_eq_false c2, q5]
      obtain ⟨ad2, K2, b1, b2, b3, b4, b5, b6, b7⟩ := app_box (u := 1) (n0 := H.length + 1) (bytes := 16) (p := H.length) (K := K ++ [AObj.row (Value.int .i64 1 :: Value.string (bs x.table) :: ct) 0 true]) (sv := .slice ad s.length s.length) (css := s.map txC) (xs := txC x.table)
        (by rw [hget_old hp]; exact q5) (show SLs 1 _ _ _ _ from hnew) (by simp; omega) (by decide) rfl rfl (by simp only [roomMax, List.length_map]; omega)
      simp only [txC, List.append_assoc, List.length_append, List.length_cons, List.length_nil, Nat.zero_add, List.cons_append, List.nil_append, List.length_map] at b1 b3 b4 b6 b7
      simp (disch := omega) only [kB, kcx, kdm, kdn, kel, aop, resultsL, resultOf, Nat.reduceEqDiff, reduceCtorEq, eq1, apartOK, apart2, AObj.live, Int.reduceEq, Int.reduceLT, Int.reduceLE, Int.reduceAdd, Int.reduceSub, Int.reduceMul, Int.reduceToNat, cutCells, Nat.reduceAdd, Nat.reduceLeDiff, Nat.reduceLT, Nat.reduceMul, Nat.reduceSub, b1, b2]
      refine h _ ⟨?_, ?_, ⟨?_, ?_⟩, .slice ad2 (s.length + 1) (s.length + 1), ?_, ?_⟩ ⟨?_, ?_⟩
      · simp; omega
      · intro c hc
        rw [b7 c (by omega) (by omega) (fun q => by have := (q6.lt q).2; omega), hget_old (by omega)]
        exact q2 c hc
      · rw [List.nodup_append]
        exact ⟨q3, by simp, fun y hy z hz => by simp at hz; subst hz; exact fun q => c2 (q ▸ hy)⟩
      · intro t ht
        rcases List.mem_append.1 ht with h1 | h1
        · exact q4 t h1
        · simp at h1; subst h1; exact hgd.2
      · rw [hget_set' b5]
      · rw [TxG, List.map_append]
        exact b3
      · simp; omega
      · intro c hc hf
        simp only [askF, not_or, not_exists, not_and] at hf
        obtain ⟨f1, f2⟩ := hf
        refine ⟨?_, ?_⟩
        · rw [b7 c (by omega) f1 (f2 _ q5), hget_old hc]
        · rintro (q | ⟨sv, q, r⟩)
          · exact f1 q
          · rw [hget_set' b5] at q
            cases q
            have := b6 c r
            omega
  · have e : (askS s (d, x)).1 = s := by simp [askS, c1]
    rw [e] at h
    rw [hct] at hone hnew ⊢
    simp (disch := omega) only [kB, kcx, kdm, kdn, kel, aop, resultsL, resultOf, Nat.reduceEqDiff, reduceCtorEq, eq1, apartOK, apart2, AObj.live, Int.reduceEq, Int.reduceLT, Int.reduceLE, Int.reduceAdd, Int.reduceSub, Int.reduceMul, Int.reduceToNat, cutCells, Nat.reduceAdd, Nat.reduceLeDiff, Nat.reduceLT, Nat.reduceMul, Nat.reduceSub, q5, hone, c1]
    exact h _ (by rw [← hct]; exact askOK.app _ hQ) (by rw [← hct]; exact askOK.fr _ hQ)

/-- The tables that the control asks, each once. -/
def askL (l : List St) : List (List UInt8) := (foldS askS [] (flatL 1 l)).1

theorem ask_true : ∀ (l : List (Nat × St)) (s : List (List UInt8)), (foldS askS s l).2 = true
  | [], s => rfl
  | x :: l, s => by
    rw [foldS, if_pos (show (askS s x).2 = true from rfl)]
    exact ask_true l _
theorem ask_all : ∀ (l : List (Nat × St)) (s : List (List UInt8)) (W : List (Nat × St)), s.Nodup → (∀ t ∈ s, ∃ y ∈ W, y.2.kind = 1 ∧ y.2.table = t) → (∀ y ∈ l, y ∈ W) → (foldS askS s l).1.Nodup ∧ ∀ t ∈ (foldS askS s l).1, ∃ y ∈ W, y.2.kind = 1 ∧ y.2.table = t
  | [], s, W, h1, h2, _ => ⟨h1, h2⟩
  | x :: l, s, W, h1, h2, h3 => by
    rw [foldS, if_pos (show (askS s x).2 = true from rfl)]
    refine ask_all l _ W ?_ ?_ fun y hy => h3 y (by simp [hy])
    · simp only [askS]
      split
      · rename_i h
        rw [List.nodup_append]
        exact ⟨h1, by simp, fun y hy z hz => by simp at hz; subst hz; exact fun q => h.2 (q ▸ hy)⟩
      · exact h1
    · simp only [askS]
      split
      · rename_i h
        intro t ht
        rcases List.mem_append.1 ht with q | q
        · exact h2 t q
        · simp at q; subst q; exact ⟨x, h3 x (by simp), h.1, rfl⟩
      · exact h2

set_option maxHeartbeats 1000000 in
theorem applied_s {n : Nat} {l : List St} (hl : SmallL n l) {s0 s1 s2 s3 s4 ct : Value} (hv : StSl H l ct) (hone : [s0, s1, s2, s3, s4, ct].all oneCell = true)
    (h0 : tallE l ≠ 0 → ∀ K, H.length ≤ K.length → (∀ c, c < H.length → hget K c = hget H c) → R (.ret (.slice none 0 0)) K)
    (h : tallE l = 0 → ∀ K ad, H.length ≤ K.length → (∀ c, c < H.length → hget K c = hget H c) → TxG H.length K (.slice ad (askL l).length (askL l).length) (askL l) → (askL l).Nodup → (∀ t ∈ askL l, ∃ y ∈ flatL 1 l, y.2.kind = 1 ∧ y.2.table = t) → (askL l).length ≤ 128 → R (.ret (.slice ad (askL l).length (askL l).length)) K) : WD T 12 [.agg #[s0, s1, s2, s3, s4, ct]] H R := by
  refine WD.of follows t12 (by simp) ?_
  have hone2 := hone
  simp only [List.all_cons, List.all_nil, Bool.and_true, Bool.and_eq_true] at hone
  obtain ⟨o0, o1, o2, o3, o4, o5⟩ := hone
  simp (disch := omega) only [kB, kcx, kdm, kdn, kel, aop, resultsL, resultOf, Nat.reduceEqDiff, reduceCtorEq, eq1, apartOK, apart2, AObj.live, Int.reduceEq, Int.reduceLT, Int.reduceLE, Int.reduceAdd, Int.reduceSub, Int.reduceMul, Int.reduceToNat, cutCells, Nat.reduceAdd, Nat.reduceLeDiff, Nat.reduceLT, Nat.reduceMul, Nat.reduceSub, o0, o1, o2, o3, o4, o5]
  refine tall_s hl (hv.app _) hone2 ?_
  intro K k1 k2
  simp only [List.length_append, List.length_cons, List.length_nil, Nat.zero_add] at k1 k2
  have kH : ∀ c, c < H.length → hget K c = hget H c := fun c hc => by rw [k2 c (by omega), hget_old hc]
  by_cases c0 : tallE l = 0
  · have hrow : hget K H.length = .row [s0, s1, s2, s3, s4, ct] 0 true := by rw [k2 _ (by omega), hget_last]
    have hlt : H.length < K.length := by omega
    rw [c0, show (((0 : Nat)) : Int) = 0 from rfl]
    simp (disch := omega) only [kB, kcx, kdm, kdn, kel, aop, resultsL, resultOf, Nat.reduceEqDiff, reduceCtorEq, eq1, apartOK, apart2, AObj.live, Int.reduceEq, Int.reduceLT, Int.reduceLE, Int.reduceAdd, Int.reduceSub, Int.reduceMul, Int.reduceToNat, cutCells, Nat.reduceAdd, Nat.reduceLeDiff, Nat.reduceLT, Nat.reduceMul, Nat.reduceSub, hrow]
    have hcl := askC (H := K) (Ts := (flatL 1 l).map fun y => y.2.table) (by
      rw [List.length_map]
      simp only [tallE] at c0
      by_cases q : 128 < (flatL 1 l).length
      · rw [if_pos q] at c0; cases c0
      · omega)
    have hdeep : ∀ y ∈ flatL 1 l, y.1 ≤ 8 := by
      intro y hy
      simp only [tallE] at c0
      by_cases q : 128 < (flatL 1 l).length
      · rw [if_pos q] at c0; cases c0
      · rw [if_neg q] at c0
        by_cases q2 : (flatL 1 l).any (fun x => decide (8 < x.1)) = true
        · rw [if_pos q2] at c0; cases c0
        · refine Nat.le_of_not_lt fun h8 => q2 (List.any_eq_true.2 ⟨y, hy, by simpa using h8⟩)
    refine walk_s (askOK (H := K)) ⟨fun h => by omega, fun h => by omega, fun {d s x} hg h _ => by have := hg.1; simp only at this; omega⟩ hcl n l hl 1 [] _ ct _ (by omega) (fun y hy => ⟨hdeep y hy, List.mem_map.2 ⟨y, hy, rfl⟩⟩) ⟨by simp, fun b hb => hget_old hb, ⟨List.nodup_nil, fun t ht => by cases ht⟩, .slice none 0 0, hget_last .., .inl ⟨rfl, rfl⟩⟩ (hv.mono (by omega) kH) ?_
    intro K2 hq _
    rw [ask_true]
    obtain ⟨q1, q2, ⟨q3, q4⟩, sv, q5, q6⟩ := hq
    obtain ⟨ad, rfl⟩ := q6.sl
    simp (disch := omega) only [kB, kcx, kdm, kdn, kel, aop, resultsL, resultOf, Nat.reduceEqDiff, reduceCtorEq, eq1, apartOK, apart2, AObj.live, Int.reduceEq, Int.reduceLT, Int.reduceLE, Int.reduceAdd, Int.reduceSub, Int.reduceMul, Int.reduceToNat, cutCells, Nat.reduceAdd, Nat.reduceLeDiff, Nat.reduceLT, Nat.reduceMul, Nat.reduceSub, q5]
    obtain ⟨a1, a2⟩ := ask_all (flatL 1 l) [] (flatL 1 l) List.nodup_nil (fun t ht => by cases ht) (fun _ h => h)
    refine h c0 K2 ad (by omega) (fun c hc => by rw [q2 c (by omega)]; exact kH c hc) ?_ a1 a2 ?_
    · rcases q6 with q | ⟨q, k, r1, r2⟩
      · exact .inl q
      · exact .inr ⟨q, k, by omega, r2⟩
    · have := nodup_len q3 q4
      rw [List.length_map] at this
      simp only [tallE] at c0
      by_cases q : 128 < (flatL 1 l).length
      · rw [if_pos q] at c0; cases c0
      · exact Nat.le_trans this (by omega)
  · have c1 : ¬ ((tallE l : Nat) : Int) = 0 := by omega
    have hh := h0 c0 K (by omega) kH
    simp (disch := omega) only [kB, kcx, kdm, kdn, kel, aop, resultsL, resultOf, Nat.reduceEqDiff, reduceCtorEq, eq1, apartOK, apart2, AObj.live, Int.reduceEq, Int.reduceLT, Int.reduceLE, Int.reduceAdd, Int.reduceSub, Int.reduceMul, Int.reduceToNat, cutCells, Nat.reduceAdd, Nat.reduceLeDiff, Nat.reduceLT, Nat.reduceMul, Nat.reduceSub, c1]
    exact hh

end Go.Proofs.Ytpllhhaeclnngaa.Ev

/- The document's list of all stages. -/
namespace Go.Proofs.Ytpllhhaeclnngaa.Ev
set_option maxRecDepth 100000
set_option linter.unusedSimpArgs false
set_option linter.unusedVariables false
variable {R : FRes → Heap → Prop} {H : Heap}

/-- A stage with its depth as an element's cells. -/
def stC (y : Nat × St) : List Value := y.2.cells ++ [.int .i64 (y.1 : Int)]
def StG (n0 : Nat) (H : Heap) (sv : Value) (L : List (Nat × St)) : Prop := SLs 14 n0 H sv (L.map stC)
theorem StG.sl {n0 : Nat} {sv : Value} {L : List (Nat × St)} (h : StG n0 H sv L) : ∃ ad, sv = .slice ad L.length L.length := by
  obtain ⟨ad, q⟩ := h.len
  exact ⟨ad, by simpa using q⟩

theorem take_take_app {α : Type} (n : Nat) (A B : List α) : ((A.take n) ++ B).take n = (A ++ B).take n := by
  refine List.ext_getElem? fun j => ?_
  simp only [List.getElem?_take]
  by_cases h : j < n
  · simp only [if_pos h]
    by_cases h1 : j < A.length
    · rw [List.getElem?_append_left (by rw [List.length_take]; omega), List.getElem?_append_left h1, List.getElem?_take_of_lt h]
    · rw [List.getElem?_append_right (by rw [List.length_take]; omega), List.getElem?_append_right (by omega), List.length_take, Nat.min_eq_right (by omega)]
  · simp only [if_neg h]

def sgI (H : Heap) (n0 d : Nat) (l : List St) (v : Value) (L0 : List (Nat × St)) (K : Heap) : Nat → Env → Heap → Prop := fun z e K' =>
  ∃ (i : Nat) (ad : Option Addr) (L : List (Nat × St)), i ≤ l.length ∧ z = l.length - i ∧ n0 ≤ K'.length ∧ (∀ c, c < n0 → hget K' c = hget K c) ∧ L = (L0 ++ flatL d (l.take i)).take 129 ∧ StG n0 K' (.slice ad L.length L.length) L ∧
    (∃ x : Nat → Value, e = [.slice ad L.length L.length, v, .int .i64 (d : Int), x 3, x 4, x 5, x 6, .int .i64 (i : Int), x 8, x 9, x 10, x 11, x 12, x 13, x 14, x 15, x 16, x 17, x 18, x 19, x 20, x 21, x 22, x 23, x 24, x 25, x 26, x 27, x 28, x 29, x 30, x 31, x 32, x 33, x 34, x 35, x 36, x 37, x 38, x 39, x 40, x 41, x 42, x 43, x 44, x 45, x 46])

set_option maxHeartbeats 1000000 in
theorem stages_s {n0 : Nat} (hn0 : H.length ≤ n0) : ∀ (n : Nat) (l : List St), SmallL n l → ∀ (d : Nat) (L0 : List (Nat × St)) (K : Heap) (sv v : Value) (R : FRes → Heap → Prop), d ≤ L0.length + 1 → L0.length ≤ 129 → n0 ≤ K.length →
    (∀ c, c < H.length → hget K c = hget H c) → StG n0 K sv L0 → StSl H l v →
    (∀ ad L K', n0 ≤ K'.length → (∀ c, c < n0 → hget K' c = hget K c) → L = (L0 ++ flatL d l).take 129 → StG n0 K' (.slice ad L.length L.length) L → R (.ret (.slice ad L.length L.length)) K') → WD T 78 [sv, v, .int .i64 (d : Int)] K R := by
  intro n
  induction n with
  | zero =>
    intro l hl d L0 K sv v R hd hL0 hnk hk hs hv h
    obtain rfl : l = [] := hl
    simp only [StSl] at hv
    obtain ⟨ad, rfl⟩ := hv
    obtain ⟨ad0, rfl⟩ := hs.sl
    refine WD.of follows t78 (by simp) ?_
    simp (disch := omega) only [kB, kcx, kdm, kdn, kel, aop, resultsL, resultOf, Nat.reduceEqDiff, reduceCtorEq, eq1, apartOK, apart2, AObj.live, Int.reduceEq, Int.reduceLT, Int.reduceLE, Int.reduceAdd, Int.reduceSub, Int.reduceMul, Int.reduceToNat, cutCells, Nat.reduceAdd, Nat.reduceLeDiff, Nat.reduceLT, Nat.reduceMul, Nat.reduceSub]
    refine WLoop.inv (fun z e K' => K' = K ∧ (∃ x : Nat → Value, e = [.slice ad0 L0.length L0.length, .slice ad 0 0, x 2, x 3, x 4, x 5, x 6, .int .i64 0, x 8, x 9, x 10, x 11, x 12, x 13, x 14, x 15, x 16, x 17, x 18, x 19, x 20, x 21, x 22, x 23, x 24, x 25, x 26, x 27, x 28, x 29, x 30, x 31, x 32, x 33, x 34, x 35, x 36, x 37, x 38, x 39, x 40, x 41, x 42, x 43, x 44, x 45, x 46])) ?_ 0 _ _ ⟨rfl, by exact ex_env rfl⟩
    rintro z e K' ⟨rfl, ⟨x, rfl⟩⟩
    simp (disch := omega) only [kB, kcx, kdm, kdn, kel, aop, resultsL, resultOf, Nat.reduceEqDiff, reduceCtorEq, eq1, apartOK, apart2, AObj.live, Int.reduceEq, Int.reduceLT, Int.reduceLE, Int.reduceAdd, Int.reduceSub, Int.reduceMul, Int.reduceToNat, cutCells, Nat.reduceAdd, Nat.reduceLeDiff, Nat.reduceLT, Nat.reduceMul, Nat.reduceSub]
    exact h _ _ _ hnk (fun c _ => rfl) (by simp [flatL]; rw [List.take_of_length_le hL0]) hs
  | succ n ih =>
    intro l hl d L0 K sv v R hd hL0 hnk hk hs hv h
    have hsub : ∀ s ∈ l, SmallL n s.thn ∧ SmallL n s.els := fun s hs => hl.sub hs
    have hlen := hl.1
    obtain ⟨ad, rfl⟩ := hv.sl
    obtain ⟨ad0, rfl⟩ := hs.sl
    have hall := hv.all
    refine WD.of follows t78 (by simp) ?_
    simp (disch := omega) only [kB, kcx, kdm, kdn, kel, aop, resultsL, resultOf, Nat.reduceEqDiff, reduceCtorEq, eq1, apartOK, apart2, AObj.live, Int.reduceEq, Int.reduceLT, Int.reduceLE, Int.reduceAdd, Int.reduceSub, Int.reduceMul, Int.reduceToNat, cutCells, Nat.reduceAdd, Nat.reduceLeDiff, Nat.reduceLT, Nat.reduceMul, Nat.reduceSub]
    refine WLoop.inv (sgI H n0 d l (.slice ad l.length l.length) L0 K) ?_ l.length _ _ ⟨0, ad0, L0, Nat.zero_le _, by omega, hnk, fun c _ => rfl, by simp [flatL]; rw [List.take_of_length_le hL0], hs, by exact ex_env rfl⟩
    rintro z e K' ⟨i, ad1, L, hi, rfl, hk1, hk2, hL, hg, ⟨x, rfl⟩⟩
    by_cases hlt : i < l.length
    · have c0 : (i : Int) < (l.length : Int) := by omega
      by_cases hfull : L.length ≤ 128
      · have c1 : (L.length : Int) ≤ 128 := by omega
        obtain ⟨b, rfl, hb, hrow⟩ := hv.row (by omega)
        have hsc : StOK H l[i] := hall.get (List.getElem_mem hlt)
        have hle : i * 13 + 13 ≤ (cellsL l).length := by rw [cellsL_len hall]; omega
        have hrow' : hget K' b = .row (cellsL l) 0 false := by rw [hk2 b (by omega), hk b hb]; exact hrow
        have hcut := cellsL_cut hall hlt
        have hone := hsc.one
        have h11 := cellsL_at hall (j := 11) hlt (by decide)
        have h12 := cellsL_at hall (j := 12) hlt (by decide)
        rw [hsc.c11] at h11
        rw [hsc.c12] at h12
        have hcl := St.len hsc
        obtain ⟨hsma, hsmb⟩ := hsub l[i] (List.getElem_mem hlt)
        have hw1 : IntKind.i64.wrap ((d : Int) + 1) = ((d + 1 : Nat) : Int) := by rw [show (d : Int) + 1 = ((d + 1 : Nat) : Int) by omega]; exact wr_i64 (by omega) (by omega)
        have w2 : IntKind.i64.wrap ((i : Int) + 1) = ((i + 1 : Nat) : Int) := by rw [show (i : Int) + 1 = ((i + 1 : Nat) : Int) by omega]; exact wr_i64 (by omega) (by omega)
        obtain ⟨cs, hcs⟩ : ∃ cs, cs = l[i].cells := ⟨_, rfl⟩
        have hcut2 : ((cellsL l).drop (i * 13)).take 13 = cs := by rw [hcs]; exact hcut
        rw [← hcs] at hone hcl
        have hset : ∀ (z : List Value) (us : List Value), z.length = 14 → us.length = 14 → setL z 0 us = us := fun z us hz hu => by
          refine List.ext_getElem? fun j => ?_
          rw [setL_get]
          by_cases hj : j < 14
          · rw [if_pos ⟨Nat.zero_le _, by omega, by omega⟩]; rfl
          · rw [if_neg (by omega), List.getElem?_eq_none (by omega), List.getElem?_eq_none (by omega)]
        have hset13 : setL [.int .i64 0, .string (bs []), .int .i64 0, .string (bs []), .string (bs []), .int .u64 0, .int .u64 0, .string (bs []), .string (bs []), .int .u64 0, .int .u64 0, .slice none 0 0, .slice none 0 0, .int .i64 0] 0 cs = cs ++ [.int .i64 0] := by
          refine List.ext_getElem? fun j => ?_
          rw [setL_get]
          by_cases hj : j < 13
          · rw [if_pos ⟨Nat.zero_le _, by omega, by simp; omega⟩, List.getElem?_append_left (by omega)]; rfl
          · rw [if_neg (by omega), List.getElem?_append_right (by omega), hcl]
            by_cases hj2 : j = 13
            · subst hj2; rfl
            · rw [List.getElem?_eq_none (by simp; omega), List.getElem?_eq_none (by simp; omega)]
        have hst : (cs ++ [Value.int .i64 0]).set 13 (.int .i64 (d : Int)) = cs ++ [.int .i64 (d : Int)] := by
          rw [List.set_append_right _ _ (by omega), hcl]; rfl
        have hl14 : (cs ++ [Value.int .i64 0]).length = 14 := by simp [hcl]
        have hset14 := hset [.int .i64 0, .string (bs []), .int .i64 0, .string (bs []), .string (bs []), .int .u64 0, .int .u64 0, .string (bs []), .string (bs []), .int .u64 0, .int .u64 0, .slice none 0 0, .slice none 0 0, .int .i64 0] (cs ++ [.int .i64 (d : Int)]) rfl (by simp [hcl])
        have hone14 : (cs ++ [Value.int .i64 (d : Int)]).all oneCell = true := by rw [List.all_append, hone]; rfl
        have hl14b : (cs ++ [Value.int .i64 (d : Int)]).length = 14 := by simp [hcl]
        simp (disch := omega) only [kB, kcx, kdm, kdn, kel, aop, resultsL, resultOf, Nat.reduceEqDiff, reduceCtorEq, eq1, apartOK, apart2, AObj.live, Int.reduceEq, Int.reduceLT, Int.reduceLE, Int.reduceAdd, Int.reduceSub, Int.reduceMul, Int.reduceToNat, cutCells, Nat.reduceAdd, Nat.reduceLeDiff, Nat.reduceLT, Nat.reduceMul, Nat.reduceSub, c0, c1, hrow', hle, hcut2, hcl, hone, hset13, hst, hset14, hone14]
        obtain ⟨sv2, K2, b1, b2, b3, b4, b5⟩ := app_sl (u := 14) (n0 := n0) (bytes := 184) (K := K' ++ [.row (cs ++ [.int .i64 (d : Int)]) 14 true]) (bx := K'.length) (xs := cs ++ [.int .i64 (d : Int)]) (u2 := 14) (w2 := true) (SLs.app hg) (by simp; omega) (by rw [hget_last]) hl14b hone14 (by simp only [roomMax, List.length_map]; omega)
        have hLw : L = L0 ++ flatL d (l.take i) := by
          rw [hL]
          refine List.take_of_length_le ?_
          rw [hL, List.length_take] at hfull
          omega
        obtain ⟨L1, hL1e⟩ : ∃ L1, L1 = L ++ [(d, l[i])] := ⟨_, rfl⟩
        have hL1 : StG n0 K2 sv2 L1 := by
          rw [StG, hL1e, List.map_append]
          simp only [List.map_cons, List.map_nil, stC, ← hcs]
          exact b2
        have hL1n : L1.length = L.length + 1 := by rw [hL1e]; simp
        have hL0n : L0.length ≤ L.length := by rw [hLw]; simp
        obtain ⟨ad2, rfl⟩ := hL1.sl
        have hk3 : ∀ c, c < n0 → hget K2 c = hget K c := fun c hc => by
          rw [b5 c (by simp; omega) (fun q => by have := (SLs.lt hg q).2; omega), hget_old (by omega)]
          exact hk2 c hc
        have hrow2 : hget K2 b = .row (cellsL l) 0 false := by rw [hk3 b (by omega), hk b hb]; exact hrow
        have hk3n : n0 ≤ K2.length := by rw [b3]; simp; omega
        simp (disch := omega) only [kB, kcx, kdm, kdn, kel, aop, resultsL, resultOf, Nat.reduceEqDiff, reduceCtorEq, eq1, apartOK, apart2, AObj.live, Int.reduceEq, Int.reduceLT, Int.reduceLE, Int.reduceAdd, Int.reduceSub, Int.reduceMul, Int.reduceToNat, cutCells, Nat.reduceAdd, Nat.reduceLeDiff, Nat.reduceLT, Nat.reduceMul, Nat.reduceSub, b1, c0, hrow2, h11, hw1]
        refine ih _ hsma (d + 1) L1 K2 _ _ _ (by omega) (by omega) hk3n (fun c hc => by rw [hk3 c (by omega)]; exact hk c hc) hL1 hsc.sa ?_
        intro ad3 L2 K3 m1 m2 hL2 m3
        have hL2n : L1.length ≤ L2.length := by rw [hL2, List.length_take, List.length_append]; omega
        have hL2m : L2.length ≤ 129 := by rw [hL2, List.length_take]; omega
        have hk4 : ∀ c, c < n0 → hget K3 c = hget K c := fun c hc => by rw [m2 c hc]; exact hk3 c hc
        have hrow3 : hget K3 b = .row (cellsL l) 0 false := by rw [hk4 b (by omega), hk b hb]; exact hrow
        simp (disch := omega) only [kB, kcx, kdm, kdn, kel, aop, resultsL, resultOf, Nat.reduceEqDiff, reduceCtorEq, eq1, apartOK, apart2, AObj.live, Int.reduceEq, Int.reduceLT, Int.reduceLE, Int.reduceAdd, Int.reduceSub, Int.reduceMul, Int.reduceToNat, cutCells, Nat.reduceAdd, Nat.reduceLeDiff, Nat.reduceLT, Nat.reduceMul, Nat.reduceSub, c0, hrow3, h12, hw1]
        refine ih _ hsmb (d + 1) L2 K3 _ _ _ (by omega) (by omega) m1 (fun c hc => by rw [hk4 c (by omega)]; exact hk c hc) m3 hsc.sb ?_
        intro ad4 L3 K4 p1 p2 hL3 p3
        simp (disch := omega) only [kB, kcx, kdm, kdn, kel, aop, resultsL, resultOf, Nat.reduceEqDiff, reduceCtorEq, eq1, apartOK, apart2, AObj.live, Int.reduceEq, Int.reduceLT, Int.reduceLE, Int.reduceAdd, Int.reduceSub, Int.reduceMul, Int.reduceToNat, cutCells, Nat.reduceAdd, Nat.reduceLeDiff, Nat.reduceLT, Nat.reduceMul, Nat.reduceSub, w2]
        refine ⟨l.length - (i + 1), by omega, i + 1, ad4, L3, by omega, rfl, p1, fun c hc => by rw [p2 c hc]; exact hk4 c hc, ?_, p3, by exact ex_env rfl⟩
        rw [hL3, hL2, take_take_app, hL1e, hLw, flatL_take hlt, flat1_eq]
        simp
      · have c1 : ¬ (L.length : Int) ≤ 128 := by omega
        have hL2 : L = (L0 ++ flatL d l).take 129 := by
          rw [← List.take_append_drop i l, flatL_append, ← List.append_assoc, ← take_take_app, ← hL]
          rw [List.take_append_of_le_length (by rw [hL, List.length_take]; rw [hL, List.length_take] at hfull; omega), List.take_of_length_le (by rw [hL, List.length_take]; omega)]
        simp (disch := omega) only [kB, kcx, kdm, kdn, kel, aop, resultsL, resultOf, Nat.reduceEqDiff, reduceCtorEq, eq1, apartOK, apart2, AObj.live, Int.reduceEq, Int.reduceLT, Int.reduceLE, Int.reduceAdd, Int.reduceSub, Int.reduceMul, Int.reduceToNat, cutCells, Nat.reduceAdd, Nat.reduceLeDiff, Nat.reduceLT, Nat.reduceMul, Nat.reduceSub, c0, c1]
        exact h _ _ _ hk1 hk2 hL2 hg
    · have c0 : ¬ (i : Int) < (l.length : Int) := by omega
      have hil : i = l.length := by omega
      rw [hil, List.take_length] at hL
      simp (disch := omega) only [kB, kcx, kdm, kdn, kel, aop, resultsL, resultOf, Nat.reduceEqDiff, reduceCtorEq, eq1, apartOK, apart2, AObj.live, Int.reduceEq, Int.reduceLT, Int.reduceLE, Int.reduceAdd, Int.reduceSub, Int.reduceMul, Int.reduceToNat, cutCells, Nat.reduceAdd, Nat.reduceLeDiff, Nat.reduceLT, Nat.reduceMul, Nat.reduceSub, c0]
      exact h _ _ _ hk1 hk2 hL hg

end Go.Proofs.Ytpllhhaeclnngaa.Ev

/- The document's stages, or the error; the tables that it asks. -/
namespace Go.Proofs.Ytpllhhaeclnngaa.Ev
set_option maxRecDepth 100000
set_option linter.unusedSimpArgs false
set_option linter.unusedVariables false
variable {R : FRes → Heap → Prop} {H : Heap}

theorem StG.row {n0 n m : Nat} {ad : Option Addr} {L : List (Nat × St)} (h : StG n0 H (.slice ad n m) L) (hL : 0 < L.length) : ∃ k, ad = some ⟨k, 0, none⟩ ∧ n0 ≤ k ∧ k < H.length ∧ hget H k = .row (L.map stC).flatten 14 true ∧ ∀ cs ∈ L.map stC, cs.length = 14 := by
  rcases h with ⟨h1, h2⟩ | ⟨h1, k, k0, h2, h3, h4⟩
  · simp at h1; subst h1; simp at hL
  · injection h2 with e
    exact ⟨k, e, k0, hget_lt h3 rfl, h3, h4⟩
theorem stC_at {L : List (Nat × St)} (h : ∀ cs ∈ L.map stC, cs.length = 14) {i j : Nat} (hi : i < L.length) (hj : j < 14) : ((L.map stC).flatten)[i * 14 + j]? = (stC L[i])[j]? := by
  have := congrArg (fun q : List Value => q[j]?) (flat_cut (u := 14) (css := L.map stC) i h (by simpa using hi))
  simp only [List.getElem?_take_of_lt hj, List.getElem?_drop, List.getElem_map] at this
  exact this
theorem stC_13 {y : Nat × St} (h : (stC y).length = 14) : (stC y)[13]? = some (.int .i64 (y.1 : Int)) := by
  simp only [stC, List.length_append, List.length_cons, List.length_nil] at h ⊢
  rw [List.getElem?_append_right (by omega), show 13 - y.2.cells.length = 0 by omega]
  rfl
theorem stC_0 {y : Nat × St} : (stC y)[0]? = some (.int .i64 y.2.kind) := by
  obtain ⟨t, e⟩ := y.2.cell0
  simp only [stC, e]; rfl
theorem stC_1 {y : Nat × St} : (stC y)[1]? = some (.string (bs y.2.table)) := by
  obtain ⟨t, e⟩ := y.2.cell0
  simp only [stC, e]; rfl

def dpI (K : Heap) (ad : Option Addr) (L : List (Nat × St)) : Nat → Env → Heap → Prop := fun z e K' =>
  ∃ i : Nat, i ≤ L.length ∧ z = L.length - i ∧ K' = K ∧ (∀ j (hj : j < L.length), j < i → L[j].1 ≤ 8) ∧ (∃ x : Nat → Value, e = [x 0, x 1, x 2, x 3, .slice ad L.length L.length, .int .i64 (i : Int), x 6, x 7, x 8, x 9, x 10, x 11, x 12, x 13, x 14, x 15, x 16, x 17, x 18, x 19, x 20, x 21, x 22, x 23, x 24])

set_option maxHeartbeats 1000000 in
theorem rstages_s {n : Nat} {l : List St} (hl : SmallL n l) {s0 s1 s2 s3 s4 ct : Value} (hv : StSl H l ct) (hone : [s0, s1, s2, s3, s4, ct].all oneCell = true)
    (h0 : tallE l ≠ 0 → ∀ K, H.length ≤ K.length → (∀ c, c < H.length → hget K c = hget H c) → R (.ret (.tuple #[.slice none 0 0, .int .i64 (tallE l : Int)])) K)
    (h : tallE l = 0 → ∀ K ad, H.length ≤ K.length → (∀ c, c < H.length → hget K c = hget H c) → StG H.length K (.slice ad (flatL 1 l).length (flatL 1 l).length) (flatL 1 l) → (flatL 1 l).length ≤ 128 → R (.ret (.tuple #[.slice ad (flatL 1 l).length (flatL 1 l).length, .int .i64 0])) K) : WD T 36 [.agg #[s0, s1, s2, s3, s4, ct]] H R := by
  refine WD.of follows t36 (by simp) ?_
  simp only [List.all_cons, List.all_nil, Bool.and_true, Bool.and_eq_true] at hone
  obtain ⟨o0, o1, o2, o3, o4, o5⟩ := hone
  simp (disch := omega) only [kB, kcx, kdm, kdn, kel, aop, resultsL, resultOf, Nat.reduceEqDiff, reduceCtorEq, eq1, apartOK, apart2, AObj.live, Int.reduceEq, Int.reduceLT, Int.reduceLE, Int.reduceAdd, Int.reduceSub, Int.reduceMul, Int.reduceToNat, cutCells, Nat.reduceAdd, Nat.reduceLeDiff, Nat.reduceLT, Nat.reduceMul, Nat.reduceSub, o0, o1, o2, o3, o4, o5]
  refine stages_s (H := H) (n0 := H.length) (Nat.le_refl _) n l hl 1 [] _ _ _ _ (by simp) (by simp) (by simp) (fun c hc => hget_old hc) (.inl ⟨rfl, rfl⟩) hv ?_
  intro ad L K k1 k2 hL hg
  rw [List.nil_append] at hL
  have kH : ∀ c, c < H.length → hget K c = hget H c := fun c hc => by rw [k2 c hc, hget_old hc]
  by_cases c0 : L.length ≤ 128
  · have c1 : ¬ (128 : Int) < (L.length : Int) := by omega
    have hLL : L = flatL 1 l := by
      rw [hL]
      refine List.take_of_length_le ?_
      rw [hL, List.length_take] at c0
      omega
    simp (disch := omega) only [kB, kcx, kdm, kdn, kel, aop, resultsL, resultOf, Nat.reduceEqDiff, reduceCtorEq, eq1, apartOK, apart2, AObj.live, Int.reduceEq, Int.reduceLT, Int.reduceLE, Int.reduceAdd, Int.reduceSub, Int.reduceMul, Int.reduceToNat, cutCells, Nat.reduceAdd, Nat.reduceLeDiff, Nat.reduceLT, Nat.reduceMul, Nat.reduceSub, c1]
    refine WLoop.inv (dpI K ad L) ?_ L.length _ _ ⟨0, Nat.zero_le _, by omega, rfl, fun j hj h0 => by omega, by exact ex_env rfl⟩
    rintro z e K' ⟨i, hi, rfl, rfl, hno, ⟨x, rfl⟩⟩
    by_cases hlt : i < L.length
    · have c2 : (i : Int) < (L.length : Int) := by omega
      obtain ⟨k, rfl, _, _, hrow, hu⟩ := hg.row (by omega)
      have h13 := stC_at hu (j := 13) hlt (by decide)
      rw [stC_13 (hu _ (List.mem_map.2 ⟨_, List.getElem_mem hlt, rfl⟩))] at h13
      have w2 : IntKind.i64.wrap ((i : Int) + 1) = ((i + 1 : Nat) : Int) := by rw [show (i : Int) + 1 = ((i + 1 : Nat) : Int) by omega]; exact wr_i64 (by omega) (by omega)
      by_cases hd : 8 < L[i].1
      · have c3 : (8 : Int) < (L[i].1 : Int) := by omega
        have e : tallE l = 77 := by
          rw [tallE, ← hLL, if_neg (by omega), if_pos (List.any_eq_true.2 ⟨L[i], List.getElem_mem hlt, by simpa using hd⟩)]
        rw [e] at h0
        have hh := h0 (by decide) K' k1 kH
        simp (disch := omega) only [kB, kcx, kdm, kdn, kel, aop, resultsL, resultOf, Nat.reduceEqDiff, reduceCtorEq, eq1, apartOK, apart2, AObj.live, Int.reduceEq, Int.reduceLT, Int.reduceLE, Int.reduceAdd, Int.reduceSub, Int.reduceMul, Int.reduceToNat, cutCells, Nat.reduceAdd, Nat.reduceLeDiff, Nat.reduceLT, Nat.reduceMul, Nat.reduceSub, c2, hrow, h13, c3]
        exact hh
      · have c3 : ¬ (8 : Int) < (L[i].1 : Int) := by omega
        simp (disch := omega) only [kB, kcx, kdm, kdn, kel, aop, resultsL, resultOf, Nat.reduceEqDiff, reduceCtorEq, eq1, apartOK, apart2, AObj.live, Int.reduceEq, Int.reduceLT, Int.reduceLE, Int.reduceAdd, Int.reduceSub, Int.reduceMul, Int.reduceToNat, cutCells, Nat.reduceAdd, Nat.reduceLeDiff, Nat.reduceLT, Nat.reduceMul, Nat.reduceSub, c2, hrow, h13, c3, w2]
        exact ⟨L.length - (i + 1), by omega, i + 1, by omega, rfl, rfl, fun j hj h1 => by
          by_cases q : j = i
          · subst q; omega
          · exact hno j hj (by omega), by exact ex_env rfl⟩
    · have c2 : ¬ (i : Int) < (L.length : Int) := by omega
      have e : tallE l = 0 := by
        rw [tallE, ← hLL, if_neg (by omega), if_neg]
        intro q
        obtain ⟨y, hy, h8⟩ := List.any_eq_true.1 q
        obtain ⟨j, hj, rfl⟩ := List.getElem_of_mem hy
        have := hno j hj (by omega)
        simp at h8
        omega
      subst hLL
      have hh := h e K' ad k1 kH hg c0
      simp (disch := omega) only [kB, kcx, kdm, kdn, kel, aop, resultsL, resultOf, Nat.reduceEqDiff, reduceCtorEq, eq1, apartOK, apart2, AObj.live, Int.reduceEq, Int.reduceLT, Int.reduceLE, Int.reduceAdd, Int.reduceSub, Int.reduceMul, Int.reduceToNat, cutCells, Nat.reduceAdd, Nat.reduceLeDiff, Nat.reduceLT, Nat.reduceMul, Nat.reduceSub, c2]
      exact hh
  · have c1 : (128 : Int) < (L.length : Int) := by omega
    have e : tallE l = 74 := by
      rw [tallE, if_pos]
      rw [hL, List.length_take] at c0
      omega
    rw [e] at h0
    have hh := h0 (by decide) K k1 kH
    simp (disch := omega) only [kB, kcx, kdm, kdn, kel, aop, resultsL, resultOf, Nat.reduceEqDiff, reduceCtorEq, eq1, apartOK, apart2, AObj.live, Int.reduceEq, Int.reduceLT, Int.reduceLE, Int.reduceAdd, Int.reduceSub, Int.reduceMul, Int.reduceToNat, cutCells, Nat.reduceAdd, Nat.reduceLeDiff, Nat.reduceLT, Nat.reduceMul, Nat.reduceSub, c1]
    exact hh

def hsI (K : Heap) (ad : Option Addr) (t : List UInt8) (L : List (List UInt8)) : Nat → Env → Heap → Prop := fun z e K' =>
  ∃ i : Nat, i ≤ L.length ∧ z = L.length - i ∧ K' = K ∧ (∀ j (hj : j < L.length), j < i → L[j] ≠ t) ∧ (∃ x : Nat → Value, e = [.slice ad L.length L.length, .string (bs t), x 2, x 3, x 4, .int .i64 (i : Int), x 6, x 7, x 8, x 9, x 10, x 11, x 12, x 13, x 14, x 15, x 16, x 17])

theorem has_s {n0 : Nat} {ad : Option Addr} {t : List UInt8} {L : List (List UInt8)} (hL : L.length ≤ 4611686018427387904) (hs : TxG n0 H (.slice ad L.length L.length) L)
    (h : R (.ret (.bool (decide (t ∈ L)))) H) : WD T 37 [.slice ad L.length L.length, .string (bs t)] H R := by
  refine WD.of follows t37 (by simp) ?_
  simp (disch := omega) only [kB, kcx, kdm, kdn, kel, aop, resultsL, resultOf, Nat.reduceEqDiff, reduceCtorEq, eq1, apartOK, apart2, AObj.live, Int.reduceEq, Int.reduceLT, Int.reduceLE, Int.reduceAdd, Int.reduceSub, Int.reduceMul, Int.reduceToNat, cutCells, Nat.reduceAdd, Nat.reduceLeDiff, Nat.reduceLT, Nat.reduceMul, Nat.reduceSub]
  refine WLoop.inv (hsI H ad t L) ?_ L.length _ _ ⟨0, Nat.zero_le _, by omega, rfl, fun j hj h0 => by omega, by exact ex_env rfl⟩
  rintro z e K ⟨i, hi, rfl, rfl, hno, ⟨x, rfl⟩⟩
  by_cases hlt : i < L.length
  · have c0 : (i : Int) < (L.length : Int) := by omega
    obtain ⟨k, rfl, _, hk, hrow⟩ := hs.row (by omega)
    have hg : (L.map fun t => Value.string (bs t))[i]? = some (.string (bs L[i])) := by rw [List.getElem?_map, List.getElem?_eq_getElem hlt]; rfl
    have w2 : IntKind.i64.wrap ((i : Int) + 1) = ((i + 1 : Nat) : Int) := by rw [show (i : Int) + 1 = ((i + 1 : Nat) : Int) by omega]; exact wr_i64 (by omega) (by omega)
    by_cases he : L[i] = t
    · have hin : t ∈ L := by rw [← he]; exact List.getElem_mem hlt
      simp (disch := omega) only [kB, kcx, kdm, kdn, kel, aop, resultsL, resultOf, Nat.reduceEqDiff, reduceCtorEq, eq1, apartOK, apart2, AObj.live, Int.reduceEq, Int.reduceLT, Int.reduceLE, Int.reduceAdd, Int.reduceSub, Int.reduceMul, Int.reduceToNat, cutCells, Nat.reduceAdd, Nat.reduceLeDiff, Nat.reduceLT, Nat.reduceMul, Nat.reduceSub, c0, hrow, hg, decide_eq_true he]
      simpa [hin] using h
    · simp (disch := omega) only [kB, kcx, kdm, kdn, kel, aop, resultsL, resultOf, Nat.reduceEqDiff, reduceCtorEq, eq1, apartOK, apart2, AObj.live, Int.reduceEq, Int.reduceLT, Int.reduceLE, Int.reduceAdd, Int.reduceSub, Int.reduceMul, Int.reduceToNat, cutCells, Nat.reduceAdd, Nat.reduceLeDiff, Nat.reduceLT, Nat.reduceMul, Nat.reduceSub, c0, hrow, hg, decide_eq_false he, w2]
      exact ⟨L.length - (i + 1), by omega, i + 1, by omega, rfl, rfl, fun j hj h1 => by
        by_cases q : j = i
        · subst q; exact he
        · exact hno j hj (by omega), by exact ex_env rfl⟩
  · have c0 : ¬ (i : Int) < (L.length : Int) := by omega
    have hin : ¬ t ∈ L := fun h => by
      obtain ⟨j, hj, rfl⟩ := List.getElem_of_mem h
      exact hno j hj (by omega) rfl
    simp (disch := omega) only [kB, kcx, kdm, kdn, kel, aop, resultsL, resultOf, Nat.reduceEqDiff, reduceCtorEq, eq1, apartOK, apart2, AObj.live, Int.reduceEq, Int.reduceLT, Int.reduceLE, Int.reduceAdd, Int.reduceSub, Int.reduceMul, Int.reduceToNat, cutCells, Nat.reduceAdd, Nat.reduceLeDiff, Nat.reduceLT, Nat.reduceMul, Nat.reduceSub, c0]
    simpa [hin] using h

theorem ask_take {W : List (Nat × St)} {i : Nat} (hi : i < W.length) (s : List (List UInt8)) : (foldS askS s (W.take (i + 1))).1 = (askS (foldS askS s (W.take i)).1 W[i]).1 := by
  rw [List.take_add_one, List.getElem?_eq_getElem hi, Option.toList, foldS_append, if_pos (ask_true _ _), foldS]
  simp [foldS, askS]

def raI (H K : Heap) (ad : Option Addr) (W : List (Nat × St)) : Nat → Env → Heap → Prop := fun z e K' =>
  ∃ (i : Nat) (ad2 : Option Addr) (s : List (List UInt8)), i ≤ W.length ∧ z = W.length - i ∧ K.length ≤ K'.length ∧ (∀ c, c < K.length → hget K' c = hget K c) ∧ s = (foldS askS [] (W.take i)).1 ∧ TxG K.length K' (.slice ad2 s.length s.length) s ∧
    (∃ x : Nat → Value, e = [x 0, x 1, x 2, .slice ad W.length W.length, x 4, .slice ad2 s.length s.length, .int .i64 (i : Int), x 7, x 8, x 9, x 10, x 11, x 12, x 13, x 14, x 15, x 16, x 17, x 18, x 19, x 20, x 21, x 22, x 23, x 24, x 25, x 26, x 27, x 28, x 29, x 30, x 31, x 32, x 33, x 34, x 35, x 36, x 37, x 38, x 39, x 40, x 41, x 42, x 43, x 44, x 45, x 46, x 47, x 48, x 49])

set_option maxHeartbeats 1000000 in
theorem rapplied_s {n : Nat} {l : List St} (hl : SmallL n l) {s0 s1 s2 s3 s4 ct : Value} (hv : StSl H l ct) (hone : [s0, s1, s2, s3, s4, ct].all oneCell = true)
    (h0 : tallE l ≠ 0 → ∀ K, H.length ≤ K.length → (∀ c, c < H.length → hget K c = hget H c) → R (.ret (.slice none 0 0)) K)
    (h : tallE l = 0 → ∀ K ad, H.length ≤ K.length → (∀ c, c < H.length → hget K c = hget H c) → TxG H.length K (.slice ad (askL l).length (askL l).length) (askL l) → R (.ret (.slice ad (askL l).length (askL l).length)) K) : WD T 13 [.agg #[s0, s1, s2, s3, s4, ct]] H R := by
  refine WD.of follows t13 (by simp) ?_
  have hone2 := hone
  simp only [List.all_cons, List.all_nil, Bool.and_true, Bool.and_eq_true] at hone
  obtain ⟨o0, o1, o2, o3, o4, o5⟩ := hone
  simp (disch := omega) only [kB, kcx, kdm, kdn, kel, aop, resultsL, resultOf, Nat.reduceEqDiff, reduceCtorEq, eq1, apartOK, apart2, AObj.live, Int.reduceEq, Int.reduceLT, Int.reduceLE, Int.reduceAdd, Int.reduceSub, Int.reduceMul, Int.reduceToNat, cutCells, Nat.reduceAdd, Nat.reduceLeDiff, Nat.reduceLT, Nat.reduceMul, Nat.reduceSub, o0, o1, o2, o3, o4, o5]
  refine rstages_s hl (hv.app _) hone2 ?_ ?_
  · intro c0 K k1 k2
    simp only [List.length_append, List.length_cons, List.length_nil, Nat.zero_add] at k1 k2
    have c1 : ¬ ((tallE l : Nat) : Int) = 0 := by omega
    have hh := h0 c0 K (by omega) (fun c hc => by rw [k2 c (by omega), hget_old hc])
    simp (disch := omega) only [kB, kcx, kdm, kdn, kel, aop, resultsL, resultOf, Nat.reduceEqDiff, reduceCtorEq, eq1, apartOK, apart2, AObj.live, Int.reduceEq, Int.reduceLT, Int.reduceLE, Int.reduceAdd, Int.reduceSub, Int.reduceMul, Int.reduceToNat, cutCells, Nat.reduceAdd, Nat.reduceLeDiff, Nat.reduceLT, Nat.reduceMul, Nat.reduceSub, c1]
    exact hh
  · intro c0 K ad k1 k2 hg hW
    simp only [List.length_append, List.length_cons, List.length_nil, Nat.zero_add] at k1 k2
    have kH : ∀ c, c < H.length → hget K c = hget H c := fun c hc => by rw [k2 c (by omega), hget_old hc]
    have hfin : ∀ K' ad, K.length ≤ K'.length → (∀ c, c < K.length → hget K' c = hget K c) → TxG K.length K' (.slice ad (askL l).length (askL l).length) (askL l) → R (.ret (.slice ad (askL l).length (askL l).length)) K' := fun K' ad q1 q2 q3 =>
      h c0 K' ad (by omega) (fun c hc => by rw [q2 c (by omega)]; exact kH c hc) (by
        rcases q3 with q | ⟨q, k, r1, r2⟩
        · exact .inl q
        · exact .inr ⟨q, k, by omega, r2⟩)
    have hask : askL l = (foldS askS [] (flatL 1 l)).1 := rfl
    generalize flatL 1 l = W at hg hW hask
    simp (disch := omega) only [kB, kcx, kdm, kdn, kel, aop, resultsL, resultOf, Nat.reduceEqDiff, reduceCtorEq, eq1, apartOK, apart2, AObj.live, Int.reduceEq, Int.reduceLT, Int.reduceLE, Int.reduceAdd, Int.reduceSub, Int.reduceMul, Int.reduceToNat, cutCells, Nat.reduceAdd, Nat.reduceLeDiff, Nat.reduceLT, Nat.reduceMul, Nat.reduceSub]
    refine WLoop.inv (raI H K ad W) ?_ W.length _ _ ⟨0, none, [], Nat.zero_le _, by omega, Nat.le_refl _, fun c _ => rfl, rfl, .inl ⟨rfl, rfl⟩, by exact ex_env rfl⟩
    rintro z e K' ⟨i, ad2, s, hi, rfl, q1, q2, hs, q3, ⟨x, rfl⟩⟩
    by_cases hlt : i < W.length
    · have c2 : (i : Int) < (W.length : Int) := by omega
      obtain ⟨k, rfl, _, hk, hrow0, hu⟩ := hg.row (by omega)
      have hrow : hget K' k = .row (W.map stC).flatten 14 true := by rw [q2 k hk]; exact hrow0
      have h00 := stC_at hu (j := 0) hlt (by decide)
      have h01 := stC_at hu (j := 1) hlt (by decide)
      rw [stC_0] at h00
      rw [stC_1] at h01
      simp only [Nat.add_zero] at h00
      have w2 : IntKind.i64.wrap ((i : Int) + 1) = ((i + 1 : Nat) : Int) := by rw [show (i : Int) + 1 = ((i + 1 : Nat) : Int) by omega]; exact wr_i64 (by omega) (by omega)
      have hnx := ask_take hlt []
      rw [← hs] at hnx
      obtain ⟨a1, a2⟩ := ask_all (W.take i) [] W List.nodup_nil (fun t ht => by cases ht) (fun y hy => List.mem_of_mem_take hy)
      rw [← hs] at a1 a2
      have hsn : s.length ≤ 128 := by
        have := nodup_len (T := W.map fun y => y.2.table) a1 (fun t ht => by
          obtain ⟨y, hy, _, rfl⟩ := a2 t ht
          exact List.mem_map.2 ⟨y, hy, rfl⟩)
        rw [List.length_map] at this
        omega
      have hlk : ∀ c, blk (.slice ad2 s.length s.length) = some c → K.length ≤ c := fun c hc => (SLs.lt q3 hc).2
      simp (disch := omega) only [kB, kcx, kdm, kdn, kel, aop, resultsL, resultOf, Nat.reduceEqDiff, reduceCtorEq, eq1, apartOK, apart2, AObj.live, Int.reduceEq, Int.reduceLT, Int.reduceLE, Int.reduceAdd, Int.reduceSub, Int.reduceMul, Int.reduceToNat, cutCells, Nat.reduceAdd, Nat.reduceLeDiff, Nat.reduceLT, Nat.reduceMul, Nat.reduceSub, c2, hrow, h01]
      refine has_s (by omega) q3 ?_
      by_cases c3 : W[i].2.kind = 1
      · rw [c3] at h00
        by_cases c4 : W[i].2.table ∈ s
        · simp (disch := omega) only [kB, kcx, kdm, kdn, kel, aop, resultsL, resultOf, Nat.reduceEqDiff, reduceCtorEq, eq1, apartOK, apart2, AObj.live, Int.reduceEq, Int.reduceLT, Int.reduceLE, Int.reduceAdd, Int.reduceSub, Int.reduceMul, Int.reduceToNat, cutCells, Nat.reduceAdd, Nat.reduceLeDiff, Nat.reduceLT, Nat.reduceMul, Nat.reduceSub, c2, hrow, h00, decide_eq_true c4, w2]
          have e : (askS s W[i]).1 = s := by simp [askS, c4]
          exact ⟨W.length - (i + 1), by omega, i + 1, ad2, s, by omega, rfl, q1, q2, by rw [hnx, e], q3, by exact ex_env rfl⟩
        · have e : (askS s W[i]).1 = s ++ [W[i].2.table] := by simp [askS, c3, c4]
          rw [e] at hnx
          obtain ⟨sv2, K2, b1, b2, b3, b4, b5⟩ := app_sl (u := 1) (n0 := K.length) (bytes := 16) (K := K' ++ [AObj.row [Value.string (bs W[i].2.table)] 1 true]) (bx := K'.length) (xs := txC W[i].2.table) (u2 := 1) (w2 := true) (SLs.app q3) (by simp; omega) (by rw [hget_last]; rfl) rfl rfl (by simp only [roomMax, List.length_map]; omega)
          have q4 : TxG K.length K2 sv2 (s ++ [W[i].2.table]) := by
            rw [TxG, List.map_append]
            exact b2
          obtain ⟨ad3, rfl⟩ := q4.sl
          generalize s ++ [W[i].2.table] = s2 at *
          simp (disch := omega) only [kB, kcx, kdm, kdn, kel, aop, resultsL, resultOf, Nat.reduceEqDiff, reduceCtorEq, eq1, apartOK, apart2, AObj.live, Int.reduceEq, Int.reduceLT, Int.reduceLE, Int.reduceAdd, Int.reduceSub, Int.reduceMul, Int.reduceToNat, cutCells, Nat.reduceAdd, Nat.reduceLeDiff, Nat.reduceLT, Nat.reduceMul, Nat.reduceSub, c2, hrow, h00, h01, decide_eq_false c4, b1, w2]
          refine ⟨W.length - (i + 1), by omega, i + 1, ad3, s2, by omega, rfl, by rw [b3]; simp; omega, fun c hc => ?_, hnx.symm, q4, by exact ex_env rfl⟩
          rw [b5 c (by simp; omega) (fun q => by have := hlk c q; omega), hget_old (by omega)]
          exact q2 c hc
      · simp (disch := omega) only [kB, kcx, kdm, kdn, kel, aop, resultsL, resultOf, Nat.reduceEqDiff, reduceCtorEq, eq1, apartOK, apart2, AObj.live, Int.reduceEq, Int.reduceLT, Int.reduceLE, Int.reduceAdd, Int.reduceSub, Int.reduceMul, Int.reduceToNat, cutCells, Nat.reduceAdd, Nat.reduceLeDiff, Nat.reduceLT, Nat.reduceMul, Nat.reduceSub, c2, hrow, h00, c3, w2]
        have e : (askS s W[i]).1 = s := by simp [askS, c3]
        exact ⟨W.length - (i + 1), by omega, i + 1, ad2, s, by omega, rfl, q1, q2, by rw [hnx, e], q3, by exact ex_env rfl⟩
    · have c2 : ¬ (i : Int) < (W.length : Int) := by omega
      have hil : i = W.length := by omega
      rw [hil, List.take_length, ← hask] at hs
      subst hs
      have hh := hfin K' ad2 q1 q2 q3
      simp (disch := omega) only [kB, kcx, kdm, kdn, kel, aop, resultsL, resultOf, Nat.reduceEqDiff, reduceCtorEq, eq1, apartOK, apart2, AObj.live, Int.reduceEq, Int.reduceLT, Int.reduceLE, Int.reduceAdd, Int.reduceSub, Int.reduceMul, Int.reduceToNat, cutCells, Nat.reduceAdd, Nat.reduceLeDiff, Nat.reduceLT, Nat.reduceMul, Nat.reduceSub, c2]
      exact hh

end Go.Proofs.Ytpllhhaeclnngaa.Ev

/- Two lists of texts that are the same; the first half of SchemaControls. -/
namespace Go.Proofs.Ytpllhhaeclnngaa.Ev
set_option maxRecDepth 100000
set_option linter.unusedSimpArgs false
set_option linter.unusedVariables false
variable {R : FRes → Heap → Prop} {H : Heap}

def eqI (K : Heap) (ad ad2 : Option Addr) (L : List (List UInt8)) : Nat → Env → Heap → Prop := fun z e K' =>
  ∃ i : Nat, i ≤ L.length ∧ z = L.length - i ∧ K' = K ∧ (∃ x : Nat → Value, e = [.slice ad L.length L.length, .slice ad2 L.length L.length, x 2, x 3, x 4, .int .i64 (i : Int), x 6, x 7, x 8, x 9, x 10, x 11, x 12, x 13, x 14, x 15, x 16, x 17, x 18, x 19, x 20, x 21, x 22, x 23, x 24, x 25])

theorem eqTexts_s {n0 n1 : Nat} {ad ad2 : Option Addr} {L : List (List UInt8)} (hL : L.length ≤ 4611686018427387904) (hs : TxG n0 H (.slice ad L.length L.length) L) (hs2 : TxG n1 H (.slice ad2 L.length L.length) L)
    (h : R (.ret (.bool true)) H) : WD T 11 [.slice ad L.length L.length, .slice ad2 L.length L.length] H R := by
  refine WD.of follows t11 (by simp) ?_
  simp (disch := omega) only [kB, kcx, kdm, kdn, kel, aop, resultsL, resultOf, Nat.reduceEqDiff, reduceCtorEq, eq1, apartOK, apart2, AObj.live, Int.reduceEq, Int.reduceLT, Int.reduceLE, Int.reduceAdd, Int.reduceSub, Int.reduceMul, Int.reduceToNat, cutCells, Nat.reduceAdd, Nat.reduceLeDiff, Nat.reduceLT, Nat.reduceMul, Nat.reduceSub]
  refine WLoop.inv (eqI H ad ad2 L) ?_ L.length _ _ ⟨0, Nat.zero_le _, by omega, rfl, by exact ex_env rfl⟩
  rintro z e K ⟨i, hi, rfl, rfl, ⟨x, rfl⟩⟩
  by_cases hlt : i < L.length
  · have c0 : (i : Int) < (L.length : Int) := by omega
    obtain ⟨k, rfl, _, hk, hrow⟩ := hs.row (by omega)
    obtain ⟨k2, rfl, _, hk2, hrow2⟩ := hs2.row (by omega)
    have hg : (L.map fun t => Value.string (bs t))[i]? = some (.string (bs L[i])) := by rw [List.getElem?_map, List.getElem?_eq_getElem hlt]; rfl
    have w2 : IntKind.i64.wrap ((i : Int) + 1) = ((i + 1 : Nat) : Int) := by rw [show (i : Int) + 1 = ((i + 1 : Nat) : Int) by omega]; exact wr_i64 (by omega) (by omega)
    simp (disch := omega) only [kB, kcx, kdm, kdn, kel, aop, resultsL, resultOf, Nat.reduceEqDiff, reduceCtorEq, eq1, apartOK, apart2, AObj.live, Int.reduceEq, Int.reduceLT, Int.reduceLE, Int.reduceAdd, Int.reduceSub, Int.reduceMul, Int.reduceToNat, cutCells, Nat.reduceAdd, Nat.reduceLeDiff, Nat.reduceLT, Nat.reduceMul, Nat.reduceSub, c0, hrow, hrow2, hg, w2, bne_self_eq_false]
    exact ⟨L.length - (i + 1), by omega, i + 1, by omega, rfl, rfl, by exact ex_env rfl⟩
  · have c0 : ¬ (i : Int) < (L.length : Int) := by omega
    simp (disch := omega) only [kB, kcx, kdm, kdn, kel, aop, resultsL, resultOf, Nat.reduceEqDiff, reduceCtorEq, eq1, apartOK, apart2, AObj.live, Int.reduceEq, Int.reduceLT, Int.reduceLE, Int.reduceAdd, Int.reduceSub, Int.reduceMul, Int.reduceToNat, cutCells, Nat.reduceAdd, Nat.reduceLeDiff, Nat.reduceLT, Nat.reduceMul, Nat.reduceSub, c0]
    exact h

end Go.Proofs.Ytpllhhaeclnngaa.Ev

/- Meets, the program's and the document's; the law SchemaControls. -/
namespace Go.Proofs.Ytpllhhaeclnngaa.Ev
set_option maxRecDepth 100000
set_option linter.unusedSimpArgs false
set_option linter.unusedVariables false
variable {R : FRes → Heap → Prop} {H : Heap}

def meetV (l : List St) : Int := if tallE l = 0 then maxs (thrL l 0 []).2 (thrL l 0 []).1 else 0

theorem tall_few {l : List St} (h : tallE l = 0) : (flatL 1 l).length ≤ 128 := by
  simp only [tallE] at h
  by_cases q : 128 < (flatL 1 l).length
  · rw [if_pos q] at h; cases h
  · omega

def meI (K : Heap) (N : Int) (ad : Option Addr) (E : List Int) : Nat → Env → Heap → Prop := fun z e K' =>
  ∃ i : Nat, i ≤ E.length ∧ z = E.length - i ∧ K' = K ∧ (∃ x : Nat → Value, e = [x 0, x 1, x 2, .int .i64 (maxs (E.take i) N), x 4, x 5, x 6, x 7, x 8, x 9, x 10, x 11, x 12, x 13, x 14, x 15, .slice ad E.length E.length, .int .i64 (E.length : Int), .int .i64 (i : Int), x 19, x 20, x 21, x 22, x 23, x 24, x 25, x 26])

set_option maxHeartbeats 1000000 in
theorem meets_s {n : Nat} {l : List St} (hl : SmallL n l) {s0 s1 s2 s3 s4 ct : Value} (hv : StSl H l ct) (hone : [s0, s1, s2, s3, s4, ct].all oneCell = true)
    (h : ∀ K, H.length ≤ K.length → (∀ c, c < H.length → hget K c = hget H c) → R (.ret (.int .i64 (meetV l))) K) : WD T 14 [.agg #[s0, s1, s2, s3, s4, ct]] H R := by
  refine WD.of follows t14 (by simp) ?_
  have hone2 := hone
  simp only [List.all_cons, List.all_nil, Bool.and_true, Bool.and_eq_true] at hone
  obtain ⟨o0, o1, o2, o3, o4, o5⟩ := hone
  simp (disch := omega) only [kB, kcx, kdm, kdn, kel, aop, resultsL, resultOf, Nat.reduceEqDiff, reduceCtorEq, eq1, apartOK, apart2, AObj.live, Int.reduceEq, Int.reduceLT, Int.reduceLE, Int.reduceAdd, Int.reduceSub, Int.reduceMul, Int.reduceToNat, cutCells, Nat.reduceAdd, Nat.reduceLeDiff, Nat.reduceLT, Nat.reduceMul, Nat.reduceSub, o0, o1, o2, o3, o4, o5]
  refine tall_s hl (hv.app _) hone2 ?_
  intro K k1 k2
  simp only [List.length_append, List.length_cons, List.length_nil, Nat.zero_add] at k1 k2
  have kH : ∀ c, c < H.length → hget K c = hget H c := fun c hc => by rw [k2 c (by omega), hget_old hc]
  by_cases c0 : tallE l = 0
  · have hrow : hget K H.length = .row [s0, s1, s2, s3, s4, ct] 0 true := by rw [k2 _ (by omega), hget_last]
    have hlt : H.length < K.length := by omega
    have hf := tall_few c0
    rw [flat_len1 1 0 n l hl] at hf
    rw [c0, show (((0 : Nat)) : Int) = 0 from rfl]
    simp (disch := omega) only [kB, kcx, kdm, kdn, kel, aop, resultsL, resultOf, Nat.reduceEqDiff, reduceCtorEq, eq1, apartOK, apart2, AObj.live, Int.reduceEq, Int.reduceLT, Int.reduceLE, Int.reduceAdd, Int.reduceSub, Int.reduceMul, Int.reduceToNat, cutCells, Nat.reduceAdd, Nat.reduceLeDiff, Nat.reduceLT, Nat.reduceMul, Nat.reduceSub, hrow]
    refine through_s (H := H) n l hl hf K ct _ hv (by omega) kH ?_
    intro ad K2 a1 a2 a3
    have hm : meetV l = maxs (thrL l 0 []).2 (thrL l 0 []).1 := by rw [meetV, if_pos c0]
    rw [hm] at h
    have hh := h K2 (by omega) (fun c hc => by rw [a2 c (by omega)]; exact kH c hc)
    obtain ⟨⟨_, _, _, t4⟩, _⟩ := thr_law n l hl 0 [] (by omega) (by simp)
    simp only [List.length_nil] at t4
    generalize (thrL l 0 []).1 = N at *
    generalize (thrL l 0 []).2 = E at *
    have hEl : E.length ≤ 4611686018427387904 := by omega
    simp (disch := omega) only [kB, kcx, kdm, kdn, kel, aop, resultsL, resultOf, Nat.reduceEqDiff, reduceCtorEq, eq1, apartOK, apart2, AObj.live, Int.reduceEq, Int.reduceLT, Int.reduceLE, Int.reduceAdd, Int.reduceSub, Int.reduceMul, Int.reduceToNat, cutCells, Nat.reduceAdd, Nat.reduceLeDiff, Nat.reduceLT, Nat.reduceMul, Nat.reduceSub]
    refine WLoop.inv (meI K2 N ad E) ?_ E.length _ _ ⟨0, Nat.zero_le _, by omega, rfl, by exact ex_env rfl⟩
    rintro z e K' ⟨i, hi, rfl, rfl, ⟨x, rfl⟩⟩
    by_cases hlt : i < E.length
    · have q0 : (i : Int) < (E.length : Int) := by omega
      obtain ⟨k, rfl, _, _, hrowE⟩ := a3.row (by omega)
      have hg : (E.map fun t => Value.int .i64 t)[i]? = some (.int .i64 E[i]) := by rw [List.getElem?_map, List.getElem?_eq_getElem hlt]; rfl
      have w2 : IntKind.i64.wrap ((i : Int) + 1) = ((i + 1 : Nat) : Int) := by rw [show (i : Int) + 1 = ((i + 1 : Nat) : Int) by omega]; exact wr_i64 (by omega) (by omega)
      have hnx : max (maxs (E.take i) N) E[i] = maxs (E.take (i + 1)) N := by
        rw [List.take_add_one, List.getElem?_eq_getElem hlt, maxs_app]; rfl
      simp (disch := omega) only [kB, kcx, kdm, kdn, kel, aop, resultsL, resultOf, Nat.reduceEqDiff, reduceCtorEq, eq1, apartOK, apart2, AObj.live, Int.reduceEq, Int.reduceLT, Int.reduceLE, Int.reduceAdd, Int.reduceSub, Int.reduceMul, Int.reduceToNat, cutCells, Nat.reduceAdd, Nat.reduceLeDiff, Nat.reduceLT, Nat.reduceMul, Nat.reduceSub, q0, hrowE, hg, mm_max, hnx, w2]
      exact ⟨E.length - (i + 1), by omega, i + 1, by omega, rfl, rfl, by exact ex_env rfl⟩
    · have q0 : ¬ (i : Int) < (E.length : Int) := by omega
      have hil : i = E.length := by omega
      have e3 : maxs (E.take i) N = maxs E N := by rw [hil, List.take_length]
      rw [e3]
      simp (disch := omega) only [kB, kcx, kdm, kdn, kel, aop, resultsL, resultOf, Nat.reduceEqDiff, reduceCtorEq, eq1, apartOK, apart2, AObj.live, Int.reduceEq, Int.reduceLT, Int.reduceLE, Int.reduceAdd, Int.reduceSub, Int.reduceMul, Int.reduceToNat, cutCells, Nat.reduceAdd, Nat.reduceLeDiff, Nat.reduceLT, Nat.reduceMul, Nat.reduceSub, q0]
      exact hh
  · have c1 : ¬ ((tallE l : Nat) : Int) = 0 := by omega
    have hm : meetV l = 0 := by rw [meetV, if_neg c0]
    rw [hm] at h
    have hh := h K (by omega) kH
    simp (disch := omega) only [kB, kcx, kdm, kdn, kel, aop, resultsL, resultOf, Nat.reduceEqDiff, reduceCtorEq, eq1, apartOK, apart2, AObj.live, Int.reduceEq, Int.reduceLT, Int.reduceLE, Int.reduceAdd, Int.reduceSub, Int.reduceMul, Int.reduceToNat, cutCells, Nat.reduceAdd, Nat.reduceLeDiff, Nat.reduceLT, Nat.reduceMul, Nat.reduceSub, c1]
    exact hh

set_option maxHeartbeats 1000000 in
theorem rmeets_s {n : Nat} {l : List St} (hl : SmallL n l) {s0 s1 s2 s3 s4 ct : Value} (hv : StSl H l ct) (hone : [s0, s1, s2, s3, s4, ct].all oneCell = true)
    (h : ∀ K, H.length ≤ K.length → (∀ c, c < H.length → hget K c = hget H c) → R (.ret (.int .i64 (meetV l))) K) : WD T 15 [.agg #[s0, s1, s2, s3, s4, ct]] H R := by
  refine WD.of follows t15 (by simp) ?_
  have hone2 := hone
  simp only [List.all_cons, List.all_nil, Bool.and_true, Bool.and_eq_true] at hone
  obtain ⟨o0, o1, o2, o3, o4, o5⟩ := hone
  simp (disch := omega) only [kB, kcx, kdm, kdn, kel, aop, resultsL, resultOf, Nat.reduceEqDiff, reduceCtorEq, eq1, apartOK, apart2, AObj.live, Int.reduceEq, Int.reduceLT, Int.reduceLE, Int.reduceAdd, Int.reduceSub, Int.reduceMul, Int.reduceToNat, cutCells, Nat.reduceAdd, Nat.reduceLeDiff, Nat.reduceLT, Nat.reduceMul, Nat.reduceSub, o0, o1, o2, o3, o4, o5]
  refine rstages_s hl (hv.app _) hone2 ?_ ?_
  · intro c0 K k1 k2
    simp only [List.length_append, List.length_cons, List.length_nil, Nat.zero_add] at k1 k2
    have c1 : ¬ ((tallE l : Nat) : Int) = 0 := by omega
    have hm : meetV l = 0 := by rw [meetV, if_neg c0]
    rw [hm] at h
    have hh := h K (by omega) (fun c hc => by rw [k2 c (by omega), hget_old hc])
    simp (disch := omega) only [kB, kcx, kdm, kdn, kel, aop, resultsL, resultOf, Nat.reduceEqDiff, reduceCtorEq, eq1, apartOK, apart2, AObj.live, Int.reduceEq, Int.reduceLT, Int.reduceLE, Int.reduceAdd, Int.reduceSub, Int.reduceMul, Int.reduceToNat, cutCells, Nat.reduceAdd, Nat.reduceLeDiff, Nat.reduceLT, Nat.reduceMul, Nat.reduceSub, c1]
    exact hh
  · intro c0 K ad k1 k2 hg hW
    simp only [List.length_append, List.length_cons, List.length_nil, Nat.zero_add] at k1 k2
    have kH : ∀ c, c < H.length → hget K c = hget H c := fun c hc => by rw [k2 c (by omega), hget_old hc]
    have hrow : hget K H.length = .row [s0, s1, s2, s3, s4, ct] 0 true := by rw [k2 _ (by omega), hget_last]
    have hlt : H.length < K.length := by omega
    rw [flat_len1 1 0 n l hl] at hW
    obtain ⟨⟨t1, t2, t3, t4⟩, t5⟩ := thr_law n l hl 0 [] (by omega) (by simp)
    have e0 : maxs [] (-1) = -1 := rfl
    rw [e0] at t5
    have hm : meetV l = max (mstL l 0 (-1)).1 (mstL l 0 (-1)).2 := by
      rw [meetV, if_pos c0, t5, ← maxs_max, show max (thrL l 0 []).1 (-1) = (thrL l 0 []).1 by omega]
    rw [hm] at h
    have hh := h K (by omega) kH
    simp (disch := omega) only [kB, kcx, kdm, kdn, kel, aop, resultsL, resultOf, Nat.reduceEqDiff, reduceCtorEq, eq1, apartOK, apart2, AObj.live, Int.reduceEq, Int.reduceLT, Int.reduceLE, Int.reduceAdd, Int.reduceSub, Int.reduceMul, Int.reduceToNat, cutCells, Nat.reduceAdd, Nat.reduceLeDiff, Nat.reduceLT, Nat.reduceMul, Nat.reduceSub, hrow]
    refine most_s (H := H) n l hl hW K ct _ hv (by omega) kH ?_
    simp (disch := omega) only [kB, kcx, kdm, kdn, kel, aop, resultsL, resultOf, Nat.reduceEqDiff, reduceCtorEq, eq1, apartOK, apart2, AObj.live, Int.reduceEq, Int.reduceLT, Int.reduceLE, Int.reduceAdd, Int.reduceSub, Int.reduceMul, Int.reduceToNat, cutCells, Nat.reduceAdd, Nat.reduceLeDiff, Nat.reduceLT, Nat.reduceMul, Nat.reduceSub, mm_max]
    exact hh

end Go.Proofs.Ytpllhhaeclnngaa.Ev

/- The law SchemaControls. -/
namespace Go.Proofs.Ytpllhhaeclnngaa.Ev
set_option maxRecDepth 100000
set_option linter.unusedSimpArgs false
set_option linter.unusedVariables false
variable {R : FRes → Heap → Prop} {H : Heap}

theorem pre_of2 {H K : Heap} (h1 : H.length ≤ K.length) (h2 : ∀ c, c < H.length → hget K c = hget H c) : ∃ g, K = H ++ g :=
  ext_pre h1 fun c hc => by
    have := h2 c hc
    simp only [hget, List.getElem?_eq_getElem hc, List.getElem?_eq_getElem (Nat.lt_of_lt_of_le hc h1)] at this ⊢
    simpa using this

theorem hget_frz_ne {b c : Nat} (h : c ≠ b) : hget (frz H [b]) c = hget H c := by
  simp only [frz, frz1]
  split
  · rw [hget_ne (Ne.symm h)]
  · rfl

/-- A call over blocks that are frozen for it, that leaves all that stood. -/
theorem thaw_pre {b : Nat} {K : Heap} (h1 : (frz H [b]).length ≤ K.length) (h2 : ∀ c, c < (frz H [b]).length → hget K c = hget (frz H [b]) c) :
    H.length ≤ (thaw H [b] K).length ∧ (∀ c, c < H.length → hget (thaw H [b] K) c = hget H c) ∧ ∀ c, H.length ≤ c → hget (thaw H [b] K) c = hget K c := by
  obtain ⟨g, rfl⟩ := pre_of2 h1 h2
  rw [thaw_frz]
  rw [frz_length] at h1
  refine ⟨by simp, fun c hc => hget_old hc, fun c hc => ?_⟩
  obtain ⟨k, rfl⟩ : ∃ k, c = H.length + k := ⟨c - H.length, by omega⟩
  rw [hget_base]
  have := hget_base (frz H [b]) g k
  rw [frz_length] at this
  exact this.symm

def appV (l : List St) : List (List UInt8) := if tallE l = 0 then askL l else []

theorem applied2_s {n : Nat} {l : List St} (hl : SmallL n l) {s0 s1 s2 s3 s4 ct : Value} (hv : StSl H l ct) (hone : [s0, s1, s2, s3, s4, ct].all oneCell = true)
    (h : ∀ K ad, H.length ≤ K.length → (∀ c, c < H.length → hget K c = hget H c) → TxG H.length K (.slice ad (appV l).length (appV l).length) (appV l) → (appV l).Nodup → (appV l).length ≤ 128 → R (.ret (.slice ad (appV l).length (appV l).length)) K) : WD T 12 [.agg #[s0, s1, s2, s3, s4, ct]] H R := by
  refine applied_s hl hv hone ?_ ?_
  · intro c0 K k1 k2
    have e : appV l = [] := by rw [appV, if_neg c0]
    rw [e] at h
    exact h K none k1 k2 (.inl ⟨rfl, rfl⟩) List.nodup_nil (by simp)
  · intro c0 K ad k1 k2 k3 k4 _ k5
    have e : appV l = askL l := by rw [appV, if_pos c0]
    rw [e] at h
    exact h K ad k1 k2 k3 k4 k5

theorem rapplied2_s {n : Nat} {l : List St} (hl : SmallL n l) {s0 s1 s2 s3 s4 ct : Value} (hv : StSl H l ct) (hone : [s0, s1, s2, s3, s4, ct].all oneCell = true)
    (h : ∀ K ad, H.length ≤ K.length → (∀ c, c < H.length → hget K c = hget H c) → TxG H.length K (.slice ad (appV l).length (appV l).length) (appV l) → R (.ret (.slice ad (appV l).length (appV l).length)) K) : WD T 13 [.agg #[s0, s1, s2, s3, s4, ct]] H R := by
  refine rapplied_s hl hv hone ?_ ?_
  · intro c0 K k1 k2
    have e : appV l = [] := by rw [appV, if_neg c0]
    rw [e] at h
    exact h K none k1 k2 (.inl ⟨rfl, rfl⟩)
  · intro c0 K ad k1 k2 k3
    have e : appV l = askL l := by rw [appV, if_pos c0]
    rw [e] at h
    exact h K ad k1 k2 k3

set_option maxHeartbeats 1000000 in
theorem controls_w {n : Nat} {l : List St} (hl : SmallL n l) {s0 s1 s2 s3 s4 ct : Value} (hv : StSl H l ct) (hone : [s0, s1, s2, s3, s4, ct].all oneCell = true) :
    WD T 5 [.agg #[s0, s1, s2, s3, s4, ct]] H (fun r _ => r = .ret (.bool true)) := by
  refine WD.of follows t5 (by simp) ?_
  have hone2 := hone
  simp only [List.all_cons, List.all_nil, Bool.and_true, Bool.and_eq_true] at hone
  obtain ⟨o0, o1, o2, o3, o4, o5⟩ := hone
  simp (disch := omega) only [kB, kcx, kdm, kdn, kel, aop, resultsL, resultOf, Nat.reduceEqDiff, reduceCtorEq, eq1, apartOK, apart2, AObj.live, Int.reduceEq, Int.reduceLT, Int.reduceLE, Int.reduceAdd, Int.reduceSub, Int.reduceMul, Int.reduceToNat, cutCells, Nat.reduceAdd, Nat.reduceLeDiff, Nat.reduceLT, Nat.reduceMul, Nat.reduceSub, o0, o1, o2, o3, o4, o5]
  refine shown_s ?_
  simp (disch := omega) only [kB, kcx, kdm, kdn, kel, aop, resultsL, resultOf, Nat.reduceEqDiff, reduceCtorEq, eq1, apartOK, apart2, AObj.live, Int.reduceEq, Int.reduceLT, Int.reduceLE, Int.reduceAdd, Int.reduceSub, Int.reduceMul, Int.reduceToNat, cutCells, Nat.reduceAdd, Nat.reduceLeDiff, Nat.reduceLT, Nat.reduceMul, Nat.reduceSub, o0, o1, o2, o3, o4, o5]
  refine WV.of (fun b hb => by simp only [List.mem_singleton] at hb; subst hb; rw [hget_last]; rfl) ?_
  obtain ⟨H1, hH1⟩ : ∃ H1, H1 = H ++ [AObj.row [s0, s1, s2, s3, s4, ct] 0 true] := ⟨_, rfl⟩
  rw [← hH1]
  have hl1 : H1.length = H.length + 1 := by rw [hH1]; simp
  have hb1 : hget H1 H.length = .row [s0, s1, s2, s3, s4, ct] 0 true := by rw [hH1, hget_last]
  have hk1 : ∀ c, c < H.length → hget H1 c = hget H c := fun c hc => by rw [hH1, hget_old hc]
  clear hH1
  have hv1 : StSl (frz H1 [H.length]) l ct := hv.mono (by rw [frz_length]; omega) fun c hc => by rw [hget_frz_ne (by omega)]; exact hk1 c hc
  refine applied2_s hl hv1 hone2 ?_
  intro K ad k1 k2 k3 k4 k5
  obtain ⟨t1, t2, t3⟩ := thaw_pre k1 k2
  have k6 : TxG H1.length (thaw H1 [H.length] K) (.slice ad (appV l).length (appV l).length) (appV l) := by
    have e : (frz H1 [H.length]).length = H1.length := frz_length ..
    rw [e] at k3
    exact SLs.same k3 fun c hc => t3 c (SLs.lt k3 hc).2
  generalize thaw H1 [H.length] K = K1 at *
  have hb2 : hget K1 H.length = .row [s0, s1, s2, s3, s4, ct] 0 true := by rw [t2 _ (by omega)]; exact hb1
  have hk2 : ∀ c, c < H.length → hget K1 c = hget H c := fun c hc => by rw [t2 c (by omega)]; exact hk1 c hc
  simp (disch := omega) only [kB, kcx, kdm, kdn, kel, aop, resultsL, resultOf, Nat.reduceEqDiff, reduceCtorEq, eq1, apartOK, apart2, AObj.live, Int.reduceEq, Int.reduceLT, Int.reduceLE, Int.reduceAdd, Int.reduceSub, Int.reduceMul, Int.reduceToNat, cutCells, Nat.reduceAdd, Nat.reduceLeDiff, Nat.reduceLT, Nat.reduceMul, Nat.reduceSub]
  refine rapplied2_s hl (hv.mono (by omega) hk2) hone2 ?_
  intro K2 ad2 a1 a2 a3
  have k7 : TxG H1.length K2 (.slice ad (appV l).length (appV l).length) (appV l) := SLs.same k6 fun c hc => a2 c (SLs.lt k6 hc).1
  have hb3 : hget K2 H.length = .row [s0, s1, s2, s3, s4, ct] 0 true := by rw [a2 _ (by omega)]; exact hb2
  have hk3 : ∀ c, c < H.length → hget K2 c = hget H c := fun c hc => by rw [a2 c (by omega)]; exact hk2 c hc
  simp (disch := omega) only [kB, kcx, kdm, kdn, kel, aop, resultsL, resultOf, Nat.reduceEqDiff, reduceCtorEq, eq1, apartOK, apart2, AObj.live, Int.reduceEq, Int.reduceLT, Int.reduceLE, Int.reduceAdd, Int.reduceSub, Int.reduceMul, Int.reduceToNat, cutCells, Nat.reduceAdd, Nat.reduceLeDiff, Nat.reduceLT, Nat.reduceMul, Nat.reduceSub]
  refine eqTexts_s (by omega) k7 a3 ?_
  simp (disch := omega) only [kB, kcx, kdm, kdn, kel, aop, resultsL, resultOf, Nat.reduceEqDiff, reduceCtorEq, eq1, apartOK, apart2, AObj.live, Int.reduceEq, Int.reduceLT, Int.reduceLE, Int.reduceAdd, Int.reduceSub, Int.reduceMul, Int.reduceToNat, cutCells, Nat.reduceAdd, Nat.reduceLeDiff, Nat.reduceLT, Nat.reduceMul, Nat.reduceSub, hb3]
  refine WV.of (fun b hb => by simp only [List.mem_singleton] at hb; subst hb; rw [hb3]; rfl) ?_
  have hlK : H.length < K2.length := by omega
  have hv2 : StSl (frz K2 [H.length]) l ct := hv.mono (by rw [frz_length]; omega) fun c hc => by rw [hget_frz_ne (by omega)]; exact hk3 c hc
  refine meets_s hl hv2 hone2 ?_
  intro K3 b1 b2
  obtain ⟨u1, u2, u3⟩ := thaw_pre b1 b2
  generalize thaw K2 [H.length] K3 = K4 at *
  simp (disch := omega) only [kB, kcx, kdm, kdn, kel, aop, resultsL, resultOf, Nat.reduceEqDiff, reduceCtorEq, eq1, apartOK, apart2, AObj.live, Int.reduceEq, Int.reduceLT, Int.reduceLE, Int.reduceAdd, Int.reduceSub, Int.reduceMul, Int.reduceToNat, cutCells, Nat.reduceAdd, Nat.reduceLeDiff, Nat.reduceLT, Nat.reduceMul, Nat.reduceSub]
  refine rmeets_s hl (hv.mono (by omega) fun c hc => by rw [u2 c (by omega)]; exact hk3 c hc) hone2 ?_
  intro K5 _ _
  simp (disch := omega) only [kB, kcx, kdm, kdn, kel, aop, resultsL, resultOf, Nat.reduceEqDiff, reduceCtorEq, eq1, apartOK, apart2, AObj.live, Int.reduceEq, Int.reduceLT, Int.reduceLE, Int.reduceAdd, Int.reduceSub, Int.reduceMul, Int.reduceToNat, cutCells, Nat.reduceAdd, Nat.reduceLeDiff, Nat.reduceLT, Nat.reduceMul, Nat.reduceSub, decide_true]

end Go.Proofs.Ytpllhhaeclnngaa.Ev

/- A law's arguments as its row reads them: rows of cells that nothing writes, and what stands in them. Conditions: none. -/
namespace Go.Proofs.Ytpllhhaeclnngaa.Ev
open Go.RowKit Go.ChangeShapes Go.WideShapes

/-- What data stands in some cells. -/
inductive Rep (P : Program) (H : Heap) {X : Type} : TypeId → DataW X → List Value → Prop where
  | bool {t : TypeId} (b : Bool) (hu : P.underlying t = some .bool) : Rep P H t (.lit (.bool b)) [.bool b]
  | int {t : TypeId} (k : IntKind) (n : Int) (hu : P.underlying t = some (.int k)) (hw : (Lit.int k n).wf = true) : Rep P H t (.lit (.int k n)) [.int k n]
  | str {t : TypeId} (l : List UInt8) (hu : P.underlying t = some .string) (hl : l.length ≤ maxLen) : Rep P H t (.lit (.string l)) [.string (bs l)]
  | struct {t : TypeId} {fs : Array Field} {ds : List (DataW X)} {ass : List (List Value)} (hu : P.underlying t = some (.struct fs)) (h1 : ds.length = fs.size) (h2 : ass.length = fs.size)
      (h : ∀ (i : Nat) (f : Field) (d : DataW X) (cz : List Value), fs[i]? = some f → ds[i]? = some d → ass[i]? = some cz → Rep P H f.type d cz)
      (hl : ∀ (i : Nat) (f : Field) (cz : List Value), fs[i]? = some f → ass[i]? = some cz → cz.length = P.cellsOf f.type) : Rep P H t (.agg ds) ass.flatten
  | nilS {t e : TypeId} (hu : P.underlying t = some (.slice e)) : Rep P H t .nil [.slice none 0 0]
  | empty {t e : TypeId} {sp : List (DataW X)} (hu : P.underlying t = some (.slice e)) : Rep P H t (.slice [] sp) [.slice (some ⟨0, 0, some 0⟩) 0 0]
  | slice {t e : TypeId} {b : Nat} {ds sp : List (DataW X)} {ass : List (List Value)} (hu : P.underlying t = some (.slice e)) (hne : ds ≠ []) (hb : hget H b = .row ass.flatten 0 false) (h2 : ass.length = ds.length)
      (h : ∀ (i : Nat) (d : DataW X) (cz : List Value), ds[i]? = some d → ass[i]? = some cz → Rep P H e d cz)
      (hl : ∀ (i : Nat) (cz : List Value), ass[i]? = some cz → cz.length = P.cellsOf e) : Rep P H t (.slice ds sp) [.slice (some ⟨b, 0, none⟩) ds.length ds.length]

theorem Rep.mono {P : Program} {H g : Heap} {X : Type} {t : TypeId} {d : DataW X} {cz : List Value} (h : Rep P H t d cz) : Rep P (H ++ g) t d cz := by
  induction h with
  | bool b hu => exact .bool b hu
  | int k n hu hw => exact .int k n hu hw
  | str l hu hl => exact .str l hu hl
  | struct hu h1 h2 h hl ih => exact .struct hu h1 h2 ih hl
  | nilS hu => exact .nilS hu
  | empty hu => exact .empty hu
  | slice hu hne hb h2 h hl ih => exact .slice hu hne (by rw [hget_old (hget_lt hb rfl)]; exact hb) h2 ih hl

/-- A set of types of plain data: numbers, texts, structs and lists of them. -/
def plainSet (P : Program) (L : List TypeId) : Bool := L.all fun t => decide (t < P.types.size) && match P.underlying t with
  | some .bool | some (.int _) | some .string => true
  | some (.struct fs) => fs.toList.all fun f => L.contains f.type
  | some (.slice e) => L.contains e && decide (0 < P.cellsOf e)
  | _ => false

def chunks : List Nat → List Value → List (List Value)
  | [], _ => []
  | n :: ns, cs => cs.take n :: chunks ns (cs.drop n)

theorem chunks_flat : ∀ (ns : List Nat) (cs : List Value), cs.length = ns.sum → (chunks ns cs).flatten = cs
  | [], cs, h => by simp at h; simp [chunks, h]
  | n :: ns, cs, h => by
    rw [chunks, List.flatten_cons, chunks_flat ns _ (by simp at h ⊢; omega), List.take_append_drop]

theorem chunks_len : ∀ (ns : List Nat) (cs : List Value), (chunks ns cs).length = ns.length
  | [], _ => rfl
  | n :: ns, cs => by rw [chunks, List.length_cons, List.length_cons, chunks_len ns]

theorem chunks_get : ∀ (ns : List Nat) (cs : List Value) (j n : Nat), ns[j]? = some n → (chunks ns cs)[j]? = some ((cs.drop (ns.take j).sum).take n)
  | [], _, j, n, h => by simp at h
  | m :: ns, cs, 0, n, h => by simp at h; simp [chunks, h]
  | m :: ns, cs, j + 1, n, h => by
    have h' : ns[j]? = some n := by simpa using h
    have := chunks_get ns (cs.drop m) j n h'
    simp only [chunks, List.getElem?_cons_succ, List.take_succ_cons, List.sum_cons]
    rw [this, List.drop_drop]

theorem VL.flat {n : Nat} {ρ : Nat → Place} : ∀ (xss yss : List (List Value)), xss.length = yss.length → (∀ (i : Nat) (xs ys : List Value), xss[i]? = some xs → yss[i]? = some ys → VL n ρ xs ys) → VL n ρ xss.flatten yss.flatten
  | [], [], _, _ => VL.nil
  | [], _ :: _, h, _ => by simp at h
  | _ :: _, [], h, _ => by simp at h
  | xs :: xss, ys :: yss, h, hh => by
    rw [List.flatten_cons, List.flatten_cons]
    exact (hh 0 xs ys rfl rfl).append (VL.flat xss yss (by simpa using h) fun i a b ha hb => hh (i + 1) a b (by simpa using ha) (by simpa using hb))

section
variable {X : Type} {enc : TypeId × Value → X} {P : Program} {G : Nat} {W : World} {base : Nat} {sp : Nat → Bool} {held : Bool} {L : List TypeId}

/-- Some cells can be told in a heap of the evaluator's. -/
def Opens (P : Program) (G : Nat) (W : World) (t : TypeId) (cs : List Value) (d : DataW X) : Prop :=
  ∀ (H : Heap) (ρ : Nat → Place), (∀ o ∈ H, o.wrt = false) → Rel G ρ H W → ∃ (g : Heap) (ρ' : Nat → Place) (cz : List Value), Rel G ρ' (H ++ g) W ∧ (∀ b, b < H.length → ρ' b = ρ b) ∧ (∀ o ∈ g, ∃ c, o = .row c 0 false) ∧ VL (H ++ g).length ρ' cz cs ∧ Rep P (H ++ g) t d cz

theorem ro_app {H g : Heap} (h : ∀ o ∈ H, o.wrt = false) (hg : ∀ o ∈ g, ∃ c, o = .row c 0 false) : ∀ o ∈ H ++ g, o.wrt = false := fun o ho => by
  rcases List.mem_append.1 ho with ho | ho
  · exact h o ho
  · obtain ⟨c, rfl⟩ := hg o ho; rfl

theorem opens_list : ∀ (l : List (TypeId × List Value × DataW X)), (∀ q ∈ l, Opens P G W q.1 q.2.1 q.2.2) → ∀ (H : Heap) (ρ : Nat → Place), (∀ o ∈ H, o.wrt = false) → Rel G ρ H W →
    ∃ (g : Heap) (ρ' : Nat → Place) (ass : List (List Value)), Rel G ρ' (H ++ g) W ∧ (∀ b, b < H.length → ρ' b = ρ b) ∧ (∀ o ∈ g, ∃ c, o = .row c 0 false) ∧ ass.length = l.length ∧
      ∀ (i : Nat) (q : TypeId × List Value × DataW X) (cz : List Value), l[i]? = some q → ass[i]? = some cz → VL (H ++ g).length ρ' cz q.2.1 ∧ Rep P (H ++ g) q.1 q.2.2 cz
  | [], _, H, ρ, _, hr => ⟨[], ρ, [], by simpa using hr, fun _ _ => rfl, fun o ho => (by cases ho), rfl, fun i q cz h => by simp at h⟩
  | q :: l, h, H, ρ, hro, hr => by
    obtain ⟨g, ρ1, cz, hr1, hs1, hg1, hv1, hp1⟩ := h q (by simp) H ρ hro hr
    obtain ⟨g2, ρ2, ass, hr2, hs2, hg2, hl2, hh⟩ := opens_list l (fun q hq => h q (by simp [hq])) (H ++ g) ρ1 (ro_app hro hg1) hr1
    rw [List.append_assoc] at hr2 hh
    refine ⟨g ++ g2, ρ2, cz :: ass, hr2, fun b hb => (hs2 b (by simp; omega)).trans (hs1 b hb), fun o ho => ?_, by simp [hl2], fun i q' cz' hq has => ?_⟩
    · rcases List.mem_append.1 ho with ho | ho
      · exact hg1 o ho
      · exact hg2 o ho
    · cases i with
      | zero =>
        simp at hq has
        subst hq; subst has
        refine ⟨hv1.mono (by simp) hs2, ?_⟩
        rw [← List.append_assoc]
        exact hp1.mono
      | succ i => exact hh i q' cz' (by simpa using hq) (by simpa using has)

theorem mem_plain (hP : plainSet P L = true) {t : TypeId} (ht : L.contains t = true) : (decide (t < P.types.size) && (match P.underlying t with
    | some .bool | some (.int _) | some .string => true
    | some (.struct fs) => fs.toList.all fun f => L.contains f.type
    | some (.slice e) => L.contains e && decide (0 < P.cellsOf e)
    | _ => false)) = true := by
  unfold plainSet at hP
  exact List.all_eq_true.1 hP t (List.contains_iff_mem.1 ht)

theorem flat_get {c : Nat} (hc : 0 < c) : ∀ (css : List (List Value)) (k j : Nat) (cs : List Value), (∀ (i : Nat) (cz : List Value), css[i]? = some cz → cz.length = c) → css[k]? = some cs → j < c → css.flatten[k * c + j]? = cs[j]?
  | [], k, j, cs, _, h, _ => by simp at h
  | a :: css, 0, j, cs, hl, h, hj => by
    have h1 := hl 0 a rfl
    simp at h
    subst h
    rw [List.flatten_cons, Nat.zero_mul, Nat.zero_add, List.getElem?_append_left (by omega)]
  | a :: css, k + 1, j, cs, hl, h, hj => by
    have h1 := hl 0 a rfl
    have := flat_get hc css k j cs (fun i cz hi => hl (i + 1) cz (by simpa using hi)) (by simpa using h) hj
    rw [List.flatten_cons, List.getElem?_append_right (by rw [h1, Nat.add_mul]; omega), h1, show (k + 1) * c + j - c = k * c + j by rw [Nat.add_mul]; omega]
    exact this

theorem flat_len {c : Nat} : ∀ (css : List (List Value)), (∀ (i : Nat) (cz : List Value), css[i]? = some cz → cz.length = c) → css.flatten.length = css.length * c
  | [], _ => by simp
  | a :: css, hl => by
    rw [List.flatten_cons, List.length_append, hl 0 a rfl, flat_len css (fun i cz hi => hl (i + 1) cz (by simpa using hi)), List.length_cons, Nat.add_mul]
    omega

/-- A row that nothing writes, new in the evaluator's heap. -/
theorem rel_row {H : Heap} {ρ : Nat → Place} (hro : ∀ o ∈ H, o.wrt = false) (hr : Rel G ρ H W) {a : Addr} {cs : List Value} {cells : Array Value} {t : TypeId} {fr : Nat × Nat} {ext0 : Nat} (hh : W.heap[a.block]? = some (.cells cells t fr))
    (hc : ∀ (i : Nat) (v : Value), cs[i]? = some v → ∃ v', cells[a.off + i]? = some v' ∧ VR H.length ρ v v') : Rel G (ext ρ H.length ⟨a.block, a.off, ext0⟩) (H ++ [.row cs 0 false]) W := by
  have cases_ : ∀ b u, (H ++ [AObj.row cs 0 false])[b]? = some u → (b < H.length ∧ H[b]? = some u) ∨ (b = H.length ∧ u = .row cs 0 false) := fun b u h => by
    by_cases hb : b < H.length
    · rw [List.getElem?_append_left hb] at h; exact .inl ⟨hb, h⟩
    · rw [List.getElem?_append_right (by omega)] at h
      obtain ⟨h1, h2⟩ := List.getElem?_eq_some_iff.1 h
      simp at h1
      have : b = H.length := by omega
      subst this
      simp at h2
      exact .inr ⟨rfl, h2.symm⟩
  have hlen : (H ++ [AObj.row cs 0 false]).length = H.length + 1 := by simp
  refine ⟨fun b u hu => ?_, fun b c u v hu hv hne hw hl => ?_, fun g hg => ?_, by rw [hlen]; have := hr.many; omega⟩
  · rcases cases_ b u hu with ⟨hb, hu⟩ | ⟨rfl, rfl⟩
    · exact (hr.obj b u hu).mono (by omega) (ext_lt hb) (fun c hc => ext_lt hc) (fun _ => rfl)
    · rw [OR, ext_same]
      refine ⟨cells, t, fr, hh, fun i v hi => ?_, fun h => by cases h⟩
      obtain ⟨v', h1, h2⟩ := hc i v hi
      exact ⟨v', h1, h2.mono (by omega) fun b hb => ext_lt hb⟩
  · rcases cases_ b u hu with ⟨hb, hu2⟩ | ⟨rfl, rfl⟩
    · rw [hro u (List.mem_of_getElem? hu2)] at hw
      cases hw
    · cases hw
  · rw [ext_lt (Nat.lt_of_lt_of_le hg hr.many)]; exact hr.glob g hg

theorem opens_trod (hl : laidOutB P = true) (hm : mapsRowed P = true) (hP : plainSet P L = true) : ∀ (n : Nat) (t : TypeId) (cs : List Value) (x : DataW X × List MemPlace), L.contains t = true →
    DataW.trod enc P W base (fun _ => true) held n t cs = some x → Opens P G W t cs x.1 := by
  intro n
  induction n with
  | zero => intro t cs x _ h; simp [DataW.trod] at h
  | succ n ih =>
    intro t cs x ht h
    have hk := mem_plain hP ht
    simp only [Bool.and_eq_true, decide_eq_true_eq] at hk
    obtain ⟨htp, hk⟩ := hk
    have K := kids_rows hl hm
    intro H ρ hro hr
    split at hk
    · rename_i hu
      obtain ⟨b, rfl, rfl⟩ := DataW.trod_bool hu h
      exact ⟨[], ρ, [.bool b], by simpa using hr, fun _ _ => rfl, fun o ho => (by cases ho), VL.cons (.bool b) VL.nil, .bool b hu⟩
    · rename_i k hu
      obtain ⟨m, rfl, rfl, hw⟩ := DataW.trod_int hu h
      exact ⟨[], ρ, [.int k m], by simpa using hr, fun _ _ => rfl, fun o ho => (by cases ho), VL.cons (.int k m) VL.nil, .int k m hu hw⟩
    · rename_i hu
      obtain ⟨s, rfl, rfl, hs⟩ := DataW.trod_string hu h
      exact ⟨[], ρ, [.string s], by simpa using hr, fun _ _ => rfl, fun o ho => (by cases ho), VL.cons (.string s) VL.nil, .str s.data.toList hu (by simpa using hs)⟩
    · rename_i fs hu
      obtain ⟨xs, m, hm1, rfl, hlen, hxl, hf⟩ := DataW.trod_struct hu h
      cases hm1
      obtain ⟨_, hsum, hoff⟩ := K.struct htp hu
      -- the fields, one by one
      have hget : ∀ (i : Nat) (f : Field) (y : DataW X × List MemPlace), fs[i]? = some f → xs[i]? = some y → DataW.trod enc P W base (fun _ => true) held n f.type ((cs.drop f.offset).take (P.cellsOf f.type)) = some y := fun i f y hfi hy => by
        rw [hf i f hfi, hy]
      let l : List (TypeId × List Value × DataW X) := (List.range fs.size).map fun i => ((fs[i]?.map (·.type)).getD 0, ((chunks (fs.toList.map fun f => P.cellsOf f.type) cs)[i]?).getD [], (xs[i]?.map (·.1)).getD .nil)
      have hl1 : ∀ i, i < fs.size → ∃ f y, fs[i]? = some f ∧ xs[i]? = some y ∧ l[i]? = some (f.type, (cs.drop f.offset).take (P.cellsOf f.type), y.1) := fun i hi => by
        have e1 : fs[i]? = some fs[i] := Array.getElem?_eq_getElem hi
        have e2 : xs[i]? = some (xs[i]'(by omega)) := List.getElem?_eq_getElem (by omega)
        refine ⟨_, _, e1, e2, ?_⟩
        have e3 : fs.toList[i]? = some fs[i] := by rw [Array.getElem?_toList]; exact e1
        have e4 := chunks_get (fs.toList.map fun f => P.cellsOf f.type) cs i (P.cellsOf fs[i].type) (by simp [hi])
        have e5 := hoff i _ e3
        rw [List.map_take] at e5
        rw [← e5] at e4
        simp only [l, List.getElem?_map, List.getElem?_range hi, Option.map_some, e1, e2, e4, Option.getD_some]
      have hlL : l.length = fs.size := by simp [l]
      obtain ⟨g, ρ', ass, hr', hs', hg', hal, hh⟩ := opens_list l (fun q hq => by
        obtain ⟨i, hi⟩ := List.getElem?_of_mem hq
        have hi2 : i < fs.size := by rw [← hlL]; exact (List.getElem?_eq_some_iff.1 hi).1
        obtain ⟨f, y, h1, h2, h3⟩ := hl1 i hi2
        rw [hi] at h3
        cases h3
        refine ih f.type _ y ?_ (hget i f y h1 h2)
        have hmem : f ∈ fs.toList := by
          have : fs.toList[i]? = some f := by simpa using h1
          exact List.mem_of_getElem? this
        exact List.all_eq_true.1 hk f hmem) H ρ hro hr
      refine ⟨g, ρ', ass.flatten, hr', hs', hg', ?_, ?_⟩
      · have hflat := chunks_flat (fs.toList.map fun f => P.cellsOf f.type) cs (by rw [hlen, hsum])
        rw [← hflat]
        refine VL.flat _ _ (by rw [hal, hlL, chunks_len]; simp) fun i a b ha hb => ?_
        have hi : i < fs.size := by rw [← hlL, ← hal]; exact (List.getElem?_eq_some_iff.1 ha).1
        obtain ⟨f, y, h1, h2, h3⟩ := hl1 i hi
        have e4 := chunks_get (fs.toList.map fun f => P.cellsOf f.type) cs i (P.cellsOf f.type) (by
          have : fs.toList[i]? = some f := by simpa using h1
          simp [this])
        have e5 := hoff i f (by simpa using h1)
        rw [List.map_take] at e5
        rw [← e5] at e4
        rw [hb] at e4
        cases e4
        exact (hh i _ a h3 ha).1
      · refine .struct hu (by simpa using hxl) (by rw [hal, hlL]) (fun i f d cz hfi hd ha => ?_) (fun i f cz hfi ha => ?_)
        · have hi : i < fs.size := (Array.getElem?_eq_some_iff.1 hfi).1
          obtain ⟨f', y, h1, h2, h3⟩ := hl1 i hi
          rw [hfi] at h1
          cases h1
          rw [List.getElem?_map, h2] at hd
          cases hd
          exact (hh i _ cz h3 ha).2
        · have hi : i < fs.size := (Array.getElem?_eq_some_iff.1 hfi).1
          obtain ⟨f', y, h1, h2, h3⟩ := hl1 i hi
          rw [hfi] at h1
          cases h1
          have := (hh i _ cz h3 ha).1.1
          rw [this]
          have e5 := hoff i f (by simpa using hfi)
          have hle : f.offset + P.cellsOf f.type ≤ cs.length := by
            rw [hlen, hsum, e5]
            have : fs.toList[i]? = some f := by simpa using hfi
            obtain ⟨h7, h8⟩ := List.getElem?_eq_some_iff.1 this
            have e6 : fs.toList = fs.toList.take i ++ f :: fs.toList.drop (i + 1) := by
              rw [← h8, ← List.drop_eq_getElem_cons h7, List.take_append_drop]
            conv => rhs; rw [e6]
            rw [List.map_append, List.sum_append, List.map_cons, List.sum_cons]
            omega
          rw [List.length_take, List.length_drop]
          omega
    · rename_i e hu
      simp only [Bool.and_eq_true, decide_eq_true_eq] at hk
      rcases DataW.trod_slice hu h with ⟨rfl, rfl⟩ | ⟨a, len, cap, elems, rest, m, hm1, rfl, rfl, hbase, hlc, hcm, hel, hge, _, _⟩
      · exact ⟨[], ρ, [.slice none 0 0], by simpa using hr, fun _ _ => rfl, fun o ho => (by cases ho), VL.cons .slNil VL.nil, .nilS hu⟩
      cases hm1
      by_cases h0 : elems = []
      · subst h0
        obtain rfl : len = 0 := by simpa using hel.symm
        exact ⟨[], ρ, [.slice (some ⟨0, 0, some 0⟩) 0 0], by simpa using hr, fun _ _ => rfl, fun o ho => (by cases ho), VL.cons (.slE 0 0 0 a cap) VL.nil, .empty hu⟩
      have hlen0 : 0 < len := by rw [← hel]; exact List.length_pos_iff.2 h0
      have hcell : ∀ i, i < len → ∃ csi y, W.cells? base (a.add (i * P.cellsOf e)) (P.cellsOf e) = some csi ∧ elems[i]? = some y ∧ DataW.trod enc P W base (fun _ => true) held n e csi = some y := fun i hi => by
        have h1 := hge i hi
        have h2 : elems[i]? = some (elems[i]'(by omega)) := List.getElem?_eq_getElem (by omega)
        rw [h2] at h1
        obtain ⟨csi, h3, h4⟩ := Option.bind_eq_some_iff.1 h1
        exact ⟨csi, _, h3, h2, h4⟩
      let css : List (List Value) := (List.range len).map fun i => (W.cells? base (a.add (i * P.cellsOf e)) (P.cellsOf e)).getD []
      have hcss : ∀ i, i < len → ∃ csi y, css[i]? = some csi ∧ W.cells? base (a.add (i * P.cellsOf e)) (P.cellsOf e) = some csi ∧ elems[i]? = some y ∧ DataW.trod enc P W base (fun _ => true) held n e csi = some y := fun i hi => by
        obtain ⟨csi, y, h1, h2, h3⟩ := hcell i hi
        exact ⟨csi, y, by simp [css, hi, h1], h1, h2, h3⟩
      have hcssL : css.length = len := by simp [css]
      let l : List (TypeId × List Value × DataW X) := (List.range len).map fun i => (e, (css[i]?).getD [], (elems[i]?.map (·.1)).getD .nil)
      have hl1 : ∀ i, i < len → ∃ csi y, css[i]? = some csi ∧ W.cells? base (a.add (i * P.cellsOf e)) (P.cellsOf e) = some csi ∧ elems[i]? = some y ∧ DataW.trod enc P W base (fun _ => true) held n e csi = some y ∧ l[i]? = some (e, csi, y.1) := fun i hi => by
        obtain ⟨csi, y, h1, h2, h3, h4⟩ := hcss i hi
        exact ⟨csi, y, h1, h2, h3, h4, by simp [l, hi, h1, h3]⟩
      have hlL : l.length = len := by simp [l]
      obtain ⟨g, ρ', ass, hr', hs', hg', hal, hh⟩ := opens_list l (fun q hq => by
        obtain ⟨i, hi⟩ := List.getElem?_of_mem hq
        have hi2 : i < len := by rw [← hlL]; exact (List.getElem?_eq_some_iff.1 hi).1
        obtain ⟨csi, y, h1, h2, h3, h4, h5⟩ := hl1 i hi2
        rw [hi] at h5
        cases h5
        exact ih e _ y hk.1 h4) H ρ hro hr
      have hasl : ∀ (i : Nat) (cz : List Value), ass[i]? = some cz → cz.length = P.cellsOf e := fun i cz ha => by
        have hi : i < len := by rw [← hlL, ← hal]; exact (List.getElem?_eq_some_iff.1 ha).1
        obtain ⟨csi, y, h1, h2, h3, h4, h5⟩ := hl1 i hi
        rw [(hh i _ cz h5 ha).1.1]
        exact (World.cells?_some h2).2.1
      -- the block itself
      obtain ⟨cs0, y0, g1, g2, _⟩ := hcell 0 hlen0
      obtain ⟨_, gl, gc⟩ := World.cells?_some g1
      have gc0 := gc 0 hk.2
      rw [Nat.zero_mul] at gc0
      have hadd : ∀ (k j : Nat), ((a.add k).add j) = if k + j = 0 then a else ⟨a.block, a.off + (k + j), none⟩ := fun k j => by
        unfold Addr.add
        by_cases hk0 : k = 0
        · subst hk0
          by_cases hj0 : j = 0
          · subst hj0; rfl
          · simp [hj0]
        · by_cases hj0 : j = 0
          · subst hj0; simp [hk0]
          · simp only [if_neg hk0, if_neg hj0, if_neg (show ¬ k + j = 0 by omega), Nat.add_assoc]
      have hblk : ∃ cells ty fr, W.heap[a.block]? = some (.cells cells ty fr) ∧ a.spot = none := by
        have h7 : W.cell? a = cs0[0]? := by simpa [hadd] using gc0
        have h8 : cs0[0]? = some (cs0[0]'(by omega)) := List.getElem?_eq_getElem (by omega)
        rw [h8] at h7
        unfold World.cell? at h7
        split at h7
        · rename_i c ty fr hc
          split at h7
          · cases h7
          · rename_i hsp
            exact ⟨c, ty, fr, hc, by simpa using hsp⟩
        · cases h7
      obtain ⟨cells, ty, fr, hh0, hsp⟩ := hblk
      have hcellat : ∀ (i : Nat) (v : Value), ass.flatten[i]? = some v → ∃ v', cells[a.off + i]? = some v' ∧ VR (H ++ g).length ρ' v v' := fun i v hv => by
        have hi : i < ass.flatten.length := (List.getElem?_eq_some_iff.1 hv).1
        rw [flat_len ass hasl, hal, hlL] at hi
        have hq : i / P.cellsOf e < len := (Nat.div_lt_iff_lt_mul hk.2).2 hi
        have hm2 : i % P.cellsOf e < P.cellsOf e := Nat.mod_lt _ hk.2
        have hid : i / P.cellsOf e * P.cellsOf e + i % P.cellsOf e = i := Nat.div_add_mod' i (P.cellsOf e)
        obtain ⟨csi, y, h1, h2, h3, h4, h5⟩ := hl1 _ hq
        have ha : ass[i / P.cellsOf e]? = some (ass[i / P.cellsOf e]'(by rw [hal, hlL]; exact hq)) := List.getElem?_eq_getElem _
        obtain ⟨hv1, _⟩ := hh _ _ _ h5 ha
        have hfg := flat_get hk.2 ass _ _ _ hasl ha hm2
        rw [hid, hv] at hfg
        obtain ⟨v', hv', hvr⟩ := hv1.get hfg.symm
        refine ⟨v', ?_, hvr⟩
        have h9 := (World.cells?_some h2).2.2 _ hm2
        rw [hadd, hid, hv'] at h9
        by_cases hi0 : i = 0
        · subst hi0
          simp only [if_true] at h9
          unfold World.cell? at h9
          rw [hh0, hsp] at h9
          simpa using h9
        · rw [if_neg hi0] at h9
          unfold World.cell? at h9
          simpa [hh0] using h9
      have hr2 := rel_row (a := a) (cs := ass.flatten) (ext0 := cap - len) (ro_app hro hg') hr' hh0 hcellat
      refine ⟨g ++ [.row ass.flatten 0 false], ext ρ' (H ++ g).length ⟨a.block, a.off, cap - len⟩, [.slice (some ⟨(H ++ g).length, 0, none⟩) len len], by rw [← List.append_assoc]; exact hr2, fun b hb => ?_, fun o ho => ?_, ?_, ?_⟩
      · rw [ext_lt (by rw [List.length_append]; omega)]; exact hs' b hb
      · rcases List.mem_append.1 ho with ho | ho
        · exact hg' o ho
        · rw [List.mem_singleton.1 ho]; exact ⟨_, rfl⟩
      · have := VR.sl (n := (H ++ (g ++ [AObj.row ass.flatten 0 false])).length) (ρ := ext ρ' (H ++ g).length ⟨a.block, a.off, cap - len⟩) (H ++ g).length 0 len len cap (by simp only [List.length_append, List.length_cons, List.length_nil]; omega) (Nat.le_refl _) hlc (by rw [ext_same]; show cap ≤ len + (cap - len); omega)
        rw [ext_same, Nat.add_zero] at this
        have ha2 : (⟨a.block, a.off, none⟩ : Addr) = a := by rw [← hsp]
        rw [ha2] at this
        exact VL.cons this VL.nil
      · have := Rep.slice (P := P) (H := H ++ (g ++ [AObj.row ass.flatten 0 false])) (t := t) (e := e) (b := (H ++ g).length) (ds := elems.map (·.1)) (sp := rest.map (·.1)) (ass := ass) hu (by simpa using h0) (by rw [← List.append_assoc]; exact hget_last _ _) (by rw [hal, hlL, List.length_map, hel])
          (fun i d cz hd ha => by
            have hi : i < len := by rw [← hlL, ← hal]; exact (List.getElem?_eq_some_iff.1 ha).1
            obtain ⟨csi, y, h1, h2, h3, h4, h5⟩ := hl1 i hi
            rw [List.getElem?_map, h3] at hd
            cases hd
            have := (hh i _ cz h5 ha).2
            rw [← List.append_assoc]
            exact this.mono) hasl
        rw [List.length_map, hel] at this
        exact this
    · cases hk

/-! ### The call's end -/

def slicesPos (P : Program) : Bool := (List.range P.types.size).all fun t => match P.underlying t with
  | some (.slice e) => decide (0 < P.cellsOf e)
  | _ => true

theorem args_stay {W' : World} (hl : laidOutB P = true) (hm : mapsRowed P = true) (hp : slicesPos P = true) (bel : Below W.heap.size W W') :
    ∀ {ts : List TypeId} {vs : List Value} {ds : List (DataW X)} {ps : List MemPlace}, (∀ t ∈ ts, t < P.types.size) → DataW.TrodAll enc P W 0 (fun _ => true) true ts vs ds ps →
      DataW.TrodAll enc P W' 0 (fun b => decide (b < W.heap.size)) true ts vs ds ps
  | [], vs, ds, ps, _, h => by
    obtain ⟨rfl, rfl, rfl⟩ := trodAll_nil h
    rfl
  | t :: ts, vs, ds, ps, ht, h => by
    obtain ⟨v, vs1, d, ds1, p, q, rfl, rfl, rfl, ⟨fuel, h1⟩, h2⟩ := trodAll_cons h
    have hlt := DataW.trod_lt fuel t v.cells.toList _ h1
    refine ⟨p, q, ⟨fuel, DataW.trod_stays (kids_rows hl hm) (fun {t e} htt hu => ?_) (fun h => by cases h) (ht t (by simp)) h1 (fun x hx => bel.same (hlt x hx)) (fun x hx => by simpa using hlt x hx)⟩, args_stay hl hm hp bel (fun u hu => ht u (by simp [hu])) h2, rfl⟩
    have := List.all_eq_true.1 hp t (List.mem_range.2 htt)
    simpa [hu] using this

/-! ### The call's arguments -/

/-- An argument tells some data. -/
def ArgRep (P : Program) (H : Heap) (t : TypeId) (d : DataW X) (a : Value) : Prop := ∃ cz, Rep P H t d cz ∧ (((∃ fs, P.underlying t = some (.struct fs)) ∧ a = .agg cz.toArray) ∨ cz = [a])

theorem ArgRep.mono {H g : Heap} {t : TypeId} {d : DataW X} {a : Value} (h : ArgRep P H t d a) : ArgRep P (H ++ g) t d a := by
  obtain ⟨cz, h1, h2⟩ := h
  exact ⟨cz, h1.mono, h2⟩

theorem vr_single {n : Nat} {ρ : Nat → Place} {a : Value} {v : Value} (h : VL n ρ [a] v.cells.toList) (hv : ∀ cs, v ≠ .agg cs) : VR n ρ a v := by
  have : v.cells.toList = [v] := by
    cases v <;> first | rfl | exact absurd rfl (hv _)
  rw [this] at h
  exact h.head

theorem open_args (hl : laidOutB P = true) (hm : mapsRowed P = true) (hP : plainSet P L = true) {r : Reach} {b0 : Nat} : ∀ {ts : List TypeId} {vs : List Value} {ds : List (DataW X)} {ps : List MemPlace},
    (∀ t ∈ ts, L.contains t = true) → DataW.TrodAll enc P W base (fun _ => true) held ts vs ds ps → (∀ (j : Nat) t v, ts[j]? = some t → vs[j]? = some v → Value.okWide P W r b0 t v) →
    ∀ (H : Heap) (ρ : Nat → Place), (∀ o ∈ H, o.wrt = false) → Rel G ρ H W → ∃ (g : Heap) (ρ' : Nat → Place) (avs : List Value), Rel G ρ' (H ++ g) W ∧ (∀ b, b < H.length → ρ' b = ρ b) ∧ (∀ o ∈ g, ∃ c, o = .row c 0 false) ∧
      VL (H ++ g).length ρ' avs vs ∧ avs.length = ts.length ∧ ∀ (j : Nat) t d a, ts[j]? = some t → ds[j]? = some d → avs[j]? = some a → ArgRep P (H ++ g) t d a
  | [], vs, ds, ps, _, h, _, H, ρ, hro, hr => by
    obtain ⟨rfl, rfl, rfl⟩ := trodAll_nil h
    exact ⟨[], ρ, [], by simpa using hr, fun _ _ => rfl, fun o ho => (by cases ho), VL.nil, rfl, fun j t d a h => by simp at h⟩
  | t :: ts, vs, ds, ps, hts, h, hok, H, ρ, hro, hr => by
    obtain ⟨v, vs1, d, ds1, p, q, rfl, rfl, rfl, ⟨fuel, h1⟩, h2⟩ := trodAll_cons h
    have htc := hts t (by simp)
    obtain ⟨g, ρ1, cz, hr1, hs1, hg1, hv1, hp1⟩ := opens_trod (G := G) hl hm hP fuel t _ _ htc h1 H ρ hro hr
    obtain ⟨g2, ρ2, avs, hr2, hs2, hg2, hv2, hl2, hh⟩ := open_args hl hm hP (fun u hu => hts u (by simp [hu])) h2 (fun j t v hj hv => hok (j + 1) t v (by simpa using hj) (by simpa using hv)) (H ++ g) ρ1 (ro_app hro hg1) hr1
    rw [List.append_assoc] at hr2 hh hv2
    have hval := hok 0 t v rfl rfl
    have hk := mem_plain hP htc
    simp only [Bool.and_eq_true, decide_eq_true_eq] at hk
    obtain ⟨_, hk⟩ := hk
    have single : (∀ cs, v ≠ .agg cs) → (∃ a, cz = [a]) → ∃ a, VR (H ++ g).length ρ1 a v ∧ ArgRep P (H ++ g) t d a := fun hna ⟨a, ha⟩ => by
      subst ha
      exact ⟨a, vr_single hv1 hna, [a], hp1, .inr rfl⟩
    have one : (∀ cs, v ≠ .agg cs) → ∃ a, cz = [a] := fun hna => by
      have : v.cells.toList = [v] := by
        cases v <;> first | rfl | exact absurd rfl (hna _)
      have h3 := hv1.1
      rw [this] at h3
      match cz, h3 with
      | [a], _ => exact ⟨a, rfl⟩
    have hex : ∃ a, VR (H ++ g).length ρ1 a v ∧ ArgRep P (H ++ g) t d a := by
      split at hk
      · rename_i hu
        obtain ⟨b, rfl⟩ := okWide_bool hu hval
        exact single (fun _ h => by cases h) (one fun _ h => by cases h)
      · rename_i k hu
        obtain ⟨b, rfl⟩ := okWide_int hu hval
        exact single (fun _ h => by cases h) (one fun _ h => by cases h)
      · rename_i hu
        obtain ⟨b, rfl⟩ := okWide_string hu hval
        exact single (fun _ h => by cases h) (one fun _ h => by cases h)
      · rename_i fs hu
        obtain ⟨cs, rfl, _⟩ := okWide_struct hu hval
        refine ⟨.agg cz.toArray, ?_, cz, hp1, .inl ⟨⟨fs, hu⟩, rfl⟩⟩
        have := hv1.agg
        simpa [Value.cells] using this
      · rename_i e hu
        obtain ⟨a, l, c, rfl⟩ := okWide_slice hu hval
        exact single (fun _ h => by cases h) (one fun _ h => by cases h)
      · cases hk
    obtain ⟨a, ha1, ha2⟩ := hex
    refine ⟨g ++ g2, ρ2, a :: avs, hr2, fun b hb => (hs2 b (by simp; omega)).trans (hs1 b hb), fun o ho => ?_, VL.cons (ha1.mono (by simp) hs2) hv2, by simp [hl2], fun j t' d' a' hj hd ha => ?_⟩
    · rcases List.mem_append.1 ho with ho | ho
      · exact hg1 o ho
      · exact hg2 o ho
    · cases j with
      | zero =>
        simp at hj hd ha
        subst hj; subst hd; subst ha
        rw [← List.append_assoc]
        exact ha2.mono
      | succ j => exact hh j t' d' a' (by simpa using hj) (by simpa using hd) (by simpa using ha)

/-! ### What an argument is -/

theorem Rep.inv_int {H : Heap} {t : TypeId} {k : IntKind} {d : DataW X} {cz : List Value} (hu : P.underlying t = some (.int k)) (h : Rep P H t d cz) : ∃ n, d = .lit (.int k n) ∧ cz = [.int k n] ∧ (Lit.int k n).wf = true := by
  cases h with
  | int k' n hu' hw => rw [hu] at hu'; cases hu'; exact ⟨n, rfl, rfl, hw⟩
  | bool b hu' => rw [hu] at hu'; cases hu'
  | str l hu' hl => rw [hu] at hu'; cases hu'
  | struct hu' => rw [hu] at hu'; cases hu'
  | nilS hu' => rw [hu] at hu'; cases hu'
  | empty hu' => rw [hu] at hu'; cases hu'
  | slice hu' => rw [hu] at hu'; cases hu'

theorem Rep.inv_bool {H : Heap} {t : TypeId} {d : DataW X} {cz : List Value} (hu : P.underlying t = some .bool) (h : Rep P H t d cz) : ∃ b, d = .lit (.bool b) ∧ cz = [.bool b] := by
  cases h with
  | int k' n hu' hw => rw [hu] at hu'; cases hu'
  | bool b hu' => exact ⟨b, rfl, rfl⟩
  | str l hu' hl => rw [hu] at hu'; cases hu'
  | struct hu' => rw [hu] at hu'; cases hu'
  | nilS hu' => rw [hu] at hu'; cases hu'
  | empty hu' => rw [hu] at hu'; cases hu'
  | slice hu' => rw [hu] at hu'; cases hu'

theorem Rep.inv_str {H : Heap} {t : TypeId} {d : DataW X} {cz : List Value} (hu : P.underlying t = some .string) (h : Rep P H t d cz) : ∃ l, d = .lit (.string l) ∧ cz = [.string (bs l)] ∧ l.length ≤ maxLen := by
  cases h with
  | int k' n hu' hw => rw [hu] at hu'; cases hu'
  | bool b hu' => rw [hu] at hu'; cases hu'
  | str l hu' hl => exact ⟨l, rfl, rfl, hl⟩
  | struct hu' => rw [hu] at hu'; cases hu'
  | nilS hu' => rw [hu] at hu'; cases hu'
  | empty hu' => rw [hu] at hu'; cases hu'
  | slice hu' => rw [hu] at hu'; cases hu'

theorem Rep.inv_struct {H : Heap} {t : TypeId} {fs : Array Field} {d : DataW X} {cz : List Value} (hu : P.underlying t = some (.struct fs)) (h : Rep P H t d cz) : ∃ (ds : List (DataW X)) (ass : List (List Value)), d = .agg ds ∧ cz = ass.flatten ∧ ds.length = fs.size ∧ ass.length = fs.size ∧
    ∀ (i : Nat) (f : Field) (d : DataW X) (cz : List Value), fs[i]? = some f → ds[i]? = some d → ass[i]? = some cz → Rep P H f.type d cz := by
  cases h with
  | int k' n hu' hw => rw [hu] at hu'; cases hu'
  | bool b hu' => rw [hu] at hu'; cases hu'
  | str l hu' hl => rw [hu] at hu'; cases hu'
  | struct hu' h1 h2 h3 h4 => rw [hu] at hu'; cases hu'; exact ⟨_, _, rfl, rfl, h1, h2, h3⟩
  | nilS hu' => rw [hu] at hu'; cases hu'
  | empty hu' => rw [hu] at hu'; cases hu'
  | slice hu' => rw [hu] at hu'; cases hu'

theorem Rep.inv_slice {H : Heap} {t e : TypeId} {d : DataW X} {cz : List Value} (hu : P.underlying t = some (.slice e)) (h : Rep P H t d cz) : (d = .nil ∧ cz = [.slice none 0 0]) ∨ (∃ sp, d = .slice [] sp ∧ cz = [.slice (some ⟨0, 0, some 0⟩) 0 0]) ∨
    ∃ (b : Nat) (ds sp : List (DataW X)) (ass : List (List Value)), d = .slice ds sp ∧ ds ≠ [] ∧ cz = [.slice (some ⟨b, 0, none⟩) ds.length ds.length] ∧ hget H b = .row ass.flatten 0 false ∧ ass.length = ds.length ∧
      (∀ (i : Nat) (d : DataW X) (cz : List Value), ds[i]? = some d → ass[i]? = some cz → Rep P H e d cz) ∧ (∀ (i : Nat) (cz : List Value), ass[i]? = some cz → cz.length = P.cellsOf e) := by
  cases h with
  | int k' n hu' hw => rw [hu] at hu'; cases hu'
  | bool b hu' => rw [hu] at hu'; cases hu'
  | str l hu' hl => rw [hu] at hu'; cases hu'
  | struct hu' => rw [hu] at hu'; cases hu'
  | nilS hu' => exact .inl ⟨rfl, rfl⟩
  | empty hu' => exact .inr (.inl ⟨_, rfl, rfl⟩)
  | slice hu' hne hb h2 h3 h4 => rw [hu] at hu'; cases hu'; exact .inr (.inr ⟨_, _, _, _, rfl, hne, rfl, hb, h2, h3, h4⟩)

/-- A struct of two fields. -/
theorem Rep.inv_two {H : Heap} {t : TypeId} {f0 f1 : Field} {d : DataW X} {cz : List Value} (hu : P.underlying t = some (.struct #[f0, f1])) (h : Rep P H t d cz) : ∃ d0 d1 a0 a1, d = .agg [d0, d1] ∧ cz = a0 ++ a1 ∧ Rep P H f0.type d0 a0 ∧ Rep P H f1.type d1 a1 := by
  obtain ⟨ds, ass, rfl, rfl, h1, h2, h3⟩ := h.inv_struct hu
  match ds, ass, h1, h2, h3 with
  | [d0, d1], [a0, a1], _, _, h3 => exact ⟨d0, d1, a0, a1, rfl, by simp, h3 0 f0 d0 a0 rfl rfl rfl, h3 1 f1 d1 a1 rfl rfl rfl⟩

/-- An unsigned number of 64 bits. -/
theorem Rep.inv_u64 {H : Heap} {t : TypeId} {d : DataW X} {cz : List Value} (hu : P.underlying t = some (.int .u64)) (h : Rep P H t d cz) : ∃ n : Nat, d = .lit (.int .u64 n) ∧ cz = [.int .u64 (n : Int)] ∧ n < 18446744073709551616 := by
  obtain ⟨n, rfl, rfl, hw⟩ := h.inv_int hu
  have hw : (0 : Int) ≤ n ∧ n ≤ 18446744073709551615 := by
    simpa [Lit.wf, IntKind.min, IntKind.max, IntKind.signed, IntKind.bits] using hw
  refine ⟨n.toNat, ?_, ?_, by omega⟩ <;> rw [Int.toNat_of_nonneg hw.1]

/-- A number of 64 bits. -/
theorem Rep.inv_i64 {H : Heap} {t : TypeId} {d : DataW X} {cz : List Value} (hu : P.underlying t = some (.int .i64)) (h : Rep P H t d cz) : ∃ n : Int, d = .lit (.int .i64 n) ∧ cz = [.int .i64 n] ∧ -9223372036854775808 ≤ n ∧ n < 9223372036854775808 := by
  obtain ⟨n, rfl, rfl, hw⟩ := h.inv_int hu
  have hw : (-9223372036854775808 : Int) ≤ n ∧ n ≤ 9223372036854775807 := by
    simpa [Lit.wf, IntKind.min, IntKind.max, IntKind.signed, IntKind.bits] using hw
  exact ⟨n, rfl, rfl, hw.1, by omega⟩

end

end Go.Proofs.Ytpllhhaeclnngaa.Ev

/- A schema that comes in, in memory. -/
namespace Go.Proofs.Ytpllhhaeclnngaa.Ev
open Go.ChangeShapes Go.WideShapes Go.ChangeAt Go.RowKit
set_option maxRecDepth 100000

/-- Types whose cells are closed: numbers, texts, structs of them. -/
def flatSet (P : Program) (L : List TypeId) : Bool := L.all fun t => match P.underlying t with
  | some .bool | some (.int _) | some .string => true
  | some (.struct fs) => fs.toList.all fun f => L.contains f.type
  | _ => false

theorem rep_closed {X : Type} {H : Heap} {L : List TypeId} (hL : flatSet Try.prog L = true) {t : TypeId} {d : DataW X} {cz : List Value} (h : Rep Try.prog H t d cz) : L.contains t = true → ∀ x ∈ cz, closed1 x = true := by
  induction h with
  | bool b hu => intro _ x hx; simp at hx; subst hx; rfl
  | int k n hu hw => intro _ x hx; simp at hx; subst hx; rfl
  | str l hu hl => intro _ x hx; simp at hx; subst hx; rfl
  | @struct t fs ds ass hu h1 h2 h hl ih =>
    intro ht x hx
    obtain ⟨cz, hc, hx⟩ := List.mem_flatten.1 hx
    obtain ⟨i, hi, rfl⟩ := List.getElem_of_mem hc
    have hf : i < fs.size := by omega
    have hq := List.all_eq_true.1 hL t (by simpa using ht)
    simp only [hu] at hq
    have := List.all_eq_true.1 hq fs[i] (by simp)
    exact ih i fs[i] ds[i] ass[i] (by simp [hf]) (by simp) (by simp) this x hx
  | nilS hu => intro ht; have hq := List.all_eq_true.1 hL _ (by simpa using ht); simp only [hu] at hq; cases hq
  | empty hu => intro ht; have hq := List.all_eq_true.1 hL _ (by simpa using ht); simp only [hu] at hq; cases hq
  | slice hu => intro ht; have hq := List.all_eq_true.1 hL _ (by simpa using ht); simp only [hu] at hq; cases hq

theorem rep_structL {X : Type} {H : Heap} {t : TypeId} {fs : Array Field} {d : DataW X} {cz : List Value} (hu : Try.prog.underlying t = some (.struct fs)) (h : Rep Try.prog H t d cz) : ∃ (ds : List (DataW X)) (ass : List (List Value)), d = .agg ds ∧ cz = ass.flatten ∧ ds.length = fs.size ∧ ass.length = fs.size ∧
    (∀ (i : Nat) (f : Field) (d : DataW X) (cz : List Value), fs[i]? = some f → ds[i]? = some d → ass[i]? = some cz → Rep Try.prog H f.type d cz) ∧ (∀ (i : Nat) (f : Field) (cz : List Value), fs[i]? = some f → ass[i]? = some cz → cz.length = Try.prog.cellsOf f.type) := by
  cases h with
  | int k' n hu' hw => rw [hu] at hu'; cases hu'
  | bool b hu' => rw [hu] at hu'; cases hu'
  | str l hu' hl => rw [hu] at hu'; cases hu'
  | struct hu' h1 h2 h3 h4 => rw [hu] at hu'; cases hu'; exact ⟨_, _, rfl, rfl, h1, h2, h3, h4⟩
  | nilS hu' => rw [hu] at hu'; cases hu'
  | empty hu' => rw [hu] at hu'; cases hu'
  | slice hu' => rw [hu] at hu'; cases hu'

theorem rep_slice_one {X : Type} {H : Heap} {t e : TypeId} {d : DataW X} {cz : List Value} (hu : Try.prog.underlying t = some (.slice e)) (h : Rep Try.prog H t d cz) : ∃ v, cz = [v] ∧ oneCell v = true := by
  rcases h.inv_slice hu with ⟨rfl, e⟩ | ⟨sp, rfl, e⟩ | ⟨b, ds, sp, ass, rfl, hds, e, hb, h2, h3, h4⟩
  · exact ⟨_, e, rfl⟩
  · exact ⟨_, e, rfl⟩
  · exact ⟨_, e, rfl⟩

theorem SmallL.up : ∀ {n m : Nat} {l : List St}, n ≤ m → SmallL n l → SmallL m l
  | 0, 0, l, _, h => h
  | 0, m + 1, l, _, h => by
    obtain rfl : l = [] := h
    exact ⟨by simp, fun s hs => by cases hs⟩
  | n + 1, m + 1, l, hm, h => by
    refine ⟨h.1, fun s hs => ?_⟩
    have := h.2 s hs
    cases s
    exact ⟨this.1.up (by omega), this.2.up (by omega)⟩

theorem weights_all {X : Type} {P : Program} {e : TypeId} : ∀ {ds : List (DataW X)} {d : DataW X}, d ∈ ds → ∀ n ∈ d.weights P e, n ∈ DataW.weightsAll P e ds
  | [], d, h, _, _ => by cases h
  | d0 :: ds, d, h, n, hn => by
    simp only [DataW.weightsAll, List.mem_append]
    rcases List.mem_cons.1 h with rfl | h
    · exact .inl hn
    · exact .inr (weights_all h n hn)

theorem stages_list {X : Type} {H : Heap} (N : Nat) (ih : ∀ (d : DataW X) (cz : List Value), SizeOf.sizeOf d ≤ N → Rep Try.prog H 31 d cz → (∀ w ∈ d.weights Try.prog 31, w ≤ reachBytes) → ∃ v l n, cz = [v] ∧ SmallL n l ∧ StSl H l v) :
    ∀ (ds : List (DataW X)) (ass : List (List Value)), ass.length = ds.length → (∀ d ∈ ds, SizeOf.sizeOf d ≤ N) → (∀ d ∈ ds, ∀ w ∈ d.weights Try.prog 87, w ≤ reachBytes) →
      (∀ (i : Nat) (d : DataW X) (cz : List Value), ds[i]? = some d → ass[i]? = some cz → Rep Try.prog H 87 d cz) →
      ∃ (l : List St) (n : Nat), ass.flatten = cellsL l ∧ l.length = ds.length ∧ StOKs H l ∧ ∀ s ∈ l, match s with | .mk _ _ _ _ _ a b => SmallL n a ∧ SmallL n b
  | [], [], _, _, _, _ => ⟨[], 0, rfl, rfl, trivial, fun s hs => by cases hs⟩
  | [], _ :: _, h, _, _, _ => by simp at h
  | _ :: _, [], h, _, _, _ => by simp at h
  | d :: ds, cz :: ass, h, hN, hw, hr => by
    obtain ⟨l, n, e1, e2, e3, e4⟩ := stages_list N ih ds ass (by simpa using h) (fun q hq => hN q (by simp [hq])) (fun q hq => hw q (by simp [hq])) fun i d' cz' hd hc => hr (i + 1) d' cz' (by simpa using hd) (by simpa using hc)
    have r0 := hr 0 d cz rfl rfl
    have hN0 := hN d (by simp)
    have hw0 := hw d (by simp)
    obtain ⟨ps, az, rfl, rfl, p1, p2, p3, p4⟩ := rep_structL Try.underlying87 r0
    match ps, az, p1, p2, p3, p4, hN0, hw0 with
    | [d0, d1, d2, d3, d4], [a0, a1, a2, a3, a4], _, _, p3, p4, hN0, hw0 =>
      have hsz : ∀ q ∈ [d0, d1, d2, d3, d4], SizeOf.sizeOf q ≤ N := fun q hq => by
        have := List.sizeOf_lt_of_mem hq
        simp only [DataW.agg.sizeOf_spec] at hN0
        omega
      have hwq : ∀ (j : Nat) t q, ([3, 9, 85, 31, 31] : List TypeId)[j]? = some t → [d0, d1, d2, d3, d4][j]? = some q → ∀ w ∈ q.weights Try.prog t, w ≤ reachBytes := fun j t q ht hq w hh => hw0 w (by
        simp only [DataW.weights, Try.underlying87]
        exact DataW.weights_mem_each (ts := [3, 9, 85, 31, 31]) ht hq w hh)
      obtain ⟨k, _, rfl, _⟩ := (p3 0 _ d0 a0 rfl rfl rfl).inv_i64 Try.underlying3
      obtain ⟨t, _, rfl, _⟩ := (p3 1 _ d1 a1 rfl rfl rfl).inv_str Try.underlying9
      have hcl := rep_closed (L := [85, 83, 59, 81, 3, 9, 79]) (by kernel_rfl) (p3 2 _ d2 a2 rfl rfl rfl) (by rfl)
      have hln : a2.length = 9 := (p4 2 _ a2 rfl rfl).trans (by kernel_rfl)
      obtain ⟨va, la, na, rfl, sa, ta⟩ := ih d3 a3 (hsz _ (by simp)) (p3 3 _ d3 a3 rfl rfl rfl) (hwq 3 31 d3 rfl rfl)
      obtain ⟨vb, lb, nb, rfl, sb, tb⟩ := ih d4 a4 (hsz _ (by simp)) (p3 4 _ d4 a4 rfl rfl rfl) (hwq 4 31 d4 rfl rfl)
      refine ⟨.mk k t a2 va vb la lb :: l, max n (max na nb), ?_, by simp [e2], ?_, fun s hs => ?_⟩
      · rw [List.flatten_cons, e1]
        simp [cellsL, St.cells]
      · simp only [StOKs, StOK]
        exact ⟨⟨hln, hcl, ta, tb⟩, e3⟩
      · rcases List.mem_cons.1 hs with rfl | hs
        · exact ⟨sa.up (by omega), sb.up (by omega)⟩
        · have := e4 s hs
          cases s
          exact ⟨this.1.up (by omega), this.2.up (by omega)⟩

theorem stages_rep {X : Type} {H : Heap} : ∀ (N : Nat) (d : DataW X) (cz : List Value), SizeOf.sizeOf d ≤ N → Rep Try.prog H 31 d cz → (∀ w ∈ d.weights Try.prog 31, w ≤ reachBytes) → ∃ v l n, cz = [v] ∧ SmallL n l ∧ StSl H l v := by
  intro N
  induction N with
  | zero =>
    intro d cz hN
    exfalso
    cases d <;> simp at hN
  | succ N ih =>
    intro d cz hN h hw
    rcases h.inv_slice Try.underlying31 with ⟨rfl, e⟩ | ⟨sp, rfl, e⟩ | ⟨b, ds, sp, ass, rfl, hds, e, hb, h2, h3, h4⟩
    · exact ⟨_, [], 0, e, rfl, _, rfl⟩
    · exact ⟨_, [], 0, e, rfl, _, rfl⟩
    · simp only [DataW.slice.sizeOf_spec] at hN
      simp only [DataW.weights, Try.underlying31] at hw
      obtain ⟨l, n, e1, e2, e3, e4⟩ := stages_list N ih ds ass h2 (fun q hq => by have := List.sizeOf_lt_of_mem hq; omega) (fun q hq w hh => hw w (by simp only [List.mem_cons, List.mem_append]; exact .inr (.inl (weights_all hq w hh)))) h3
      have hlen := hw _ (List.mem_cons_self ..)
      have hb2 : Try.prog.bytesOf 87 = 176 := by kernel_rfl
      have hlt := reachBytes_lt
      rw [hb2] at hlen
      rw [e1] at hb
      refine ⟨_, l, n + 1, e, ⟨by omega, e4⟩, ?_⟩
      cases l with
      | nil => simp at e2; exact absurd (List.length_eq_zero_iff.1 e2.symm) hds
      | cons s l =>
        simp only [StSl]
        simp only [StOKs] at e3
        refine ⟨⟨b, by rw [← e2]; rfl, hget_lt hb rfl, hb⟩, e3.1, e3.2⟩

/-- A schema. -/
theorem schema_arg {X : Type} {H : Heap} {d : DataW X} {a : Value} (h : ArgRep Try.prog H 33 d a) (hw : ∀ w ∈ d.weights Try.prog 33, w ≤ reachBytes) :
    ∃ s0 s1 s2 s3 s4 ct l n, a = .agg #[s0, s1, s2, s3, s4, ct] ∧ [s0, s1, s2, s3, s4, ct].all oneCell = true ∧ SmallL n l ∧ StSl H l ct := by
  obtain ⟨cs, hr, hcase⟩ := h
  obtain ⟨ds, ass, rfl, rfl, h1, h2, h3⟩ := hr.inv_struct Try.underlying33
  match ds, ass, h1, h2, h3, hw, hcase with
  | [d0, d1, d2, d3, d4, d5], [a0, a1, a2, a3, a4, a5], _, _, h3, hw, hcase =>
    obtain ⟨s0, rfl, o0⟩ := rep_slice_one Try.underlying26 (h3 0 _ d0 a0 rfl rfl rfl)
    obtain ⟨s1, rfl, o1⟩ := rep_slice_one Try.underlying27 (h3 1 _ d1 a1 rfl rfl rfl)
    obtain ⟨s2, rfl, o2⟩ := rep_slice_one Try.underlying28 (h3 2 _ d2 a2 rfl rfl rfl)
    obtain ⟨s3, rfl, o3⟩ := rep_slice_one Try.underlying29 (h3 3 _ d3 a3 rfl rfl rfl)
    obtain ⟨s4, rfl, o4⟩ := rep_slice_one Try.underlying30 (h3 4 _ d4 a4 rfl rfl rfl)
    obtain ⟨ct, l, n, rfl, hs, ht⟩ := stages_rep _ d5 a5 (Nat.le_refl _) (h3 5 _ d5 a5 rfl rfl rfl) (fun w hh => hw w (by
      simp only [DataW.weights, Try.underlying33]
      exact DataW.weights_mem_each (ts := [26, 27, 28, 29, 30, 31]) (j := 5) rfl rfl w hh))
    refine ⟨s0, s1, s2, s3, s4, ct, l, n, ?_, by simp [o0, o1, o2, o3, o4, ht.one], hs, ht⟩
    rcases hcase with ⟨_, e⟩ | e
    · exact e
    · simp at e

end Go.Proofs.Ytpllhhaeclnngaa.Ev

/- SchemaControls: which tables a control asks, and how many a pass, by the program and by the document: whatever the schema, the law answers true. Conditions: none. -/
namespace Go.Proofs.Ytpllhhaeclnngaa.Ev
open Go.ChangeShapes Go.WideShapes Go.ChangeAt Go.RowKit

theorem own : ownKnob Try.prog.godebug = none := by kernel_rfl

theorem VL.narrow {n m : Nat} {ρ ρ' : Nat → Place} {xs ys : List Value} (h : VL m ρ' xs ys) (hs : ∀ x ∈ xs, Scoped n x) (he : ∀ b, b < n → ρ' b = ρ b) : VL n ρ xs ys :=
  ⟨h.1, fun i x y hx hy => ((h.2 i x y hx hy).narrow (hs x (List.mem_of_getElem? hx))).mono (Nat.le_refl _) fun b hb => (he b hb).symm⟩

abbrev ρ0 : Nat → Place := fun b => ⟨b, 0, 0⟩
theorem H0_ro : ∀ o ∈ H0, o.wrt = false := fun o ho => by simp [H0] at ho

set_option maxRecDepth 100000 in
theorem schemaControls_lifted (os : Os) (started : os.Started) (H : Type) (enc : TypeId × Value → H) :
    ReturnsInHanded {} Try.checked os 5 .any (Rows.schemaControlsSpec.pre6 enc Try.prog Try.f5 [] false)
      (Rows.schemaControlsSpec.post enc Try.prog Try.f5 false true false false) := by
  refine returnsInHanded_of_change_sized (C := Try.checked) own started (by kernel_rfl) Try.func5
    (ChangeSpec.witness6 (enc := enc) (C := Try.checked) (os := os) false ⟨#[], #[.agg #[.slice none 0 0, .slice none 0 0, .slice none 0 0, .slice none 0 0, .slice none 0 0, .slice none 0 0]], []⟩ 8 (by kernel_rfl) (by kernel_rfl) (by kernel_rfl) (by kernel_rfl)) ?_
  intro W base args ds gs before hval0 hW _ hsz _
  have hval : ∀ (j : Nat) t v, Try.f5.params[j]? = some t → args[j]? = some v → Value.okWide Try.prog W .any base t v := hval0
  have hW' := hW
  obtain ⟨p, q, hA0, hV, rfl, hfz, hnd⟩ := hW
  have hA : DataW.TrodAll enc Try.prog W 0 (fun _ => true) true Try.f5.params.toList args.toList ds p := hA0
  have hsz' : (DataW.weightsEach Try.prog (Try.f5.params.toList ++ Rows.schemaControlsSpec.plain.varTypes Try.prog) (ds ++ gs)).all (· ≤ reachBytes) = true := hsz
  rw [Try.params5] at hA hval hsz'
  obtain ⟨rfl, rfl⟩ := trodVars_none hV
  obtain ⟨g, ρ', avs, hr, hs, hg, hvl, hlen, hrep⟩ := open_args (G := 0) (L := [33, 26, 27, 28, 29, 30, 31, 55, 102, 62, 60, 104, 59, 81, 109, 107, 106, 83, 46, 41, 111, 23, 44, 42, 87, 85, 3, 4, 9, 79]) (by kernel_rfl) (by kernel_rfl) (by kernel_rfl) (by decide) hA (fun j t v h1 h2 => hval j t v (by simpa using h1) (by simpa using h2)) [] (fun _ => ⟨0, 0, 0⟩) (fun o ho => by cases ho) (by have := rel_nil (ρ := fun _ => ⟨0, 0, 0⟩) (w := W); rwa [show T.G = 0 from by unfold T; kernel_rfl] at this)
  have hA1 := hA
  obtain ⟨v0, vs0, d0, ds0, p0, q0, hargs, rfl, rfl, h0, r0⟩ := trodAll_cons hA1
  obtain ⟨rfl, rfl, rfl⟩ := trodAll_nil r0
  obtain rfl : args = #[v0] := by cases args; simp_all
  match avs, hlen with
  | [a0], _ =>
  obtain ⟨s0, s1, s2, s3, s4, ct, l, n, rfl, hone, hsm, hsl⟩ := schema_arg (hrep 0 33 d0 a0 rfl rfl rfl) (fun w hh => by
    have := List.all_eq_true.1 hsz' w (DataW.weights_mem_each (ts := #[33].toList ++ _) (j := 0) rfl rfl w hh)
    simpa using this)
  have hG : T.G = 0 := by unfold T; kernel_rfl
  simp only [List.nil_append] at hr hvl hsl
  refine (wd_true t5 (H := g) (controls_w hsm hsl hone) (by rw [hG]; exact hr) (args' := #[v0]) hvl (fun o ho => by obtain ⟨c, rfl⟩ := hg o ho; rfl)).mono fun e W' ⟨he, bel⟩ => ?_
  subst he
  exact ⟨_, rfl, _, _, _, [], _, [], hW', trodAll_mk1 (shut_bool Try.underlying4 _), args_stay (by kernel_rfl) (by kernel_rfl) (by kernel_rfl) bel (by decide) hA, rfl, bel.frame _, fun h => by cases h⟩

theorem schemaControls_holds : Rows.SchemaControlsSaid :=
  OpenClaim.holds_of_wide 5 Try.f5 rfl rfl rfl rfl rfl rfl rfl ⟨rfl, rfl, rfl, rfl, rfl⟩ rfl rfl rfl rfl rfl (by kernel_rfl) Try.func5 (by kernel_rfl)
    (of_decide_eq_true (by kernel_rfl)) (by unfold Func.isWrapper; first | (rw [if_pos (by decide +kernel)]; kernel_rfl) | (rw [if_neg (by decide +kernel)]; exact ⟨rfl, rfl⟩))
    (fun os started H enc _ => schemaControls_lifted os started H enc)

#print axioms schemaControls_holds
end Go.Proofs.Ytpllhhaeclnngaa.Ev
