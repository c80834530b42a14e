/- ValueTexts: a value's text in a form, and a text read, are as the document has them: whatever the inputs, the law answers true. Conditions: the listed variables read as the program's text lays them. -/
import Derived.Test.YtkhkmgcegicmoaaDoorTxt4
import Derived.ChangeArms
import Derived.ChangeStays
import Derived.ChangeOld
import Derived.ChangeShapes
import Derived.WideShapes
import Derived.DataReads
import Derived.RowKit
import Derived.Test.YtkhkmgcegicmoaaDoorTie
import Derived.Test.YtkhkmgcegicmoaaDoorCards
import Derived.ProofKit
import Derived.OpenShut
import Derived.SizedLaws
import Derived.SevenTiedAt
/- The document's Text. -/
namespace Go.Proofs.YtkhkmgcegicmoaaDoor.Ev
set_option maxRecDepth 100000
set_option linter.unusedSimpArgs false
set_option linter.unusedVariables false
variable {R : FRes → Heap → Prop} {H : Heap}

theorem join_snoc (c : UInt8) (x : List UInt8) : ∀ ls : List (List UInt8), Lib.join (ls ++ [x]) [c] = if ls = [] then x else Lib.join ls [c] ++ c :: x
  | [] => by rw [List.nil_append, Lib.join_one, if_pos rfl]
  | y :: r => by
    rw [if_neg (by simp), List.cons_append, Lib.join_cons, Lib.join_cons]
    simp [Lib.joinTail]

abbrev QX (R : FRes → Heap → Prop) (H : Heap) : Post := retK [.tmp 6, .tmp 7] (fun r H1 => ∃ v, r = .ret v ∧ (∃ g, H1 = H ++ g) ∧ Scoped H.length v ∧ R (.ret v) H)

def rtxI (H : Heap) (form : Int) (l : List UInt8) : Nat → Env → Heap → Prop := fun z e K =>
  ∃ (i : Nat) (g : Heap), i ≤ l.length ∧ z = l.length - i ∧ K = H ++ g ∧
    (∃ x : Nat → Value, e = [x 0, x 1, .int .i64 form, x 3, x 4, x 5, x 6, x 7, .string (bs l), x 9, .string (bs (Lib.join ((l.take i).map (partT form)) (sepT form))), .int .i64 (i : Int), x 12, x 13, x 14, x 15, x 16, x 17, x 18, x 19, x 20, x 21, x 22, x 23, x 24, x 25, x 26, x 27, x 28, x 29, x 30, x 31, x 32, x 33, x 34, x 35, x 36, x 37, x 38, x 39, x 40, x 41, x 42, x 43, x 44, x 45, x 46, x 47, x 48, x 49, x 50, x 51, x 52, x 53, x 54, x 55, x 56, x 57, x 58, x 59, x 60, x 61, x 62, x 63, x 64, x 65, x 66, x 67, x 68, x 69, x 70, x 71, x 72, x 73, x 74, x 75, x 76, x 77, x 78, x 79, x 80, x 81, x 82, x 83, x 84])

set_option maxHeartbeats 4000000 in
theorem rtext_tail {form : Int} {l : List UInt8} (hform : form = 4 ∨ form = 5) (hl : l.length ≤ 16) {g : Heap}
    {e : Env} (he : (∃ x : Nat → Value, e = [x 0, x 1, .int .i64 form, x 3, x 4, x 5, x 6, x 7, .string (bs l), x 9, .string (bs []), x 11, x 12, x 13, x 14, x 15, x 16, x 17, x 18, x 19, x 20, x 21, x 22, x 23, x 24, x 25, x 26, x 27, x 28, x 29, x 30, x 31, x 32, x 33, x 34, x 35, x 36, x 37, x 38, x 39, x 40, x 41, x 42, x 43, x 44, x 45, x 46, x 47, x 48, x 49, x 50, x 51, x 52, x 53, x 54, x 55, x 56, x 57, x 58, x 59, x 60, x 61, x 62, x 63, x 64, x 65, x 66, x 67, x 68, x 69, x 70, x 71, x 72, x 73, x 74, x 75, x 76, x 77, x 78, x 79, x 80, x 81, x 82, x 83, x 84]))
    (h : R (.ret (.tuple #[.string (bs (Lib.join (l.map (partT form)) (sepT form))), .int .i64 0])) H) :
    WC T (g16.body.at [1, 1, 1, 1, 1, 1, 1]) e (H ++ g) (QX R H) := by
  obtain ⟨y, rfl⟩ := he
  simp only [AFunc.body, g16, ACode.at]
  simp (disch := omega) only [kB, kcx, kdm, kdn, kel, aop, resultsL, resultOf, Nat.reduceEqDiff, reduceCtorEq, eq1, apartOK, apart2, AObj.live, Int.reduceEq, Int.reduceLT, Int.reduceLE, Int.reduceAdd, Int.reduceSub, Int.reduceMul, Int.reduceToNat, cutCells, Nat.reduceAdd, Nat.reduceLeDiff, Nat.reduceLT, Nat.reduceMul, Nat.reduceSub]
  refine WLoop.inv (rtxI H form l) ?_ l.length _ _ ⟨0, g, Nat.zero_le _, by omega, rfl, by exact ex_env rfl⟩
  rintro z e K ⟨i, g, hi, rfl, rfl, ⟨x, rfl⟩⟩
  have hlen : ∀ j, (Lib.join ((l.take j).map (partT form)) (sepT form)).length ≤ 2064 := fun j => by
    have := join_len (sepT form) 128 ((l.take j).map (partT form)) (fun x hx => by
      obtain ⟨c, _, rfl⟩ := List.mem_map.1 hx
      exact partT_len _ _)
    have hs : (sepT form).length = 1 := by unfold sepT; split <;> rfl
    rw [hs, List.length_map, List.length_take] at this
    omega
  have e1 : (i : Int) + 1 = ((i + 1 : Nat) : Int) := by omega
  have w1 : IntKind.i64.wrap ((i : Int) + 1) = ((i + 1 : Nat) : Int) := by rw [e1]; exact wr_i64 (by omega) (by omega)
  by_cases hlt : i < l.length
  · have c0 : (i : Int) < (l.length : Int) := by omega
    have hg : l[i]? = some l[i] := List.getElem?_eq_getElem hlt
    have hb := (l[i]).toNat_lt
    have hpl := partT_len form l[i]
    have hji := hlen i
    have hnext : ∀ c, sepT form = [c] → Lib.join ((l.take (i + 1)).map (partT form)) (sepT form) = if i = 0 then partT form l[i] else Lib.join ((l.take i).map (partT form)) (sepT form) ++ c :: partT form l[i] := by
      intro c hc
      rw [List.take_succ_eq_append_getElem hlt, List.map_append, List.map_singleton, hc, join_snoc]
      have : ((l.take i).map (partT form) = []) ↔ i = 0 := by
        rw [List.map_eq_nil_iff, List.take_eq_nil_iff]
        constructor
        · rintro (q | q)
          · exact q
          · rw [q] at hlt; simp at hlt
        · exact fun q => .inl q
      by_cases hi0 : i = 0
      · rw [if_pos (this.2 hi0), if_pos hi0]
      · rw [if_neg (fun q => hi0 (this.1 q)), if_neg hi0]
    have fin : ∀ s, s = Lib.join ((l.take (i + 1)).map (partT form)) (sepT form) → ∀ (e : Env) (g : Heap), (∃ x : Nat → Value, e = [x 0, x 1, .int .i64 form, x 3, x 4, x 5, x 6, x 7, .string (bs l), x 9, .string (bs s), .int .i64 ((i + 1 : Nat) : Int), x 12, x 13, x 14, x 15, x 16, x 17, x 18, x 19, x 20, x 21, x 22, x 23, x 24, x 25, x 26, x 27, x 28, x 29, x 30, x 31, x 32, x 33, x 34, x 35, x 36, x 37, x 38, x 39, x 40, x 41, x 42, x 43, x 44, x 45, x 46, x 47, x 48, x 49, x 50, x 51, x 52, x 53, x 54, x 55, x 56, x 57, x 58, x 59, x 60, x 61, x 62, x 63, x 64, x 65, x 66, x 67, x 68, x 69, x 70, x 71, x 72, x 73, x 74, x 75, x 76, x 77, x 78, x 79, x 80, x 81, x 82, x 83, x 84]) → ∃ m, m < l.length - i ∧ rtxI H form l m e (H ++ g) := by
      rintro s rfl e g he
      exact ⟨l.length - (i + 1), by omega, i + 1, g, by omega, rfl, rfl, he⟩
    obtain ⟨J, hJ⟩ : ∃ J, J = Lib.join ((l.take i).map (partT form)) (sepT form) := ⟨_, rfl⟩
    rw [← hJ] at hnext hji ⊢
    have hJ0 : i = 0 → J = [] := fun q => by rw [hJ, q, List.take_zero]; rfl
    obtain ⟨P, hP⟩ : ∃ P, P = partT form l[i] := ⟨_, rfl⟩
    rw [← hP] at hnext hpl
    have add1 : ∀ c : UInt8, binV .add (.string (bs J)) (.string (bs [c])) = some (.string (bs (J ++ [c]))) := fun c => bin_str_add (by simp; omega)
    have add2 : ∀ c : UInt8, binV .add (.string (bs (J ++ [c]))) (.string (bs P)) = some (.string (bs (J ++ [c] ++ P))) := fun c => bin_str_add (by simp; omega)
    have add3 : binV .add (.string (bs J)) (.string (bs P)) = some (.string (bs (J ++ P))) := bin_str_add (by omega)
    have c16 : (((l[i]).toNat : Nat) : Int) = (((l[i]).toNat : Nat) : Int) := rfl
    rcases hform with rfl | rfl
    · have b0 := bvA_small (n := (l[i]).toNat) (by omega)
      have hPd : P = dig 10 (l[i]).toNat := by rw [hP, partT, if_pos rfl]
      have hn := hnext 46 (by rw [sepT, if_pos rfl])
      by_cases hi0 : i = 0
      · have ci : ¬ (0 : Int) < (i : Int) := by omega
        have hj0 := hJ0 hi0
        rw [if_pos hi0] at hn
        simp (disch := omega) only [kB, kcx, kdm, kdn, kel, aop, resultsL, resultOf, Nat.reduceEqDiff, reduceCtorEq, eq1, apartOK, apart2, AObj.live, Int.reduceEq, Int.reduceLT, Int.reduceLE, Int.reduceAdd, Int.reduceSub, Int.reduceMul, Int.reduceToNat, cutCells, Nat.reduceAdd, Nat.reduceLeDiff, Nat.reduceLT, Nat.reduceMul, Nat.reduceSub, c0, hg, ci, wr_i64, wr_u64]
        rw [b0]
        refine rdigits_s (b := 10) (by omega) (by decide) (by decide) ?_
        rw [← hPd]
        simp (disch := omega) only [kB, kcx, kdm, kdn, kel, aop, resultsL, resultOf, Nat.reduceEqDiff, reduceCtorEq, eq1, apartOK, apart2, AObj.live, Int.reduceEq, Int.reduceLT, Int.reduceLE, Int.reduceAdd, Int.reduceSub, Int.reduceMul, Int.reduceToNat, cutCells, Nat.reduceAdd, Nat.reduceLeDiff, Nat.reduceLT, Nat.reduceMul, Nat.reduceSub, add3, w1]
        exact fin (J ++ P) (by rw [hn, hj0]; rfl) _ _ (by exact ex_env rfl)
      · have ci : (0 : Int) < (i : Int) := by omega
        rw [if_neg hi0] at hn
        have a1 := add1 46
        have a2 := add2 46
        simp (disch := omega) only [kB, kcx, kdm, kdn, kel, aop, resultsL, resultOf, Nat.reduceEqDiff, reduceCtorEq, eq1, apartOK, apart2, AObj.live, Int.reduceEq, Int.reduceLT, Int.reduceLE, Int.reduceAdd, Int.reduceSub, Int.reduceMul, Int.reduceToNat, cutCells, Nat.reduceAdd, Nat.reduceLeDiff, Nat.reduceLT, Nat.reduceMul, Nat.reduceSub, c0, hg, ci, a1, wr_i64, wr_u64]
        rw [b0]
        refine rdigits_s (b := 10) (by omega) (by decide) (by decide) ?_
        rw [← hPd]
        simp (disch := omega) only [kB, kcx, kdm, kdn, kel, aop, resultsL, resultOf, Nat.reduceEqDiff, reduceCtorEq, eq1, apartOK, apart2, AObj.live, Int.reduceEq, Int.reduceLT, Int.reduceLE, Int.reduceAdd, Int.reduceSub, Int.reduceMul, Int.reduceToNat, cutCells, Nat.reduceAdd, Nat.reduceLeDiff, Nat.reduceLT, Nat.reduceMul, Nat.reduceSub, a2, w1]
        exact fin (J ++ 46 :: P) (by rw [hn]) _ _ (by exact ex_env rfl)
    · have c54 : ¬ (5 : Int) = 4 := by decide
      have hPd : P = [sgN ((l[i]).toNat / 16), sgN ((l[i]).toNat % 16)] := by rw [hP, partT, if_neg (by decide)]
      have hn := hnext 58 (by rw [sepT, if_neg (by decide)])
      have q1 := bin_quo (k := .i64) (a := (l[i]).toNat) (b := 16) (by decide)
      have q2 := bin_rem (k := .i64) (a := (l[i]).toNat) (b := 16) (by decide)
      have q0 : (((16 : Nat) : Int)) = 16 := rfl
      rw [q0] at q1 q2
      have wq : IntKind.i64.wrap (((l[i]).toNat / 16 : Nat) : Int) = (((l[i]).toNat / 16 : Nat) : Int) := wr_i64 (by omega) (by omega)
      have r1 : (l[i]).toNat / 16 < 16 := by omega
      have r2 : (l[i]).toNat % 16 < 16 := by omega
      generalize (l[i]).toNat / 16 = n1 at *
      generalize (l[i]).toNat % 16 = n2 at *
      obtain ⟨K, hK⟩ : ∃ K, K = H ++ g := ⟨_, rfl⟩
      rw [← hK]
      have hsrc : (srcCells (K ++ [.row [.int .u8 ((sgN n1).toNat : Int), .int .u8 ((sgN n2).toNat : Int)] 1 true]) 1 2 (.slice (some ⟨K.length, 0, none⟩) 2 2)).bind bytesOf = some [sgN n1, sgN n2] := by
        have e0 : hget (K ++ [.row [.int .u8 ((sgN n1).toNat : Int), .int .u8 ((sgN n2).toNat : Int)] 1 true]) K.length = .row [.int .u8 ((sgN n1).toNat : Int), .int .u8 ((sgN n2).toNat : Int)] 1 true := hget_last _ _
        simp only [srcCells, e0]
        exact bytes_u8 [sgN n1, sgN n2]
      have add4 : ∀ c : UInt8, binV .add (.string (bs (J ++ [c]))) (.string ⟨[sgN n1, sgN n2].toArray⟩) = some (.string (bs (J ++ [c] ++ P))) := fun c => by rw [hPd]; exact bin_str_add (m := [sgN n1, sgN n2]) (by simp; omega)
      have add5 : binV .add (.string (bs J)) (.string ⟨[sgN n1, sgN n2].toArray⟩) = some (.string (bs (J ++ P))) := by rw [hPd]; exact bin_str_add (m := [sgN n1, sgN n2]) (by simp; omega)
      have fin' : ∀ s, s = Lib.join ((l.take (i + 1)).map (partT 5)) (sepT 5) → ∀ (e : Env) (g2 : Heap), (∃ x : Nat → Value, e = [x 0, x 1, .int .i64 5, x 3, x 4, x 5, x 6, x 7, .string (bs l), x 9, .string (bs s), .int .i64 ((i + 1 : Nat) : Int), x 12, x 13, x 14, x 15, x 16, x 17, x 18, x 19, x 20, x 21, x 22, x 23, x 24, x 25, x 26, x 27, x 28, x 29, x 30, x 31, x 32, x 33, x 34, x 35, x 36, x 37, x 38, x 39, x 40, x 41, x 42, x 43, x 44, x 45, x 46, x 47, x 48, x 49, x 50, x 51, x 52, x 53, x 54, x 55, x 56, x 57, x 58, x 59, x 60, x 61, x 62, x 63, x 64, x 65, x 66, x 67, x 68, x 69, x 70, x 71, x 72, x 73, x 74, x 75, x 76, x 77, x 78, x 79, x 80, x 81, x 82, x 83, x 84]) → ∃ m, m < l.length - i ∧ rtxI H 5 l m e (K ++ g2) := fun s hs e g2 he => by
        have := fin s hs e (g ++ g2) he
        rwa [← List.append_assoc, ← hK] at this
      by_cases hi0 : i = 0
      · have ci : ¬ (0 : Int) < (i : Int) := by omega
        have hj0 := hJ0 hi0
        rw [if_pos hi0] at hn
        simp (disch := omega) only [kB, kcx, kdm, kdn, kel, aop, resultsL, resultOf, Nat.reduceEqDiff, reduceCtorEq, eq1, apartOK, apart2, AObj.live, Int.reduceEq, Int.reduceLT, Int.reduceLE, Int.reduceAdd, Int.reduceSub, Int.reduceMul, Int.reduceToNat, cutCells, Nat.reduceAdd, Nat.reduceLeDiff, Nat.reduceLT, Nat.reduceMul, Nat.reduceSub, c0, hg, c54, ci, wr_i64, q1, wq]
        refine rsign_s r1 ?_
        simp (disch := omega) only [kB, kcx, kdm, kdn, kel, aop, resultsL, resultOf, Nat.reduceEqDiff, reduceCtorEq, eq1, apartOK, apart2, AObj.live, Int.reduceEq, Int.reduceLT, Int.reduceLE, Int.reduceAdd, Int.reduceSub, Int.reduceMul, Int.reduceToNat, cutCells, Nat.reduceAdd, Nat.reduceLeDiff, Nat.reduceLT, Nat.reduceMul, Nat.reduceSub, q2]
        refine rsign_s r2 ?_
        unfold u8c
        simp (disch := omega) only [kB, kcx, kdm, kdn, kel, aop, resultsL, resultOf, Nat.reduceEqDiff, reduceCtorEq, eq1, apartOK, apart2, AObj.live, Int.reduceEq, Int.reduceLT, Int.reduceLE, Int.reduceAdd, Int.reduceSub, Int.reduceMul, Int.reduceToNat, cutCells, Nat.reduceAdd, Nat.reduceLeDiff, Nat.reduceLT, Nat.reduceMul, Nat.reduceSub, lenV, hsrc, add5, w1]
        exact fin' (J ++ P) (by rw [hn, hj0]; rfl) _ _ (by exact ex_env rfl)
      · have ci : (0 : Int) < (i : Int) := by omega
        rw [if_neg hi0] at hn
        have a1 := add1 58
        have a2 := add4 58
        simp (disch := omega) only [kB, kcx, kdm, kdn, kel, aop, resultsL, resultOf, Nat.reduceEqDiff, reduceCtorEq, eq1, apartOK, apart2, AObj.live, Int.reduceEq, Int.reduceLT, Int.reduceLE, Int.reduceAdd, Int.reduceSub, Int.reduceMul, Int.reduceToNat, cutCells, Nat.reduceAdd, Nat.reduceLeDiff, Nat.reduceLT, Nat.reduceMul, Nat.reduceSub, c0, hg, c54, ci, a1, wr_i64, q1, wq]
        refine rsign_s r1 ?_
        simp (disch := omega) only [kB, kcx, kdm, kdn, kel, aop, resultsL, resultOf, Nat.reduceEqDiff, reduceCtorEq, eq1, apartOK, apart2, AObj.live, Int.reduceEq, Int.reduceLT, Int.reduceLE, Int.reduceAdd, Int.reduceSub, Int.reduceMul, Int.reduceToNat, cutCells, Nat.reduceAdd, Nat.reduceLeDiff, Nat.reduceLT, Nat.reduceMul, Nat.reduceSub, q2]
        refine rsign_s r2 ?_
        unfold u8c
        simp (disch := omega) only [kB, kcx, kdm, kdn, kel, aop, resultsL, resultOf, Nat.reduceEqDiff, reduceCtorEq, eq1, apartOK, apart2, AObj.live, Int.reduceEq, Int.reduceLT, Int.reduceLE, Int.reduceAdd, Int.reduceSub, Int.reduceMul, Int.reduceToNat, cutCells, Nat.reduceAdd, Nat.reduceLeDiff, Nat.reduceLT, Nat.reduceMul, Nat.reduceSub, lenV, hsrc, a2, w1]
        exact fin' (J ++ 58 :: P) (by rw [hn]) _ _ (by exact ex_env rfl)
  · have hil : i = l.length := by omega
    have c0 : ¬ (i : Int) < (l.length : Int) := by omega
    rw [hil, List.take_length]
    rw [hil] at c0
    simp (disch := omega) only [kB, kcx, kdm, kdn, kel, aop, resultsL, resultOf, Nat.reduceEqDiff, reduceCtorEq, eq1, apartOK, apart2, AObj.live, Int.reduceEq, Int.reduceLT, Int.reduceLE, Int.reduceAdd, Int.reduceSub, Int.reduceMul, Int.reduceToNat, cutCells, Nat.reduceAdd, Nat.reduceLeDiff, Nat.reduceLT, Nat.reduceMul, Nat.reduceSub, c0]
    exact ⟨_, rfl, ⟨_, rfl⟩, .tup2 (.closed rfl) (.closed rfl), h⟩

set_option maxHeartbeats 4000000 in
theorem rtext_s {a : Nat} {w form : Int} (ha : a < 2 ^ 128) (h : R (.ret (txtV (textI a w form))) H) : WD T 16 [bvA a, .int .i64 w, .int .i64 form] H R := by
  refine WD.gc0 (WD.of follows t16 (by simp) ?_)
  by_cases f1 : form < 1
  · rw [textI, if_pos (.inl f1)] at h
    simp (disch := omega) only [kB, kcx, kdm, kdn, kel, aop, resultsL, resultOf, Nat.reduceEqDiff, reduceCtorEq, eq1, apartOK, apart2, AObj.live, Int.reduceEq, Int.reduceLT, Int.reduceLE, Int.reduceAdd, Int.reduceSub, Int.reduceMul, Int.reduceToNat, cutCells, Nat.reduceAdd, Nat.reduceLeDiff, Nat.reduceLT, Nat.reduceMul, Nat.reduceSub, f1]
    exact ⟨_, rfl, ⟨_, rfl⟩, .tup2 (.closed rfl) (.closed rfl), h⟩
  by_cases f5 : 5 < form
  · rw [textI, if_pos (.inr f5)] at h
    simp (disch := omega) only [kB, kcx, kdm, kdn, kel, aop, resultsL, resultOf, Nat.reduceEqDiff, reduceCtorEq, eq1, apartOK, apart2, AObj.live, Int.reduceEq, Int.reduceLT, Int.reduceLE, Int.reduceAdd, Int.reduceSub, Int.reduceMul, Int.reduceToNat, cutCells, Nat.reduceAdd, Nat.reduceLeDiff, Nat.reduceLT, Nat.reduceMul, Nat.reduceSub, f1, f5]
    exact ⟨_, rfl, ⟨_, rfl⟩, .tup2 (.closed rfl) (.closed rfl), h⟩
  rw [textI, if_neg (by omega)] at h
  simp (disch := omega) only [kB, kcx, kdm, kdn, kel, aop, resultsL, resultOf, Nat.reduceEqDiff, reduceCtorEq, eq1, apartOK, apart2, AObj.live, Int.reduceEq, Int.reduceLT, Int.reduceLE, Int.reduceAdd, Int.reduceSub, Int.reduceMul, Int.reduceToNat, cutCells, Nat.reduceAdd, Nat.reduceLeDiff, Nat.reduceLT, Nat.reduceMul, Nat.reduceSub, f1, f5]
  refine rhas_s (by omega) (by omega) ?_
  cases hh : hasI w form with
  | false =>
    rw [hh, if_neg (by decide)] at h
    simp (disch := omega) only [kB, kcx, kdm, kdn, kel, aop, resultsL, resultOf, Nat.reduceEqDiff, reduceCtorEq, eq1, apartOK, apart2, AObj.live, Int.reduceEq, Int.reduceLT, Int.reduceLE, Int.reduceAdd, Int.reduceSub, Int.reduceMul, Int.reduceToNat, cutCells, Nat.reduceAdd, Nat.reduceLeDiff, Nat.reduceLT, Nat.reduceMul, Nat.reduceSub]
    exact ⟨_, rfl, ⟨_, rfl⟩, .tup2 (.closed rfl) (.closed rfl), h⟩
  | true =>
    have hw := hasI_isw hh
    rcases wcases w with hw' | ⟨k, rfl, h1, h2⟩
    · rw [hw] at hw'; cases hw'
    rw [hh, if_pos rfl] at h
    simp (disch := omega) only [kB, kcx, kdm, kdn, kel, aop, resultsL, resultOf, Nat.reduceEqDiff, reduceCtorEq, eq1, apartOK, apart2, AObj.live, Int.reduceEq, Int.reduceLT, Int.reduceLE, Int.reduceAdd, Int.reduceSub, Int.reduceMul, Int.reduceToNat, cutCells, Nat.reduceAdd, Nat.reduceLeDiff, Nat.reduceLT, Nat.reduceMul, Nat.reduceSub]
    refine rfits_s ha ?_
    cases hf : fitsI a (k : Int) with
    | false =>
      rw [hf, if_neg (by decide)] at h
      simp (disch := omega) only [kB, kcx, kdm, kdn, kel, aop, resultsL, resultOf, Nat.reduceEqDiff, reduceCtorEq, eq1, apartOK, apart2, AObj.live, Int.reduceEq, Int.reduceLT, Int.reduceLE, Int.reduceAdd, Int.reduceSub, Int.reduceMul, Int.reduceToNat, cutCells, Nat.reduceAdd, Nat.reduceLeDiff, Nat.reduceLT, Nat.reduceMul, Nat.reduceSub]
      exact ⟨_, rfl, ⟨_, rfl⟩, .tup2 (.closed rfl) (.closed rfl), h⟩
    | true =>
      rw [hf, if_pos rfl, Int.toNat_natCast] at h
      have ha2 : a < 2 ^ k := by
        rw [fitsI, hw, Bool.true_and, Int.toNat_natCast] at hf
        simpa using hf
      have hcat : ∀ (p : List UInt8) b, p.length = 2 → p.length + (dig b a).length ≤ 4611686018427387904 := fun p b hp => by have := dig_len b a; omega
      by_cases g1 : form = 1
      · subst g1
        rw [txtI, if_pos rfl] at h
        simp (disch := omega) only [kB, kcx, kdm, kdn, kel, aop, resultsL, resultOf, Nat.reduceEqDiff, reduceCtorEq, eq1, apartOK, apart2, AObj.live, Int.reduceEq, Int.reduceLT, Int.reduceLE, Int.reduceAdd, Int.reduceSub, Int.reduceMul, Int.reduceToNat, cutCells, Nat.reduceAdd, Nat.reduceLeDiff, Nat.reduceLT, Nat.reduceMul, Nat.reduceSub]
        refine rdigits_s (b := 10) ha (by decide) (by decide) ?_
        simp (disch := omega) only [kB, kcx, kdm, kdn, kel, aop, resultsL, resultOf, Nat.reduceEqDiff, reduceCtorEq, eq1, apartOK, apart2, AObj.live, Int.reduceEq, Int.reduceLT, Int.reduceLE, Int.reduceAdd, Int.reduceSub, Int.reduceMul, Int.reduceToNat, cutCells, Nat.reduceAdd, Nat.reduceLeDiff, Nat.reduceLT, Nat.reduceMul, Nat.reduceSub]
        exact ⟨_, rfl, ⟨_, rfl⟩, .tup2 (.closed rfl) (.closed rfl), h⟩
      by_cases g2 : form = 2
      · subst g2
        rw [txtI, if_neg (by decide), if_pos rfl] at h
        have hadd := bin_str_add (hcat [48, 120] 16 rfl)
        simp (disch := omega) only [kB, kcx, kdm, kdn, kel, aop, resultsL, resultOf, Nat.reduceEqDiff, reduceCtorEq, eq1, apartOK, apart2, AObj.live, Int.reduceEq, Int.reduceLT, Int.reduceLE, Int.reduceAdd, Int.reduceSub, Int.reduceMul, Int.reduceToNat, cutCells, Nat.reduceAdd, Nat.reduceLeDiff, Nat.reduceLT, Nat.reduceMul, Nat.reduceSub]
        refine rdigits_s (b := 16) ha (by decide) (by decide) ?_
        simp (disch := omega) only [kB, kcx, kdm, kdn, kel, aop, resultsL, resultOf, Nat.reduceEqDiff, reduceCtorEq, eq1, apartOK, apart2, AObj.live, Int.reduceEq, Int.reduceLT, Int.reduceLE, Int.reduceAdd, Int.reduceSub, Int.reduceMul, Int.reduceToNat, cutCells, Nat.reduceAdd, Nat.reduceLeDiff, Nat.reduceLT, Nat.reduceMul, Nat.reduceSub, hadd]
        exact ⟨_, rfl, ⟨_, rfl⟩, .tup2 (.closed rfl) (.closed rfl), h⟩
      by_cases g3 : form = 3
      · subst g3
        rw [txtI, if_neg (by decide), if_neg (by decide), if_pos rfl] at h
        have hadd := bin_str_add (hcat [48, 98] 2 rfl)
        simp (disch := omega) only [kB, kcx, kdm, kdn, kel, aop, resultsL, resultOf, Nat.reduceEqDiff, reduceCtorEq, eq1, apartOK, apart2, AObj.live, Int.reduceEq, Int.reduceLT, Int.reduceLE, Int.reduceAdd, Int.reduceSub, Int.reduceMul, Int.reduceToNat, cutCells, Nat.reduceAdd, Nat.reduceLeDiff, Nat.reduceLT, Nat.reduceMul, Nat.reduceSub]
        refine rdigits_s (b := 2) ha (by decide) (by decide) ?_
        simp (disch := omega) only [kB, kcx, kdm, kdn, kel, aop, resultsL, resultOf, Nat.reduceEqDiff, reduceCtorEq, eq1, apartOK, apart2, AObj.live, Int.reduceEq, Int.reduceLT, Int.reduceLE, Int.reduceAdd, Int.reduceSub, Int.reduceMul, Int.reduceToNat, cutCells, Nat.reduceAdd, Nat.reduceLeDiff, Nat.reduceLT, Nat.reduceMul, Nat.reduceSub, hadd]
        exact ⟨_, rfl, ⟨_, rfl⟩, .tup2 (.closed rfl) (.closed rfl), h⟩
      rw [txtI, if_neg g1, if_neg g2, if_neg g3] at h
      obtain ⟨Z, hZ⟩ : ∃ Z, Z = WC T (g16.body.at [1, 1, 1, 1, 1, 1, 1]) := ⟨_, rfl⟩
      have hrest : ∀ e g, (∃ x : Nat → Value, e = [x 0, x 1, .int .i64 form, x 3, x 4, x 5, x 6, x 7, .string (bs (beL ((k + 7) / 8) a)), x 9, .string (bs []), x 11, x 12, x 13, x 14, x 15, x 16, x 17, x 18, x 19, x 20, x 21, x 22, x 23, x 24, x 25, x 26, x 27, x 28, x 29, x 30, x 31, x 32, x 33, x 34, x 35, x 36, x 37, x 38, x 39, x 40, x 41, x 42, x 43, x 44, x 45, x 46, x 47, x 48, x 49, x 50, x 51, x 52, x 53, x 54, x 55, x 56, x 57, x 58, x 59, x 60, x 61, x 62, x 63, x 64, x 65, x 66, x 67, x 68, x 69, x 70, x 71, x 72, x 73, x 74, x 75, x 76, x 77, x 78, x 79, x 80, x 81, x 82, x 83, x 84]) → Z e (H ++ g) (QX R H) := fun e g he => by
        rw [hZ]
        exact rtext_tail (by omega) (by rw [beL_len]; omega) he h
      have hZ' := hZ.symm
      clear hZ
      simp only [AFunc.body, g16, ACode.at] at hZ'
      have hbI : bytesI a (k : Int) = (beL ((k + 7) / 8) a, 0) := by rw [bytesI, hw, if_pos rfl, Int.toNat_natCast, if_pos ha2]
      simp (disch := omega) only [kB, kcx, kdm, kdn, kel, aop, resultsL, resultOf, Nat.reduceEqDiff, reduceCtorEq, eq1, apartOK, apart2, AObj.live, Int.reduceEq, Int.reduceLT, Int.reduceLE, Int.reduceAdd, Int.reduceSub, Int.reduceMul, Int.reduceToNat, cutCells, Nat.reduceAdd, Nat.reduceLeDiff, Nat.reduceLT, Nat.reduceMul, Nat.reduceSub, hZ', g1, g2, g3]
      refine rbytes_s ha ?_
      rw [hbI]
      simp (disch := omega) only [kB, kcx, kdm, kdn, kel, aop, resultsL, resultOf, Nat.reduceEqDiff, reduceCtorEq, eq1, apartOK, apart2, AObj.live, Int.reduceEq, Int.reduceLT, Int.reduceLE, Int.reduceAdd, Int.reduceSub, Int.reduceMul, Int.reduceToNat, cutCells, Nat.reduceAdd, Nat.reduceLeDiff, Nat.reduceLT, Nat.reduceMul, Nat.reduceSub, hZ']
      exact hrest _ _ (by exact ex_env rfl)

end Go.Proofs.YtkhkmgcegicmoaaDoor.Ev

/- The document's Parse. -/
namespace Go.Proofs.YtkhkmgcegicmoaaDoor.Ev
set_option maxRecDepth 100000
set_option linter.unusedSimpArgs false
set_option linter.unusedVariables false
variable {R : FRes → Heap → Prop} {H : Heap}

theorem dot_rby {l : List UInt8} {k : Nat} (h1 : 1 ≤ k) (h2 : k ≤ 128) : dotI l (k : Int) = match rbyO l k with
    | some out => fromI out (k : Int)
    | none => (0, 12) := by
  rw [rby_same h1 h2]
  unfold dotI colI
  rw [Int.toNat_natCast]
  cases (if hasI (k : Int) 4 = true then pcsO 10 46 4 l else none) with
  | some out => rfl
  | none => rfl

theorem rpar_bytes {l : List UInt8} {k : Nat} (h1 : 1 ≤ k) (hk : k ≤ 128) (hl : l.length ≤ 4611686018427387904) {e : Env} (he : (∃ x : Nat → Value, e = [.string (bs l), .int .i64 (k : Int), x 2, x 3, .pointer (some ⟨H.length, 0, none⟩), x 5, x 6, x 7, x 8, x 9, x 10, x 11, x 12, x 13, x 14, x 15, x 16, x 17, x 18, x 19, x 20, x 21, x 22, x 23, x 24, x 25, x 26, x 27, x 28, x 29, x 30, x 31, x 32, x 33, x 34, x 35, x 36, x 37, x 38, x 39, x 40, x 41, x 42, x 43, x 44, x 45, x 46, x 47, x 48, x 49, x 50, x 51, x 52, x 53, x 54, x 55, x 56, x 57, x 58, x 59, x 60, x 61, x 62, x 63, x 64, x 65, x 66, x 67, x 68, x 69, x 70, x 71, x 72, x 73, x 74, x 75, x 76, x 77, x 78, x 79])) {g : Heap}
    (h : R (.ret (pairV (dotI l (k : Int)))) H) : WC T (g17.body.at [1, 1, 1, 1, 1, 1, 1, 1]) e (H ++ zRow :: g) (QP R H) := by
  obtain ⟨y, rfl⟩ := he
  have e0 : H ++ zRow :: g = (H ++ [zRow]) ++ g := by simp
  have hK : ∀ o, (H ++ zRow :: g).set H.length o = H ++ o :: g := fun o => by simp
  have hg : hget (H ++ zRow :: g) H.length = zRow := by rw [e0, hget_old (by simp), hget_last]
  have hg2 : ∀ o, hget (H ++ o :: g) H.length = o := fun o => by rw [show H ++ o :: g = (H ++ [o]) ++ g by simp, hget_old (by simp), hget_last]
  obtain ⟨K, hKK⟩ : ∃ K, K = H ++ zRow :: g := ⟨_, rfl⟩
  rw [← hKK] at hK hg ⊢
  rw [dot_rby h1 hk] at h
  simp only [AFunc.body, g17, ACode.at]
  simp (disch := omega) only [kB, kcx, kdm, kdn, kel, aop, resultsL, resultOf, Nat.reduceEqDiff, reduceCtorEq, eq1, apartOK, apart2, AObj.live, Int.reduceEq, Int.reduceLT, Int.reduceLE, Int.reduceAdd, Int.reduceSub, Int.reduceMul, Int.reduceToNat, cutCells, Nat.reduceAdd, Nat.reduceLeDiff, Nat.reduceLT, Nat.reduceMul, Nat.reduceSub]
  refine rbytesT_s h1 hk hl (fun ho => ?_) (fun out ho => ?_)
  · rw [ho] at h
    have hz : R (.ret (.tuple #[bvA 0, .int .i64 12])) H := h
    rw [bvA_zero] at hz
    simp (disch := omega) only [kB, kcx, kdm, kdn, kel, aop, resultsL, resultOf, Nat.reduceEqDiff, reduceCtorEq, eq1, apartOK, apart2, AObj.live, Int.reduceEq, Int.reduceLT, Int.reduceLE, Int.reduceAdd, Int.reduceSub, Int.reduceMul, Int.reduceToNat, cutCells, Nat.reduceAdd, Nat.reduceLeDiff, Nat.reduceLT, Nat.reduceMul, Nat.reduceSub, hg, hK, hg2]
    exact ⟨_, rfl, ⟨_, rfl⟩, .tup2 (.closed rfl) (.closed rfl), hz⟩
  · rw [ho] at h
    simp (disch := omega) only [kB, kcx, kdm, kdn, kel, aop, resultsL, resultOf, Nat.reduceEqDiff, reduceCtorEq, eq1, apartOK, apart2, AObj.live, Int.reduceEq, Int.reduceLT, Int.reduceLE, Int.reduceAdd, Int.reduceSub, Int.reduceMul, Int.reduceToNat, cutCells, Nat.reduceAdd, Nat.reduceLeDiff, Nat.reduceLT, Nat.reduceMul, Nat.reduceSub]
    refine rfrom_s ?_
    simp (disch := omega) only [kB, kcx, kdm, kdn, kel, aop, resultsL, resultOf, Nat.reduceEqDiff, reduceCtorEq, eq1, apartOK, apart2, AObj.live, Int.reduceEq, Int.reduceLT, Int.reduceLE, Int.reduceAdd, Int.reduceSub, Int.reduceMul, Int.reduceToNat, cutCells, Nat.reduceAdd, Nat.reduceLeDiff, Nat.reduceLT, Nat.reduceMul, Nat.reduceSub, hg, hK, hg2]
    exact ⟨_, rfl, ⟨_, rfl⟩, .tup2 (.closed rfl) (.closed rfl), h⟩

set_option maxHeartbeats 2000000 in
theorem rpar_num {l t : List UInt8} {k b : Nat} (h1 : 1 ≤ k) (hk : k ≤ 128) (hb : base3 b) (hl : l.length ≤ 4611686018427387904) (ht : t.length ≤ 4611686018427387904) {e : Env} (he : (∃ x : Nat → Value, e = [.string (bs l), .int .i64 (k : Int), x 2, x 3, .pointer (some ⟨H.length, 0, none⟩), x 5, .int .i64 (b : Int), .string (bs t), x 8, x 9, x 10, x 11, x 12, x 13, x 14, x 15, x 16, x 17, x 18, x 19, x 20, x 21, x 22, x 23, x 24, x 25, x 26, x 27, x 28, x 29, x 30, x 31, x 32, x 33, x 34, x 35, x 36, x 37, x 38, x 39, x 40, x 41, x 42, x 43, x 44, x 45, x 46, x 47, x 48, x 49, x 50, x 51, x 52, x 53, x 54, x 55, x 56, x 57, x 58, x 59, x 60, x 61, x 62, x 63, x 64, x 65, x 66, x 67, x 68, x 69, x 70, x 71, x 72, x 73, x 74, x 75, x 76, x 77, x 78, x 79]))
    (h : R (.ret (pairV (numP l t b (k : Int)))) H) : WC T (g17.body.at [1, 1, 1, 1, 1, 1]) e (H ++ [zRow]) (QP R H) := by
  obtain ⟨y, rfl⟩ := he
  obtain ⟨Z, hZ⟩ : ∃ Z, Z = WC T (g17.body.at [1, 1, 1, 1, 1, 1, 1, 1]) := ⟨_, rfl⟩
  have hrest : ∀ e g, R (.ret (pairV (dotI l (k : Int)))) H → (∃ x : Nat → Value, e = [.string (bs l), .int .i64 (k : Int), x 2, x 3, .pointer (some ⟨H.length, 0, none⟩), x 5, x 6, x 7, x 8, x 9, x 10, x 11, x 12, x 13, x 14, x 15, x 16, x 17, x 18, x 19, x 20, x 21, x 22, x 23, x 24, x 25, x 26, x 27, x 28, x 29, x 30, x 31, x 32, x 33, x 34, x 35, x 36, x 37, x 38, x 39, x 40, x 41, x 42, x 43, x 44, x 45, x 46, x 47, x 48, x 49, x 50, x 51, x 52, x 53, x 54, x 55, x 56, x 57, x 58, x 59, x 60, x 61, x 62, x 63, x 64, x 65, x 66, x 67, x 68, x 69, x 70, x 71, x 72, x 73, x 74, x 75, x 76, x 77, x 78, x 79]) → Z e (H ++ zRow :: g) (QP R H) := fun e g hR he => by rw [hZ]; exact rpar_bytes h1 hk hl he hR
  have hZ' := hZ.symm
  clear hZ
  simp only [AFunc.body, g17, ACode.at] at hZ' ⊢
  unfold numP at h
  simp (disch := omega) only [kB, kcx, kdm, kdn, kel, aop, resultsL, resultOf, Nat.reduceEqDiff, reduceCtorEq, eq1, apartOK, apart2, AObj.live, Int.reduceEq, Int.reduceLT, Int.reduceLE, Int.reduceAdd, Int.reduceSub, Int.reduceMul, Int.reduceToNat, cutCells, Nat.reduceAdd, Nat.reduceLeDiff, Nat.reduceLT, Nat.reduceMul, Nat.reduceSub, hZ']
  refine rnumber_s hb ht (fun hn => ?_) (fun v hn hv => ?_) (fun v hn hv A hA => ?_)
  · rw [hn] at h
    simp (disch := omega) only [kB, kcx, kdm, kdn, kel, aop, resultsL, resultOf, Nat.reduceEqDiff, reduceCtorEq, eq1, apartOK, apart2, AObj.live, Int.reduceEq, Int.reduceLT, Int.reduceLE, Int.reduceAdd, Int.reduceSub, Int.reduceMul, Int.reduceToNat, cutCells, Nat.reduceAdd, Nat.reduceLeDiff, Nat.reduceLT, Nat.reduceMul, Nat.reduceSub, hZ']
    exact hrest _ _ h (by exact ex_env rfl)
  · rw [hn] at h
    simp only [Int.toNat_natCast] at h
    simp (disch := omega) only [kB, kcx, kdm, kdn, kel, aop, resultsL, resultOf, Nat.reduceEqDiff, reduceCtorEq, eq1, apartOK, apart2, AObj.live, Int.reduceEq, Int.reduceLT, Int.reduceLE, Int.reduceAdd, Int.reduceSub, Int.reduceMul, Int.reduceToNat, cutCells, Nat.reduceAdd, Nat.reduceLeDiff, Nat.reduceLT, Nat.reduceMul, Nat.reduceSub, hZ']
    refine rfits_s hv ?_
    rw [fitsI_nat h1 hk]
    by_cases hf : v < 2 ^ k
    · rw [if_pos hf] at h
      rw [decide_eq_true hf]
      simp (disch := omega) only [kB, kcx, kdm, kdn, kel, aop, resultsL, resultOf, Nat.reduceEqDiff, reduceCtorEq, eq1, apartOK, apart2, AObj.live, Int.reduceEq, Int.reduceLT, Int.reduceLE, Int.reduceAdd, Int.reduceSub, Int.reduceMul, Int.reduceToNat, cutCells, Nat.reduceAdd, Nat.reduceLeDiff, Nat.reduceLT, Nat.reduceMul, Nat.reduceSub, hZ']
      exact ⟨_, rfl, ⟨_, rfl⟩, .tup2 (.closed rfl) (.closed rfl), h⟩
    · rw [if_neg hf] at h
      rw [decide_eq_false hf]
      have hz : R (.ret (.tuple #[bvA 0, .int .i64 11])) H := h
      rw [bvA_zero] at hz
      simp (disch := omega) only [kB, kcx, kdm, kdn, kel, aop, resultsL, resultOf, Nat.reduceEqDiff, reduceCtorEq, eq1, apartOK, apart2, AObj.live, Int.reduceEq, Int.reduceLT, Int.reduceLE, Int.reduceAdd, Int.reduceSub, Int.reduceMul, Int.reduceToNat, cutCells, Nat.reduceAdd, Nat.reduceLeDiff, Nat.reduceLT, Nat.reduceMul, Nat.reduceSub, hZ']
      exact ⟨_, rfl, ⟨_, rfl⟩, .tup2 (.closed rfl) (.closed rfl), hz⟩
  · have hf : ¬ v < 2 ^ k := fun q => hv (Nat.lt_of_lt_of_le q (Nat.pow_le_pow_right (by decide) hk))
    rw [hn] at h
    simp only [Int.toNat_natCast] at h
    rw [if_neg hf] at h
    have hz : R (.ret (.tuple #[bvA 0, .int .i64 11])) H := h
    rw [bvA_zero] at hz
    simp (disch := omega) only [kB, kcx, kdm, kdn, kel, aop, resultsL, resultOf, Nat.reduceEqDiff, reduceCtorEq, eq1, apartOK, apart2, AObj.live, Int.reduceEq, Int.reduceLT, Int.reduceLE, Int.reduceAdd, Int.reduceSub, Int.reduceMul, Int.reduceToNat, cutCells, Nat.reduceAdd, Nat.reduceLeDiff, Nat.reduceLT, Nat.reduceMul, Nat.reduceSub, hZ']
    exact ⟨_, rfl, ⟨_, rfl⟩, .tup2 (.closed rfl) (.closed rfl), hz⟩

theorem head_x (t : List UInt8) : headT (48 :: 120 :: t) = (t, 16) := by simp [headT]
theorem head_b (t : List UInt8) : headT (48 :: 98 :: t) = (t, 2) := by simp [headT]
theorem head_no {l : List UInt8} (h : ∀ t, l ≠ 48 :: 120 :: t) (h2 : ∀ t, l ≠ 48 :: 98 :: t) : headT l = (l, 10) := by
  have p1 : [48, 120].isPrefixOf l = false := by
    cases q : [48, 120].isPrefixOf l with
    | false => rfl
    | true => obtain ⟨t, ht⟩ := List.isPrefixOf_iff_prefix.1 q; exact absurd ht.symm (h t)
  have p2 : [48, 98].isPrefixOf l = false := by
    cases q : [48, 98].isPrefixOf l with
    | false => rfl
    | true => obtain ⟨t, ht⟩ := List.isPrefixOf_iff_prefix.1 q; exact absurd ht.symm (h2 t)
  rw [headT, p1, p2]; rfl

set_option maxHeartbeats 2000000 in
theorem rparse_s {l : List UInt8} {w : Int} (hl : l.length ≤ 4611686018427387904) (h : R (.ret (pairV (parseI l w))) H) : WD T 17 [.string (bs l), .int .i64 w] H R := by
  refine WD.gc0 (WD.of follows t17 (by simp) ?_)
  rw [parseI_eq] at h
  rcases wcases w with hw | ⟨k, rfl, h1, h2⟩
  · rw [hw, if_neg (by decide)] at h
    have hz : R (.ret (.tuple #[bvA 0, .int .i64 10])) H := h
    rw [bvA_zero] at hz
    simp (disch := omega) only [kB, kcx, kdm, kdn, kel, aop, resultsL, resultOf, Nat.reduceEqDiff, reduceCtorEq, eq1, apartOK, apart2, AObj.live, Int.reduceEq, Int.reduceLT, Int.reduceLE, Int.reduceAdd, Int.reduceSub, Int.reduceMul, Int.reduceToNat, cutCells, Nat.reduceAdd, Nat.reduceLeDiff, Nat.reduceLT, Nat.reduceMul, Nat.reduceSub]
    refine rwidth_s ?_
    simp (disch := omega) only [kB, kcx, kdm, kdn, kel, aop, resultsL, resultOf, Nat.reduceEqDiff, reduceCtorEq, eq1, apartOK, apart2, AObj.live, Int.reduceEq, Int.reduceLT, Int.reduceLE, Int.reduceAdd, Int.reduceSub, Int.reduceMul, Int.reduceToNat, cutCells, Nat.reduceAdd, Nat.reduceLeDiff, Nat.reduceLT, Nat.reduceMul, Nat.reduceSub, hw]
    exact ⟨_, rfl, ⟨_, rfl⟩, .tup2 (.closed rfl) (.closed rfl), hz⟩
  · have hw := isw_nat h1 h2
    rw [hw, if_pos rfl] at h
    obtain ⟨Z, hZ⟩ : ∃ Z, Z = WC T (g17.body.at [1, 1, 1, 1, 1, 1]) := ⟨_, rfl⟩
    have hrest : ∀ e t (b : Nat), base3 b → t.length ≤ 4611686018427387904 → R (.ret (pairV (numP l t b (k : Int)))) H → (∃ x : Nat → Value, e = [.string (bs l), .int .i64 (k : Int), x 2, x 3, .pointer (some ⟨H.length, 0, none⟩), x 5, .int .i64 (b : Int), .string (bs t), x 8, x 9, x 10, x 11, x 12, x 13, x 14, x 15, x 16, x 17, x 18, x 19, x 20, x 21, x 22, x 23, x 24, x 25, x 26, x 27, x 28, x 29, x 30, x 31, x 32, x 33, x 34, x 35, x 36, x 37, x 38, x 39, x 40, x 41, x 42, x 43, x 44, x 45, x 46, x 47, x 48, x 49, x 50, x 51, x 52, x 53, x 54, x 55, x 56, x 57, x 58, x 59, x 60, x 61, x 62, x 63, x 64, x 65, x 66, x 67, x 68, x 69, x 70, x 71, x 72, x 73, x 74, x 75, x 76, x 77, x 78, x 79]) → Z e (H ++ [zRow]) (QP R H) := fun e t b hb ht hR he => by rw [hZ]; exact rpar_num h1 h2 hb hl ht he hR
    have hZ' := hZ.symm
    clear hZ
    simp only [AFunc.body, g17, ACode.at] at hZ'
    have u1 : ((((48 : UInt8).toNat : Nat) : Int) = 48) = True := eq_true (by decide)
    have u2 : ((((120 : UInt8).toNat : Nat) : Int) = 120) = True := eq_true (by decide)
    have u3 : ((((98 : UInt8).toNat : Nat) : Int) = 120) = False := eq_false (by decide)
    have u4 : ((((98 : UInt8).toNat : Nat) : Int) = 98) = True := eq_true (by decide)
    have u5 : ((((120 : UInt8).toNat : Nat) : Int) = 98) = False := eq_false (by decide)
    by_cases c1 : ∃ t, l = 48 :: 120 :: t
    · obtain ⟨t, rfl⟩ := c1
      rw [head_x] at h
      have hlen : (((2 : Nat) : Int)) ≤ ((t.length + 1 + 1 : Nat) : Int) := by omega
      have hlen2 : (2 : Int) ≤ ((t.length + 1 + 1 : Nat) : Int) := by omega
      have ht : t.length ≤ 4611686018427387904 := by simp at hl; omega
      simp (disch := omega) only [kB, kcx, kdm, kdn, kel, aop, resultsL, resultOf, Nat.reduceEqDiff, reduceCtorEq, eq1, apartOK, apart2, AObj.live, Int.reduceEq, Int.reduceLT, Int.reduceLE, Int.reduceAdd, Int.reduceSub, Int.reduceMul, Int.reduceToNat, cutCells, Nat.reduceAdd, Nat.reduceLeDiff, Nat.reduceLT, Nat.reduceMul, Nat.reduceSub, hZ']
      refine rwidth_s ?_
      simp (disch := omega) only [kB, kcx, kdm, kdn, kel, aop, resultsL, resultOf, Nat.reduceEqDiff, reduceCtorEq, eq1, apartOK, apart2, AObj.live, Int.reduceEq, Int.reduceLT, Int.reduceLE, Int.reduceAdd, Int.reduceSub, Int.reduceMul, Int.reduceToNat, cutCells, Nat.reduceAdd, Nat.reduceLeDiff, Nat.reduceLT, Nat.reduceMul, Nat.reduceSub, hZ', hw, hlen, hlen2, u1, u2, u3, u4, u5]
      exact hrest _ t 16 (by simp [base3]) ht h (by exact ex_env rfl)
    by_cases c2 : ∃ t, l = 48 :: 98 :: t
    · obtain ⟨t, rfl⟩ := c2
      rw [head_b] at h
      have hlen : (((2 : Nat) : Int)) ≤ ((t.length + 1 + 1 : Nat) : Int) := by omega
      have hlen2 : (2 : Int) ≤ ((t.length + 1 + 1 : Nat) : Int) := by omega
      have ht : t.length ≤ 4611686018427387904 := by simp at hl; omega
      simp (disch := omega) only [kB, kcx, kdm, kdn, kel, aop, resultsL, resultOf, Nat.reduceEqDiff, reduceCtorEq, eq1, apartOK, apart2, AObj.live, Int.reduceEq, Int.reduceLT, Int.reduceLE, Int.reduceAdd, Int.reduceSub, Int.reduceMul, Int.reduceToNat, cutCells, Nat.reduceAdd, Nat.reduceLeDiff, Nat.reduceLT, Nat.reduceMul, Nat.reduceSub, hZ']
      refine rwidth_s ?_
      simp (disch := omega) only [kB, kcx, kdm, kdn, kel, aop, resultsL, resultOf, Nat.reduceEqDiff, reduceCtorEq, eq1, apartOK, apart2, AObj.live, Int.reduceEq, Int.reduceLT, Int.reduceLE, Int.reduceAdd, Int.reduceSub, Int.reduceMul, Int.reduceToNat, cutCells, Nat.reduceAdd, Nat.reduceLeDiff, Nat.reduceLT, Nat.reduceMul, Nat.reduceSub, hZ', hw, hlen, hlen2, u1, u2, u3, u4, u5]
      exact hrest _ t 2 (by simp [base3]) ht h (by exact ex_env rfl)
    rw [head_no (fun t q => c1 ⟨t, q⟩) (fun t q => c2 ⟨t, q⟩)] at h
    match l, hl, h, hrest, c1, c2 with
    | [], hl, h, hrest, c1, c2 =>
      have n2 : ¬ (2 : Int) ≤ ((0 : Nat) : Int) := by decide
      simp (disch := omega) only [kB, kcx, kdm, kdn, kel, aop, resultsL, resultOf, Nat.reduceEqDiff, reduceCtorEq, eq1, apartOK, apart2, AObj.live, Int.reduceEq, Int.reduceLT, Int.reduceLE, Int.reduceAdd, Int.reduceSub, Int.reduceMul, Int.reduceToNat, cutCells, Nat.reduceAdd, Nat.reduceLeDiff, Nat.reduceLT, Nat.reduceMul, Nat.reduceSub, hZ']
      refine rwidth_s ?_
      simp (disch := omega) only [kB, kcx, kdm, kdn, kel, aop, resultsL, resultOf, Nat.reduceEqDiff, reduceCtorEq, eq1, apartOK, apart2, AObj.live, Int.reduceEq, Int.reduceLT, Int.reduceLE, Int.reduceAdd, Int.reduceSub, Int.reduceMul, Int.reduceToNat, cutCells, Nat.reduceAdd, Nat.reduceLeDiff, Nat.reduceLT, Nat.reduceMul, Nat.reduceSub, hZ', hw, n2]
      exact hrest _ [] 10 (by simp [base3]) (by simp) h (by exact ex_env rfl)
    | [a], hl, h, hrest, c1, c2 =>
      have n2 : ¬ (2 : Int) ≤ ((0 + 1 : Nat) : Int) := by decide
      simp (disch := omega) only [kB, kcx, kdm, kdn, kel, aop, resultsL, resultOf, Nat.reduceEqDiff, reduceCtorEq, eq1, apartOK, apart2, AObj.live, Int.reduceEq, Int.reduceLT, Int.reduceLE, Int.reduceAdd, Int.reduceSub, Int.reduceMul, Int.reduceToNat, cutCells, Nat.reduceAdd, Nat.reduceLeDiff, Nat.reduceLT, Nat.reduceMul, Nat.reduceSub, hZ']
      refine rwidth_s ?_
      simp (disch := omega) only [kB, kcx, kdm, kdn, kel, aop, resultsL, resultOf, Nat.reduceEqDiff, reduceCtorEq, eq1, apartOK, apart2, AObj.live, Int.reduceEq, Int.reduceLT, Int.reduceLE, Int.reduceAdd, Int.reduceSub, Int.reduceMul, Int.reduceToNat, cutCells, Nat.reduceAdd, Nat.reduceLeDiff, Nat.reduceLT, Nat.reduceMul, Nat.reduceSub, hZ', hw, n2]
      exact hrest _ [a] 10 (by simp [base3]) (by simp) h (by exact ex_env rfl)
    | a :: b :: t, hl, h, hrest, c1, c2 =>
      have hlen : (((2 : Nat) : Int)) ≤ ((t.length + 1 + 1 : Nat) : Int) := by omega
      have hlen2 : (2 : Int) ≤ ((t.length + 1 + 1 : Nat) : Int) := by omega
      by_cases a0 : a = 48
      · subst a0
        have b1 : ¬ ((b.toNat : Int) = 120) := fun q => c1 ⟨t, by rw [show b = 120 from UInt8.toNat_inj.1 (by simp; omega)]⟩
        have b2 : ¬ ((b.toNat : Int) = 98) := fun q => c2 ⟨t, by rw [show b = 98 from UInt8.toNat_inj.1 (by simp; omega)]⟩
        simp (disch := omega) only [kB, kcx, kdm, kdn, kel, aop, resultsL, resultOf, Nat.reduceEqDiff, reduceCtorEq, eq1, apartOK, apart2, AObj.live, Int.reduceEq, Int.reduceLT, Int.reduceLE, Int.reduceAdd, Int.reduceSub, Int.reduceMul, Int.reduceToNat, cutCells, Nat.reduceAdd, Nat.reduceLeDiff, Nat.reduceLT, Nat.reduceMul, Nat.reduceSub, hZ']
        refine rwidth_s ?_
        simp (disch := omega) only [kB, kcx, kdm, kdn, kel, aop, resultsL, resultOf, Nat.reduceEqDiff, reduceCtorEq, eq1, apartOK, apart2, AObj.live, Int.reduceEq, Int.reduceLT, Int.reduceLE, Int.reduceAdd, Int.reduceSub, Int.reduceMul, Int.reduceToNat, cutCells, Nat.reduceAdd, Nat.reduceLeDiff, Nat.reduceLT, Nat.reduceMul, Nat.reduceSub, hZ', hw, hlen, hlen2, u1, b1, b2]
        exact hrest _ _ 10 (by simp [base3]) hl h (by exact ex_env rfl)
      · have b0 : ¬ ((a.toNat : Int) = 48) := fun q => a0 (UInt8.toNat_inj.1 (by simp; omega))
        simp (disch := omega) only [kB, kcx, kdm, kdn, kel, aop, resultsL, resultOf, Nat.reduceEqDiff, reduceCtorEq, eq1, apartOK, apart2, AObj.live, Int.reduceEq, Int.reduceLT, Int.reduceLE, Int.reduceAdd, Int.reduceSub, Int.reduceMul, Int.reduceToNat, cutCells, Nat.reduceAdd, Nat.reduceLeDiff, Nat.reduceLT, Nat.reduceMul, Nat.reduceSub, hZ']
        refine rwidth_s ?_
        simp (disch := omega) only [kB, kcx, kdm, kdn, kel, aop, resultsL, resultOf, Nat.reduceEqDiff, reduceCtorEq, eq1, apartOK, apart2, AObj.live, Int.reduceEq, Int.reduceLT, Int.reduceLE, Int.reduceAdd, Int.reduceSub, Int.reduceMul, Int.reduceToNat, cutCells, Nat.reduceAdd, Nat.reduceLeDiff, Nat.reduceLT, Nat.reduceMul, Nat.reduceSub, hZ', hw, hlen, hlen2, b0]
        exact hrest _ _ 10 (by simp [base3]) hl h (by exact ex_env rfl)

end Go.Proofs.YtkhkmgcegicmoaaDoor.Ev

/- ValueTexts: every value, width, form and text: the program answers as the document. -/
namespace Go.Proofs.YtkhkmgcegicmoaaDoor.Ev
set_option maxRecDepth 100000
set_option linter.unusedSimpArgs false
set_option linter.unusedVariables false
variable {R : FRes → Heap → Prop}

set_option maxHeartbeats 20000000 in
theorem texts_w {a : Nat} {l : List UInt8} {w form : Int} (ha : a < W64 * W64) (hl : l.length ≤ 140737488351232) : WD T 4 [bvA a, .int .i64 w, .int .i64 form, .string (bs l)] H0 (fun r _ => r = .ret (.bool true)) := by
  have ha' : a < 2 ^ 128 := ha
  have hs0 : hget H0 0 = .row (numV signsL) 0 false := rfl
  have ln0 : 0 < H0.length := by decide
  generalize hH : H0 = H at *
  have hp : H0 <+: H := by rw [hH]; exact List.prefix_refl _
  clear hH
  obtain ⟨t, ht⟩ : ∃ t, t = textI a w form := ⟨_, rfl⟩
  obtain ⟨P, hP⟩ : ∃ P, P = parseI l w := ⟨_, rfl⟩
  have z0 : (t.1 = t.1) = True := eq_true rfl
  refine WD.of follows t4 (by simp) ?_
  simp (disch := omega) only [kB, kcx, kdm, kdn, kel, aop, resultsL, resultOf, Nat.reduceEqDiff, reduceCtorEq, eq1, apartOK, apart2, AObj.live, Int.reduceEq, Int.reduceLT, Int.reduceLE, Int.reduceAdd, Int.reduceSub, Int.reduceMul, Int.reduceToNat, cutCells, Nat.reduceAdd, Nat.reduceLeDiff, Nat.reduceLT, Nat.reduceMul, Nat.reduceSub]
  refine awake_s (hp.trans (List.prefix_append _ _)) ?_
  simp (disch := omega) only [kB, kcx, kdm, kdn, kel, aop, resultsL, resultOf, Nat.reduceEqDiff, reduceCtorEq, eq1, apartOK, apart2, AObj.live, Int.reduceEq, Int.reduceLT, Int.reduceLE, Int.reduceAdd, Int.reduceSub, Int.reduceMul, Int.reduceToNat, cutCells, Nat.reduceAdd, Nat.reduceLeDiff, Nat.reduceLT, Nat.reduceMul, Nat.reduceSub]
  refine text_s ha' (by rw [hget_old ln0]; exact hs0) (by simp) ?_
  rw [← ht]
  simp (disch := omega) only [kB, kcx, kdm, kdn, kel, aop, resultsL, resultOf, Nat.reduceEqDiff, reduceCtorEq, eq1, apartOK, apart2, AObj.live, Int.reduceEq, Int.reduceLT, Int.reduceLE, Int.reduceAdd, Int.reduceSub, Int.reduceMul, Int.reduceToNat, cutCells, Nat.reduceAdd, Nat.reduceLeDiff, Nat.reduceLT, Nat.reduceMul, Nat.reduceSub]
  refine parse_s (by omega) ?_
  rw [← hP]
  simp (disch := omega) only [kB, kcx, kdm, kdn, kel, aop, resultsL, resultOf, Nat.reduceEqDiff, reduceCtorEq, eq1, apartOK, apart2, AObj.live, Int.reduceEq, Int.reduceLT, Int.reduceLE, Int.reduceAdd, Int.reduceSub, Int.reduceMul, Int.reduceToNat, cutCells, Nat.reduceAdd, Nat.reduceLeDiff, Nat.reduceLT, Nat.reduceMul, Nat.reduceSub]
  refine rtext_s ha' ?_
  rw [← ht]
  simp (disch := omega) only [kB, kcx, kdm, kdn, kel, aop, resultsL, resultOf, Nat.reduceEqDiff, reduceCtorEq, eq1, apartOK, apart2, AObj.live, Int.reduceEq, Int.reduceLT, Int.reduceLE, Int.reduceAdd, Int.reduceSub, Int.reduceMul, Int.reduceToNat, cutCells, Nat.reduceAdd, Nat.reduceLeDiff, Nat.reduceLT, Nat.reduceMul, Nat.reduceSub]
  refine rparse_s (by omega) ?_
  rw [← hP]
  simp (disch := omega) only [kB, kcx, kdm, kdn, kel, aop, resultsL, resultOf, Nat.reduceEqDiff, reduceCtorEq, eq1, apartOK, apart2, AObj.live, Int.reduceEq, Int.reduceLT, Int.reduceLE, Int.reduceAdd, Int.reduceSub, Int.reduceMul, Int.reduceToNat, cutCells, Nat.reduceAdd, Nat.reduceLeDiff, Nat.reduceLT, Nat.reduceMul, Nat.reduceSub, eq_bvv, decide_true, Bool.bne_true, Bool.bne_false, Bool.not_true, Bool.not_false]

end Go.Proofs.YtkhkmgcegicmoaaDoor.Ev

/- A law's arguments as its row reads them: rows of cells that nothing writes, and what stands in them. Conditions: none. -/
namespace Go.Proofs.YtkhkmgcegicmoaaDoor.Ev
open Go.RowKit Go.ChangeShapes Go.WideShapes

/-- What data stands in some cells. -/
inductive Rep (P : Program) (H : Heap) {X : Type} : TypeId → DataW X → List Value → Prop where
  | bool {t : TypeId} (b : Bool) (hu : P.underlying t = some .bool) : Rep P H t (.lit (.bool b)) [.bool b]
  | int {t : TypeId} (k : IntKind) (n : Int) (hu : P.underlying t = some (.int k)) (hw : (Lit.int k n).wf = true) : Rep P H t (.lit (.int k n)) [.int k n]
  | str {t : TypeId} (l : List UInt8) (hu : P.underlying t = some .string) (hl : l.length ≤ maxLen) : Rep P H t (.lit (.string l)) [.string (bs l)]
  | struct {t : TypeId} {fs : Array Field} {ds : List (DataW X)} {ass : List (List Value)} (hu : P.underlying t = some (.struct fs)) (h1 : ds.length = fs.size) (h2 : ass.length = fs.size)
      (h : ∀ (i : Nat) (f : Field) (d : DataW X) (cz : List Value), fs[i]? = some f → ds[i]? = some d → ass[i]? = some cz → Rep P H f.type d cz)
      (hl : ∀ (i : Nat) (f : Field) (cz : List Value), fs[i]? = some f → ass[i]? = some cz → cz.length = P.cellsOf f.type) : Rep P H t (.agg ds) ass.flatten
  | nilS {t e : TypeId} (hu : P.underlying t = some (.slice e)) : Rep P H t .nil [.slice none 0 0]
  | empty {t e : TypeId} {sp : List (DataW X)} (hu : P.underlying t = some (.slice e)) : Rep P H t (.slice [] sp) [.slice (some ⟨0, 0, some 0⟩) 0 0]
  | slice {t e : TypeId} {b : Nat} {ds sp : List (DataW X)} {ass : List (List Value)} (hu : P.underlying t = some (.slice e)) (hne : ds ≠ []) (hb : hget H b = .row ass.flatten 0 false) (h2 : ass.length = ds.length)
      (h : ∀ (i : Nat) (d : DataW X) (cz : List Value), ds[i]? = some d → ass[i]? = some cz → Rep P H e d cz)
      (hl : ∀ (i : Nat) (cz : List Value), ass[i]? = some cz → cz.length = P.cellsOf e) : Rep P H t (.slice ds sp) [.slice (some ⟨b, 0, none⟩) ds.length ds.length]

theorem Rep.mono {P : Program} {H g : Heap} {X : Type} {t : TypeId} {d : DataW X} {cz : List Value} (h : Rep P H t d cz) : Rep P (H ++ g) t d cz := by
  induction h with
  | bool b hu => exact .bool b hu
  | int k n hu hw => exact .int k n hu hw
  | str l hu hl => exact .str l hu hl
  | struct hu h1 h2 h hl ih => exact .struct hu h1 h2 ih hl
  | nilS hu => exact .nilS hu
  | empty hu => exact .empty hu
  | slice hu hne hb h2 h hl ih => exact .slice hu hne (by rw [hget_old (hget_lt hb rfl)]; exact hb) h2 ih hl

/-- A set of types of plain data: numbers, texts, structs and lists of them. -/
def plainSet (P : Program) (L : List TypeId) : Bool := L.all fun t => decide (t < P.types.size) && match P.underlying t with
  | some .bool | some (.int _) | some .string => true
  | some (.struct fs) => fs.toList.all fun f => L.contains f.type
  | some (.slice e) => L.contains e && decide (0 < P.cellsOf e)
  | _ => false

def chunks : List Nat → List Value → List (List Value)
  | [], _ => []
  | n :: ns, cs => cs.take n :: chunks ns (cs.drop n)

theorem chunks_flat : ∀ (ns : List Nat) (cs : List Value), cs.length = ns.sum → (chunks ns cs).flatten = cs
  | [], cs, h => by simp at h; simp [chunks, h]
  | n :: ns, cs, h => by
    rw [chunks, List.flatten_cons, chunks_flat ns _ (by simp at h ⊢; omega), List.take_append_drop]

theorem chunks_len : ∀ (ns : List Nat) (cs : List Value), (chunks ns cs).length = ns.length
  | [], _ => rfl
  | n :: ns, cs => by rw [chunks, List.length_cons, List.length_cons, chunks_len ns]

theorem chunks_get : ∀ (ns : List Nat) (cs : List Value) (j n : Nat), ns[j]? = some n → (chunks ns cs)[j]? = some ((cs.drop (ns.take j).sum).take n)
  | [], _, j, n, h => by simp at h
  | m :: ns, cs, 0, n, h => by simp at h; simp [chunks, h]
  | m :: ns, cs, j + 1, n, h => by
    have h' : ns[j]? = some n := by simpa using h
    have := chunks_get ns (cs.drop m) j n h'
    simp only [chunks, List.getElem?_cons_succ, List.take_succ_cons, List.sum_cons]
    rw [this, List.drop_drop]

theorem VL.flat {n : Nat} {ρ : Nat → Place} : ∀ (xss yss : List (List Value)), xss.length = yss.length → (∀ (i : Nat) (xs ys : List Value), xss[i]? = some xs → yss[i]? = some ys → VL n ρ xs ys) → VL n ρ xss.flatten yss.flatten
  | [], [], _, _ => VL.nil
  | [], _ :: _, h, _ => by simp at h
  | _ :: _, [], h, _ => by simp at h
  | xs :: xss, ys :: yss, h, hh => by
    rw [List.flatten_cons, List.flatten_cons]
    exact (hh 0 xs ys rfl rfl).append (VL.flat xss yss (by simpa using h) fun i a b ha hb => hh (i + 1) a b (by simpa using ha) (by simpa using hb))

section
variable {X : Type} {enc : TypeId × Value → X} {P : Program} {G : Nat} {W : World} {base : Nat} {sp : Nat → Bool} {held : Bool} {L : List TypeId}

/-- Some cells can be told in a heap of the evaluator's. -/
def Opens (P : Program) (G : Nat) (W : World) (t : TypeId) (cs : List Value) (d : DataW X) : Prop :=
  ∀ (H : Heap) (ρ : Nat → Place), (∀ o ∈ H, o.wrt = false) → Rel G ρ H W → ∃ (g : Heap) (ρ' : Nat → Place) (cz : List Value), Rel G ρ' (H ++ g) W ∧ (∀ b, b < H.length → ρ' b = ρ b) ∧ (∀ o ∈ g, ∃ c, o = .row c 0 false) ∧ VL (H ++ g).length ρ' cz cs ∧ Rep P (H ++ g) t d cz

theorem ro_app {H g : Heap} (h : ∀ o ∈ H, o.wrt = false) (hg : ∀ o ∈ g, ∃ c, o = .row c 0 false) : ∀ o ∈ H ++ g, o.wrt = false := fun o ho => by
  rcases List.mem_append.1 ho with ho | ho
  · exact h o ho
  · obtain ⟨c, rfl⟩ := hg o ho; rfl

theorem opens_list : ∀ (l : List (TypeId × List Value × DataW X)), (∀ q ∈ l, Opens P G W q.1 q.2.1 q.2.2) → ∀ (H : Heap) (ρ : Nat → Place), (∀ o ∈ H, o.wrt = false) → Rel G ρ H W →
    ∃ (g : Heap) (ρ' : Nat → Place) (ass : List (List Value)), Rel G ρ' (H ++ g) W ∧ (∀ b, b < H.length → ρ' b = ρ b) ∧ (∀ o ∈ g, ∃ c, o = .row c 0 false) ∧ ass.length = l.length ∧
      ∀ (i : Nat) (q : TypeId × List Value × DataW X) (cz : List Value), l[i]? = some q → ass[i]? = some cz → VL (H ++ g).length ρ' cz q.2.1 ∧ Rep P (H ++ g) q.1 q.2.2 cz
  | [], _, H, ρ, _, hr => ⟨[], ρ, [], by simpa using hr, fun _ _ => rfl, fun o ho => (by cases ho), rfl, fun i q cz h => by simp at h⟩
  | q :: l, h, H, ρ, hro, hr => by
    obtain ⟨g, ρ1, cz, hr1, hs1, hg1, hv1, hp1⟩ := h q (by simp) H ρ hro hr
    obtain ⟨g2, ρ2, ass, hr2, hs2, hg2, hl2, hh⟩ := opens_list l (fun q hq => h q (by simp [hq])) (H ++ g) ρ1 (ro_app hro hg1) hr1
    rw [List.append_assoc] at hr2 hh
    refine ⟨g ++ g2, ρ2, cz :: ass, hr2, fun b hb => (hs2 b (by simp; omega)).trans (hs1 b hb), fun o ho => ?_, by simp [hl2], fun i q' cz' hq has => ?_⟩
    · rcases List.mem_append.1 ho with ho | ho
      · exact hg1 o ho
      · exact hg2 o ho
    · cases i with
      | zero =>
        simp at hq has
        subst hq; subst has
        refine ⟨hv1.mono (by simp) hs2, ?_⟩
        rw [← List.append_assoc]
        exact hp1.mono
      | succ i => exact hh i q' cz' (by simpa using hq) (by simpa using has)

theorem mem_plain (hP : plainSet P L = true) {t : TypeId} (ht : L.contains t = true) : (decide (t < P.types.size) && (match P.underlying t with
    | some .bool | some (.int _) | some .string => true
    | some (.struct fs) => fs.toList.all fun f => L.contains f.type
    | some (.slice e) => L.contains e && decide (0 < P.cellsOf e)
    | _ => false)) = true := by
  unfold plainSet at hP
  exact List.all_eq_true.1 hP t (List.contains_iff_mem.1 ht)

theorem flat_get {c : Nat} (hc : 0 < c) : ∀ (css : List (List Value)) (k j : Nat) (cs : List Value), (∀ (i : Nat) (cz : List Value), css[i]? = some cz → cz.length = c) → css[k]? = some cs → j < c → css.flatten[k * c + j]? = cs[j]?
  | [], k, j, cs, _, h, _ => by simp at h
  | a :: css, 0, j, cs, hl, h, hj => by
    have h1 := hl 0 a rfl
    simp at h
    subst h
    rw [List.flatten_cons, Nat.zero_mul, Nat.zero_add, List.getElem?_append_left (by omega)]
  | a :: css, k + 1, j, cs, hl, h, hj => by
    have h1 := hl 0 a rfl
    have := flat_get hc css k j cs (fun i cz hi => hl (i + 1) cz (by simpa using hi)) (by simpa using h) hj
    rw [List.flatten_cons, List.getElem?_append_right (by rw [h1, Nat.add_mul]; omega), h1, show (k + 1) * c + j - c = k * c + j by rw [Nat.add_mul]; omega]
    exact this

theorem flat_len {c : Nat} : ∀ (css : List (List Value)), (∀ (i : Nat) (cz : List Value), css[i]? = some cz → cz.length = c) → css.flatten.length = css.length * c
  | [], _ => by simp
  | a :: css, hl => by
    rw [List.flatten_cons, List.length_append, hl 0 a rfl, flat_len css (fun i cz hi => hl (i + 1) cz (by simpa using hi)), List.length_cons, Nat.add_mul]
    omega

/-- A row that nothing writes, new in the evaluator's heap. -/
theorem rel_row {H : Heap} {ρ : Nat → Place} (hro : ∀ o ∈ H, o.wrt = false) (hr : Rel G ρ H W) {a : Addr} {cs : List Value} {cells : Array Value} {t : TypeId} {fr : Nat × Nat} {ext0 : Nat} (hh : W.heap[a.block]? = some (.cells cells t fr))
    (hc : ∀ (i : Nat) (v : Value), cs[i]? = some v → ∃ v', cells[a.off + i]? = some v' ∧ VR H.length ρ v v') : Rel G (ext ρ H.length ⟨a.block, a.off, ext0⟩) (H ++ [.row cs 0 false]) W := by
  have cases_ : ∀ b u, (H ++ [AObj.row cs 0 false])[b]? = some u → (b < H.length ∧ H[b]? = some u) ∨ (b = H.length ∧ u = .row cs 0 false) := fun b u h => by
    by_cases hb : b < H.length
    · rw [List.getElem?_append_left hb] at h; exact .inl ⟨hb, h⟩
    · rw [List.getElem?_append_right (by omega)] at h
      obtain ⟨h1, h2⟩ := List.getElem?_eq_some_iff.1 h
      simp at h1
      have : b = H.length := by omega
      subst this
      simp at h2
      exact .inr ⟨rfl, h2.symm⟩
  have hlen : (H ++ [AObj.row cs 0 false]).length = H.length + 1 := by simp
  refine ⟨fun b u hu => ?_, fun b c u v hu hv hne hw hl => ?_, fun g hg => ?_, by rw [hlen]; have := hr.many; omega⟩
  · rcases cases_ b u hu with ⟨hb, hu⟩ | ⟨rfl, rfl⟩
    · exact (hr.obj b u hu).mono (by omega) (ext_lt hb) (fun c hc => ext_lt hc) (fun _ => rfl)
    · rw [OR, ext_same]
      refine ⟨cells, t, fr, hh, fun i v hi => ?_, fun h => by cases h⟩
      obtain ⟨v', h1, h2⟩ := hc i v hi
      exact ⟨v', h1, h2.mono (by omega) fun b hb => ext_lt hb⟩
  · rcases cases_ b u hu with ⟨hb, hu2⟩ | ⟨rfl, rfl⟩
    · rw [hro u (List.mem_of_getElem? hu2)] at hw
      cases hw
    · cases hw
  · rw [ext_lt (Nat.lt_of_lt_of_le hg hr.many)]; exact hr.glob g hg

theorem opens_trod (hl : laidOutB P = true) (hm : mapsRowed P = true) (hP : plainSet P L = true) : ∀ (n : Nat) (t : TypeId) (cs : List Value) (x : DataW X × List MemPlace), L.contains t = true →
    DataW.trod enc P W base (fun _ => true) held n t cs = some x → Opens P G W t cs x.1 := by
  intro n
  induction n with
  | zero => intro t cs x _ h; simp [DataW.trod] at h
  | succ n ih =>
    intro t cs x ht h
    have hk := mem_plain hP ht
    simp only [Bool.and_eq_true, decide_eq_true_eq] at hk
    obtain ⟨htp, hk⟩ := hk
    have K := kids_rows hl hm
    intro H ρ hro hr
    split at hk
    · rename_i hu
      obtain ⟨b, rfl, rfl⟩ := DataW.trod_bool hu h
      exact ⟨[], ρ, [.bool b], by simpa using hr, fun _ _ => rfl, fun o ho => (by cases ho), VL.cons (.bool b) VL.nil, .bool b hu⟩
    · rename_i k hu
      obtain ⟨m, rfl, rfl, hw⟩ := DataW.trod_int hu h
      exact ⟨[], ρ, [.int k m], by simpa using hr, fun _ _ => rfl, fun o ho => (by cases ho), VL.cons (.int k m) VL.nil, .int k m hu hw⟩
    · rename_i hu
      obtain ⟨s, rfl, rfl, hs⟩ := DataW.trod_string hu h
      exact ⟨[], ρ, [.string s], by simpa using hr, fun _ _ => rfl, fun o ho => (by cases ho), VL.cons (.string s) VL.nil, .str s.data.toList hu (by simpa using hs)⟩
    · rename_i fs hu
      obtain ⟨xs, m, hm1, rfl, hlen, hxl, hf⟩ := DataW.trod_struct hu h
      cases hm1
      obtain ⟨_, hsum, hoff⟩ := K.struct htp hu
      -- the fields, one by one
      have hget : ∀ (i : Nat) (f : Field) (y : DataW X × List MemPlace), fs[i]? = some f → xs[i]? = some y → DataW.trod enc P W base (fun _ => true) held n f.type ((cs.drop f.offset).take (P.cellsOf f.type)) = some y := fun i f y hfi hy => by
        rw [hf i f hfi, hy]
      let l : List (TypeId × List Value × DataW X) := (List.range fs.size).map fun i => ((fs[i]?.map (·.type)).getD 0, ((chunks (fs.toList.map fun f => P.cellsOf f.type) cs)[i]?).getD [], (xs[i]?.map (·.1)).getD .nil)
      have hl1 : ∀ i, i < fs.size → ∃ f y, fs[i]? = some f ∧ xs[i]? = some y ∧ l[i]? = some (f.type, (cs.drop f.offset).take (P.cellsOf f.type), y.1) := fun i hi => by
        have e1 : fs[i]? = some fs[i] := Array.getElem?_eq_getElem hi
        have e2 : xs[i]? = some (xs[i]'(by omega)) := List.getElem?_eq_getElem (by omega)
        refine ⟨_, _, e1, e2, ?_⟩
        have e3 : fs.toList[i]? = some fs[i] := by rw [Array.getElem?_toList]; exact e1
        have e4 := chunks_get (fs.toList.map fun f => P.cellsOf f.type) cs i (P.cellsOf fs[i].type) (by simp [hi])
        have e5 := hoff i _ e3
        rw [List.map_take] at e5
        rw [← e5] at e4
        simp only [l, List.getElem?_map, List.getElem?_range hi, Option.map_some, e1, e2, e4, Option.getD_some]
      have hlL : l.length = fs.size := by simp [l]
      obtain ⟨g, ρ', ass, hr', hs', hg', hal, hh⟩ := opens_list l (fun q hq => by
        obtain ⟨i, hi⟩ := List.getElem?_of_mem hq
        have hi2 : i < fs.size := by rw [← hlL]; exact (List.getElem?_eq_some_iff.1 hi).1
        obtain ⟨f, y, h1, h2, h3⟩ := hl1 i hi2
        rw [hi] at h3
        cases h3
        refine ih f.type _ y ?_ (hget i f y h1 h2)
        have hmem : f ∈ fs.toList := by
          have : fs.toList[i]? = some f := by simpa using h1
          exact List.mem_of_getElem? this
        exact List.all_eq_true.1 hk f hmem) H ρ hro hr
      refine ⟨g, ρ', ass.flatten, hr', hs', hg', ?_, ?_⟩
      · have hflat := chunks_flat (fs.toList.map fun f => P.cellsOf f.type) cs (by rw [hlen, hsum])
        rw [← hflat]
        refine VL.flat _ _ (by rw [hal, hlL, chunks_len]; simp) fun i a b ha hb => ?_
        have hi : i < fs.size := by rw [← hlL, ← hal]; exact (List.getElem?_eq_some_iff.1 ha).1
        obtain ⟨f, y, h1, h2, h3⟩ := hl1 i hi
        have e4 := chunks_get (fs.toList.map fun f => P.cellsOf f.type) cs i (P.cellsOf f.type) (by
          have : fs.toList[i]? = some f := by simpa using h1
          simp [this])
        have e5 := hoff i f (by simpa using h1)
        rw [List.map_take] at e5
        rw [← e5] at e4
        rw [hb] at e4
        cases e4
        exact (hh i _ a h3 ha).1
      · refine .struct hu (by simpa using hxl) (by rw [hal, hlL]) (fun i f d cz hfi hd ha => ?_) (fun i f cz hfi ha => ?_)
        · have hi : i < fs.size := (Array.getElem?_eq_some_iff.1 hfi).1
          obtain ⟨f', y, h1, h2, h3⟩ := hl1 i hi
          rw [hfi] at h1
          cases h1
          rw [List.getElem?_map, h2] at hd
          cases hd
          exact (hh i _ cz h3 ha).2
        · have hi : i < fs.size := (Array.getElem?_eq_some_iff.1 hfi).1
          obtain ⟨f', y, h1, h2, h3⟩ := hl1 i hi
          rw [hfi] at h1
          cases h1
          have := (hh i _ cz h3 ha).1.1
          rw [this]
          have e5 := hoff i f (by simpa using hfi)
          have hle : f.offset + P.cellsOf f.type ≤ cs.length := by
            rw [hlen, hsum, e5]
            have : fs.toList[i]? = some f := by simpa using hfi
            obtain ⟨h7, h8⟩ := List.getElem?_eq_some_iff.1 this
            have e6 : fs.toList = fs.toList.take i ++ f :: fs.toList.drop (i + 1) := by
              rw [← h8, ← List.drop_eq_getElem_cons h7, List.take_append_drop]
            conv => rhs; rw [e6]
            rw [List.map_append, List.sum_append, List.map_cons, List.sum_cons]
            omega
          rw [List.length_take, List.length_drop]
          omega
    · rename_i e hu
      simp only [Bool.and_eq_true, decide_eq_true_eq] at hk
      rcases DataW.trod_slice hu h with ⟨rfl, rfl⟩ | ⟨a, len, cap, elems, rest, m, hm1, rfl, rfl, hbase, hlc, hcm, hel, hge, _, _⟩
      · exact ⟨[], ρ, [.slice none 0 0], by simpa using hr, fun _ _ => rfl, fun o ho => (by cases ho), VL.cons .slNil VL.nil, .nilS hu⟩
      cases hm1
      by_cases h0 : elems = []
      · subst h0
        obtain rfl : len = 0 := by simpa using hel.symm
        exact ⟨[], ρ, [.slice (some ⟨0, 0, some 0⟩) 0 0], by simpa using hr, fun _ _ => rfl, fun o ho => (by cases ho), VL.cons (.slE 0 0 0 a cap) VL.nil, .empty hu⟩
      have hlen0 : 0 < len := by rw [← hel]; exact List.length_pos_iff.2 h0
      have hcell : ∀ i, i < len → ∃ csi y, W.cells? base (a.add (i * P.cellsOf e)) (P.cellsOf e) = some csi ∧ elems[i]? = some y ∧ DataW.trod enc P W base (fun _ => true) held n e csi = some y := fun i hi => by
        have h1 := hge i hi
        have h2 : elems[i]? = some (elems[i]'(by omega)) := List.getElem?_eq_getElem (by omega)
        rw [h2] at h1
        obtain ⟨csi, h3, h4⟩ := Option.bind_eq_some_iff.1 h1
        exact ⟨csi, _, h3, h2, h4⟩
      let css : List (List Value) := (List.range len).map fun i => (W.cells? base (a.add (i * P.cellsOf e)) (P.cellsOf e)).getD []
      have hcss : ∀ i, i < len → ∃ csi y, css[i]? = some csi ∧ W.cells? base (a.add (i * P.cellsOf e)) (P.cellsOf e) = some csi ∧ elems[i]? = some y ∧ DataW.trod enc P W base (fun _ => true) held n e csi = some y := fun i hi => by
        obtain ⟨csi, y, h1, h2, h3⟩ := hcell i hi
        exact ⟨csi, y, by simp [css, hi, h1], h1, h2, h3⟩
      have hcssL : css.length = len := by simp [css]
      let l : List (TypeId × List Value × DataW X) := (List.range len).map fun i => (e, (css[i]?).getD [], (elems[i]?.map (·.1)).getD .nil)
      have hl1 : ∀ i, i < len → ∃ csi y, css[i]? = some csi ∧ W.cells? base (a.add (i * P.cellsOf e)) (P.cellsOf e) = some csi ∧ elems[i]? = some y ∧ DataW.trod enc P W base (fun _ => true) held n e csi = some y ∧ l[i]? = some (e, csi, y.1) := fun i hi => by
        obtain ⟨csi, y, h1, h2, h3, h4⟩ := hcss i hi
        exact ⟨csi, y, h1, h2, h3, h4, by simp [l, hi, h1, h3]⟩
      have hlL : l.length = len := by simp [l]
      obtain ⟨g, ρ', ass, hr', hs', hg', hal, hh⟩ := opens_list l (fun q hq => by
        obtain ⟨i, hi⟩ := List.getElem?_of_mem hq
        have hi2 : i < len := by rw [← hlL]; exact (List.getElem?_eq_some_iff.1 hi).1
        obtain ⟨csi, y, h1, h2, h3, h4, h5⟩ := hl1 i hi2
        rw [hi] at h5
        cases h5
        exact ih e _ y hk.1 h4) H ρ hro hr
      have hasl : ∀ (i : Nat) (cz : List Value), ass[i]? = some cz → cz.length = P.cellsOf e := fun i cz ha => by
        have hi : i < len := by rw [← hlL, ← hal]; exact (List.getElem?_eq_some_iff.1 ha).1
        obtain ⟨csi, y, h1, h2, h3, h4, h5⟩ := hl1 i hi
        rw [(hh i _ cz h5 ha).1.1]
        exact (World.cells?_some h2).2.1
      -- the block itself
      obtain ⟨cs0, y0, g1, g2, _⟩ := hcell 0 hlen0
      obtain ⟨_, gl, gc⟩ := World.cells?_some g1
      have gc0 := gc 0 hk.2
      rw [Nat.zero_mul] at gc0
      have hadd : ∀ (k j : Nat), ((a.add k).add j) = if k + j = 0 then a else ⟨a.block, a.off + (k + j), none⟩ := fun k j => by
        unfold Addr.add
        by_cases hk0 : k = 0
        · subst hk0
          by_cases hj0 : j = 0
          · subst hj0; rfl
          · simp [hj0]
        · by_cases hj0 : j = 0
          · subst hj0; simp [hk0]
          · simp only [if_neg hk0, if_neg hj0, if_neg (show ¬ k + j = 0 by omega), Nat.add_assoc]
      have hblk : ∃ cells ty fr, W.heap[a.block]? = some (.cells cells ty fr) ∧ a.spot = none := by
        have h7 : W.cell? a = cs0[0]? := by simpa [hadd] using gc0
        have h8 : cs0[0]? = some (cs0[0]'(by omega)) := List.getElem?_eq_getElem (by omega)
        rw [h8] at h7
        unfold World.cell? at h7
        split at h7
        · rename_i c ty fr hc
          split at h7
          · cases h7
          · rename_i hsp
            exact ⟨c, ty, fr, hc, by simpa using hsp⟩
        · cases h7
      obtain ⟨cells, ty, fr, hh0, hsp⟩ := hblk
      have hcellat : ∀ (i : Nat) (v : Value), ass.flatten[i]? = some v → ∃ v', cells[a.off + i]? = some v' ∧ VR (H ++ g).length ρ' v v' := fun i v hv => by
        have hi : i < ass.flatten.length := (List.getElem?_eq_some_iff.1 hv).1
        rw [flat_len ass hasl, hal, hlL] at hi
        have hq : i / P.cellsOf e < len := (Nat.div_lt_iff_lt_mul hk.2).2 hi
        have hm2 : i % P.cellsOf e < P.cellsOf e := Nat.mod_lt _ hk.2
        have hid : i / P.cellsOf e * P.cellsOf e + i % P.cellsOf e = i := Nat.div_add_mod' i (P.cellsOf e)
        obtain ⟨csi, y, h1, h2, h3, h4, h5⟩ := hl1 _ hq
        have ha : ass[i / P.cellsOf e]? = some (ass[i / P.cellsOf e]'(by rw [hal, hlL]; exact hq)) := List.getElem?_eq_getElem _
        obtain ⟨hv1, _⟩ := hh _ _ _ h5 ha
        have hfg := flat_get hk.2 ass _ _ _ hasl ha hm2
        rw [hid, hv] at hfg
        obtain ⟨v', hv', hvr⟩ := hv1.get hfg.symm
        refine ⟨v', ?_, hvr⟩
        have h9 := (World.cells?_some h2).2.2 _ hm2
        rw [hadd, hid, hv'] at h9
        by_cases hi0 : i = 0
        · subst hi0
          simp only [if_true] at h9
          unfold World.cell? at h9
          rw [hh0, hsp] at h9
          simpa using h9
        · rw [if_neg hi0] at h9
          unfold World.cell? at h9
          simpa [hh0] using h9
      have hr2 := rel_row (a := a) (cs := ass.flatten) (ext0 := cap - len) (ro_app hro hg') hr' hh0 hcellat
      refine ⟨g ++ [.row ass.flatten 0 false], ext ρ' (H ++ g).length ⟨a.block, a.off, cap - len⟩, [.slice (some ⟨(H ++ g).length, 0, none⟩) len len], by rw [← List.append_assoc]; exact hr2, fun b hb => ?_, fun o ho => ?_, ?_, ?_⟩
      · rw [ext_lt (by rw [List.length_append]; omega)]; exact hs' b hb
      · rcases List.mem_append.1 ho with ho | ho
        · exact hg' o ho
        · rw [List.mem_singleton.1 ho]; exact ⟨_, rfl⟩
      · have := VR.sl (n := (H ++ (g ++ [AObj.row ass.flatten 0 false])).length) (ρ := ext ρ' (H ++ g).length ⟨a.block, a.off, cap - len⟩) (H ++ g).length 0 len len cap (by simp only [List.length_append, List.length_cons, List.length_nil]; omega) (Nat.le_refl _) hlc (by rw [ext_same]; show cap ≤ len + (cap - len); omega)
        rw [ext_same, Nat.add_zero] at this
        have ha2 : (⟨a.block, a.off, none⟩ : Addr) = a := by rw [← hsp]
        rw [ha2] at this
        exact VL.cons this VL.nil
      · have := Rep.slice (P := P) (H := H ++ (g ++ [AObj.row ass.flatten 0 false])) (t := t) (e := e) (b := (H ++ g).length) (ds := elems.map (·.1)) (sp := rest.map (·.1)) (ass := ass) hu (by simpa using h0) (by rw [← List.append_assoc]; exact hget_last _ _) (by rw [hal, hlL, List.length_map, hel])
          (fun i d cz hd ha => by
            have hi : i < len := by rw [← hlL, ← hal]; exact (List.getElem?_eq_some_iff.1 ha).1
            obtain ⟨csi, y, h1, h2, h3, h4, h5⟩ := hl1 i hi
            rw [List.getElem?_map, h3] at hd
            cases hd
            have := (hh i _ cz h5 ha).2
            rw [← List.append_assoc]
            exact this.mono) hasl
        rw [List.length_map, hel] at this
        exact this
    · cases hk

/-! ### The call's end -/

def slicesPos (P : Program) : Bool := (List.range P.types.size).all fun t => match P.underlying t with
  | some (.slice e) => decide (0 < P.cellsOf e)
  | _ => true

theorem args_stay {W' : World} (hl : laidOutB P = true) (hm : mapsRowed P = true) (hp : slicesPos P = true) (bel : Below W.heap.size W W') :
    ∀ {ts : List TypeId} {vs : List Value} {ds : List (DataW X)} {ps : List MemPlace}, (∀ t ∈ ts, t < P.types.size) → DataW.TrodAll enc P W 0 (fun _ => true) true ts vs ds ps →
      DataW.TrodAll enc P W' 0 (fun b => decide (b < W.heap.size)) true ts vs ds ps
  | [], vs, ds, ps, _, h => by
    obtain ⟨rfl, rfl, rfl⟩ := trodAll_nil h
    rfl
  | t :: ts, vs, ds, ps, ht, h => by
    obtain ⟨v, vs1, d, ds1, p, q, rfl, rfl, rfl, ⟨fuel, h1⟩, h2⟩ := trodAll_cons h
    have hlt := DataW.trod_lt fuel t v.cells.toList _ h1
    refine ⟨p, q, ⟨fuel, DataW.trod_stays (kids_rows hl hm) (fun {t e} htt hu => ?_) (fun h => by cases h) (ht t (by simp)) h1 (fun x hx => bel.same (hlt x hx)) (fun x hx => by simpa using hlt x hx)⟩, args_stay hl hm hp bel (fun u hu => ht u (by simp [hu])) h2, rfl⟩
    have := List.all_eq_true.1 hp t (List.mem_range.2 htt)
    simpa [hu] using this

/-! ### The call's arguments -/

/-- An argument tells some data. -/
def ArgRep (P : Program) (H : Heap) (t : TypeId) (d : DataW X) (a : Value) : Prop := ∃ cz, Rep P H t d cz ∧ (((∃ fs, P.underlying t = some (.struct fs)) ∧ a = .agg cz.toArray) ∨ cz = [a])

theorem ArgRep.mono {H g : Heap} {t : TypeId} {d : DataW X} {a : Value} (h : ArgRep P H t d a) : ArgRep P (H ++ g) t d a := by
  obtain ⟨cz, h1, h2⟩ := h
  exact ⟨cz, h1.mono, h2⟩

theorem vr_single {n : Nat} {ρ : Nat → Place} {a : Value} {v : Value} (h : VL n ρ [a] v.cells.toList) (hv : ∀ cs, v ≠ .agg cs) : VR n ρ a v := by
  have : v.cells.toList = [v] := by
    cases v <;> first | rfl | exact absurd rfl (hv _)
  rw [this] at h
  exact h.head

theorem open_args (hl : laidOutB P = true) (hm : mapsRowed P = true) (hP : plainSet P L = true) {r : Reach} {b0 : Nat} : ∀ {ts : List TypeId} {vs : List Value} {ds : List (DataW X)} {ps : List MemPlace},
    (∀ t ∈ ts, L.contains t = true) → DataW.TrodAll enc P W base (fun _ => true) held ts vs ds ps → (∀ (j : Nat) t v, ts[j]? = some t → vs[j]? = some v → Value.okWide P W r b0 t v) →
    ∀ (H : Heap) (ρ : Nat → Place), (∀ o ∈ H, o.wrt = false) → Rel G ρ H W → ∃ (g : Heap) (ρ' : Nat → Place) (avs : List Value), Rel G ρ' (H ++ g) W ∧ (∀ b, b < H.length → ρ' b = ρ b) ∧ (∀ o ∈ g, ∃ c, o = .row c 0 false) ∧
      VL (H ++ g).length ρ' avs vs ∧ avs.length = ts.length ∧ ∀ (j : Nat) t d a, ts[j]? = some t → ds[j]? = some d → avs[j]? = some a → ArgRep P (H ++ g) t d a
  | [], vs, ds, ps, _, h, _, H, ρ, hro, hr => by
    obtain ⟨rfl, rfl, rfl⟩ := trodAll_nil h
    exact ⟨[], ρ, [], by simpa using hr, fun _ _ => rfl, fun o ho => (by cases ho), VL.nil, rfl, fun j t d a h => by simp at h⟩
  | t :: ts, vs, ds, ps, hts, h, hok, H, ρ, hro, hr => by
    obtain ⟨v, vs1, d, ds1, p, q, rfl, rfl, rfl, ⟨fuel, h1⟩, h2⟩ := trodAll_cons h
    have htc := hts t (by simp)
    obtain ⟨g, ρ1, cz, hr1, hs1, hg1, hv1, hp1⟩ := opens_trod (G := G) hl hm hP fuel t _ _ htc h1 H ρ hro hr
    obtain ⟨g2, ρ2, avs, hr2, hs2, hg2, hv2, hl2, hh⟩ := open_args hl hm hP (fun u hu => hts u (by simp [hu])) h2 (fun j t v hj hv => hok (j + 1) t v (by simpa using hj) (by simpa using hv)) (H ++ g) ρ1 (ro_app hro hg1) hr1
    rw [List.append_assoc] at hr2 hh hv2
    have hval := hok 0 t v rfl rfl
    have hk := mem_plain hP htc
    simp only [Bool.and_eq_true, decide_eq_true_eq] at hk
    obtain ⟨_, hk⟩ := hk
    have single : (∀ cs, v ≠ .agg cs) → (∃ a, cz = [a]) → ∃ a, VR (H ++ g).length ρ1 a v ∧ ArgRep P (H ++ g) t d a := fun hna ⟨a, ha⟩ => by
      subst ha
      exact ⟨a, vr_single hv1 hna, [a], hp1, .inr rfl⟩
    have one : (∀ cs, v ≠ .agg cs) → ∃ a, cz = [a] := fun hna => by
      have : v.cells.toList = [v] := by
        cases v <;> first | rfl | exact absurd rfl (hna _)
      have h3 := hv1.1
      rw [this] at h3
      match cz, h3 with
      | [a], _ => exact ⟨a, rfl⟩
    have hex : ∃ a, VR (H ++ g).length ρ1 a v ∧ ArgRep P (H ++ g) t d a := by
      split at hk
      · rename_i hu
        obtain ⟨b, rfl⟩ := okWide_bool hu hval
        exact single (fun _ h => by cases h) (one fun _ h => by cases h)
      · rename_i k hu
        obtain ⟨b, rfl⟩ := okWide_int hu hval
        exact single (fun _ h => by cases h) (one fun _ h => by cases h)
      · rename_i hu
        obtain ⟨b, rfl⟩ := okWide_string hu hval
        exact single (fun _ h => by cases h) (one fun _ h => by cases h)
      · rename_i fs hu
        obtain ⟨cs, rfl, _⟩ := okWide_struct hu hval
        refine ⟨.agg cz.toArray, ?_, cz, hp1, .inl ⟨⟨fs, hu⟩, rfl⟩⟩
        have := hv1.agg
        simpa [Value.cells] using this
      · rename_i e hu
        obtain ⟨a, l, c, rfl⟩ := okWide_slice hu hval
        exact single (fun _ h => by cases h) (one fun _ h => by cases h)
      · cases hk
    obtain ⟨a, ha1, ha2⟩ := hex
    refine ⟨g ++ g2, ρ2, a :: avs, hr2, fun b hb => (hs2 b (by simp; omega)).trans (hs1 b hb), fun o ho => ?_, VL.cons (ha1.mono (by simp) hs2) hv2, by simp [hl2], fun j t' d' a' hj hd ha => ?_⟩
    · rcases List.mem_append.1 ho with ho | ho
      · exact hg1 o ho
      · exact hg2 o ho
    · cases j with
      | zero =>
        simp at hj hd ha
        subst hj; subst hd; subst ha
        rw [← List.append_assoc]
        exact ha2.mono
      | succ j => exact hh j t' d' a' (by simpa using hj) (by simpa using hd) (by simpa using ha)

/-! ### What an argument is -/

theorem Rep.inv_int {H : Heap} {t : TypeId} {k : IntKind} {d : DataW X} {cz : List Value} (hu : P.underlying t = some (.int k)) (h : Rep P H t d cz) : ∃ n, d = .lit (.int k n) ∧ cz = [.int k n] ∧ (Lit.int k n).wf = true := by
  cases h with
  | int k' n hu' hw => rw [hu] at hu'; cases hu'; exact ⟨n, rfl, rfl, hw⟩
  | bool b hu' => rw [hu] at hu'; cases hu'
  | str l hu' hl => rw [hu] at hu'; cases hu'
  | struct hu' => rw [hu] at hu'; cases hu'
  | nilS hu' => rw [hu] at hu'; cases hu'
  | empty hu' => rw [hu] at hu'; cases hu'
  | slice hu' => rw [hu] at hu'; cases hu'

theorem Rep.inv_bool {H : Heap} {t : TypeId} {d : DataW X} {cz : List Value} (hu : P.underlying t = some .bool) (h : Rep P H t d cz) : ∃ b, d = .lit (.bool b) ∧ cz = [.bool b] := by
  cases h with
  | int k' n hu' hw => rw [hu] at hu'; cases hu'
  | bool b hu' => exact ⟨b, rfl, rfl⟩
  | str l hu' hl => rw [hu] at hu'; cases hu'
  | struct hu' => rw [hu] at hu'; cases hu'
  | nilS hu' => rw [hu] at hu'; cases hu'
  | empty hu' => rw [hu] at hu'; cases hu'
  | slice hu' => rw [hu] at hu'; cases hu'

theorem Rep.inv_str {H : Heap} {t : TypeId} {d : DataW X} {cz : List Value} (hu : P.underlying t = some .string) (h : Rep P H t d cz) : ∃ l, d = .lit (.string l) ∧ cz = [.string (bs l)] ∧ l.length ≤ maxLen := by
  cases h with
  | int k' n hu' hw => rw [hu] at hu'; cases hu'
  | bool b hu' => rw [hu] at hu'; cases hu'
  | str l hu' hl => exact ⟨l, rfl, rfl, hl⟩
  | struct hu' => rw [hu] at hu'; cases hu'
  | nilS hu' => rw [hu] at hu'; cases hu'
  | empty hu' => rw [hu] at hu'; cases hu'
  | slice hu' => rw [hu] at hu'; cases hu'

theorem Rep.inv_struct {H : Heap} {t : TypeId} {fs : Array Field} {d : DataW X} {cz : List Value} (hu : P.underlying t = some (.struct fs)) (h : Rep P H t d cz) : ∃ (ds : List (DataW X)) (ass : List (List Value)), d = .agg ds ∧ cz = ass.flatten ∧ ds.length = fs.size ∧ ass.length = fs.size ∧
    ∀ (i : Nat) (f : Field) (d : DataW X) (cz : List Value), fs[i]? = some f → ds[i]? = some d → ass[i]? = some cz → Rep P H f.type d cz := by
  cases h with
  | int k' n hu' hw => rw [hu] at hu'; cases hu'
  | bool b hu' => rw [hu] at hu'; cases hu'
  | str l hu' hl => rw [hu] at hu'; cases hu'
  | struct hu' h1 h2 h3 h4 => rw [hu] at hu'; cases hu'; exact ⟨_, _, rfl, rfl, h1, h2, h3⟩
  | nilS hu' => rw [hu] at hu'; cases hu'
  | empty hu' => rw [hu] at hu'; cases hu'
  | slice hu' => rw [hu] at hu'; cases hu'

theorem Rep.inv_slice {H : Heap} {t e : TypeId} {d : DataW X} {cz : List Value} (hu : P.underlying t = some (.slice e)) (h : Rep P H t d cz) : (d = .nil ∧ cz = [.slice none 0 0]) ∨ (∃ sp, d = .slice [] sp ∧ cz = [.slice (some ⟨0, 0, some 0⟩) 0 0]) ∨
    ∃ (b : Nat) (ds sp : List (DataW X)) (ass : List (List Value)), d = .slice ds sp ∧ ds ≠ [] ∧ cz = [.slice (some ⟨b, 0, none⟩) ds.length ds.length] ∧ hget H b = .row ass.flatten 0 false ∧ ass.length = ds.length ∧
      (∀ (i : Nat) (d : DataW X) (cz : List Value), ds[i]? = some d → ass[i]? = some cz → Rep P H e d cz) ∧ (∀ (i : Nat) (cz : List Value), ass[i]? = some cz → cz.length = P.cellsOf e) := by
  cases h with
  | int k' n hu' hw => rw [hu] at hu'; cases hu'
  | bool b hu' => rw [hu] at hu'; cases hu'
  | str l hu' hl => rw [hu] at hu'; cases hu'
  | struct hu' => rw [hu] at hu'; cases hu'
  | nilS hu' => exact .inl ⟨rfl, rfl⟩
  | empty hu' => exact .inr (.inl ⟨_, rfl, rfl⟩)
  | slice hu' hne hb h2 h3 h4 => rw [hu] at hu'; cases hu'; exact .inr (.inr ⟨_, _, _, _, rfl, hne, rfl, hb, h2, h3, h4⟩)

/-- A struct of two fields. -/
theorem Rep.inv_two {H : Heap} {t : TypeId} {f0 f1 : Field} {d : DataW X} {cz : List Value} (hu : P.underlying t = some (.struct #[f0, f1])) (h : Rep P H t d cz) : ∃ d0 d1 a0 a1, d = .agg [d0, d1] ∧ cz = a0 ++ a1 ∧ Rep P H f0.type d0 a0 ∧ Rep P H f1.type d1 a1 := by
  obtain ⟨ds, ass, rfl, rfl, h1, h2, h3⟩ := h.inv_struct hu
  match ds, ass, h1, h2, h3 with
  | [d0, d1], [a0, a1], _, _, h3 => exact ⟨d0, d1, a0, a1, rfl, by simp, h3 0 f0 d0 a0 rfl rfl rfl, h3 1 f1 d1 a1 rfl rfl rfl⟩

/-- An unsigned number of 64 bits. -/
theorem Rep.inv_u64 {H : Heap} {t : TypeId} {d : DataW X} {cz : List Value} (hu : P.underlying t = some (.int .u64)) (h : Rep P H t d cz) : ∃ n : Nat, d = .lit (.int .u64 n) ∧ cz = [.int .u64 (n : Int)] ∧ n < 18446744073709551616 := by
  obtain ⟨n, rfl, rfl, hw⟩ := h.inv_int hu
  have hw : (0 : Int) ≤ n ∧ n ≤ 18446744073709551615 := by
    simpa [Lit.wf, IntKind.min, IntKind.max, IntKind.signed, IntKind.bits] using hw
  refine ⟨n.toNat, ?_, ?_, by omega⟩ <;> rw [Int.toNat_of_nonneg hw.1]

/-- A number of 64 bits. -/
theorem Rep.inv_i64 {H : Heap} {t : TypeId} {d : DataW X} {cz : List Value} (hu : P.underlying t = some (.int .i64)) (h : Rep P H t d cz) : ∃ n : Int, d = .lit (.int .i64 n) ∧ cz = [.int .i64 n] ∧ -9223372036854775808 ≤ n ∧ n < 9223372036854775808 := by
  obtain ⟨n, rfl, rfl, hw⟩ := h.inv_int hu
  have hw : (-9223372036854775808 : Int) ≤ n ∧ n ≤ 9223372036854775807 := by
    simpa [Lit.wf, IntKind.min, IntKind.max, IntKind.signed, IntKind.bits] using hw
  exact ⟨n, rfl, rfl, hw.1, by omega⟩

end

end Go.Proofs.YtkhkmgcegicmoaaDoor.Ev

/- ValueTexts: a value's text in a form, and a text read, are as the document has them: whatever the inputs, the law answers true. Conditions: the listed variables read as the program's text lays them. -/
namespace Go.Proofs.YtkhkmgcegicmoaaDoor.Ev
open Go.ChangeShapes Go.WideShapes Go.ChangeAt Go.RowKit

theorem own : ownKnob Tryd.prog.godebug = none := by kernel_rfl

theorem VL.narrow {n m : Nat} {ρ ρ' : Nat → Place} {xs ys : List Value} (h : VL m ρ' xs ys) (hs : ∀ x ∈ xs, Scoped n x) (he : ∀ b, b < n → ρ' b = ρ b) : VL n ρ xs ys :=
  ⟨h.1, fun i x y hx hy => ((h.2 i x y hx hy).narrow (hs x (List.mem_of_getElem? hx))).mono (Nat.le_refl _) fun b hb => (he b hb).symm⟩

theorem bits_arg {P : Program} {H : Heap} {X : Type} {t : TypeId} {f0 f1 : Field} {d : DataW X} {a : Value} (hu : P.underlying t = some (.struct #[f0, f1])) (h0 : P.underlying f0.type = some (.int .u64)) (h1 : P.underlying f1.type = some (.int .u64))
    (h : ArgRep P H t d a) : ∃ v, v < W64 * W64 ∧ a = .agg #[.int .u64 ((v / W64 : Nat) : Int), .int .u64 ((v % W64 : Nat) : Int)] := by
  obtain ⟨cs, hr, hcase⟩ := h
  obtain ⟨d0, d1, a0, a1, rfl, rfl, r0, r1⟩ := hr.inv_two hu
  obtain ⟨x, rfl, rfl, hx⟩ := r0.inv_u64 h0
  obtain ⟨y, rfl, rfl, hy⟩ := r1.inv_u64 h1
  rcases hcase with ⟨_, rfl⟩ | h
  · have e1 : (x * W64 + y) / W64 = x := by show (x * 18446744073709551616 + y) / 18446744073709551616 = x; omega
    have e2 : (x * W64 + y) % W64 = y := by show (x * 18446744073709551616 + y) % 18446744073709551616 = y; omega
    refine ⟨x * W64 + y, ?_, ?_⟩
    · show x * 18446744073709551616 + y < 18446744073709551616 * 18446744073709551616; omega
    · rw [e1, e2]; rfl
  · simp at h

theorem int_arg {P : Program} {H : Heap} {X : Type} {t : TypeId} {d : DataW X} {a : Value} (hu : P.underlying t = some (.int .i64)) (h : ArgRep P H t d a) : ∃ n : Int, d = .lit (.int .i64 n) ∧ a = .int .i64 n := by
  obtain ⟨cs, hr, hcase⟩ := h
  obtain ⟨n, rfl, rfl, _⟩ := hr.inv_i64 hu
  rcases hcase with ⟨⟨fs, hf⟩, _⟩ | h
  · rw [hu] at hf; cases hf
  · simp at h; exact ⟨n, rfl, h.symm⟩

theorem str_arg {P : Program} {H : Heap} {X : Type} {t : TypeId} {d : DataW X} {a : Value} (hu : P.underlying t = some .string) (h : ArgRep P H t d a) : ∃ l, d = .lit (.string l) ∧ a = .string (bs l) := by
  obtain ⟨cs, hr, hcase⟩ := h
  obtain ⟨l, rfl, rfl, _⟩ := hr.inv_str hu
  rcases hcase with ⟨⟨fs, hf⟩, _⟩ | h
  · rw [hu] at hf; cases hf
  · simp at h; exact ⟨l, rfl, h.symm⟩

set_option maxRecDepth 100000 in
theorem valueTexts_lifted (os : Os) (started : os.Started) (H : Type) (enc : TypeId × Value → H) :
    ReturnsInHanded {} Tryd.checked os 4 .any (fun w args => (Rows.valueTextsSpec.pre enc Tryd.prog Tryd.f4 [] false w args ∧ laidMetH Tryd.prog laidL w) ∧ sizedMet enc Tryd.prog Tryd.f4 (OpenSpec.ofChange Rows.valueTextsSpec) false w args)
      (Rows.valueTextsSpec.post enc Tryd.prog Tryd.f4 false true false false) := by
  refine returnsInHanded_of_change_and (C := Tryd.checked) (X := fun w _ => laidMetH Tryd.prog laidL w) (fun _ _ _ hh h => h.of_heap hh) own started (by kernel_rfl) Tryd.func4
    (ChangeSpec.witness_at (enc := enc) (C := Tryd.checked) (os := os) (X := fun w _ => laidMetH Tryd.prog laidL w) false (laidWorld os) #[.agg #[.int .u64 0, .int .u64 0], .int .i64 0, .int .i64 0, .string ByteArray.empty] 8 rfl (by kernel_rfl) (by kernel_rfl) (by kernel_rfl) (by kernel_rfl) (by kernel_rfl) (laidWorld_met os _)) ?_
  intro W base args ds gs before hval0 hW _ hsz hL _
  have hval : ∀ (j : Nat) t v, Tryd.f4.params[j]? = some t → args[j]? = some v → Value.okWide Tryd.prog W .any base t v := hval0
  have hW' := hW
  obtain ⟨p, q, hA0, hV, rfl, hfz, hnd⟩ := hW
  have hA : DataW.TrodAll enc Tryd.prog W 0 (fun _ => true) true Tryd.f4.params.toList args.toList ds p := hA0
  rw [Tryd.params4] at hA hval
  obtain ⟨rfl, rfl⟩ := trodVars_none hV
  obtain ⟨g, ρ', avs, hr, hs, hg, hvl, hlen, hrep⟩ := open_args (G := 6) (L := [24, 22, 3, 9]) (by kernel_rfl) (by kernel_rfl) (by kernel_rfl) (by decide) hA (fun j t v h1 h2 => hval j t v (by simpa using h1) (by simpa using h2)) H0 ρ0 H0_ro (rel_of_laid hL)
  have hA1 := hA
  obtain ⟨v0, vs0, d0, ds0, p0, q0, hargs, rfl, rfl, h0, r0⟩ := trodAll_cons hA1
  obtain ⟨v1, vs1, d1, ds1, p1, q1, rfl, rfl, rfl, h1, r1⟩ := trodAll_cons r0
  obtain ⟨v2, vs2, d2, ds2, p2, q2, rfl, rfl, rfl, h2, r2⟩ := trodAll_cons r1
  obtain ⟨v3, vs3, d3, ds3, p3, q3, rfl, rfl, rfl, h3, r3⟩ := trodAll_cons r2
  obtain ⟨rfl, rfl, rfl⟩ := trodAll_nil r3
  obtain rfl : args = #[v0, v1, v2, v3] := by cases args; simp_all
  match avs, hlen with
  | [a0, a1, a2, a3], _ =>
  obtain ⟨x0, y0, rfl⟩ := bits_arg Tryd.underlying24 Tryd.underlying22 Tryd.underlying22 (hrep 0 24 d0 a0 rfl rfl rfl)
  obtain ⟨x1, rfl, rfl⟩ := int_arg Tryd.underlying3 (hrep 1 3 d1 a1 rfl rfl rfl)
  obtain ⟨x2, rfl, rfl⟩ := int_arg Tryd.underlying3 (hrep 2 3 d2 a2 rfl rfl rfl)
  obtain ⟨x3, rfl, rfl⟩ := str_arg Tryd.underlying9 (hrep 3 9 d3 a3 rfl rfl rfl)
  have y3 : x3.length ≤ 140737488351232 := by
    have hsz' := hsz
    have z := sized_string hsz' (j := 3) (t := 9) rfl rfl
    have z2 : x3.length ≤ reachBytes := by simpa using z
    exact z2
  have hG : T.G = 6 := by unfold T; kernel_rfl
  refine (wd_true t4 (H := H0) (texts_w y0 y3) (by rw [hG]; exact rel_of_laid hL) (args' := #[v0, v1, v2, v3]) (VL.narrow hvl (fun x hx => ?_) hs) H0_ro).mono fun e W' ⟨he, bel⟩ => ?_
  · simp only [List.mem_cons, List.not_mem_nil, or_false] at hx
    rcases hx with rfl | rfl | rfl | rfl <;> exact .closed rfl
  subst he
  exact ⟨_, rfl, _, _, _, [], _, [], hW', trodAll_mk1 (shut_bool Tryd.underlying4 _), args_stay (by kernel_rfl) (by kernel_rfl) (by kernel_rfl) bel (by decide) hA, rfl, bel.frame _, fun h => by cases h⟩

theorem valueTexts_holds : Rows.ValueTextsSaid :=
  OpenClaim.holds_of_wide 4 Tryd.f4 rfl rfl rfl rfl rfl rfl rfl ⟨rfl, rfl, rfl, rfl, rfl⟩ rfl rfl rfl rfl rfl (by kernel_rfl) Tryd.func4 (by kernel_rfl)
    (of_decide_eq_true (by kernel_rfl)) (by unfold Func.isWrapper; first | (rw [if_pos (by decide +kernel)]; kernel_rfl) | (rw [if_neg (by decide +kernel)]; exact ⟨rfl, rfl⟩))
    (fun os started H enc _ => valueTexts_lifted os started H enc)

theorem valueTexts_card : Rows.ValueTextsCardSaid :=
  Claim7.holds_tied_plain_at .later [] [.data, .data, .pinned] true (true, "764e126c04e3df85a29b907664f7bdd7858c56c45a012816159f0e78ad711cc5") false
    valueTexts_holds (fun _ h => by cases h) (by kernel_rfl) (fun _ h => by cases h) valueTexts_row_tie rfl ⟨rfl, rfl⟩ (by kernel_rfl) rfl
    (fun f fn hf hfn => by
      obtain rfl : f = 4 := Option.some.inj ((show Tryd.prog.funcNamed "turnout/turnoutlaw01.ValueTexts" = some 4 by kernel_rfl).symm.trans hf) |>.symm
      obtain rfl : fn = Tryd.f4 := (Option.some.inj (Tryd.func4.symm.trans hfn)).symm
      exact ⟨by kernel_rfl, fun j t ht => by
        rw [Tryd.params4] at ht
        have h3 : t = 24 ∨ t = 3 ∨ t = 9 := by
          rcases j with _ | _ | _ | _ | j
          · have : t = 24 := by simpa using ht.symm
            subst this; simp
          · have : t = 3 := by simpa using ht.symm
            subst this; simp
          · have : t = 3 := by simpa using ht.symm
            subst this; simp
          · have : t = 9 := by simpa using ht.symm
            subst this; simp
          · simp at ht
        rcases h3 with rfl | rfl | rfl
        · exact (show Tryd.prog.wantsStandIn 24 = false by kernel_rfl)
        · exact (show Tryd.prog.wantsStandIn 3 = false by kernel_rfl)
        · exact (show Tryd.prog.wantsStandIn 9 = false by kernel_rfl)⟩)
    (by kernel_rfl)
#print axioms valueTexts_card
end Go.Proofs.YtkhkmgcegicmoaaDoor.Ev
