/- ValueBits: every two values, every width and every number: the program answers as the document does: whatever the inputs, the law answers true. Conditions: the listed variables read as the program's text lays them. -/
import Derived.Test.YtkhkmgcegicmoaaDoorBit2
import Derived.Test.YtkhkmgcegicmoaaDoorRows
import Derived.ChangeSame
import Derived.ChangeVars
import Derived.JoinedOf
import Derived.RowKit
import Derived.RowKitTokens
import Derived.LaidLaws
import Derived.LaidHandle
import Derived.MakeChecks
import Derived.Stop.Joined
import Derived.ChangeArms
import Derived.ChangeStays
import Derived.ChangeOld
import Derived.ChangeShapes
import Derived.WideShapes
import Derived.DataReads
import Derived.Test.YtkhkmgcegicmoaaDoorTie
import Derived.Test.YtkhkmgcegicmoaaDoorCards
import Derived.ProofKit
import Derived.OpenShut
import Derived.SizedLaws
import Derived.SevenTiedAt
/- Values of 128 bits: the program's functions over them. -/
namespace Go.Proofs.YtkhkmgcegicmoaaDoor.Ev
set_option maxRecDepth 100000
set_option linter.unusedSimpArgs false
set_option linter.unusedVariables false
variable {R : FRes → Heap → Prop} {H : Heap}

abbrev bvA (v : Nat) : Value := .agg #[.int .u64 ((v / W64 : Nat) : Int), .int .u64 ((v % W64 : Nat) : Int)]
theorem scoped_bv {n : Nat} (v : Nat) : Scoped n (bvA v) := .closed rfl

/-- Is it a width? -/
def isw (w : Int) : Bool := decide (1 ≤ w) && decide (w ≤ 128)

theorem isw_s {w : Int} (h : R (.ret (.bool (isw w))) H) : WD T 42 [.int .i64 w] H R := by
  refine WD.gc0 (WD.of follows t42 (by simp) ?_)
  unfold isw at h
  by_cases h1 : 1 ≤ w
  · by_cases h2 : w ≤ 128
    · simp (disch := omega) only [kB, kcx, kdm, kdn, kel, aop, resultsL, resultOf, Nat.reduceEqDiff, reduceCtorEq, eq1, apartOK, apart2, AObj.live, Int.reduceEq, Int.reduceLT, Int.reduceLE, Int.reduceAdd, Int.reduceSub, Int.reduceMul, Int.reduceToNat, cutCells, Nat.reduceAdd, Nat.reduceLeDiff, Nat.reduceLT, Nat.reduceMul, Nat.reduceSub, h1, h2]
      simp only [h1, h2, decide_true, Bool.and_self] at h
      exact ⟨_, rfl, ⟨[], (List.append_nil _).symm⟩, .closed rfl, h⟩
    · simp (disch := omega) only [kB, kcx, kdm, kdn, kel, aop, resultsL, resultOf, Nat.reduceEqDiff, reduceCtorEq, eq1, apartOK, apart2, AObj.live, Int.reduceEq, Int.reduceLT, Int.reduceLE, Int.reduceAdd, Int.reduceSub, Int.reduceMul, Int.reduceToNat, cutCells, Nat.reduceAdd, Nat.reduceLeDiff, Nat.reduceLT, Nat.reduceMul, Nat.reduceSub, h1, h2]
      simp only [h1, h2, decide_true, decide_false, Bool.and_false] at h
      exact ⟨_, rfl, ⟨[], (List.append_nil _).symm⟩, .closed rfl, h⟩
  · simp (disch := omega) only [kB, kcx, kdm, kdn, kel, aop, resultsL, resultOf, Nat.reduceEqDiff, reduceCtorEq, eq1, apartOK, apart2, AObj.live, Int.reduceEq, Int.reduceLT, Int.reduceLE, Int.reduceAdd, Int.reduceSub, Int.reduceMul, Int.reduceToNat, cutCells, Nat.reduceAdd, Nat.reduceLeDiff, Nat.reduceLT, Nat.reduceMul, Nat.reduceSub, h1]
    simp only [h1, decide_false, Bool.false_and] at h
    exact ⟨_, rfl, ⟨[], (List.append_nil _).symm⟩, .closed rfl, h⟩

theorem right_s {v n : Nat} (hv : v < 2 ^ 128) (hn : n ≤ 128) (h : R (.ret (bvA (v >>> n))) H) : WD T 43 [bvA v, .int .i64 n] H R := by
  refine WD.gc0 (WD.of follows t43 (by simp) ?_)
  have b1 := hi_lt hv
  have b2 := lo_lt v
  by_cases h1 : 64 ≤ n
  · have h1' : (64 : Int) ≤ (n : Int) := by omega
    have e := bin_shr64 (k' := .i64) (a := v / W64) (b := n - 64) (by omega)
    have e2 : ((n - 64 : Nat) : Int) = (n : Int) - 64 := by omega
    rw [e2] at e
    rw [bvA, shr_hi2 hv h1, shr_lo2 hv h1] at h
    simp (disch := omega) only [kB, kcx, kdm, kdn, kel, aop, resultsL, resultOf, Nat.reduceEqDiff, reduceCtorEq, eq1, apartOK, apart2, AObj.live, Int.reduceEq, Int.reduceLT, Int.reduceLE, Int.reduceAdd, Int.reduceSub, Int.reduceMul, Int.reduceToNat, cutCells, Nat.reduceAdd, Nat.reduceLeDiff, Nat.reduceLT, Nat.reduceMul, Nat.reduceSub, h1', wr_i64, e]
    exact ⟨_, rfl, ⟨_, rfl⟩, .closed rfl, h⟩
  · have h1' : ¬ (64 : Int) ≤ (n : Int) := by omega
    have e1 := bin_shr64 (k' := .i64) (a := v / W64) (b := n) (by omega)
    have e2 := bin_shr64 (k' := .i64) (a := v % W64) (b := n) (by omega)
    have e3 := bin_shl64 (k' := .i64) (a := v / W64) (b := 64 - n) (by omega)
    have e4 : ((64 - n : Nat) : Int) = 64 - (n : Int) := by omega
    rw [e4] at e3
    have e5 := bin_or64 (a := (v % W64) >>> n) (b := ((v / W64) <<< (64 - n)) % W64) (Nat.lt_of_le_of_lt (Nat.shiftRight_le _ _) b2) (lo_lt _)
    rw [bvA, shr_hi, shr_lo (by omega)] at h
    simp (disch := omega) only [kB, kcx, kdm, kdn, kel, aop, resultsL, resultOf, Nat.reduceEqDiff, reduceCtorEq, eq1, apartOK, apart2, AObj.live, Int.reduceEq, Int.reduceLT, Int.reduceLE, Int.reduceAdd, Int.reduceSub, Int.reduceMul, Int.reduceToNat, cutCells, Nat.reduceAdd, Nat.reduceLeDiff, Nat.reduceLT, Nat.reduceMul, Nat.reduceSub, h1', wr_i64, e1, e2, e3, e5]
    exact ⟨_, rfl, ⟨_, rfl⟩, .closed rfl, h⟩

theorem left_s {v n : Nat} (hv : v < 2 ^ 128) (hn : n ≤ 128) (h : R (.ret (bvA (shl v n))) H) : WD T 44 [bvA v, .int .i64 n] H R := by
  refine WD.gc0 (WD.of follows t44 (by simp) ?_)
  have b1 := hi_lt hv
  have b2 := lo_lt v
  by_cases h1 : 64 ≤ n
  · have h1' : (64 : Int) ≤ (n : Int) := by omega
    have e := bin_shl64 (k' := .i64) (a := v % W64) (b := n - 64) (by omega)
    have e2 : ((n - 64 : Nat) : Int) = (n : Int) - 64 := by omega
    rw [e2] at e
    rw [bvA, shl_hi2 h1, shl_lo2 h1] at h
    simp (disch := omega) only [kB, kcx, kdm, kdn, kel, aop, resultsL, resultOf, Nat.reduceEqDiff, reduceCtorEq, eq1, apartOK, apart2, AObj.live, Int.reduceEq, Int.reduceLT, Int.reduceLE, Int.reduceAdd, Int.reduceSub, Int.reduceMul, Int.reduceToNat, cutCells, Nat.reduceAdd, Nat.reduceLeDiff, Nat.reduceLT, Nat.reduceMul, Nat.reduceSub, h1', wr_i64, e]
    exact ⟨_, rfl, ⟨_, rfl⟩, .closed rfl, h⟩
  · have h1' : ¬ (64 : Int) ≤ (n : Int) := by omega
    have e1 := bin_shl64 (k' := .i64) (a := v / W64) (b := n) (by omega)
    have e2 := bin_shr64 (k' := .i64) (a := v % W64) (b := 64 - n) (by omega)
    have e3 := bin_shl64 (k' := .i64) (a := v % W64) (b := n) (by omega)
    have e4 : ((64 - n : Nat) : Int) = 64 - (n : Int) := by omega
    rw [e4] at e2
    have e5 := bin_or64 (a := ((v / W64) <<< n) % W64) (b := (v % W64) >>> (64 - n)) (lo_lt _) (Nat.lt_of_le_of_lt (Nat.shiftRight_le _ _) b2)
    rw [bvA, shl_hi hv (by omega), shl_lo (by omega)] at h
    simp (disch := omega) only [kB, kcx, kdm, kdn, kel, aop, resultsL, resultOf, Nat.reduceEqDiff, reduceCtorEq, eq1, apartOK, apart2, AObj.live, Int.reduceEq, Int.reduceLT, Int.reduceLE, Int.reduceAdd, Int.reduceSub, Int.reduceMul, Int.reduceToNat, cutCells, Nat.reduceAdd, Nat.reduceLeDiff, Nat.reduceLT, Nat.reduceMul, Nat.reduceSub, h1', wr_i64, e1, e2, e3, e5]
    exact ⟨_, rfl, ⟨_, rfl⟩, .closed rfl, h⟩

def onesN (n : Nat) : Nat := 2 ^ n - 1
theorem ones_shr {n : Nat} (hn : n ≤ 128) : (2 ^ 128 - 1) >>> (128 - n) = onesN n := by
  rw [Nat.shiftRight_eq_div_pow, onesN]
  have h1 : 2 ^ 128 = 2 ^ n * 2 ^ (128 - n) := by rw [← Nat.pow_add]; congr 1; omega
  have h2 : 0 < 2 ^ (128 - n) := Nat.pow_pos (by decide)
  have h3 : 0 < 2 ^ n := Nat.pow_pos (by decide)
  rw [h1]
  refine Nat.div_eq_of_lt_le ?_ ?_
  · rw [Nat.sub_mul, Nat.one_mul]; omega
  · rw [Nat.add_mul, Nat.sub_mul, Nat.one_mul]
    have : 2 ^ (128 - n) ≤ 2 ^ n * 2 ^ (128 - n) := Nat.le_mul_of_pos_left _ h3
    omega
theorem onesN_lt {n : Nat} (hn : n ≤ 128) : onesN n < 2 ^ 128 := by
  have := Nat.pow_le_pow_right (n := 2) (by omega) hn
  have h3 : 0 < 2 ^ n := Nat.pow_pos (by decide)
  unfold onesN
  omega

theorem ones_s {n : Nat} (hn : n ≤ 128) (h : R (.ret (bvA (onesN n))) H) : WD T 59 [.int .i64 n] H R := by
  refine WD.gc0 (WD.of follows t59 (by simp) ?_)
  have e1 : (128 : Int) - (n : Int) = ((128 - n : Nat) : Int) := by omega
  simp (disch := omega) only [kB, kcx, kdm, kdn, kel, aop, resultsL, resultOf, Nat.reduceEqDiff, reduceCtorEq, eq1, apartOK, apart2, AObj.live, Int.reduceEq, Int.reduceLT, Int.reduceLE, Int.reduceAdd, Int.reduceSub, Int.reduceMul, Int.reduceToNat, cutCells, Nat.reduceAdd, Nat.reduceLeDiff, Nat.reduceLT, Nat.reduceMul, Nat.reduceSub, wr_i64, e1]
  refine right_s (v := 2 ^ 128 - 1) (n := 128 - n) (by decide) (by omega) ?_
  rw [ones_shr hn]
  simp (disch := omega) only [kB, kcx, kdm, kdn, kel, aop, resultsL, resultOf, Nat.reduceEqDiff, reduceCtorEq, eq1, apartOK, apart2, AObj.live, Int.reduceEq, Int.reduceLT, Int.reduceLE, Int.reduceAdd, Int.reduceSub, Int.reduceMul, Int.reduceToNat, cutCells, Nat.reduceAdd, Nat.reduceLeDiff, Nat.reduceLT, Nat.reduceMul, Nat.reduceSub]
  exact ⟨_, rfl, ⟨_, rfl⟩, .closed rfl, h⟩

/-- The n highest bits of a width. -/
def maskN (w n : Nat) : Nat := shl (onesN n) (w - n)

theorem mask_s {w n : Nat} (hw : 1 ≤ w) (hw2 : w ≤ 128) (hn : n ≤ w) (h : R (.ret (.tuple #[bvA (maskN w n), .int .i64 0])) H) : WD T 24 [.int .i64 w, .int .i64 n] H R := by
  refine WD.gc0 (WD.of follows t24 (by simp) ?_)
  simp (disch := omega) only [kB, kcx, kdm, kdn, kel, aop, resultsL, resultOf, Nat.reduceEqDiff, reduceCtorEq, eq1, apartOK, apart2, AObj.live, Int.reduceEq, Int.reduceLT, Int.reduceLE, Int.reduceAdd, Int.reduceSub, Int.reduceMul, Int.reduceToNat, cutCells, Nat.reduceAdd, Nat.reduceLeDiff, Nat.reduceLT, Nat.reduceMul, Nat.reduceSub]
  refine isw_s ?_
  have e0 : isw (w : Int) = true := by simp [isw]; omega
  have e1 : ¬ (n : Int) < 0 := by omega
  have e2 : ¬ (w : Int) < (n : Int) := by omega
  have e3 : (w : Int) - (n : Int) = ((w - n : Nat) : Int) := by omega
  simp (disch := omega) only [kB, kcx, kdm, kdn, kel, aop, resultsL, resultOf, Nat.reduceEqDiff, reduceCtorEq, eq1, apartOK, apart2, AObj.live, Int.reduceEq, Int.reduceLT, Int.reduceLE, Int.reduceAdd, Int.reduceSub, Int.reduceMul, Int.reduceToNat, cutCells, Nat.reduceAdd, Nat.reduceLeDiff, Nat.reduceLT, Nat.reduceMul, Nat.reduceSub, e0, e1, e2]
  refine ones_s (by omega) ?_
  simp (disch := omega) only [kB, kcx, kdm, kdn, kel, aop, resultsL, resultOf, Nat.reduceEqDiff, reduceCtorEq, eq1, apartOK, apart2, AObj.live, Int.reduceEq, Int.reduceLT, Int.reduceLE, Int.reduceAdd, Int.reduceSub, Int.reduceMul, Int.reduceToNat, cutCells, Nat.reduceAdd, Nat.reduceLeDiff, Nat.reduceLT, Nat.reduceMul, Nat.reduceSub, wr_i64, e3]
  refine left_s (onesN_lt (by omega)) (by omega) ?_
  simp (disch := omega) only [kB, kcx, kdm, kdn, kel, aop, resultsL, resultOf, Nat.reduceEqDiff, reduceCtorEq, eq1, apartOK, apart2, AObj.live, Int.reduceEq, Int.reduceLT, Int.reduceLE, Int.reduceAdd, Int.reduceSub, Int.reduceMul, Int.reduceToNat, cutCells, Nat.reduceAdd, Nat.reduceLeDiff, Nat.reduceLT, Nat.reduceMul, Nat.reduceSub]
  exact ⟨_, rfl, ⟨_, rfl⟩, .tup2 (.closed rfl) (.closed rfl), h⟩

theorem and_s {v w : Nat} (hv : v < 2 ^ 128) (hw : w < 2 ^ 128) (h : R (.ret (bvA (v &&& w))) H) : WD T 25 [bvA v, bvA w] H R := by
  refine WD.gc0 (WD.of follows t25 (by simp) ?_)
  have e1 := bin_and64 (hi_lt hv) (hi_lt hw)
  have e2 := bin_and64 (lo_lt v) (lo_lt w)
  rw [bvA, and_hi, and_lo] at h
  simp (disch := omega) only [kB, kcx, kdm, kdn, kel, aop, resultsL, resultOf, Nat.reduceEqDiff, reduceCtorEq, eq1, apartOK, apart2, AObj.live, Int.reduceEq, Int.reduceLT, Int.reduceLE, Int.reduceAdd, Int.reduceSub, Int.reduceMul, Int.reduceToNat, cutCells, Nat.reduceAdd, Nat.reduceLeDiff, Nat.reduceLT, Nat.reduceMul, Nat.reduceSub, e1, e2]
  exact ⟨_, rfl, ⟨_, rfl⟩, .closed rfl, h⟩

theorem xor_s {v w : Nat} (hv : v < 2 ^ 128) (hw : w < 2 ^ 128) (h : R (.ret (bvA (v ^^^ w))) H) : WD T 32 [bvA v, bvA w] H R := by
  refine WD.gc0 (WD.of follows t32 (by simp) ?_)
  have e1 := bin_xor64 (hi_lt hv) (hi_lt hw)
  have e2 := bin_xor64 (lo_lt v) (lo_lt w)
  rw [bvA, xor_hi, xor_lo] at h
  simp (disch := omega) only [kB, kcx, kdm, kdn, kel, aop, resultsL, resultOf, Nat.reduceEqDiff, reduceCtorEq, eq1, apartOK, apart2, AObj.live, Int.reduceEq, Int.reduceLT, Int.reduceLE, Int.reduceAdd, Int.reduceSub, Int.reduceMul, Int.reduceToNat, cutCells, Nat.reduceAdd, Nat.reduceLeDiff, Nat.reduceLT, Nat.reduceMul, Nat.reduceSub, e1, e2]
  exact ⟨_, rfl, ⟨_, rfl⟩, .closed rfl, h⟩

/-! The number of a word's bits. -/
def bitLen : Nat → Nat → Nat
  | 0, _ => 0
  | k + 1, n => if n = 0 then 0 else bitLen k (n / 2) + 1

end Go.Proofs.YtkhkmgcegicmoaaDoor.Ev

/- Values of 128 bits: lengths, common bits, single bits. -/
namespace Go.Proofs.YtkhkmgcegicmoaaDoor.Ev
set_option maxRecDepth 100000
set_option linter.unusedSimpArgs false
set_option linter.unusedVariables false
variable {R : FRes → Heap → Prop} {H : Heap}

/-- How many bits a number has. -/
def blen (n : Nat) : Nat := if n = 0 then 0 else n.log2 + 1
theorem blen_le {n m : Nat} : blen n ≤ m ↔ n < 2 ^ m := by
  unfold blen
  by_cases h : n = 0
  · subst h
    simp
    exact Nat.pow_pos (by decide)
  · rw [if_neg h]
    exact Nat.log2_lt h
theorem blen_eq {a b : Nat} (h : ∀ m, a ≤ m ↔ b ≤ m) : a = b := Nat.le_antisymm ((h b).2 (Nat.le_refl _)) ((h a).1 (Nat.le_refl _))
theorem blen_shr (x k : Nat) : blen (x >>> k) = blen x - k := by
  refine blen_eq fun m => ?_
  rw [blen_le, Nat.shiftRight_eq_div_pow, Nat.div_lt_iff_lt_mul (Nat.pow_pos (by decide)), ← Nat.pow_add, ← blen_le]
  omega
theorem blen_ge {x k : Nat} (h : 2 ^ k ≤ x) : blen x = blen (x >>> k) + k := by
  rw [blen_shr]
  have : ¬ blen x ≤ k := fun q => absurd (blen_le.1 q) (Nat.not_lt.2 h)
  omega
theorem blen_zero : blen 0 = 0 := rfl
theorem blen_pos {x : Nat} (h : x ≠ 0) : 0 < blen x := by
  unfold blen
  rw [if_neg h]
  omega

def len8 : List UInt8 := (List.range 256).map fun n => UInt8.ofNat (blen n)
theorem len8_get {x : Nat} (h : x < 256) : len8[x]? = some (UInt8.ofNat (blen x)) := by simp [len8, h]
theorem len8_eq : len8 = [0, 1, 2, 2, 3, 3, 3, 3, 4, 4, 4, 4, 4, 4, 4, 4, 5, 5, 5, 5, 5, 5, 5, 5, 5, 5, 5, 5, 5, 5, 5, 5, 6, 6, 6, 6, 6, 6, 6, 6, 6, 6, 6, 6, 6, 6, 6, 6, 6, 6, 6, 6, 6, 6, 6, 6, 6, 6, 6, 6, 6, 6, 6, 6,
  7, 7, 7, 7, 7, 7, 7, 7, 7, 7, 7, 7, 7, 7, 7, 7, 7, 7, 7, 7, 7, 7, 7, 7, 7, 7, 7, 7, 7, 7, 7, 7, 7, 7, 7, 7, 7, 7, 7, 7, 7, 7, 7, 7, 7, 7, 7, 7, 7, 7, 7, 7, 7, 7, 7, 7, 7, 7, 7, 7, 7, 7, 7, 7,
  8, 8, 8, 8, 8, 8, 8, 8, 8, 8, 8, 8, 8, 8, 8, 8, 8, 8, 8, 8, 8, 8, 8, 8, 8, 8, 8, 8, 8, 8, 8, 8, 8, 8, 8, 8, 8, 8, 8, 8, 8, 8, 8, 8, 8, 8, 8, 8, 8, 8, 8, 8, 8, 8, 8, 8, 8, 8, 8, 8, 8, 8, 8, 8,
  8, 8, 8, 8, 8, 8, 8, 8, 8, 8, 8, 8, 8, 8, 8, 8, 8, 8, 8, 8, 8, 8, 8, 8, 8, 8, 8, 8, 8, 8, 8, 8, 8, 8, 8, 8, 8, 8, 8, 8, 8, 8, 8, 8, 8, 8, 8, 8, 8, 8, 8, 8, 8, 8, 8, 8, 8, 8, 8, 8, 8, 8, 8, 8] := by decide +kernel

abbrev QL (R : FRes → Heap → Prop) : Post := retK [.tmp 2] R

theorem len64_3 {z n : Nat} (hx : z < 256) (hn : n ≤ 56) {e : Env} (he : (∃ x : Nat → Value, e = [.int .u64 (z : Int), x 1, .int .i64 (n : Int), x 3, x 4, x 5, x 6, x 7, x 8, x 9, x 10, x 11, x 12, x 13, x 14, x 15, x 16, x 17, x 18, x 19, x 20, x 21, x 22, x 23, x 24])) (h : R (.ret (.int .i64 ((blen z + n : Nat) : Int))) H) : WC T (g78.body.at [1, 1, 1, 1]) e H (QL R) := by
  obtain ⟨y, rfl⟩ := he
  simp only [AFunc.body, g78, ACode.at]
  rw [← len8_eq]
  have h8 := len8_get hx
  have hl : len8.length = 256 := by decide +kernel
  have hb : blen z ≤ 8 := blen_le.2 hx
  have hw : IntKind.wrap .u8 (z : Int) = z := by
    simp [IntKind.wrap, IntKind.signed, IntKind.bits]
    omega
  have hu : ((UInt8.ofNat (blen z)).toNat : Int) = blen z := by
    rw [UInt8.toNat_ofNat']
    omega
  have hx' : ((z : Nat) : Int) < 256 := by omega
  have hs : (n : Int) + (blen z : Int) = ((blen z + n : Nat) : Int) := by omega
  simp (disch := omega) only [kB, kcx, kdm, kdn, kel, aop, resultsL, resultOf, Nat.reduceEqDiff, reduceCtorEq, eq1, apartOK, apart2, AObj.live, Int.reduceEq, Int.reduceLT, Int.reduceLE, Int.reduceAdd, Int.reduceSub, Int.reduceMul, Int.reduceToNat, cutCells, Nat.reduceAdd, Nat.reduceLeDiff, Nat.reduceLT, Nat.reduceMul, Nat.reduceSub, hw, hl, h8, hu, wr_i64, hs]
  exact h

theorem len64_2 {z n : Nat} (hx : z < 65536) (hn : n ≤ 48) {e : Env} (he : (∃ x : Nat → Value, e = [.int .u64 (z : Int), x 1, .int .i64 (n : Int), x 3, x 4, x 5, x 6, x 7, x 8, x 9, x 10, x 11, x 12, x 13, x 14, x 15, x 16, x 17, x 18, x 19, x 20, x 21, x 22, x 23, x 24])) (h : R (.ret (.int .i64 ((blen z + n : Nat) : Int))) H) : WC T (g78.body.at [1, 1, 1]) e H (QL R) := by
  obtain ⟨y, rfl⟩ := he
  obtain ⟨Z, hZ⟩ : ∃ Z, Z = WC T (g78.body.at [1, 1, 1, 1]) := ⟨_, rfl⟩
  have hrest : ∀ (z n : Nat) (e : Env), z < 256 → n ≤ 56 → (∃ x : Nat → Value, e = [.int .u64 (z : Int), x 1, .int .i64 (n : Int), x 3, x 4, x 5, x 6, x 7, x 8, x 9, x 10, x 11, x 12, x 13, x 14, x 15, x 16, x 17, x 18, x 19, x 20, x 21, x 22, x 23, x 24]) → R (.ret (.int .i64 ((blen z + n : Nat) : Int))) H → Z e H (QL R) := fun z n e h1 h2 he hR => by rw [hZ]; exact len64_3 h1 h2 he hR
  have hZ' := hZ.symm
  clear hZ
  simp only [AFunc.body, g78, ACode.at] at hZ' ⊢
  by_cases h1 : 256 ≤ z
  · have h1' : (256 : Int) ≤ (z : Int) := by omega
    have e1 := bin_shr64 (k' := .u64) (a := z) (b := 8) (by omega)
    have e2 : (((8 : Nat) : Int)) = 8 := rfl
    rw [e2] at e1
    have hs : (n : Int) + 8 = ((n + 8 : Nat) : Int) := by omega
    simp (disch := omega) only [kB, kcx, kdm, kdn, kel, aop, resultsL, resultOf, Nat.reduceEqDiff, reduceCtorEq, eq1, apartOK, apart2, AObj.live, Int.reduceEq, Int.reduceLT, Int.reduceLE, Int.reduceAdd, Int.reduceSub, Int.reduceMul, Int.reduceToNat, cutCells, Nat.reduceAdd, Nat.reduceLeDiff, Nat.reduceLT, Nat.reduceMul, Nat.reduceSub, hZ', h1', e1, wr_i64, hs]
    refine hrest (z >>> 8) (n + 8) _ (by rw [Nat.shiftRight_eq_div_pow]; omega) (by omega) (by exact ex_env rfl) ?_
    rw [blen_ge (k := 8) (by omega)] at h
    rwa [show blen (z >>> 8) + (n + 8) = blen (z >>> 8) + 8 + n by omega]
  · have h1' : ¬ (256 : Int) ≤ (z : Int) := by omega
    simp (disch := omega) only [kB, kcx, kdm, kdn, kel, aop, resultsL, resultOf, Nat.reduceEqDiff, reduceCtorEq, eq1, apartOK, apart2, AObj.live, Int.reduceEq, Int.reduceLT, Int.reduceLE, Int.reduceAdd, Int.reduceSub, Int.reduceMul, Int.reduceToNat, cutCells, Nat.reduceAdd, Nat.reduceLeDiff, Nat.reduceLT, Nat.reduceMul, Nat.reduceSub, hZ', h1']
    exact hrest z n _ (by omega) (by omega) (by exact ex_env rfl) h

theorem len64_1 {z n : Nat} (hx : z < 4294967296) (hn : n ≤ 32) {e : Env} (he : (∃ x : Nat → Value, e = [.int .u64 (z : Int), x 1, .int .i64 (n : Int), x 3, x 4, x 5, x 6, x 7, x 8, x 9, x 10, x 11, x 12, x 13, x 14, x 15, x 16, x 17, x 18, x 19, x 20, x 21, x 22, x 23, x 24])) (h : R (.ret (.int .i64 ((blen z + n : Nat) : Int))) H) : WC T (g78.body.at [1, 1]) e H (QL R) := by
  obtain ⟨y, rfl⟩ := he
  obtain ⟨Z, hZ⟩ : ∃ Z, Z = WC T (g78.body.at [1, 1, 1]) := ⟨_, rfl⟩
  have hrest : ∀ (z n : Nat) (e : Env), z < 65536 → n ≤ 48 → (∃ x : Nat → Value, e = [.int .u64 (z : Int), x 1, .int .i64 (n : Int), x 3, x 4, x 5, x 6, x 7, x 8, x 9, x 10, x 11, x 12, x 13, x 14, x 15, x 16, x 17, x 18, x 19, x 20, x 21, x 22, x 23, x 24]) → R (.ret (.int .i64 ((blen z + n : Nat) : Int))) H → Z e H (QL R) := fun z n e h1 h2 he hR => by rw [hZ]; exact len64_2 h1 h2 he hR
  have hZ' := hZ.symm
  clear hZ
  simp only [AFunc.body, g78, ACode.at] at hZ' ⊢
  by_cases h1 : 65536 ≤ z
  · have h1' : (65536 : Int) ≤ (z : Int) := by omega
    have e1 := bin_shr64 (k' := .u64) (a := z) (b := 16) (by omega)
    have e2 : (((16 : Nat) : Int)) = 16 := rfl
    rw [e2] at e1
    have hs : (n : Int) + 16 = ((n + 16 : Nat) : Int) := by omega
    simp (disch := omega) only [kB, kcx, kdm, kdn, kel, aop, resultsL, resultOf, Nat.reduceEqDiff, reduceCtorEq, eq1, apartOK, apart2, AObj.live, Int.reduceEq, Int.reduceLT, Int.reduceLE, Int.reduceAdd, Int.reduceSub, Int.reduceMul, Int.reduceToNat, cutCells, Nat.reduceAdd, Nat.reduceLeDiff, Nat.reduceLT, Nat.reduceMul, Nat.reduceSub, hZ', h1', e1, wr_i64, hs]
    refine hrest (z >>> 16) (n + 16) _ (by rw [Nat.shiftRight_eq_div_pow]; omega) (by omega) (by exact ex_env rfl) ?_
    rw [blen_ge (k := 16) (by omega)] at h
    rwa [show blen (z >>> 16) + (n + 16) = blen (z >>> 16) + 16 + n by omega]
  · have h1' : ¬ (65536 : Int) ≤ (z : Int) := by omega
    simp (disch := omega) only [kB, kcx, kdm, kdn, kel, aop, resultsL, resultOf, Nat.reduceEqDiff, reduceCtorEq, eq1, apartOK, apart2, AObj.live, Int.reduceEq, Int.reduceLT, Int.reduceLE, Int.reduceAdd, Int.reduceSub, Int.reduceMul, Int.reduceToNat, cutCells, Nat.reduceAdd, Nat.reduceLeDiff, Nat.reduceLT, Nat.reduceMul, Nat.reduceSub, hZ', h1']
    exact hrest z n _ (by omega) (by omega) (by exact ex_env rfl) h

theorem len64_s {z : Nat} (hx : z < 18446744073709551616) (h : R (.ret (.int .i64 (blen z : Nat))) H) : WD T 78 [.int .u64 (z : Int)] H R := by
  obtain ⟨Z, hZ⟩ : ∃ Z, Z = WC T (g78.body.at [1, 1]) := ⟨_, rfl⟩
  have hrest : ∀ (z n : Nat) (e : Env), z < 4294967296 → n ≤ 32 → (∃ x : Nat → Value, e = [.int .u64 (z : Int), x 1, .int .i64 (n : Int), x 3, x 4, x 5, x 6, x 7, x 8, x 9, x 10, x 11, x 12, x 13, x 14, x 15, x 16, x 17, x 18, x 19, x 20, x 21, x 22, x 23, x 24]) → R (.ret (.int .i64 ((blen z + n : Nat) : Int))) H → Z e H (QL R) := fun z n e h1 h2 he hR => by rw [hZ]; exact len64_1 h1 h2 he hR
  have hZ' := hZ.symm
  clear hZ
  simp only [AFunc.body, g78, ACode.at] at hZ'
  refine WD.of follows t78 (by simp) ?_
  by_cases h1 : 4294967296 ≤ z
  · have h1' : (4294967296 : Int) ≤ (z : Int) := by omega
    have e1 := bin_shr64 (k' := .u64) (a := z) (b := 32) (by omega)
    have e2 : (((32 : Nat) : Int)) = 32 := rfl
    rw [e2] at e1
    simp (disch := omega) only [kB, kcx, kdm, kdn, kel, aop, resultsL, resultOf, Nat.reduceEqDiff, reduceCtorEq, eq1, apartOK, apart2, AObj.live, Int.reduceEq, Int.reduceLT, Int.reduceLE, Int.reduceAdd, Int.reduceSub, Int.reduceMul, Int.reduceToNat, cutCells, Nat.reduceAdd, Nat.reduceLeDiff, Nat.reduceLT, Nat.reduceMul, Nat.reduceSub, hZ', h1', e1, wr_i64]
    refine hrest (z >>> 32) 32 _ (by rw [Nat.shiftRight_eq_div_pow]; omega) (by omega) (by exact ex_env rfl) ?_
    rwa [blen_ge (k := 32) (by omega)] at h
  · have h1' : ¬ (4294967296 : Int) ≤ (z : Int) := by omega
    simp (disch := omega) only [kB, kcx, kdm, kdn, kel, aop, resultsL, resultOf, Nat.reduceEqDiff, reduceCtorEq, eq1, apartOK, apart2, AObj.live, Int.reduceEq, Int.reduceLT, Int.reduceLE, Int.reduceAdd, Int.reduceSub, Int.reduceMul, Int.reduceToNat, cutCells, Nat.reduceAdd, Nat.reduceLeDiff, Nat.reduceLT, Nat.reduceMul, Nat.reduceSub, hZ', h1']
    exact hrest z 0 _ (by omega) (by omega) (by exact ex_env rfl) h

end Go.Proofs.YtkhkmgcegicmoaaDoor.Ev

/- Values of 128 bits: common bits, single bits, what fits. -/
namespace Go.Proofs.YtkhkmgcegicmoaaDoor.Ev
set_option maxRecDepth 100000
set_option linter.unusedSimpArgs false
set_option linter.unusedVariables false
variable {R : FRes → Heap → Prop} {H : Heap}

theorem lz_s {z : Nat} (hx : z < 18446744073709551616) (h : R (.ret (.int .i64 ((64 - blen z : Nat) : Int))) H) : WD T 62 [.int .u64 (z : Int)] H R := by
  refine WD.of follows t62 (by simp) ?_
  simp (disch := omega) only [kB, kcx, kdm, kdn, kel, aop, resultsL, resultOf, Nat.reduceEqDiff, reduceCtorEq, eq1, apartOK, apart2, AObj.live, Int.reduceEq, Int.reduceLT, Int.reduceLE, Int.reduceAdd, Int.reduceSub, Int.reduceMul, Int.reduceToNat, cutCells, Nat.reduceAdd, Nat.reduceLeDiff, Nat.reduceLT, Nat.reduceMul, Nat.reduceSub]
  refine len64_s hx ?_
  have hb : blen z ≤ 64 := blen_le.2 hx
  have hs : (64 : Int) - (blen z : Int) = ((64 - blen z : Nat) : Int) := by omega
  simp (disch := omega) only [kB, kcx, kdm, kdn, kel, aop, resultsL, resultOf, Nat.reduceEqDiff, reduceCtorEq, eq1, apartOK, apart2, AObj.live, Int.reduceEq, Int.reduceLT, Int.reduceLE, Int.reduceAdd, Int.reduceSub, Int.reduceMul, Int.reduceToNat, cutCells, Nat.reduceAdd, Nat.reduceLeDiff, Nat.reduceLT, Nat.reduceMul, Nat.reduceSub, wr_i64, hs]
  exact h

theorem shl_eq {z k m : Nat} (hz : z < 2 ^ m) (hm : m + k ≤ 128) : shl z k = z * 2 ^ k := by
  unfold shl
  rw [Nat.shiftLeft_eq]
  refine Nat.mod_eq_of_lt (Nat.lt_of_lt_of_le (Nat.mul_lt_mul_of_pos_right hz (Nat.pow_pos (by decide))) ?_)
  rw [← Nat.pow_add]
  exact Nat.pow_le_pow_right (by decide) hm
theorem blen_mul {z k : Nat} (hz : z ≠ 0) : blen (z * 2 ^ k) = blen z + k := by
  have h1 : (z * 2 ^ k) >>> k = z := by rw [Nat.shiftRight_eq_div_pow, Nat.mul_div_cancel _ (Nat.pow_pos (by decide))]
  have h2 : 2 ^ k ≤ z * 2 ^ k := Nat.le_mul_of_pos_left _ (by omega)
  rw [blen_ge h2, h1]

/-- How many of the highest bits of a width two numbers have in common. -/
def cmn (w a b : Nat) : Nat := w - blen (a ^^^ b)

theorem mm_two {k : IntKind} {a b : Nat} : mmL false (.int k (a : Int)) [.int k (b : Int)] = some (.int k ((min a b : Nat) : Int)) := by
  simp only [mmL, mm2, if_true, Bool.false_eq_true, if_false]
  by_cases h : (b : Int) < (a : Int)
  · rw [if_pos h, Nat.min_eq_right (by omega)]
  · rw [if_neg h, Nat.min_eq_left (by omega)]
theorem mm_three {k : IntKind} {a b c : Nat} : mmL false (.int k (a : Int)) [.int k (b : Int), .int k (c : Int)] = some (.int k ((min (min a b) c : Nat) : Int)) := by
  have h1 := mm_two (k := k) (a := a) (b := b)
  have h2 := mm_two (k := k) (a := min a b) (b := c)
  simp only [mmL] at h1 h2 ⊢
  cases hm : mm2 false (.int k (a : Int)) (.int k (b : Int)) with
  | none => rw [hm] at h1; cases h1
  | some z => rw [hm] at h1; cases h1; exact h2

theorem common_s {w a b : Nat} (hw : 1 ≤ w) (hw2 : w ≤ 128) (ha : a < 2 ^ w) (hb : b < 2 ^ w) (h : R (.ret (.int .i64 (cmn w a b : Nat))) H) : WD T 23 [bvA a, bvA b, .int .i64 w] H R := by
  refine WD.gc0 (WD.of follows t23 (by simp) ?_)
  have hp : 2 ^ w ≤ 2 ^ 128 := Nat.pow_le_pow_right (by decide) hw2
  have e0 : isw (w : Int) = true := by simp [isw]; omega
  simp (disch := omega) only [kB, kcx, kdm, kdn, kel, aop, resultsL, resultOf, Nat.reduceEqDiff, reduceCtorEq, eq1, apartOK, apart2, AObj.live, Int.reduceEq, Int.reduceLT, Int.reduceLE, Int.reduceAdd, Int.reduceSub, Int.reduceMul, Int.reduceToNat, cutCells, Nat.reduceAdd, Nat.reduceLeDiff, Nat.reduceLT, Nat.reduceMul, Nat.reduceSub]
  refine isw_s ?_
  simp (disch := omega) only [kB, kcx, kdm, kdn, kel, aop, resultsL, resultOf, Nat.reduceEqDiff, reduceCtorEq, eq1, apartOK, apart2, AObj.live, Int.reduceEq, Int.reduceLT, Int.reduceLE, Int.reduceAdd, Int.reduceSub, Int.reduceMul, Int.reduceToNat, cutCells, Nat.reduceAdd, Nat.reduceLeDiff, Nat.reduceLT, Nat.reduceMul, Nat.reduceSub, e0]
  refine xor_s (by omega) (by omega) ?_
  have e1 : (128 : Int) - (w : Int) = ((128 - w : Nat) : Int) := by omega
  have hx : a ^^^ b < 2 ^ w := Nat.xor_lt_two_pow ha hb
  simp (disch := omega) only [kB, kcx, kdm, kdn, kel, aop, resultsL, resultOf, Nat.reduceEqDiff, reduceCtorEq, eq1, apartOK, apart2, AObj.live, Int.reduceEq, Int.reduceLT, Int.reduceLE, Int.reduceAdd, Int.reduceSub, Int.reduceMul, Int.reduceToNat, cutCells, Nat.reduceAdd, Nat.reduceLeDiff, Nat.reduceLT, Nat.reduceMul, Nat.reduceSub, wr_i64, e1]
  refine left_s (by omega) (by omega) ?_
  have hs := shl_eq (k := 128 - w) hx (by omega)
  have hlt := shl_lt (a ^^^ b) (128 - w)
  have h1 : blen (shl (a ^^^ b) (128 - w) / W64) = blen (shl (a ^^^ b) (128 - w)) - 64 := by
    rw [W64, ← Nat.shiftRight_eq_div_pow, blen_shr]
  have h2 := hi_lt hlt
  have h3 := lo_lt (shl (a ^^^ b) (128 - w))
  have hbl : blen (a ^^^ b) ≤ w := blen_le.2 hx
  have hbl2 : blen (shl (a ^^^ b) (128 - w)) = if a ^^^ b = 0 then 0 else blen (a ^^^ b) + (128 - w) := by
    rw [hs]
    split
    · rename_i q; rw [q, Nat.zero_mul]; rfl
    · rename_i q; exact blen_mul q
  have hdm := Nat.div_add_mod (shl (a ^^^ b) (128 - w)) W64
  have hz0 : a ^^^ b = 0 → blen (a ^^^ b) = 0 := fun q => by rw [q]; rfl
  generalize hS : shl (a ^^^ b) (128 - w) = s at *
  by_cases hh : s / W64 = 0
  · have hh' : ((s / W64 : Nat) : Int) = 0 := by omega
    simp (disch := omega) only [kB, kcx, kdm, kdn, kel, aop, resultsL, resultOf, Nat.reduceEqDiff, reduceCtorEq, eq1, apartOK, apart2, AObj.live, Int.reduceEq, Int.reduceLT, Int.reduceLE, Int.reduceAdd, Int.reduceSub, Int.reduceMul, Int.reduceToNat, cutCells, Nat.reduceAdd, Nat.reduceLeDiff, Nat.reduceLT, Nat.reduceMul, Nat.reduceSub, hh']
    refine lz_s h3 ?_
    have hsl : s % W64 = s := by rw [hh, Nat.mul_zero, Nat.zero_add] at hdm; exact hdm
    have hb64 : blen s ≤ 64 := by rw [hh] at h1; have : blen 0 = 0 := rfl; omega
    rw [hsl]
    have e2 : (64 : Int) + ((64 - blen s : Nat) : Int) = ((128 - blen s : Nat) : Int) := by omega
    have e3 : min w (128 - blen s) = cmn w a b := by
      unfold cmn
      rw [hbl2]
      split
      · rename_i q; rw [hz0 q]; omega
      · omega
    have e4 := mm_two (k := .i64) (a := w) (b := 128 - blen s)
    rw [e3] at e4
    simp (disch := omega) only [kB, kcx, kdm, kdn, kel, aop, resultsL, resultOf, Nat.reduceEqDiff, reduceCtorEq, eq1, apartOK, apart2, AObj.live, Int.reduceEq, Int.reduceLT, Int.reduceLE, Int.reduceAdd, Int.reduceSub, Int.reduceMul, Int.reduceToNat, cutCells, Nat.reduceAdd, Nat.reduceLeDiff, Nat.reduceLT, Nat.reduceMul, Nat.reduceSub, wr_i64, e2, e4]
    exact ⟨_, rfl, ⟨_, rfl⟩, .closed rfl, h⟩
  · have hh' : ¬ ((s / W64 : Nat) : Int) = 0 := by omega
    simp (disch := omega) only [kB, kcx, kdm, kdn, kel, aop, resultsL, resultOf, Nat.reduceEqDiff, reduceCtorEq, eq1, apartOK, apart2, AObj.live, Int.reduceEq, Int.reduceLT, Int.reduceLE, Int.reduceAdd, Int.reduceSub, Int.reduceMul, Int.reduceToNat, cutCells, Nat.reduceAdd, Nat.reduceLeDiff, Nat.reduceLT, Nat.reduceMul, Nat.reduceSub, hh']
    refine lz_s h2 ?_
    rw [h1]
    have hpos := blen_pos hh
    have hx0 : ¬ a ^^^ b = 0 := fun q => by rw [if_pos q] at hbl2; omega
    rw [if_neg hx0] at hbl2
    have e3 : min w (64 - (blen s - 64)) = cmn w a b := by
      unfold cmn
      omega
    have e4 := mm_two (k := .i64) (a := w) (b := 64 - (blen s - 64))
    rw [e3] at e4
    simp (disch := omega) only [kB, kcx, kdm, kdn, kel, aop, resultsL, resultOf, Nat.reduceEqDiff, reduceCtorEq, eq1, apartOK, apart2, AObj.live, Int.reduceEq, Int.reduceLT, Int.reduceLE, Int.reduceAdd, Int.reduceSub, Int.reduceMul, Int.reduceToNat, cutCells, Nat.reduceAdd, Nat.reduceLeDiff, Nat.reduceLT, Nat.reduceMul, Nat.reduceSub, wr_i64, e4]
    exact ⟨_, rfl, ⟨_, rfl⟩, .closed rfl, h⟩

theorem eq_bv {v w : Nat} : eqL [(1, .int .u64 ((v / W64 : Nat) : Int), .int .u64 ((w / W64 : Nat) : Int)), (1, .int .u64 ((v % W64 : Nat) : Int), .int .u64 ((w % W64 : Nat) : Int))] = some (decide (v = w)) := by
  have e : ∀ x y : Nat, ((x : Int) == (y : Int)) = decide (x = y) := fun x y => by rw [Bool.eq_iff_iff]; simp; omega
  simp only [eqL, eqT1, if_true, e]
  by_cases h1 : v / W64 = w / W64 <;> by_cases h2 : v % W64 = w % W64 <;> simp [h1, h2, two_words (v := v) (w := w)]
theorem eq_bv0 {v : Nat} : eqL [(1, .int .u64 ((v / W64 : Nat) : Int), .int .u64 0), (1, .int .u64 ((v % W64 : Nat) : Int), .int .u64 0)] = some (decide (v = 0)) := eq_bv (w := 0)

theorem shr_zero {a w : Nat} : a >>> w = 0 ↔ a < 2 ^ w := by
  rw [Nat.shiftRight_eq_div_pow, Nat.div_eq_zero_iff_lt (Nat.pow_pos (by decide))]

/-- Does it fit? -/
theorem fits_s {w a : Nat} (hw : 1 ≤ w) (hw2 : w ≤ 128) (ha : a < 2 ^ 128) (h : R (.ret (.bool (decide (a < 2 ^ w)))) H) : WD T 22 [bvA a, .int .i64 w] H R := by
  refine WD.gc0 (WD.of follows t22 (by simp) ?_)
  have e0 : isw (w : Int) = true := by simp [isw]; omega
  simp (disch := omega) only [kB, kcx, kdm, kdn, kel, aop, resultsL, resultOf, Nat.reduceEqDiff, reduceCtorEq, eq1, apartOK, apart2, AObj.live, Int.reduceEq, Int.reduceLT, Int.reduceLE, Int.reduceAdd, Int.reduceSub, Int.reduceMul, Int.reduceToNat, cutCells, Nat.reduceAdd, Nat.reduceLeDiff, Nat.reduceLT, Nat.reduceMul, Nat.reduceSub]
  refine isw_s ?_
  simp (disch := omega) only [kB, kcx, kdm, kdn, kel, aop, resultsL, resultOf, Nat.reduceEqDiff, reduceCtorEq, eq1, apartOK, apart2, AObj.live, Int.reduceEq, Int.reduceLT, Int.reduceLE, Int.reduceAdd, Int.reduceSub, Int.reduceMul, Int.reduceToNat, cutCells, Nat.reduceAdd, Nat.reduceLeDiff, Nat.reduceLT, Nat.reduceMul, Nat.reduceSub, e0]
  refine right_s ha hw2 ?_
  have e1 := eq_bv0 (v := a >>> w)
  have e2 : decide (a >>> w = 0) = decide (a < 2 ^ w) := by rw [Bool.eq_iff_iff]; simp [shr_zero]
  rw [e2] at e1
  simp (disch := omega) only [kB, kcx, kdm, kdn, kel, aop, resultsL, resultOf, Nat.reduceEqDiff, reduceCtorEq, eq1, apartOK, apart2, AObj.live, Int.reduceEq, Int.reduceLT, Int.reduceLE, Int.reduceAdd, Int.reduceSub, Int.reduceMul, Int.reduceToNat, cutCells, Nat.reduceAdd, Nat.reduceLeDiff, Nat.reduceLT, Nat.reduceMul, Nat.reduceSub, e1]
  exact ⟨_, rfl, ⟨_, rfl⟩, .closed rfl, h⟩

theorem bit_s {w a i : Nat} (hw : 1 ≤ w) (hw2 : w ≤ 128) (hi : i < w) (ha : a < 2 ^ 128) (h : R (.ret (.bool (a.testBit (w - 1 - i)))) H) : WD T 20 [bvA a, .int .i64 w, .int .i64 i] H R := by
  refine WD.gc0 (WD.of follows t20 (by simp) ?_)
  have e0 : isw (w : Int) = true := by simp [isw]; omega
  have e1 : ¬ (i : Int) < 0 := by omega
  have e2 : ¬ (w : Int) ≤ (i : Int) := by omega
  simp (disch := omega) only [kB, kcx, kdm, kdn, kel, aop, resultsL, resultOf, Nat.reduceEqDiff, reduceCtorEq, eq1, apartOK, apart2, AObj.live, Int.reduceEq, Int.reduceLT, Int.reduceLE, Int.reduceAdd, Int.reduceSub, Int.reduceMul, Int.reduceToNat, cutCells, Nat.reduceAdd, Nat.reduceLeDiff, Nat.reduceLT, Nat.reduceMul, Nat.reduceSub]
  refine isw_s ?_
  have e3 : (w : Int) - 1 = ((w - 1 : Nat) : Int) := by omega
  have e4 : ((w - 1 : Nat) : Int) - (i : Int) = ((w - 1 - i : Nat) : Int) := by omega
  simp (disch := omega) only [kB, kcx, kdm, kdn, kel, aop, resultsL, resultOf, Nat.reduceEqDiff, reduceCtorEq, eq1, apartOK, apart2, AObj.live, Int.reduceEq, Int.reduceLT, Int.reduceLE, Int.reduceAdd, Int.reduceSub, Int.reduceMul, Int.reduceToNat, cutCells, Nat.reduceAdd, Nat.reduceLeDiff, Nat.reduceLT, Nat.reduceMul, Nat.reduceSub, e0, e1, e2, wr_i64, e3, e4]
  refine right_s ha (by omega) ?_
  have e5 := bin_and64 (lo_lt (a >>> (w - 1 - i))) (b := 1) (by decide)
  have e6 : ((1 : Nat) : Int) = 1 := rfl
  rw [e6] at e5
  have e7 : (((a >>> (w - 1 - i)) % W64) &&& 1) = if a.testBit (w - 1 - i) = true then 1 else 0 := by
    rw [Nat.and_one_is_mod, W64, Nat.mod_mod_of_dvd _ (by decide), Nat.testBit_eq_decide_div_mod_eq, Nat.shiftRight_eq_div_pow]
    simp only [decide_eq_true_eq]
    split <;> omega
  rw [e7] at e5
  cases hb : a.testBit (w - 1 - i) with
  | true =>
    rw [hb] at e5 h
    have e8 : (((if true = true then 1 else 0 : Nat)) : Int) = 1 := rfl
    rw [e8] at e5
    simp (disch := omega) only [kB, kcx, kdm, kdn, kel, aop, resultsL, resultOf, Nat.reduceEqDiff, reduceCtorEq, eq1, apartOK, apart2, AObj.live, Int.reduceEq, Int.reduceLT, Int.reduceLE, Int.reduceAdd, Int.reduceSub, Int.reduceMul, Int.reduceToNat, cutCells, Nat.reduceAdd, Nat.reduceLeDiff, Nat.reduceLT, Nat.reduceMul, Nat.reduceSub, e5]
    exact ⟨_, rfl, ⟨_, rfl⟩, .closed rfl, h⟩
  | false =>
    rw [hb] at e5 h
    have e8 : (((if false = true then 1 else 0 : Nat)) : Int) = 0 := rfl
    rw [e8] at e5
    simp (disch := omega) only [kB, kcx, kdm, kdn, kel, aop, resultsL, resultOf, Nat.reduceEqDiff, reduceCtorEq, eq1, apartOK, apart2, AObj.live, Int.reduceEq, Int.reduceLT, Int.reduceLE, Int.reduceAdd, Int.reduceSub, Int.reduceMul, Int.reduceToNat, cutCells, Nat.reduceAdd, Nat.reduceLeDiff, Nat.reduceLT, Nat.reduceMul, Nat.reduceSub, e5]
    exact ⟨_, rfl, ⟨_, rfl⟩, .closed rfl, h⟩

end Go.Proofs.YtkhkmgcegicmoaaDoor.Ev

/- The laid variables of the seat: what the condition gives a call, and a world that meets it. Conditions: none. -/
namespace Go.Proofs.YtkhkmgcegicmoaaDoor.Ev
open Go.ChangeShapes Go.WideShapes Go.RowKit

theorem mapM_some {α β : Type} {f : α → Option β} : ∀ {l : List α} {xs : List β}, l.mapM f = some xs → xs.length = l.length ∧ ∀ (i : Nat) (x : α), l[i]? = some x → ∃ y, xs[i]? = some y ∧ f x = some y
  | [], xs, h => by
    simp at h
    subst h
    exact ⟨rfl, fun i x hx => by simp at hx⟩
  | a :: l, xs, h => by
    rw [List.mapM_cons] at h
    simp only [Option.bind_eq_bind, Option.bind_eq_some_iff, Option.pure_def, Option.some.injEq] at h
    obtain ⟨y, hy, ys, hys, rfl⟩ := h
    obtain ⟨h1, h2⟩ := mapM_some hys
    refine ⟨by simp [h1], fun i x hx => ?_⟩
    cases i with
    | zero =>
      simp at hx
      subst hx
      exact ⟨y, rfl, hy⟩
    | succ i =>
      simp at hx
      simpa using h2 i x hx

theorem nums_of_trod {H : Type} {enc : TypeId × Value → H} {P : Program} {w : World} {base : Nat} {sp : Nat → Bool} {held : Bool} {fuel : Nat} {t e : TypeId} {n : Nat} {cs : List Value} {l : List Int} {p : List MemPlace}
    (ht : P.underlying t = some (.array n e)) (he : P.underlying e = some (.int .u8)) (hc : P.cellsOf e = 1) (hct : P.cellsOf t = n) (hl : l.length = n)
    (h : DataW.trod enc P w base sp held fuel t cs = some (.agg (l.map fun s => .lit (.int .u8 s)), p)) : cs = l.map fun s => Value.int .u8 s := by
  cases fuel with
  | zero => simp [DataW.trod] at h
  | succ fuel =>
    simp only [DataW.trod, ht, hct, hc] at h
    split at h
    · rename_i hcs
      simp only [Option.map_eq_some_iff] at h
      obtain ⟨xs, hxs, hx⟩ := h
      obtain ⟨h1, h2⟩ := mapM_some hxs
      injection hx with hx1 hx2
      injection hx1 with hx1
      refine List.ext_getElem? fun i => ?_
      by_cases hi : i < n
      · obtain ⟨y, hy, hf⟩ := h2 i i (by simp [hi])
        have hci : i < cs.length := by omega
        have e1 : (cs.drop (i * 1)).take 1 = [cs[i]] := by
          rw [Nat.mul_one, List.drop_eq_getElem_cons hci]
          rfl
        rw [e1] at hf
        have hli : i < l.length := by omega
        have e2 : y.1 = .lit (.int .u8 l[i]) := by
          have h3 : (xs.map (·.1))[i]? = (l.map fun s => (DataW.lit (.int .u8 s) : DataW H))[i]? := by rw [hx1]
          rw [List.getElem?_map, List.getElem?_map, hy, List.getElem?_eq_getElem hli] at h3
          simpa using h3
        have e3 : cs[i] = .int .u8 l[i] := by
          cases fuel with
          | zero => simp [DataW.trod] at hf
          | succ fuel =>
            generalize cs[i] = c at hf
            cases c <;> simp [DataW.trod, he] at hf
            obtain ⟨hk, hy2⟩ := hf
            obtain ⟨rfl, -⟩ := hk
            subst hy2
            simp at e2
            rw [← e2]
        rw [List.getElem?_eq_getElem hci, List.getElem?_map, List.getElem?_eq_getElem hli, e3]
        rfl
      · rw [List.getElem?_eq_none (by omega), List.getElem?_eq_none (by simp; omega)]
    · cases h

def intD : DataW Unit → Int
  | .lit (.int _ n) => n
  | _ => 0
def intsD : DataW Unit → List Int
  | .agg l => l.map intD
  | _ => []
def flatD : Nat → DataW Unit → List Value
  | 0, _ => []
  | n + 1, d =>
    match d with
    | .agg l => l.flatMap (flatD n)
    | .lit (.int k x) => [.int k x]
    | _ => []
def signsL : List Int := intsD Rows.laid_turnout_value_signs
def numV (l : List Int) : List Value := l.map fun s => .int .u8 s
/-- The heap that a law begins with: the signs, to be read alone; the other variables are not read. -/
def H0 : Heap := [.row (numV signsL) 0 false, .dead, .dead, .dead, .dead, .dead]
def ρ0 : Nat → Place := fun b => ⟨b, 0, 0⟩

abbrev laidL : List (String × DataW Unit) := [("unicode/utf8.acceptRanges", Rows.laid_unicode_utf8_acceptRanges), ("turnout/value.signs", Rows.laid_turnout_value_signs), ("unicode/utf8.first", Rows.laid_unicode_utf8_first)]

theorem signs_named : Tryd.prog.globalNamed "turnout/value.signs" = some 0 := by kernel_rfl

theorem cells_of_var {P : Program} {W : World} {n : String} {g : Nat} {cs : Array Value} (hg : P.globalNamed n = some g) (h : W.var? P n = some cs) : ∃ t fr, W.heap[g]? = some (.cells cs t fr) := by
  simp only [World.var?, hg, Option.bind_some] at h
  split at h
  · rename_i c t fr hc
    cases h
    exact ⟨t, fr, hc⟩
  · cases h

theorem laidMetH_of_noHandle {P : Program} {laid : List (String × DataW Unit)} {w : World} (h : (laid.filter fun x => x.2.handleName?.isSome).isEmpty = true) : laidMetH P laid w ↔ laidMet P laid w := by
  unfold laidMetH
  split
  · exact Iff.rfl
  · rename_i e
    rw [e] at h
    cases h

theorem row_of_laid {W : World} {g : Nat} {cs : Array Value} {l : List Int} {t : TypeId} {fr : Nat × Nat} (h : W.heap[g]? = some (.cells cs t fr)) (hl : cs.toList = numV l) (n : Nat) (ρ : Nat → Place) (hρ : ρ g = ⟨g, 0, 0⟩) : OR n ρ W g (.row (numV l) 0 false) := by
  refine ⟨cs, t, fr, by rw [hρ]; exact h, fun i v hv => ?_, fun h => by cases h⟩
  refine ⟨v, ?_, ?_⟩
  · rw [hρ, Nat.zero_add, ← Array.getElem?_toList, hl]
    exact hv
  · simp only [numV, List.getElem?_map, Option.map_eq_some_iff] at hv
    obtain ⟨s, _, rfl⟩ := hv
    exact .int _ _

theorem rel_of_laid {W : World} (h : laidMetH Tryd.prog laidL W) : Rel 6 ρ0 H0 W := by
  have h' : laidMet Tryd.prog laidL W := by
    exact (laidMetH_of_noHandle (by kernel_rfl)).1 h
  obtain ⟨ps, ⟨g, t, cs, fuel, p, q, hg, ht, hvar, hd, ⟨g2, t2, cs2, fuel2, p2, q2, hg2, ht2, hvar2, hd2, _⟩, _⟩, _⟩ := h'
  obtain rfl := Option.some.inj (signs_named.symm.trans hg2)
  obtain rfl := Option.some.inj ((show (Tryd.prog.globals[0]?).map (·.type) = some 54 by kernel_rfl).symm.trans ht2)
  have e2 : cs2.toList = numV signsL := nums_of_trod (n := 16) (e := 5) (l := signsL) (by kernel_rfl) (by kernel_rfl) (by kernel_rfl) (by kernel_rfl) rfl hd2
  obtain ⟨t2, f2, c2⟩ := cells_of_var signs_named hvar2
  refine ⟨fun b o ho => ?_, fun b c o u hb hc hne hw hu => ?_, fun g _ => rfl, by simp [H0]⟩
  · match b, ho with
    | 0, ho => cases ho; exact row_of_laid c2 e2 _ _ rfl
    | 1, ho => cases ho; trivial
    | 2, ho => cases ho; trivial
    | 3, ho => cases ho; trivial
    | 4, ho => cases ho; trivial
    | 5, ho => cases ho; trivial
  · match b, hb with
    | 0, hb => cases hb; cases hw
    | 1, hb => cases hb; cases hw
    | 2, hb => cases hb; cases hw
    | 3, hb => cases hb; cases hw
    | 4, hb => cases hb; cases hw
    | 5, hb => cases hb; cases hw

theorem H0_ro : ∀ o ∈ H0, o.wrt = false := by
  intro o ho
  simp only [H0, List.mem_cons, List.not_mem_nil, or_false] at ho
  rcases ho with rfl | rfl | rfl | rfl | rfl | rfl <;> rfl

/-- A world that meets the condition: the settled one, the variables' cells laid. -/
noncomputable def laidWorld (os : Os) : World :=
  let w0 := World.holding Tryd.prog os ⟨#[], #[], []⟩
  { w0 with heap := ((w0.heap.modify 0 fun
      | .cells _ t frozen => .cells (numV signsL).toArray t frozen
      | o => o).modify 5 fun
      | .cells _ t frozen => .cells (flatD 3 Rows.laid_unicode_utf8_acceptRanges).toArray t frozen
      | o => o).modify 4 fun
      | .cells _ t frozen => .cells (flatD 2 Rows.laid_unicode_utf8_first).toArray t frozen
      | o => o }
theorem laidWorld_met (os : Os) (args : Array Value) : laidMetH Tryd.prog laidL ((laidWorld os).forCall (fun _ _ => 0) ⟨#[], args, []⟩).memory := by
  exact (laidMetH_of_noHandle (by kernel_rfl)).2 (laidMet_of_run' 8 (by kernel_rfl) (by kernel_rfl))

end Go.Proofs.YtkhkmgcegicmoaaDoor.Ev

/- The call that shows that the packages are awake. -/
namespace Go.Proofs.YtkhkmgcegicmoaaDoor.Ev
set_option maxRecDepth 100000
set_option linter.unusedSimpArgs false
set_option linter.unusedVariables false
variable {R : FRes → Heap → Prop} {H : Heap}

def isTrue : Option (FRes × Heap) → Bool
  | some (.ret (.bool true), _) => true
  | _ => false
theorem of_isTrue {x : Option (FRes × Heap)} (h : isTrue x = true) : ∃ H1, x = some (.ret (.bool true), H1) := by
  unfold isTrue at h
  split at h
  · exact ⟨_, rfl⟩
  · cases h

/-- A call that is evaluated over blocks that are read alone, or never. -/
theorem WD.frameM {f : FuncId} {args : List Value} {H0 H : Heap} {v : Value} (hp : ∃ g, H = H0 ++ g) (hG : T.G ≤ H0.length) (hro : ∀ o ∈ H0, o = .dead ∨ ∃ cs, o = .row cs 0 false ∧ ∀ v ∈ cs, Scoped H0.length v)
    (hargs : ∀ a ∈ args, closedV a = true) (hv : Scoped T.G v) (h : WD T f args H0 (fun r _ => r = .ret v)) {R : FRes → Heap → Prop} (hR : R (.ret v) H) : WD T f args H R := by
  obtain ⟨g, rfl⟩ := hp
  intro ρ w args' hr ha
  have hr0 : Rel T.G ρ H0 w := by
    refine ⟨fun b o ho => ?_, fun b c o u hb hc hne hw hl => ?_, hr.glob, hG⟩
    · rcases hro o (List.mem_of_getElem? ho) with rfl | ⟨cs, rfl, hcs⟩
      · exact trivial
      have hb : b < H0.length := (List.getElem?_eq_some_iff.1 ho).1
      obtain ⟨cells, t, fr, h1, h2, h3⟩ := hr.obj b _ (by rw [List.getElem?_append_left hb]; exact ho)
      refine ⟨cells, t, fr, h1, fun i v hi => ?_, h3⟩
      obtain ⟨v', hv', hvr⟩ := h2 i v hi
      exact ⟨v', hv', hvr.narrow (hcs v (List.mem_of_getElem? hi))⟩
    · rcases hro o (List.mem_of_getElem? hb) with rfl | ⟨cs, rfl, _⟩ <;> cases hw
  have ha0 : VL H0.length ρ args args'.toList := ⟨ha.1, fun i x y hx hy => (ha.2 i x y hx hy).narrow (.closed (hargs x (List.mem_of_getElem? hx)))⟩
  have nofoot : ∀ c, ¬ Foot ρ H0 c := by
    rintro c ⟨b, o, hb, hw, _⟩
    rcases hro o (List.mem_of_getElem? hb) with rfl | ⟨cs, rfl, _⟩ <;> cases hw
  have key : ∀ en w1, (∃ r H1, r = .ret v ∧ RetOK T.G ρ H0 w r H1 en w1) → ∃ r H1, R r H1 ∧ RetOK T.G ρ (H0 ++ g) w r H1 en w1 := by
    rintro en w1 ⟨r, H1, rfl, ρ1, hs, v', rfl, hvr⟩
    have hold : ∀ c, c < w.heap.size → w1.heap[c]? = w.heap[c]? := fun c hc => hs.frame c hc (nofoot c)
    refine ⟨_, _, hR, ρ, ⟨⟨fun b o ho => ?_, hr.inj, hr.glob, hr.many⟩, Nat.le_refl _, fun _ _ => rfl, hs.os, hs.tape, hs.output, hs.size, fun c hc _ => hold c hc, fun c hc => .inl hc, hs.loops, fun c u hu hl => .inl ⟨u, hu, hl⟩⟩, v', rfl, ?_⟩
    · exact (hr.obj b o ho).mono (Nat.le_refl _) rfl (fun _ _ => rfl) (fun hl => hold _ (lt_of_live (hr.obj b o ho) hl))
    · have h1 : VR T.G ρ1 v v' := hvr.narrow hv
      refine (h1.mono (Nat.le_refl _) fun b hb => ?_).mono (by have := hr.many; omega) fun _ _ => rfl
      exact (hr.glob b hb).trans (hs.rel.glob b hb).symm
  rcases h ρ w args' hr0 ha0 with ⟨v', h1, h2⟩ | ⟨h1, h2⟩
  · exact .inl ⟨v', h1, key _ _ h2⟩
  · exact .inr ⟨h1, h2.mono key⟩


theorem awake_ev : isTrue (evalFn Tab 64 9 [] H0) = true := by kernel_rfl

theorem globs : T.G ≤ H0.length := by
  have : T.G = 6 := by unfold T; kernel_rfl
  rw [this]
  exact Nat.le_refl _

theorem awake_s (hb : H0 <+: H) (h : R (.ret (.bool true)) H) : WD T 9 [] H R := by
  obtain ⟨H1, he⟩ := of_isTrue awake_ev
  obtain ⟨g, hg⟩ := hb
  refine WD.frameM (H0 := H0) ⟨g, hg.symm⟩ globs (fun o ho => ?_) (by simp) .bool (WD.ev follows table_ok he rfl) h
  simp only [H0, List.mem_cons, List.not_mem_nil, or_false] at ho
  rcases ho with rfl | rfl | rfl | rfl | rfl | rfl
  · refine .inr ⟨_, rfl, fun v hv => ?_⟩
    simp only [numV, List.mem_map] at hv
    obtain ⟨s, _, rfl⟩ := hv
    exact .closed rfl
  all_goals exact .inl rfl

end Go.Proofs.YtkhkmgcegicmoaaDoor.Ev

/- Sums and differences of 128 bits, bit by bit: plain laws. -/
namespace Go.Proofs.YtkhkmgcegicmoaaDoor.Ev
set_option linter.unusedSimpArgs false
set_option linter.unusedVariables false

/-- The carry into a bit. -/
def carN (a b j : Nat) : Bool := decide (2 ^ j ≤ a % 2 ^ j + b % 2 ^ j)

theorem car_zero {a b : Nat} : carN a b 0 = false := by simp [carN, Nat.mod_one]

theorem car_bit {a b j : Nat} : (a + b).testBit j = ((a.testBit j != b.testBit j) != carN a b j) ∧ carN a b (j + 1) = (a.testBit j && b.testBit j || a.testBit j && carN a b j || b.testBit j && carN a b j) := by
  have hp : 0 < 2 ^ j := Nat.two_pow_pos j
  have ha := Nat.mod_lt a hp
  have hb := Nat.mod_lt b hp
  have e1 : ∀ x : Nat, x % 2 ^ (j + 1) = x % 2 ^ j + 2 ^ j * (x / 2 ^ j % 2) := fun x => by rw [Nat.pow_succ, Nat.mod_mul]
  have e2 : ∀ x : Nat, x.testBit j = decide (x / 2 ^ j % 2 = 1) := fun x => by rw [Nat.testBit_eq_decide_div_mod_eq]
  have hsum : (a + b) / 2 ^ j = a / 2 ^ j + b / 2 ^ j + (a % 2 ^ j + b % 2 ^ j) / 2 ^ j := by
    have h1 := Nat.div_add_mod a (2 ^ j)
    have h2 := Nat.div_add_mod b (2 ^ j)
    conv => lhs; rw [← h1, ← h2]
    rw [show 2 ^ j * (a / 2 ^ j) + a % 2 ^ j + (2 ^ j * (b / 2 ^ j) + b % 2 ^ j) = (a % 2 ^ j + b % 2 ^ j) + 2 ^ j * (a / 2 ^ j + b / 2 ^ j) by rw [Nat.mul_add]; omega, Nat.add_mul_div_left _ _ hp]
    omega
  have hc : (a % 2 ^ j + b % 2 ^ j) / 2 ^ j = if 2 ^ j ≤ a % 2 ^ j + b % 2 ^ j then 1 else 0 := by
    split
    · rename_i h
      have : (a % 2 ^ j + b % 2 ^ j) / 2 ^ j < 2 := Nat.div_lt_of_lt_mul (by omega)
      have : 0 < (a % 2 ^ j + b % 2 ^ j) / 2 ^ j := Nat.div_pos h hp
      omega
    · rename_i h
      exact Nat.div_eq_of_lt (by omega)
  rw [e2, e2, e2, carN, carN, e1, e1, hsum, hc, Nat.pow_succ]
  generalize a / 2 ^ j = p
  generalize b / 2 ^ j = q
  generalize a % 2 ^ j = x at *
  generalize b % 2 ^ j = y at *
  generalize 2 ^ j = m at *
  rcases Nat.mod_two_eq_zero_or_one p with hp2 | hp2 <;> rcases Nat.mod_two_eq_zero_or_one q with hq2 | hq2 <;> by_cases h : m ≤ x + y <;>
    (rw [hp2, hq2]; simp only [h, if_true, if_false, Nat.mul_zero, Nat.mul_one, Nat.add_zero, decide_true, decide_false]; constructor <;> simp <;> omega)

end Go.Proofs.YtkhkmgcegicmoaaDoor.Ev

/- Cut, Add, Sub. -/
namespace Go.Proofs.YtkhkmgcegicmoaaDoor.Ev
set_option maxRecDepth 100000
set_option linter.unusedSimpArgs false
set_option linter.unusedVariables false
variable {R : FRes → Heap → Prop} {H : Heap}

theorem cut_s {w v : Nat} (hw : 1 ≤ w) (hw2 : w ≤ 128) (hv : v < 2 ^ 128) (h : R (.ret (bvA (v % 2 ^ w))) H) : WD T 18 [bvA v, .int .i64 w] H R := by
  refine WD.gc0 (WD.of follows t18 (by simp) ?_)
  have e0 : isw (w : Int) = true := by simp [isw]; omega
  simp (disch := omega) only [kB, kcx, kdm, kdn, kel, aop, resultsL, resultOf, Nat.reduceEqDiff, reduceCtorEq, eq1, apartOK, apart2, AObj.live, Int.reduceEq, Int.reduceLT, Int.reduceLE, Int.reduceAdd, Int.reduceSub, Int.reduceMul, Int.reduceToNat, cutCells, Nat.reduceAdd, Nat.reduceLeDiff, Nat.reduceLT, Nat.reduceMul, Nat.reduceSub]
  refine isw_s ?_
  simp (disch := omega) only [kB, kcx, kdm, kdn, kel, aop, resultsL, resultOf, Nat.reduceEqDiff, reduceCtorEq, eq1, apartOK, apart2, AObj.live, Int.reduceEq, Int.reduceLT, Int.reduceLE, Int.reduceAdd, Int.reduceSub, Int.reduceMul, Int.reduceToNat, cutCells, Nat.reduceAdd, Nat.reduceLeDiff, Nat.reduceLT, Nat.reduceMul, Nat.reduceSub, e0]
  refine WV.of (fun c hc => ?_) ?_
  · simp only [List.mem_cons, List.not_mem_nil, or_false] at hc
    subst hc
    simp (disch := omega) only [kgd, kge, kgf, kgg, kgh, kgi, kgj, kgk, kgl, kgm, kgn, kgo, kgp, kfy, kgq, kgr, kgs, kgt, kgu, kgv, kgw, kfw, kfx, kgx, kgy, kgz, kha, khb, khc, kga, kgb, kgc, Nat.reduceAdd, khd]
    rfl
  refine ones_s hw2 ?_
  rw [thaw_frz0]
  simp (disch := omega) only [kB, kcx, kdm, kdn, kel, aop, resultsL, resultOf, Nat.reduceEqDiff, reduceCtorEq, eq1, apartOK, apart2, AObj.live, Int.reduceEq, Int.reduceLT, Int.reduceLE, Int.reduceAdd, Int.reduceSub, Int.reduceMul, Int.reduceToNat, cutCells, Nat.reduceAdd, Nat.reduceLeDiff, Nat.reduceLT, Nat.reduceMul, Nat.reduceSub]
  refine and_s hv (onesN_lt hw2) ?_
  rw [onesN, Nat.and_two_pow_sub_one_eq_mod]
  simp (disch := omega) only [kB, kcx, kdm, kdn, kel, aop, resultsL, resultOf, Nat.reduceEqDiff, reduceCtorEq, eq1, apartOK, apart2, AObj.live, Int.reduceEq, Int.reduceLT, Int.reduceLE, Int.reduceAdd, Int.reduceSub, Int.reduceMul, Int.reduceToNat, cutCells, Nat.reduceAdd, Nat.reduceLeDiff, Nat.reduceLT, Nat.reduceMul, Nat.reduceSub]
  exact ⟨_, rfl, ⟨_, rfl⟩, .closed rfl, h⟩

theorem add64_s {x y c : Nat} (hc : c ≤ 1) (h : R (.ret (.tuple #[.int .u64 (((x + y + c) % 18446744073709551616 : Nat) : Int), .int .u64 (((x + y + c) / 18446744073709551616 : Nat) : Int)])) H) :
    WD T 60 [.int .u64 (x : Int), .int .u64 (y : Int), .int .u64 (c : Int)] H R := by
  refine WD.ext table_ok (show Tab 60 = some (.ext add64) from rfl) ?_ h
  simp only [add64]
  rw [if_pos (by omega)]
  congr 4 <;> simp <;> omega
theorem add64_s0 {x y : Nat} (h : R (.ret (.tuple #[.int .u64 (((x + y) % 18446744073709551616 : Nat) : Int), .int .u64 (((x + y) / 18446744073709551616 : Nat) : Int)])) H) :
    WD T 60 [.int .u64 (x : Int), .int .u64 (y : Int), .int .u64 0] H R := add64_s (c := 0) (by omega) h
theorem sub64_s {x y c : Nat} (hc : c ≤ 1) (h : R (.ret (.tuple #[.int .u64 (((x + 18446744073709551616 - y - c) % 18446744073709551616 : Nat) : Int), .int .u64 (((if x < y + c then 1 else 0 : Nat)) : Int)])) H) :
    WD T 61 [.int .u64 (x : Int), .int .u64 (y : Int), .int .u64 (c : Int)] H R := by
  refine WD.ext table_ok (show Tab 61 = some (.ext sub64) from rfl) ?_ h
  simp only [sub64]
  rw [if_pos (by omega)]
  rfl
theorem sub64_s0 {x y : Nat} (h : R (.ret (.tuple #[.int .u64 (((x + 18446744073709551616 - y) % 18446744073709551616 : Nat) : Int), .int .u64 (((if x < y then 1 else 0 : Nat)) : Int)])) H) :
    WD T 61 [.int .u64 (x : Int), .int .u64 (y : Int), .int .u64 0] H R := sub64_s (c := 0) (by omega) h

theorem bvA_of {hi lo : Nat} (hl : lo < 18446744073709551616) : (.agg #[.int .u64 (hi : Int), .int .u64 (lo : Int)] : Value) = bvA (hi * W64 + lo) := by
  have e1 : (hi * W64 + lo) / W64 = hi := by show (hi * 18446744073709551616 + lo) / 18446744073709551616 = hi; omega
  have e2 : (hi * W64 + lo) % W64 = lo := by show (hi * 18446744073709551616 + lo) % 18446744073709551616 = lo; omega
  rw [bvA, e1, e2]

theorem mod_mod_pow {x w : Nat} (hw : w ≤ 128) : x % 2 ^ 128 % 2 ^ w = x % 2 ^ w := Nat.mod_mod_of_dvd _ (Nat.pow_dvd_pow 2 hw)

theorem add_s {w a b : Nat} (hw : 1 ≤ w) (hw2 : w ≤ 128) (ha : a < 2 ^ 128) (hb : b < 2 ^ 128) (h : R (.ret (bvA ((a + b) % 2 ^ w))) H) : WD T 19 [bvA a, bvA b, .int .i64 w] H R := by
  refine WD.gc0 (WD.of follows t19 (by simp) ?_)
  have a1 := hi_lt ha
  have a2 := lo_lt a
  have b1 := hi_lt hb
  have b2 := lo_lt b
  simp (disch := omega) only [kB, kcx, kdm, kdn, kel, aop, resultsL, resultOf, Nat.reduceEqDiff, reduceCtorEq, eq1, apartOK, apart2, AObj.live, Int.reduceEq, Int.reduceLT, Int.reduceLE, Int.reduceAdd, Int.reduceSub, Int.reduceMul, Int.reduceToNat, cutCells, Nat.reduceAdd, Nat.reduceLeDiff, Nat.reduceLT, Nat.reduceMul, Nat.reduceSub]
  refine add64_s0 ?_
  simp (disch := omega) only [kB, kcx, kdm, kdn, kel, aop, resultsL, resultOf, Nat.reduceEqDiff, reduceCtorEq, eq1, apartOK, apart2, AObj.live, Int.reduceEq, Int.reduceLT, Int.reduceLE, Int.reduceAdd, Int.reduceSub, Int.reduceMul, Int.reduceToNat, cutCells, Nat.reduceAdd, Nat.reduceLeDiff, Nat.reduceLT, Nat.reduceMul, Nat.reduceSub]
  refine add64_s (by omega) ?_
  simp (disch := omega) only [kB, kcx, kdm, kdn, kel, aop, resultsL, resultOf, Nat.reduceEqDiff, reduceCtorEq, eq1, apartOK, apart2, AObj.live, Int.reduceEq, Int.reduceLT, Int.reduceLE, Int.reduceAdd, Int.reduceSub, Int.reduceMul, Int.reduceToNat, cutCells, Nat.reduceAdd, Nat.reduceLeDiff, Nat.reduceLT, Nat.reduceMul, Nat.reduceSub]
  have hs : (.agg #[.int .u64 (((a / W64 + b / W64 + (a % W64 + b % W64) / 18446744073709551616) % 18446744073709551616 : Nat) : Int), .int .u64 (((a % W64 + b % W64) % 18446744073709551616 : Nat) : Int)] : Value) = bvA ((a + b) % 2 ^ 128) := by
    rw [bvA_of (Nat.mod_lt _ (by decide))]
    congr 1
    simp only [W64_eq]
    show _ = (a + b) % 340282366920938463463374607431768211456
    omega
  rw [hs]
  refine cut_s hw hw2 (Nat.mod_lt _ (by decide)) ?_
  rw [mod_mod_pow hw2]
  simp (disch := omega) only [kB, kcx, kdm, kdn, kel, aop, resultsL, resultOf, Nat.reduceEqDiff, reduceCtorEq, eq1, apartOK, apart2, AObj.live, Int.reduceEq, Int.reduceLT, Int.reduceLE, Int.reduceAdd, Int.reduceSub, Int.reduceMul, Int.reduceToNat, cutCells, Nat.reduceAdd, Nat.reduceLeDiff, Nat.reduceLT, Nat.reduceMul, Nat.reduceSub]
  exact ⟨_, rfl, ⟨_, rfl⟩, .closed rfl, h⟩

theorem sub_s {w a b : Nat} (hw : 1 ≤ w) (hw2 : w ≤ 128) (ha : a < 2 ^ 128) (hb : b < 2 ^ 128) (h : R (.ret (bvA ((a + 2 ^ 128 - b) % 2 ^ w))) H) : WD T 21 [bvA a, bvA b, .int .i64 w] H R := by
  refine WD.gc0 (WD.of follows t21 (by simp) ?_)
  have a1 := hi_lt ha
  have a2 := lo_lt a
  have b1 := hi_lt hb
  have b2 := lo_lt b
  simp (disch := omega) only [kB, kcx, kdm, kdn, kel, aop, resultsL, resultOf, Nat.reduceEqDiff, reduceCtorEq, eq1, apartOK, apart2, AObj.live, Int.reduceEq, Int.reduceLT, Int.reduceLE, Int.reduceAdd, Int.reduceSub, Int.reduceMul, Int.reduceToNat, cutCells, Nat.reduceAdd, Nat.reduceLeDiff, Nat.reduceLT, Nat.reduceMul, Nat.reduceSub]
  refine sub64_s0 ?_
  simp (disch := omega) only [kB, kcx, kdm, kdn, kel, aop, resultsL, resultOf, Nat.reduceEqDiff, reduceCtorEq, eq1, apartOK, apart2, AObj.live, Int.reduceEq, Int.reduceLT, Int.reduceLE, Int.reduceAdd, Int.reduceSub, Int.reduceMul, Int.reduceToNat, cutCells, Nat.reduceAdd, Nat.reduceLeDiff, Nat.reduceLT, Nat.reduceMul, Nat.reduceSub]
  refine sub64_s (by split <;> omega) ?_
  simp (disch := omega) only [kB, kcx, kdm, kdn, kel, aop, resultsL, resultOf, Nat.reduceEqDiff, reduceCtorEq, eq1, apartOK, apart2, AObj.live, Int.reduceEq, Int.reduceLT, Int.reduceLE, Int.reduceAdd, Int.reduceSub, Int.reduceMul, Int.reduceToNat, cutCells, Nat.reduceAdd, Nat.reduceLeDiff, Nat.reduceLT, Nat.reduceMul, Nat.reduceSub]
  have hs : ∀ c : Nat, (a % W64 < b % W64 → c = 1) → (¬ a % W64 < b % W64 → c = 0) →
      (.agg #[.int .u64 (((a / W64 + 18446744073709551616 - b / W64 - c) % 18446744073709551616 : Nat) : Int), .int .u64 (((a % W64 + 18446744073709551616 - b % W64) % 18446744073709551616 : Nat) : Int)] : Value) = bvA ((a + 2 ^ 128 - b) % 2 ^ 128) := by
    intro c hc1 hc0
    rw [bvA_of (Nat.mod_lt _ (by decide))]
    congr 1
    simp only [W64_eq] at a1 a2 b1 b2 hc1 hc0 ⊢
    have ha' : a < 340282366920938463463374607431768211456 := ha
    have hb' : b < 340282366920938463463374607431768211456 := hb
    show _ = (a + 340282366920938463463374607431768211456 - b) % 340282366920938463463374607431768211456
    by_cases hlt : a % 18446744073709551616 < b % 18446744073709551616
    · rw [hc1 hlt]; omega
    · rw [hc0 hlt]; omega
  rw [hs _ (fun h => if_pos h) (fun h => if_neg h)]
  refine cut_s hw hw2 (Nat.mod_lt _ (by decide)) ?_
  rw [mod_mod_pow hw2]
  simp (disch := omega) only [kB, kcx, kdm, kdn, kel, aop, resultsL, resultOf, Nat.reduceEqDiff, reduceCtorEq, eq1, apartOK, apart2, AObj.live, Int.reduceEq, Int.reduceLT, Int.reduceLE, Int.reduceAdd, Int.reduceSub, Int.reduceMul, Int.reduceToNat, cutCells, Nat.reduceAdd, Nat.reduceLeDiff, Nat.reduceLT, Nat.reduceMul, Nat.reduceSub]
  exact ⟨_, rfl, ⟨_, rfl⟩, .closed rfl, h⟩

end Go.Proofs.YtkhkmgcegicmoaaDoor.Ev

/- Compare: which of two values is less. -/
namespace Go.Proofs.YtkhkmgcegicmoaaDoor.Ev
set_option maxRecDepth 100000
set_option linter.unusedSimpArgs false
set_option linter.unusedVariables false
variable {R : FRes → Heap → Prop} {H : Heap}

def cmp3 (a b : Nat) : Int := if a < b then -1 else if b < a then 1 else 0

theorem isnan_s {x : Nat} (h : R (.ret (.bool false)) H) : WD T 79 [.int .u64 (x : Int)] H R := by
  refine WD.of follows t79 (by simp) ?_
  have e : decide ((x : Int) = (x : Int)) = true := decide_eq_true rfl
  simp (disch := omega) only [kB, kcx, kdm, kdn, kel, aop, resultsL, resultOf, Nat.reduceEqDiff, reduceCtorEq, eq1, apartOK, apart2, AObj.live, Int.reduceEq, Int.reduceLT, Int.reduceLE, Int.reduceAdd, Int.reduceSub, Int.reduceMul, Int.reduceToNat, cutCells, Nat.reduceAdd, Nat.reduceLeDiff, Nat.reduceLT, Nat.reduceMul, Nat.reduceSub, e, Bool.not_true]
  exact h

theorem cmp64_s {x y : Nat} (h : R (.ret (.int .i64 (cmp3 x y))) H) : WD T 64 [.int .u64 (x : Int), .int .u64 (y : Int)] H R := by
  refine WD.of follows t64 (by simp) ?_
  unfold cmp3 at h
  simp (disch := omega) only [kB, kcx, kdm, kdn, kel, aop, resultsL, resultOf, Nat.reduceEqDiff, reduceCtorEq, eq1, apartOK, apart2, AObj.live, Int.reduceEq, Int.reduceLT, Int.reduceLE, Int.reduceAdd, Int.reduceSub, Int.reduceMul, Int.reduceToNat, cutCells, Nat.reduceAdd, Nat.reduceLeDiff, Nat.reduceLT, Nat.reduceMul, Nat.reduceSub]
  refine isnan_s ?_
  simp (disch := omega) only [kB, kcx, kdm, kdn, kel, aop, resultsL, resultOf, Nat.reduceEqDiff, reduceCtorEq, eq1, apartOK, apart2, AObj.live, Int.reduceEq, Int.reduceLT, Int.reduceLE, Int.reduceAdd, Int.reduceSub, Int.reduceMul, Int.reduceToNat, cutCells, Nat.reduceAdd, Nat.reduceLeDiff, Nat.reduceLT, Nat.reduceMul, Nat.reduceSub]
  refine isnan_s ?_
  by_cases h1 : x < y
  · have h1' : (x : Int) < (y : Int) := by omega
    simp (disch := omega) only [kB, kcx, kdm, kdn, kel, aop, resultsL, resultOf, Nat.reduceEqDiff, reduceCtorEq, eq1, apartOK, apart2, AObj.live, Int.reduceEq, Int.reduceLT, Int.reduceLE, Int.reduceAdd, Int.reduceSub, Int.reduceMul, Int.reduceToNat, cutCells, Nat.reduceAdd, Nat.reduceLeDiff, Nat.reduceLT, Nat.reduceMul, Nat.reduceSub, h1']
    simpa only [if_pos h1] using h
  · have h1' : ¬ (x : Int) < (y : Int) := by omega
    by_cases h2 : y < x
    · have h2' : (y : Int) < (x : Int) := by omega
      simp (disch := omega) only [kB, kcx, kdm, kdn, kel, aop, resultsL, resultOf, Nat.reduceEqDiff, reduceCtorEq, eq1, apartOK, apart2, AObj.live, Int.reduceEq, Int.reduceLT, Int.reduceLE, Int.reduceAdd, Int.reduceSub, Int.reduceMul, Int.reduceToNat, cutCells, Nat.reduceAdd, Nat.reduceLeDiff, Nat.reduceLT, Nat.reduceMul, Nat.reduceSub, h1', h2']
      simpa only [if_neg h1, if_pos h2] using h
    · have h2' : ¬ (y : Int) < (x : Int) := by omega
      simp (disch := omega) only [kB, kcx, kdm, kdn, kel, aop, resultsL, resultOf, Nat.reduceEqDiff, reduceCtorEq, eq1, apartOK, apart2, AObj.live, Int.reduceEq, Int.reduceLT, Int.reduceLE, Int.reduceAdd, Int.reduceSub, Int.reduceMul, Int.reduceToNat, cutCells, Nat.reduceAdd, Nat.reduceLeDiff, Nat.reduceLT, Nat.reduceMul, Nat.reduceSub, h1', h2']
      simpa only [if_neg h1, if_neg h2] using h

def orI (p q : Int) : Int := if p ≠ 0 then p else q

def orInv (b : Nat) (p q : Int) (H : Heap) : Nat → Env → Heap → Prop := fun z e H' => ∃ i : Nat, i ≤ 2 ∧ z = 2 - i ∧ H' = H ∧ (i = 1 → p = 0) ∧ (i = 2 → p = 0 ∧ q = 0) ∧ (∃ x : Nat → Value, e = [x 0, x 1, x 2, .int .i64 0, x 4, x 5, .slice (some ⟨b, 0, none⟩) 2 2, .int .i64 2, .int .i64 (i : Int), x 9, x 10, x 11, x 12, x 13, x 14, x 15, x 16, x 17])

theorem or_s {b : Nat} {p q : Int} (hb : hget H b = .row [.int .i64 p, .int .i64 q] 1 true) (h : R (.ret (.int .i64 (orI p q))) H) : WD T 63 [.slice (some ⟨b, 0, none⟩) 2 2] H R := by
  refine WD.of follows t63 (by simp) ?_
  unfold orI at h
  simp (disch := omega) only [kB, kcx, kdm, kdn, kel, aop, resultsL, resultOf, Nat.reduceEqDiff, reduceCtorEq, eq1, apartOK, apart2, AObj.live, Int.reduceEq, Int.reduceLT, Int.reduceLE, Int.reduceAdd, Int.reduceSub, Int.reduceMul, Int.reduceToNat, cutCells, Nat.reduceAdd, Nat.reduceLeDiff, Nat.reduceLT, Nat.reduceMul, Nat.reduceSub]
  refine WLoop.inv (orInv b p q H) ?_ 2 _ _ ⟨0, by omega, rfl, rfl, by omega, by omega, by exact ex_env rfl⟩
  rintro z e H' ⟨i, hi, rfl, rfl, hp, hq, ⟨x, rfl⟩⟩
  match i, hi with
  | 0, _ =>
    have h0 : ((0 : Nat) : Int) < 2 := by omega
    have h0' : ((0 : Nat) : Int) < ((2 : Nat) : Int) := by omega
    by_cases hp0 : p = 0
    · simp (disch := omega) only [kB, kcx, kdm, kdn, kel, aop, resultsL, resultOf, Nat.reduceEqDiff, reduceCtorEq, eq1, apartOK, apart2, AObj.live, Int.reduceEq, Int.reduceLT, Int.reduceLE, Int.reduceAdd, Int.reduceSub, Int.reduceMul, Int.reduceToNat, cutCells, Nat.reduceAdd, Nat.reduceLeDiff, Nat.reduceLT, Nat.reduceMul, Nat.reduceSub, h0, h0', hb, hp0]
      exact ⟨1, by omega, 1, by omega, rfl, rfl, fun _ => rfl, by omega, by exact ex_env rfl⟩
    · simp (disch := omega) only [kB, kcx, kdm, kdn, kel, aop, resultsL, resultOf, Nat.reduceEqDiff, reduceCtorEq, eq1, apartOK, apart2, AObj.live, Int.reduceEq, Int.reduceLT, Int.reduceLE, Int.reduceAdd, Int.reduceSub, Int.reduceMul, Int.reduceToNat, cutCells, Nat.reduceAdd, Nat.reduceLeDiff, Nat.reduceLT, Nat.reduceMul, Nat.reduceSub, h0, h0', hb, hp0]
      simpa only [if_pos hp0] using h
  | 1, _ =>
    have h0 : ((1 : Nat) : Int) < 2 := by omega
    have h0' : ((1 : Nat) : Int) < ((2 : Nat) : Int) := by omega
    have hp0 := hp rfl
    by_cases hq0 : q = 0
    · simp (disch := omega) only [kB, kcx, kdm, kdn, kel, aop, resultsL, resultOf, Nat.reduceEqDiff, reduceCtorEq, eq1, apartOK, apart2, AObj.live, Int.reduceEq, Int.reduceLT, Int.reduceLE, Int.reduceAdd, Int.reduceSub, Int.reduceMul, Int.reduceToNat, cutCells, Nat.reduceAdd, Nat.reduceLeDiff, Nat.reduceLT, Nat.reduceMul, Nat.reduceSub, h0, h0', hb, hq0]
      exact ⟨0, by omega, 2, by omega, rfl, rfl, by omega, fun _ => ⟨hp0, rfl⟩, by exact ex_env rfl⟩
    · simp (disch := omega) only [kB, kcx, kdm, kdn, kel, aop, resultsL, resultOf, Nat.reduceEqDiff, reduceCtorEq, eq1, apartOK, apart2, AObj.live, Int.reduceEq, Int.reduceLT, Int.reduceLE, Int.reduceAdd, Int.reduceSub, Int.reduceMul, Int.reduceToNat, cutCells, Nat.reduceAdd, Nat.reduceLeDiff, Nat.reduceLT, Nat.reduceMul, Nat.reduceSub, h0, h0', hb, hq0]
      simpa only [hp0, ne_eq, not_true_eq_false, if_false] using h
  | 2, _ =>
    have h0 : ¬ ((2 : Nat) : Int) < 2 := by omega
    obtain ⟨hp0, hq0⟩ := hq rfl
    simp (disch := omega) only [kB, kcx, kdm, kdn, kel, aop, resultsL, resultOf, Nat.reduceEqDiff, reduceCtorEq, eq1, apartOK, apart2, AObj.live, Int.reduceEq, Int.reduceLT, Int.reduceLE, Int.reduceAdd, Int.reduceSub, Int.reduceMul, Int.reduceToNat, cutCells, Nat.reduceAdd, Nat.reduceLeDiff, Nat.reduceLT, Nat.reduceMul, Nat.reduceSub, h0]
    simpa only [hp0, hq0, ne_eq, not_true_eq_false, if_false] using h

theorem cmp3_words {a b : Nat} : orI (cmp3 (a / W64) (b / W64)) (cmp3 (a % W64) (b % W64)) = cmp3 a b := by
  have hw : 0 < W64 := by decide
  have ea := Nat.div_add_mod a W64
  have eb := Nat.div_add_mod b W64
  have la := Nat.mod_lt a hw
  have lb := Nat.mod_lt b hw
  simp only [W64_eq] at *
  unfold orI cmp3
  repeat' split
  all_goals first | rfl | omega

theorem cmp_s {a b : Nat} (h : R (.ret (.int .i64 (cmp3 a b))) H) : WD T 26 [bvA a, bvA b] H R := by
  refine WD.gc0 (WD.of follows t26 (by simp) ?_)
  simp (disch := omega) only [kB, kcx, kdm, kdn, kel, aop, resultsL, resultOf, Nat.reduceEqDiff, reduceCtorEq, eq1, apartOK, apart2, AObj.live, Int.reduceEq, Int.reduceLT, Int.reduceLE, Int.reduceAdd, Int.reduceSub, Int.reduceMul, Int.reduceToNat, cutCells, Nat.reduceAdd, Nat.reduceLeDiff, Nat.reduceLT, Nat.reduceMul, Nat.reduceSub]
  refine WV.of (fun c hc => ?_) ?_
  · simp only [List.mem_cons, List.not_mem_nil, or_false] at hc
    rcases hc with rfl | rfl <;> (simp (disch := omega) only [kgd, kge, kgf, kgg, kgh, kgi, kgj, kgk, kgl, kgm, kgn, kgo, kgp, kfy, kgq, kgr, kgs, kgt, kgu, kgv, kgw, kfw, kfx, kgx, kgy, kgz, kha, khb, khc, kga, kgb, kgc, Nat.reduceAdd, khd]; rfl)
  refine cmp64_s ?_
  rw [thaw_frz0]
  simp (disch := omega) only [kB, kcx, kdm, kdn, kel, aop, resultsL, resultOf, Nat.reduceEqDiff, reduceCtorEq, eq1, apartOK, apart2, AObj.live, Int.reduceEq, Int.reduceLT, Int.reduceLE, Int.reduceAdd, Int.reduceSub, Int.reduceMul, Int.reduceToNat, cutCells, Nat.reduceAdd, Nat.reduceLeDiff, Nat.reduceLT, Nat.reduceMul, Nat.reduceSub]
  refine cmp64_s ?_
  simp (disch := omega) only [kB, kcx, kdm, kdn, kel, aop, resultsL, resultOf, Nat.reduceEqDiff, reduceCtorEq, eq1, apartOK, apart2, AObj.live, Int.reduceEq, Int.reduceLT, Int.reduceLE, Int.reduceAdd, Int.reduceSub, Int.reduceMul, Int.reduceToNat, cutCells, Nat.reduceAdd, Nat.reduceLeDiff, Nat.reduceLT, Nat.reduceMul, Nat.reduceSub]
  refine or_s (p := cmp3 (a / W64) (b / W64)) (q := cmp3 (a % W64) (b % W64)) (by simp (disch := omega) only [kgd, kge, kgf, kgg, kgh, kgi, kgj, kgk, kgl, kgm, kgn, kgo, kgp, kfy, kgq, kgr, kgs, kgt, kgu, kgv, kgw, kfw, kfx, kgx, kgy, kgz, kha, khb, khc, kga, kgb, kgc, Nat.reduceAdd, khd]) ?_
  rw [cmp3_words]
  simp (disch := omega) only [kB, kcx, kdm, kdn, kel, aop, resultsL, resultOf, Nat.reduceEqDiff, reduceCtorEq, eq1, apartOK, apart2, AObj.live, Int.reduceEq, Int.reduceLT, Int.reduceLE, Int.reduceAdd, Int.reduceSub, Int.reduceMul, Int.reduceToNat, cutCells, Nat.reduceAdd, Nat.reduceLeDiff, Nat.reduceLT, Nat.reduceMul, Nat.reduceSub]
  exact ⟨_, rfl, ⟨_, rfl⟩, .closed rfl, h⟩

end Go.Proofs.YtkhkmgcegicmoaaDoor.Ev

/- Common bits of two values that are cut to a width first. -/
namespace Go.Proofs.YtkhkmgcegicmoaaDoor.Ev
set_option maxRecDepth 100000
set_option linter.unusedSimpArgs false
set_option linter.unusedVariables false
variable {R : FRes → Heap → Prop} {H : Heap}

theorem shl_cut {z w : Nat} (hw : w ≤ 128) : shl z (128 - w) = shl (z % 2 ^ w) (128 - w) := by
  unfold shl
  have e : 2 ^ 128 = 2 ^ w * 2 ^ (128 - w) := by rw [← Nat.pow_add]; congr 1; omega
  rw [Nat.shiftLeft_eq, Nat.shiftLeft_eq, e, Nat.mul_mod_mul_right, Nat.mul_mod_mul_right, Nat.mod_mod]

theorem commonc_s {w a0 b0 : Nat} (hw : 1 ≤ w) (hw2 : w ≤ 128) (ha0 : a0 < 2 ^ 128) (hb0 : b0 < 2 ^ 128) (h : R (.ret (.int .i64 (cmn w (a0 % 2 ^ w) (b0 % 2 ^ w) : Nat))) H) : WD T 23 [bvA a0, bvA b0, .int .i64 w] H R := by
  refine WD.gc0 (WD.of follows t23 (by simp) ?_)
  have hp : 2 ^ w ≤ 2 ^ 128 := Nat.pow_le_pow_right (by decide) hw2
  have e0 : isw (w : Int) = true := by simp [isw]; omega
  simp (disch := omega) only [kB, kcx, kdm, kdn, kel, aop, resultsL, resultOf, Nat.reduceEqDiff, reduceCtorEq, eq1, apartOK, apart2, AObj.live, Int.reduceEq, Int.reduceLT, Int.reduceLE, Int.reduceAdd, Int.reduceSub, Int.reduceMul, Int.reduceToNat, cutCells, Nat.reduceAdd, Nat.reduceLeDiff, Nat.reduceLT, Nat.reduceMul, Nat.reduceSub]
  refine isw_s ?_
  simp (disch := omega) only [kB, kcx, kdm, kdn, kel, aop, resultsL, resultOf, Nat.reduceEqDiff, reduceCtorEq, eq1, apartOK, apart2, AObj.live, Int.reduceEq, Int.reduceLT, Int.reduceLE, Int.reduceAdd, Int.reduceSub, Int.reduceMul, Int.reduceToNat, cutCells, Nat.reduceAdd, Nat.reduceLeDiff, Nat.reduceLT, Nat.reduceMul, Nat.reduceSub, e0]
  refine xor_s ha0 hb0 ?_
  have e1 : (128 : Int) - (w : Int) = ((128 - w : Nat) : Int) := by omega
  have hcut := shl_cut (z := a0 ^^^ b0) hw2
  rw [Nat.xor_mod_two_pow] at hcut
  have ha : a0 % 2 ^ w < 2 ^ w := Nat.mod_lt _ (Nat.two_pow_pos _)
  have hb : b0 % 2 ^ w < 2 ^ w := Nat.mod_lt _ (Nat.two_pow_pos _)
  have hx0128 : a0 ^^^ b0 < 2 ^ 128 := Nat.xor_lt_two_pow ha0 hb0
  have hx : a0 % 2 ^ w ^^^ b0 % 2 ^ w < 2 ^ w := Nat.xor_lt_two_pow ha hb
  simp (disch := omega) only [kB, kcx, kdm, kdn, kel, aop, resultsL, resultOf, Nat.reduceEqDiff, reduceCtorEq, eq1, apartOK, apart2, AObj.live, Int.reduceEq, Int.reduceLT, Int.reduceLE, Int.reduceAdd, Int.reduceSub, Int.reduceMul, Int.reduceToNat, cutCells, Nat.reduceAdd, Nat.reduceLeDiff, Nat.reduceLT, Nat.reduceMul, Nat.reduceSub, wr_i64, e1]
  refine left_s hx0128 (by omega) ?_
  rw [hcut]
  generalize a0 % 2 ^ w = a at *
  generalize b0 % 2 ^ w = b at *
  have hs := shl_eq (k := 128 - w) hx (by omega)
  have hlt := shl_lt (a ^^^ b) (128 - w)
  have h1 : blen (shl (a ^^^ b) (128 - w) / W64) = blen (shl (a ^^^ b) (128 - w)) - 64 := by
    rw [W64, ← Nat.shiftRight_eq_div_pow, blen_shr]
  have h2 := hi_lt hlt
  have h3 := lo_lt (shl (a ^^^ b) (128 - w))
  have hbl : blen (a ^^^ b) ≤ w := blen_le.2 hx
  have hbl2 : blen (shl (a ^^^ b) (128 - w)) = if a ^^^ b = 0 then 0 else blen (a ^^^ b) + (128 - w) := by
    rw [hs]
    split
    · rename_i q; rw [q, Nat.zero_mul]; rfl
    · rename_i q; exact blen_mul q
  have hdm := Nat.div_add_mod (shl (a ^^^ b) (128 - w)) W64
  have hz0 : a ^^^ b = 0 → blen (a ^^^ b) = 0 := fun q => by rw [q]; rfl
  generalize hS : shl (a ^^^ b) (128 - w) = s at *
  by_cases hh : s / W64 = 0
  · have hh' : ((s / W64 : Nat) : Int) = 0 := by omega
    simp (disch := omega) only [kB, kcx, kdm, kdn, kel, aop, resultsL, resultOf, Nat.reduceEqDiff, reduceCtorEq, eq1, apartOK, apart2, AObj.live, Int.reduceEq, Int.reduceLT, Int.reduceLE, Int.reduceAdd, Int.reduceSub, Int.reduceMul, Int.reduceToNat, cutCells, Nat.reduceAdd, Nat.reduceLeDiff, Nat.reduceLT, Nat.reduceMul, Nat.reduceSub, hh']
    refine lz_s h3 ?_
    have hsl : s % W64 = s := by rw [hh, Nat.mul_zero, Nat.zero_add] at hdm; exact hdm
    have hb64 : blen s ≤ 64 := by rw [hh] at h1; have : blen 0 = 0 := rfl; omega
    rw [hsl]
    have e2 : (64 : Int) + ((64 - blen s : Nat) : Int) = ((128 - blen s : Nat) : Int) := by omega
    have e3 : min w (128 - blen s) = cmn w a b := by
      unfold cmn
      rw [hbl2]
      split
      · rename_i q; rw [hz0 q]; omega
      · omega
    have e4 := mm_two (k := .i64) (a := w) (b := 128 - blen s)
    rw [e3] at e4
    simp (disch := omega) only [kB, kcx, kdm, kdn, kel, aop, resultsL, resultOf, Nat.reduceEqDiff, reduceCtorEq, eq1, apartOK, apart2, AObj.live, Int.reduceEq, Int.reduceLT, Int.reduceLE, Int.reduceAdd, Int.reduceSub, Int.reduceMul, Int.reduceToNat, cutCells, Nat.reduceAdd, Nat.reduceLeDiff, Nat.reduceLT, Nat.reduceMul, Nat.reduceSub, wr_i64, e2, e4]
    exact ⟨_, rfl, ⟨_, rfl⟩, .closed rfl, h⟩
  · have hh' : ¬ ((s / W64 : Nat) : Int) = 0 := by omega
    simp (disch := omega) only [kB, kcx, kdm, kdn, kel, aop, resultsL, resultOf, Nat.reduceEqDiff, reduceCtorEq, eq1, apartOK, apart2, AObj.live, Int.reduceEq, Int.reduceLT, Int.reduceLE, Int.reduceAdd, Int.reduceSub, Int.reduceMul, Int.reduceToNat, cutCells, Nat.reduceAdd, Nat.reduceLeDiff, Nat.reduceLT, Nat.reduceMul, Nat.reduceSub, hh']
    refine lz_s h2 ?_
    rw [h1]
    have hpos := blen_pos hh
    have hx0 : ¬ a ^^^ b = 0 := fun q => by rw [if_pos q] at hbl2; omega
    rw [if_neg hx0] at hbl2
    have e3 : min w (64 - (blen s - 64)) = cmn w a b := by
      unfold cmn
      omega
    have e4 := mm_two (k := .i64) (a := w) (b := 64 - (blen s - 64))
    rw [e3] at e4
    simp (disch := omega) only [kB, kcx, kdm, kdn, kel, aop, resultsL, resultOf, Nat.reduceEqDiff, reduceCtorEq, eq1, apartOK, apart2, AObj.live, Int.reduceEq, Int.reduceLT, Int.reduceLE, Int.reduceAdd, Int.reduceSub, Int.reduceMul, Int.reduceToNat, cutCells, Nat.reduceAdd, Nat.reduceLeDiff, Nat.reduceLT, Nat.reduceMul, Nat.reduceSub, wr_i64, e4]
    exact ⟨_, rfl, ⟨_, rfl⟩, .closed rfl, h⟩


end Go.Proofs.YtkhkmgcegicmoaaDoor.Ev

/- Common bits, order and masks of two values: plain laws. -/
namespace Go.Proofs.YtkhkmgcegicmoaaDoor.Ev
set_option linter.unusedSimpArgs false
set_option linter.unusedVariables false

theorem topbit {z : Nat} (hz : z ≠ 0) : z.testBit (blen z - 1) = true := by
  have h1 := blen_pos hz
  cases hb : z.testBit (blen z - 1) with
  | true => rfl
  | false =>
    exfalso
    have h2 : z < 2 ^ (blen z - 1) := by
      refine Nat.lt_pow_two_of_testBit z fun i hi => ?_
      by_cases h : i = blen z - 1
      · rw [h]; exact hb
      · exact Nat.testBit_lt_two_pow (Nat.lt_of_lt_of_le (blen_le.1 (Nat.le_refl _)) (Nat.pow_le_pow_right (by decide) (by omega)))
    have := blen_le.2 h2
    omega

theorem split_bit (x j : Nat) : x >>> j = 2 * (x >>> (j + 1)) + (if x.testBit j = true then 1 else 0) := by
  rw [Nat.testBit_eq_decide_div_mod_eq, Nat.shiftRight_eq_div_pow, Nat.shiftRight_eq_div_pow, Nat.pow_succ, ← Nat.div_div_eq_div_mul]
  simp only [decide_eq_true_eq]
  split <;> omega

theorem lt_of_bit {a b j : Nat} (h : a >>> (j + 1) = b >>> (j + 1)) (ha : a.testBit j = false) (hb : b.testBit j = true) : a < b := by
  have h1 := split_bit a j
  have h2 := split_bit b j
  rw [ha] at h1
  rw [hb, ← h] at h2
  simp only [Bool.false_eq_true, if_false, if_true] at h1 h2
  have h3 : a / 2 ^ j < b / 2 ^ j := by
    rw [← Nat.shiftRight_eq_div_pow, ← Nat.shiftRight_eq_div_pow]; omega
  exact Nat.lt_of_div_lt_div h3

theorem cmn_le {w a b : Nat} : cmn w a b ≤ w := Nat.sub_le _ _
theorem xor_zero {a b : Nat} (h : a ^^^ b = 0) : a = b := by
  refine Nat.eq_of_testBit_eq fun i => ?_
  have : (a ^^^ b).testBit i = false := by rw [h]; simp
  rw [Nat.testBit_xor] at this
  revert this
  cases a.testBit i <;> cases b.testBit i <;> simp
theorem cmn_eq {w a b : Nat} (hw : 1 ≤ w) : cmn w a b = w ↔ a = b := by
  constructor
  · intro h
    refine xor_zero ?_
    by_cases hz : a ^^^ b = 0
    · exact hz
    · have := blen_pos hz
      unfold cmn at h
      omega
  · rintro rfl
    simp [cmn, blen_zero]

theorem cmn_high {w a b j : Nat} (ha : a < 2 ^ w) (hb : b < 2 ^ w) (h : w - cmn w a b ≤ j) : a.testBit j = b.testBit j := by
  have hx : a ^^^ b < 2 ^ w := Nat.xor_lt_two_pow ha hb
  have hl := blen_le.2 hx
  unfold cmn at h
  have h1 : (a ^^^ b).testBit j = false := Nat.testBit_lt_two_pow (Nat.lt_of_lt_of_le (blen_le.1 (Nat.le_refl _)) (Nat.pow_le_pow_right (by decide) (by omega)))
  rw [Nat.testBit_xor] at h1
  revert h1
  cases a.testBit j <;> cases b.testBit j <;> simp

theorem cmn_side {w a b : Nat} (ha : a < 2 ^ w) (hb : b < 2 ^ w) (h : cmn w a b < w) : a.testBit (w - 1 - cmn w a b) = !(b.testBit (w - 1 - cmn w a b)) ∧ a >>> (w - 1 - cmn w a b + 1) = b >>> (w - 1 - cmn w a b + 1) := by
  constructor
  · have hx : a ^^^ b < 2 ^ w := Nat.xor_lt_two_pow ha hb
    have hl := blen_le.2 hx
    have hz : a ^^^ b ≠ 0 := fun hz => by unfold cmn at h; rw [hz, blen_zero] at h; omega
    have hp := blen_pos hz
    have h1 := topbit hz
    have e : w - 1 - cmn w a b = blen (a ^^^ b) - 1 := by unfold cmn; omega
    rw [e]
    rw [Nat.testBit_xor] at h1
    revert h1
    cases a.testBit (blen (a ^^^ b) - 1) <;> cases b.testBit (blen (a ^^^ b) - 1) <;> simp
  · refine Nat.eq_of_testBit_eq fun i => ?_
    rw [Nat.testBit_shiftRight, Nat.testBit_shiftRight]
    exact cmn_high ha hb (by omega)

theorem cmn_lt {w a b : Nat} (ha : a < 2 ^ w) (hb : b < 2 ^ w) (h : cmn w a b < w) : if a.testBit (w - 1 - cmn w a b) = true then b < a else a < b := by
  obtain ⟨h1, h2⟩ := cmn_side ha hb h
  split
  · rename_i h3
    rw [h3] at h1
    exact lt_of_bit h2.symm (by revert h1; cases b.testBit (w - 1 - cmn w a b) <;> simp) h3
  · rename_i h3
    have h4 : a.testBit (w - 1 - cmn w a b) = false := by simpa using h3
    rw [h4] at h1
    exact lt_of_bit h2 h4 (by revert h1; cases b.testBit (w - 1 - cmn w a b) <;> simp)

theorem mask_same {w a b : Nat} (ha : a < 2 ^ w) (hb : b < 2 ^ w) : a &&& maskN w (cmn w a b) = b &&& maskN w (cmn w a b) := by
  refine Nat.eq_of_testBit_eq fun j => ?_
  rw [Nat.testBit_and, Nat.testBit_and]
  by_cases h : w - cmn w a b ≤ j
  · rw [cmn_high ha hb h]
  · have : (maskN w (cmn w a b)).testBit j = false := by
      unfold maskN shl
      rw [Nat.testBit_mod_two_pow, Nat.testBit_shiftLeft, decide_eq_false (show ¬ j ≥ w - cmn w a b by omega)]
      simp
    rw [this, Bool.and_false, Bool.and_false]

end Go.Proofs.YtkhkmgcegicmoaaDoor.Ev

/- Lists of 128 bits, the highest first: plain laws. -/
namespace Go.Proofs.YtkhkmgcegicmoaaDoor.Ev
set_option maxRecDepth 100000
set_option linter.unusedSimpArgs false
set_option linter.unusedVariables false

def bA (f : Nat → Bool) : List Value := (List.range 128).map fun j => .bool (f j)
theorem bA_len (f : Nat → Bool) : (bA f).length = 128 := by simp [bA]
theorem bA_get {f : Nat → Bool} {k : Nat} (h : k < 128) : (bA f)[k]? = some (.bool (f k)) := by simp [bA, h]
theorem bA_congr {f g : Nat → Bool} (h : ∀ j, j < 128 → f j = g j) : bA f = bA g :=
  List.map_congr_left fun j hj => by rw [h j (List.mem_range.1 hj)]
theorem bA_set (f : Nat → Bool) (k : Nat) (v : Bool) : (bA f).set k (.bool v) = bA (fun j => if j = k then v else f j) := by
  refine List.ext_getElem? fun i => ?_
  by_cases hi : i < 128
  · rw [bA_get hi]
    by_cases hk : k = i
    · subst hk
      rw [List.getElem?_set_self (by rw [bA_len]; exact hi), if_pos rfl]
    · rw [List.getElem?_set_ne hk, bA_get hi, if_neg (fun q => hk q.symm)]
  · rw [List.getElem?_eq_none (by rw [List.length_set, bA_len]; omega), List.getElem?_eq_none (by rw [bA_len]; omega)]
theorem bA_take (f : Nat → Bool) : (bA f).take 128 = bA f := List.take_of_length_le (by rw [bA_len]; omega)
theorem bA_one (f : Nat → Bool) : (bA f).all oneCell = true := by
  rw [List.all_eq_true]
  intro v hv
  simp only [bA, List.mem_map] at hv
  obtain ⟨j, _, rfl⟩ := hv
  rfl
theorem setL_all : ∀ (cs ds : List Value), cs.length = ds.length → setL cs 0 ds = ds := by
  have key : ∀ (ds pre cs : List Value), cs.length = ds.length → setL (pre ++ cs) pre.length ds = pre ++ ds := by
    intro ds
    induction ds with
    | nil => intro pre cs h; rw [List.length_eq_zero_iff.1 h, setL_nil]
    | cons d ds ih =>
      intro pre cs h
      match cs, h with
      | c :: cs, h =>
        rw [setL_cons]
        have e : (pre ++ c :: cs).set pre.length d = (pre ++ [d]) ++ cs := by simp
        have q := ih (pre ++ [d]) cs (by simpa using h)
        rw [List.length_append, List.length_singleton] at q
        rw [e, q, List.append_assoc]
        rfl
  intro cs ds h
  exact key ds [] cs h
theorem setL_bA (f g : Nat → Bool) : setL (bA f) 0 (bA g) = bA g := setL_all _ _ (by rw [bA_len, bA_len])

/-- No bit. -/
def fA : List Value := bA fun _ => false
set_option maxHeartbeats 2000000 in
theorem fA_eq : fA = [.bool false, .bool false, .bool false, .bool false, .bool false, .bool false, .bool false, .bool false, .bool false, .bool false, .bool false, .bool false, .bool false, .bool false, .bool false, .bool false, .bool false, .bool false, .bool false, .bool false, .bool false, .bool false, .bool false, .bool false, .bool false, .bool false, .bool false, .bool false, .bool false, .bool false, .bool false, .bool false, .bool false, .bool false, .bool false, .bool false, .bool false, .bool false, .bool false, .bool false, .bool false, .bool false, .bool false, .bool false, .bool false, .bool false, .bool false, .bool false, .bool false, .bool false, .bool false, .bool false, .bool false, .bool false, .bool false, .bool false, .bool false, .bool false, .bool false, .bool false, .bool false, .bool false, .bool false, .bool false, .bool false, .bool false, .bool false, .bool false, .bool false, .bool false, .bool false, .bool false, .bool false, .bool false, .bool false, .bool false, .bool false, .bool false, .bool false, .bool false, .bool false, .bool false, .bool false, .bool false, .bool false, .bool false, .bool false, .bool false, .bool false, .bool false, .bool false, .bool false, .bool false, .bool false, .bool false, .bool false, .bool false, .bool false, .bool false, .bool false, .bool false, .bool false, .bool false, .bool false, .bool false, .bool false, .bool false, .bool false, .bool false, .bool false, .bool false, .bool false, .bool false, .bool false, .bool false, .bool false, .bool false, .bool false, .bool false, .bool false, .bool false, .bool false, .bool false, .bool false, .bool false, .bool false, .bool false, .bool false] := by
  show (List.range 128).map (fun _ => Value.bool false) = _
  rw [List.map_const', List.length_range]
  rfl

/-- The number of a list's first bits. -/
def nb (f : Nat → Bool) : Nat → Nat
  | 0 => 0
  | n + 1 => 2 * nb f n + (if f n = true then 1 else 0)
theorem nb_lt (f : Nat → Bool) : ∀ n, nb f n < 2 ^ n
  | 0 => by simp [nb]
  | n + 1 => by
    have := nb_lt f n
    rw [nb, Nat.pow_succ]
    split <;> omega
theorem nb_testBit (f : Nat → Bool) : ∀ n k, (nb f n).testBit k = (decide (k < n) && f (n - 1 - k))
  | 0, k => by simp [nb]
  | n + 1, 0 => by
    rw [Nat.testBit_zero, nb]
    cases h : f n
    · simp [h]
    · simp [h]
  | n + 1, k + 1 => by
    have e : (nb f (n + 1)) / 2 = nb f n := by
      rw [nb]
      split <;> omega
    rw [Nat.testBit_succ, e, nb_testBit f n k]
    have e2 : n + 1 - 1 - (k + 1) = n - 1 - k := by omega
    rw [e2]
    congr 1
    simp
theorem nb_add (f : Nat → Bool) (m : Nat) : ∀ n, nb f (m + n) = nb f m * 2 ^ n + nb (fun i => f (m + i)) n
  | 0 => by simp [nb]
  | n + 1 => by
    rw [← Nat.add_assoc, nb, nb, nb_add f m n, Nat.pow_succ]
    split <;> (rw [Nat.mul_add]; have : 2 * (nb f m * 2 ^ n) = nb f m * (2 ^ n * 2) := by rw [Nat.mul_comm, Nat.mul_assoc]
               omega)
theorem nb_bits {a n : Nat} : nb (fun j => a.testBit (n - 1 - j)) n = a % 2 ^ n := by
  refine Nat.eq_of_testBit_eq fun k => ?_
  rw [nb_testBit, Nat.testBit_mod_two_pow]
  by_cases h : k < n
  · have e : n - 1 - (n - 1 - k) = k := by omega
    simp [h, e]
  · simp [h]
theorem nb_congr {f g : Nat → Bool} : ∀ {n : Nat}, (∀ j, j < n → f j = g j) → nb f n = nb g n
  | 0, _ => rfl
  | n + 1, h => by rw [nb, nb, nb_congr fun j hj => h j (by omega), h n (by omega)]

/-- A value's bits. -/
def bF (a : Nat) : Nat → Bool := fun j => a.testBit (127 - j)
theorem nb_bF {a : Nat} (h : a < 2 ^ 128) : nb (bF a) 128 = a := by
  have := nb_bits (a := a) (n := 128)
  rw [Nat.mod_eq_of_lt h] at this
  exact this
theorem nb_words (f : Nat → Bool) : nb f 128 / W64 = nb f 64 ∧ nb f 128 % W64 = nb (fun i => f (64 + i)) 64 := by
  have e := nb_add f 64 64
  have h := nb_lt (fun i => f (64 + i)) 64
  rw [show 64 + 64 = 128 from rfl] at e
  rw [e]
  exact ⟨by rw [W64, Nat.mul_comm, Nat.mul_add_div (by decide), Nat.div_eq_of_lt h, Nat.add_zero], by rw [W64, Nat.mul_comm, Nat.mul_add_mod, Nat.mod_eq_of_lt h]⟩
theorem bvA_nb (f : Nat → Bool) : bvA (nb f 128) = .agg #[.int .u64 ((nb f 64 : Nat) : Int), .int .u64 ((nb (fun i => f (64 + i)) 64 : Nat) : Int)] := by
  rw [bvA, (nb_words f).1, (nb_words f).2]

end Go.Proofs.YtkhkmgcegicmoaaDoor.Ev

/- The document's lists of 128 bits: laid out, and put together again. -/
namespace Go.Proofs.YtkhkmgcegicmoaaDoor.Ev
set_option maxRecDepth 100000
set_option linter.unusedSimpArgs false
set_option linter.unusedVariables false
variable {R : FRes → Heap → Prop} {H : Heap}

abbrev rowU (v : Nat) : AObj := .row [.int .u64 ((v / W64 : Nat) : Int), .int .u64 ((v % W64 : Nat) : Int)] 0 true
abbrev rowB (f : Nat → Bool) : AObj := .row (bA f) 0 true
abbrev arr (f : Nat → Bool) : Value := .agg (bA f).toArray

theorem bit_and {x i : Nat} (h : x < 18446744073709551616) : binV .and (.int .u64 ((x >>> i : Nat) : Int)) (.int .u64 1) = some (.int .u64 ((Bool.toNat (x.testBit i) : Nat) : Int)) := by
  have e5 := bin_and64 (a := x >>> i) (b := 1) (Nat.lt_of_le_of_lt (Nat.shiftRight_le _ _) h) (by decide)
  have e6 : ((1 : Nat) : Int) = 1 := rfl
  rw [e6] at e5
  rw [e5, Nat.and_one_is_mod, Nat.testBit_eq_decide_div_mod_eq, Nat.shiftRight_eq_div_pow]
  congr 3
  rcases Nat.mod_two_eq_zero_or_one (x / 2 ^ i) with q | q <;> rw [q] <;> rfl
theorem toNat_one (b : Bool) : decide (((Bool.toNat b : Nat) : Int) = 1) = b := by cases b <;> rfl
theorem hi_bit {a i : Nat} : (a / W64).testBit i = a.testBit (64 + i) := by
  rw [W64, Nat.testBit_div_two_pow, Nat.add_comm]
theorem lo_bit {a i : Nat} (h : i < 64) : (a % W64).testBit i = a.testBit i := by
  rw [W64, Nat.testBit_mod_two_pow]
  simp [h]

theorem fA_len : fA.length = 128 := bA_len _
theorem setL_fA (g : Nat → Bool) : setL fA 0 (bA g) = bA g := setL_bA _ g
theorem closed_arr (f : Nat → Bool) : closedV (arr f) = true := by
  show (bA f).toArray.toList.all closed1 = true
  rw [toList_mk, List.all_eq_true]
  intro v hv
  simp only [bA, List.mem_map] at hv
  obtain ⟨j, _, rfl⟩ := hv
  rfl

def layF (a i : Nat) : Nat → Bool := fun j => decide ((127 - j) % 64 < i) && a.testBit (127 - j)
theorem layF_zero {a : Nat} : bA (layF a 0) = fA := bA_congr fun j _ => by simp [layF]
theorem layF_all {a : Nat} : bA (layF a 64) = bA (bF a) := bA_congr fun j _ => by
  have : (127 - j) % 64 < 64 := Nat.mod_lt _ (by decide)
  simp [layF, bF, this]
theorem layF_step {a i : Nat} (h : i < 64) : ((bA (layF a i)).set (63 - i) (.bool (a.testBit (64 + i)))).set (127 - i) (.bool (a.testBit i)) = bA (layF a (i + 1)) := by
  rw [bA_set, bA_set]
  refine bA_congr fun j hj => ?_
  by_cases h1 : j = 127 - i
  · have e : 127 - j = i := by omega
    have e2 : i % 64 < i + 1 := by omega
    simp [h1, layF, e2, show 127 - (127 - i) = i by omega]
  · rw [if_neg h1]
    by_cases h2 : j = 63 - i
    · have e : 127 - j = 64 + i := by omega
      have e2 : (64 + i) % 64 < i + 1 := by omega
      have e3 : i % 64 < i + 1 := by omega
      simp [h2, layF, e2, e3, show 127 - (63 - i) = 64 + i by omega]
    · rw [if_neg h2]
      have e : ((127 - j) % 64 < i) ↔ ((127 - j) % 64 < i + 1) := by omega
      simp only [layF, e]

def layI (a b1 b2 b3 : Nat) (H : Heap) : Nat → Env → Heap → Prop := fun z e H' =>
  ∃ i : Nat, i ≤ 64 ∧ z = 64 - i ∧ H' = H ++ [rowU a, .row fA 0 true, rowB (layF a i)] ∧ (∃ x : Nat → Value, e = [x 0, .pointer (some ⟨b1, 0, none⟩), .pointer (some ⟨b2, 0, none⟩), .pointer (some ⟨b3, 0, none⟩), .int .i64 (i : Int), x 5, x 6, x 7, x 8, x 9, x 10, x 11, x 12, x 13, x 14, x 15, x 16, x 17, x 18, x 19, x 20, x 21, x 22, x 23, x 24, x 25, x 26, x 27, x 28, x 29])

theorem lay_s {a : Nat} (ha : a < 2 ^ 128) (h : R (.ret (arr (bF a))) H) : WD T 66 [bvA a] H R := by
  refine WD.gc0 (WD.of follows t66 (by simp) ?_)
  rw [← fA_eq]
  have h1 := hi_lt ha
  have h2 := lo_lt a
  simp (disch := omega) only [kB, kcx, kdm, kdn, kel, aop, resultsL, resultOf, Nat.reduceEqDiff, reduceCtorEq, eq1, apartOK, apart2, AObj.live, Int.reduceEq, Int.reduceLT, Int.reduceLE, Int.reduceAdd, Int.reduceSub, Int.reduceMul, Int.reduceToNat, cutCells, Nat.reduceAdd, Nat.reduceLeDiff, Nat.reduceLT, Nat.reduceMul, Nat.reduceSub]
  refine WLoop.inv (layI a H.length (H.length + 1) (H.length + 2) H) ?_ 64 _ _ ⟨0, by omega, rfl, by rw [rowB, layF_zero], by exact ex_env rfl⟩
  rintro z e H' ⟨i, hi, rfl, rfl, ⟨x, rfl⟩⟩
  by_cases hlt : i < 64
  · have c0 : (i : Int) < 64 := by omega
    have e1 : (63 : Int) - (i : Int) = ((63 - i : Nat) : Int) := by omega
    have e2 : (127 : Int) - (i : Int) = ((127 - i : Nat) : Int) := by omega
    have e3 := bin_shr64 (k' := .u64) (a := a / W64) (b := i) (by omega)
    have e4 := bin_shr64 (k' := .u64) (a := a % W64) (b := i) (by omega)
    have e5 := bit_and (i := i) h1
    have e6 := bit_and (i := i) h2
    rw [hi_bit] at e5
    rw [lo_bit hlt] at e6
    have e7 : (((63 - i : Nat)) : Int) < 128 := by omega
    have e8 : (((127 - i : Nat)) : Int) < 128 := by omega
    have e9 := layF_step (a := a) hlt
    simp (disch := omega) only [kB, kcx, kdm, kdn, kel, aop, resultsL, resultOf, Nat.reduceEqDiff, reduceCtorEq, eq1, apartOK, apart2, AObj.live, Int.reduceEq, Int.reduceLT, Int.reduceLE, Int.reduceAdd, Int.reduceSub, Int.reduceMul, Int.reduceToNat, cutCells, Nat.reduceAdd, Nat.reduceLeDiff, Nat.reduceLT, Nat.reduceMul, Nat.reduceSub, c0, wr_i64, wr_u64, e1, e2, e3, e4, e5, e6, toNat_one, if_pos, bA_len, e9]
    exact ⟨64 - (i + 1), by omega, i + 1, by omega, rfl, rfl, by exact ex_env rfl⟩
  · obtain rfl : i = 64 := by omega
    have c0 : ¬ ((64 : Nat) : Int) < 64 := by omega
    simp (disch := omega) only [kB, kcx, kdm, kdn, kel, aop, resultsL, resultOf, Nat.reduceEqDiff, reduceCtorEq, eq1, apartOK, apart2, AObj.live, Int.reduceEq, Int.reduceLT, Int.reduceLE, Int.reduceAdd, Int.reduceSub, Int.reduceMul, Int.reduceToNat, cutCells, Nat.reduceAdd, Nat.reduceLeDiff, Nat.reduceLT, Nat.reduceMul, Nat.reduceSub, c0, layF_all, if_pos, bA_len, fA_len, bA_take, setL_fA, bA_one]
    exact ⟨_, rfl, ⟨_, rfl⟩, .closed (closed_arr _), h⟩

def takI (f : Nat → Bool) (b1 b2 b3 : Nat) (H : Heap) : Nat → Env → Heap → Prop := fun z e H' =>
  ∃ i : Nat, i ≤ 64 ∧ z = 64 - i ∧ H' = H ++ [rowB f, .row [.int .u64 0, .int .u64 0] 0 true, .row [.int .u64 ((nb f i : Nat) : Int), .int .u64 ((nb (fun i => f (64 + i)) i : Nat) : Int)] 0 true] ∧
    (∃ x : Nat → Value, e = [x 0, .pointer (some ⟨b1, 0, none⟩), .pointer (some ⟨b2, 0, none⟩), .pointer (some ⟨b3, 0, none⟩), .int .i64 (i : Int), x 5, x 6, x 7, x 8, x 9, x 10, x 11, x 12, x 13, x 14, x 15, x 16, x 17, x 18, x 19, x 20, x 21, x 22, x 23, x 24, x 25, x 26, x 27, x 28, x 29, x 30, x 31, x 32, x 33])

theorem take_s {f : Nat → Bool} (h : R (.ret (bvA (nb f 128))) H) : WD T 65 [arr f] H R := by
  refine WD.gc0 (WD.of follows t65 (by simp) ?_)
  rw [bvA_nb] at h
  simp (disch := omega) only [kB, kcx, kdm, kdn, kel, aop, resultsL, resultOf, Nat.reduceEqDiff, reduceCtorEq, eq1, apartOK, apart2, AObj.live, Int.reduceEq, Int.reduceLT, Int.reduceLE, Int.reduceAdd, Int.reduceSub, Int.reduceMul, Int.reduceToNat, cutCells, Nat.reduceAdd, Nat.reduceLeDiff, Nat.reduceLT, Nat.reduceMul, Nat.reduceSub]
  refine WLoop.inv (takI f H.length (H.length + 1) (H.length + 2) H) ?_ 64 _ _ ⟨0, by omega, rfl, rfl, by exact ex_env rfl⟩
  rintro z e H' ⟨i, hi, rfl, rfl, ⟨x, rfl⟩⟩
  by_cases hlt : i < 64
  · have c0 : (i : Int) < 64 := by omega
    have c1 : (i : Int) < 128 := by omega
    have e1 : (64 : Int) + (i : Int) = ((64 + i : Nat) : Int) := by omega
    have c2 : ((64 + i : Nat) : Int) < 128 := by omega
    have n1 := nb_lt f i
    have n2 := nb_lt (fun i => f (64 + i)) i
    have n3 : 2 ^ i * 2 ≤ 2 ^ 64 := by rw [← Nat.pow_succ]; exact Nat.pow_le_pow_right (by decide) hlt
    have n4 : (2 : Nat) ^ 64 = 18446744073709551616 := rfl
    have m1 : ((nb f i : Nat) : Int) * 2 = ((2 * nb f i : Nat) : Int) := by omega
    have m2 : ((nb (fun i => f (64 + i)) i : Nat) : Int) * 2 = ((2 * nb (fun i => f (64 + i)) i : Nat) : Int) := by omega
    have g1 := bA_get (f := f) (k := i) (by omega)
    have g2 := bA_get (f := f) (k := 64 + i) (by omega)
    have s1 : nb f (i + 1) = 2 * nb f i + (if f i = true then 1 else 0) := rfl
    have s2 : nb (fun i => f (64 + i)) (i + 1) = 2 * nb (fun i => f (64 + i)) i + (if f (64 + i) = true then 1 else 0) := rfl
    cases q1 : f i <;> cases q2 : f (64 + i) <;> rw [q1] at g1 s1 <;> rw [q2] at g2 s2 <;>
      (simp (disch := omega) only [kB, kcx, kdm, kdn, kel, aop, resultsL, resultOf, Nat.reduceEqDiff, reduceCtorEq, eq1, apartOK, apart2, AObj.live, Int.reduceEq, Int.reduceLT, Int.reduceLE, Int.reduceAdd, Int.reduceSub, Int.reduceMul, Int.reduceToNat, cutCells, Nat.reduceAdd, Nat.reduceLeDiff, Nat.reduceLT, Nat.reduceMul, Nat.reduceSub, c0, c1, c2, wr_i64, wr_u64, e1, m1, m2, g1, g2, if_pos, bA_len]
       refine ⟨64 - (i + 1), by omega, i + 1, by omega, rfl, ?_, by exact ex_env rfl⟩
       rw [s1, s2]
       simp)
  · obtain rfl : i = 64 := by omega
    have c0 : ¬ ((64 : Nat) : Int) < 64 := by omega
    simp (disch := omega) only [kB, kcx, kdm, kdn, kel, aop, resultsL, resultOf, Nat.reduceEqDiff, reduceCtorEq, eq1, apartOK, apart2, AObj.live, Int.reduceEq, Int.reduceLT, Int.reduceLE, Int.reduceAdd, Int.reduceSub, Int.reduceMul, Int.reduceToNat, cutCells, Nat.reduceAdd, Nat.reduceLeDiff, Nat.reduceLT, Nat.reduceMul, Nat.reduceSub, c0]
    exact ⟨_, rfl, ⟨_, rfl⟩, .closed rfl, h⟩

end Go.Proofs.YtkhkmgcegicmoaaDoor.Ev

/- The program's functions over any width and any number. -/
namespace Go.Proofs.YtkhkmgcegicmoaaDoor.Ev
set_option maxRecDepth 100000
set_option linter.unusedSimpArgs false
set_option linter.unusedVariables false
variable {R : FRes → Heap → Prop} {H : Heap}

def cutI (a : Nat) (w : Int) : Nat := if isw w = true then a % 2 ^ w.toNat else 0
def fitsI (a : Nat) (w : Int) : Bool := isw w && decide (a < 2 ^ w.toNat)
def maskI (w n : Int) : Nat × Int := if isw w = true then (if n < 0 ∨ w < n then (0, 1) else (maskN w.toNat n.toNat, 0)) else (0, 10)
def bitI (a : Nat) (w i : Int) : Bool := if isw w = true ∧ 0 ≤ i ∧ i < w then a.testBit (w - 1 - i).toNat else false
def cmnI (a b : Nat) (w : Int) : Nat := if isw w = true then cmn w.toNat (a % 2 ^ w.toNat) (b % 2 ^ w.toNat) else 0
abbrev pairV (p : Nat × Int) : Value := .tuple #[bvA p.1, .int .i64 p.2]

theorem wcases (w : Int) : isw w = false ∨ ∃ k : Nat, w = k ∧ 1 ≤ k ∧ k ≤ 128 := by
  by_cases h1 : 1 ≤ w
  · by_cases h2 : w ≤ 128
    · exact .inr ⟨w.toNat, by omega, by omega, by omega⟩
    · exact .inl (by simp [isw, h2])
  · exact .inl (by simp [isw, h1])
theorem isw_nat {k : Nat} (h1 : 1 ≤ k) (h2 : k ≤ 128) : isw (k : Int) = true := by simp [isw]; omega
theorem bvA_zero : bvA 0 = .agg #[.int .u64 0, .int .u64 0] := rfl
theorem cutI_lt {a : Nat} {w : Int} : cutI a w < 2 ^ 128 := by
  unfold cutI
  rcases wcases w with hw | ⟨k, rfl, h1, h2⟩
  · rw [hw]; simp
  · rw [isw_nat h1 h2, if_pos rfl, Int.toNat_natCast]
    exact Nat.lt_of_lt_of_le (Nat.mod_lt _ (Nat.two_pow_pos _)) (Nat.pow_le_pow_right (by decide) h2)
theorem cutI_cut {a : Nat} {w : Int} : cutI (a % 2 ^ 128) w = cutI a w := by
  unfold cutI
  rcases wcases w with hw | ⟨k, rfl, h1, h2⟩
  · rw [hw]; simp
  · rw [isw_nat h1 h2, if_pos rfl, if_pos rfl, Int.toNat_natCast, mod_mod_pow h2]

theorem fits_g {a : Nat} {w : Int} (ha : a < 2 ^ 128) (h : R (.ret (.bool (fitsI a w))) H) : WD T 22 [bvA a, .int .i64 w] H R := by
  rcases wcases w with hw | ⟨k, rfl, h1, h2⟩
  · refine WD.gc0 (WD.of follows t22 (by simp) ?_)
    rw [fitsI, hw, Bool.false_and] at h
    simp (disch := omega) only [kB, kcx, kdm, kdn, kel, aop, resultsL, resultOf, Nat.reduceEqDiff, reduceCtorEq, eq1, apartOK, apart2, AObj.live, Int.reduceEq, Int.reduceLT, Int.reduceLE, Int.reduceAdd, Int.reduceSub, Int.reduceMul, Int.reduceToNat, cutCells, Nat.reduceAdd, Nat.reduceLeDiff, Nat.reduceLT, Nat.reduceMul, Nat.reduceSub]
    refine isw_s ?_
    simp (disch := omega) only [kB, kcx, kdm, kdn, kel, aop, resultsL, resultOf, Nat.reduceEqDiff, reduceCtorEq, eq1, apartOK, apart2, AObj.live, Int.reduceEq, Int.reduceLT, Int.reduceLE, Int.reduceAdd, Int.reduceSub, Int.reduceMul, Int.reduceToNat, cutCells, Nat.reduceAdd, Nat.reduceLeDiff, Nat.reduceLT, Nat.reduceMul, Nat.reduceSub, hw]
    exact ⟨_, rfl, ⟨_, rfl⟩, .closed rfl, h⟩
  · rw [fitsI, isw_nat h1 h2, Bool.true_and, Int.toNat_natCast] at h
    exact fits_s h1 h2 ha h

theorem cut_g {a : Nat} {w : Int} (ha : a < 2 ^ 128) (h : R (.ret (bvA (cutI a w))) H) : WD T 18 [bvA a, .int .i64 w] H R := by
  rcases wcases w with hw | ⟨k, rfl, h1, h2⟩
  · refine WD.gc0 (WD.of follows t18 (by simp) ?_)
    rw [cutI, hw, if_neg (by decide), bvA_zero] at h
    simp (disch := omega) only [kB, kcx, kdm, kdn, kel, aop, resultsL, resultOf, Nat.reduceEqDiff, reduceCtorEq, eq1, apartOK, apart2, AObj.live, Int.reduceEq, Int.reduceLT, Int.reduceLE, Int.reduceAdd, Int.reduceSub, Int.reduceMul, Int.reduceToNat, cutCells, Nat.reduceAdd, Nat.reduceLeDiff, Nat.reduceLT, Nat.reduceMul, Nat.reduceSub]
    refine isw_s ?_
    simp (disch := omega) only [kB, kcx, kdm, kdn, kel, aop, resultsL, resultOf, Nat.reduceEqDiff, reduceCtorEq, eq1, apartOK, apart2, AObj.live, Int.reduceEq, Int.reduceLT, Int.reduceLE, Int.reduceAdd, Int.reduceSub, Int.reduceMul, Int.reduceToNat, cutCells, Nat.reduceAdd, Nat.reduceLeDiff, Nat.reduceLT, Nat.reduceMul, Nat.reduceSub, hw]
    exact ⟨_, rfl, ⟨_, rfl⟩, .closed rfl, h⟩
  · rw [cutI, isw_nat h1 h2, if_pos rfl, Int.toNat_natCast] at h
    exact cut_s h1 h2 ha h

theorem add_g {a b : Nat} {w : Int} (ha : a < 2 ^ 128) (hb : b < 2 ^ 128) (h : R (.ret (bvA (cutI ((a + b) % 2 ^ 128) w))) H) : WD T 19 [bvA a, bvA b, .int .i64 w] H R := by
  refine WD.gc0 (WD.of follows t19 (by simp) ?_)
  have a1 := hi_lt ha
  have a2 := lo_lt a
  have b1 := hi_lt hb
  have b2 := lo_lt b
  simp (disch := omega) only [kB, kcx, kdm, kdn, kel, aop, resultsL, resultOf, Nat.reduceEqDiff, reduceCtorEq, eq1, apartOK, apart2, AObj.live, Int.reduceEq, Int.reduceLT, Int.reduceLE, Int.reduceAdd, Int.reduceSub, Int.reduceMul, Int.reduceToNat, cutCells, Nat.reduceAdd, Nat.reduceLeDiff, Nat.reduceLT, Nat.reduceMul, Nat.reduceSub]
  refine add64_s0 ?_
  simp (disch := omega) only [kB, kcx, kdm, kdn, kel, aop, resultsL, resultOf, Nat.reduceEqDiff, reduceCtorEq, eq1, apartOK, apart2, AObj.live, Int.reduceEq, Int.reduceLT, Int.reduceLE, Int.reduceAdd, Int.reduceSub, Int.reduceMul, Int.reduceToNat, cutCells, Nat.reduceAdd, Nat.reduceLeDiff, Nat.reduceLT, Nat.reduceMul, Nat.reduceSub]
  refine add64_s (by omega) ?_
  simp (disch := omega) only [kB, kcx, kdm, kdn, kel, aop, resultsL, resultOf, Nat.reduceEqDiff, reduceCtorEq, eq1, apartOK, apart2, AObj.live, Int.reduceEq, Int.reduceLT, Int.reduceLE, Int.reduceAdd, Int.reduceSub, Int.reduceMul, Int.reduceToNat, cutCells, Nat.reduceAdd, Nat.reduceLeDiff, Nat.reduceLT, Nat.reduceMul, Nat.reduceSub]
  have hs : (.agg #[.int .u64 (((a / W64 + b / W64 + (a % W64 + b % W64) / 18446744073709551616) % 18446744073709551616 : Nat) : Int), .int .u64 (((a % W64 + b % W64) % 18446744073709551616 : Nat) : Int)] : Value) = bvA ((a + b) % 2 ^ 128) := by
    rw [bvA_of (Nat.mod_lt _ (by decide))]
    congr 1
    simp only [W64_eq]
    show _ = (a + b) % 340282366920938463463374607431768211456
    omega
  rw [hs]
  refine cut_g (Nat.mod_lt _ (by decide)) ?_
  simp (disch := omega) only [kB, kcx, kdm, kdn, kel, aop, resultsL, resultOf, Nat.reduceEqDiff, reduceCtorEq, eq1, apartOK, apart2, AObj.live, Int.reduceEq, Int.reduceLT, Int.reduceLE, Int.reduceAdd, Int.reduceSub, Int.reduceMul, Int.reduceToNat, cutCells, Nat.reduceAdd, Nat.reduceLeDiff, Nat.reduceLT, Nat.reduceMul, Nat.reduceSub]
  exact ⟨_, rfl, ⟨_, rfl⟩, .closed rfl, h⟩

theorem sub_g {a b : Nat} {w : Int} (ha : a < 2 ^ 128) (hb : b < 2 ^ 128) (h : R (.ret (bvA (cutI ((a + 2 ^ 128 - b) % 2 ^ 128) w))) H) : WD T 21 [bvA a, bvA b, .int .i64 w] H R := by
  refine WD.gc0 (WD.of follows t21 (by simp) ?_)
  have a1 := hi_lt ha
  have a2 := lo_lt a
  have b1 := hi_lt hb
  have b2 := lo_lt b
  simp (disch := omega) only [kB, kcx, kdm, kdn, kel, aop, resultsL, resultOf, Nat.reduceEqDiff, reduceCtorEq, eq1, apartOK, apart2, AObj.live, Int.reduceEq, Int.reduceLT, Int.reduceLE, Int.reduceAdd, Int.reduceSub, Int.reduceMul, Int.reduceToNat, cutCells, Nat.reduceAdd, Nat.reduceLeDiff, Nat.reduceLT, Nat.reduceMul, Nat.reduceSub]
  refine sub64_s0 ?_
  simp (disch := omega) only [kB, kcx, kdm, kdn, kel, aop, resultsL, resultOf, Nat.reduceEqDiff, reduceCtorEq, eq1, apartOK, apart2, AObj.live, Int.reduceEq, Int.reduceLT, Int.reduceLE, Int.reduceAdd, Int.reduceSub, Int.reduceMul, Int.reduceToNat, cutCells, Nat.reduceAdd, Nat.reduceLeDiff, Nat.reduceLT, Nat.reduceMul, Nat.reduceSub]
  refine sub64_s (by split <;> omega) ?_
  simp (disch := omega) only [kB, kcx, kdm, kdn, kel, aop, resultsL, resultOf, Nat.reduceEqDiff, reduceCtorEq, eq1, apartOK, apart2, AObj.live, Int.reduceEq, Int.reduceLT, Int.reduceLE, Int.reduceAdd, Int.reduceSub, Int.reduceMul, Int.reduceToNat, cutCells, Nat.reduceAdd, Nat.reduceLeDiff, Nat.reduceLT, Nat.reduceMul, Nat.reduceSub]
  have hs : ∀ c : Nat, (a % W64 < b % W64 → c = 1) → (¬ a % W64 < b % W64 → c = 0) →
      (.agg #[.int .u64 (((a / W64 + 18446744073709551616 - b / W64 - c) % 18446744073709551616 : Nat) : Int), .int .u64 (((a % W64 + 18446744073709551616 - b % W64) % 18446744073709551616 : Nat) : Int)] : Value) = bvA ((a + 2 ^ 128 - b) % 2 ^ 128) := by
    intro c hc1 hc0
    rw [bvA_of (Nat.mod_lt _ (by decide))]
    congr 1
    simp only [W64_eq] at a1 a2 b1 b2 hc1 hc0 ⊢
    have ha' : a < 340282366920938463463374607431768211456 := ha
    have hb' : b < 340282366920938463463374607431768211456 := hb
    show _ = (a + 340282366920938463463374607431768211456 - b) % 340282366920938463463374607431768211456
    by_cases hlt : a % 18446744073709551616 < b % 18446744073709551616
    · rw [hc1 hlt]; omega
    · rw [hc0 hlt]; omega
  rw [hs _ (fun h => if_pos h) (fun h => if_neg h)]
  refine cut_g (Nat.mod_lt _ (by decide)) ?_
  simp (disch := omega) only [kB, kcx, kdm, kdn, kel, aop, resultsL, resultOf, Nat.reduceEqDiff, reduceCtorEq, eq1, apartOK, apart2, AObj.live, Int.reduceEq, Int.reduceLT, Int.reduceLE, Int.reduceAdd, Int.reduceSub, Int.reduceMul, Int.reduceToNat, cutCells, Nat.reduceAdd, Nat.reduceLeDiff, Nat.reduceLT, Nat.reduceMul, Nat.reduceSub]
  exact ⟨_, rfl, ⟨_, rfl⟩, .closed rfl, h⟩

theorem mask_g {w n : Int} (h : R (.ret (pairV (maskI w n))) H) : WD T 24 [.int .i64 w, .int .i64 n] H R := by
  rcases wcases w with hw | ⟨k, rfl, h1, h2⟩
  · refine WD.gc0 (WD.of follows t24 (by simp) ?_)
    rw [maskI, hw, if_neg (by decide)] at h
    simp (disch := omega) only [kB, kcx, kdm, kdn, kel, aop, resultsL, resultOf, Nat.reduceEqDiff, reduceCtorEq, eq1, apartOK, apart2, AObj.live, Int.reduceEq, Int.reduceLT, Int.reduceLE, Int.reduceAdd, Int.reduceSub, Int.reduceMul, Int.reduceToNat, cutCells, Nat.reduceAdd, Nat.reduceLeDiff, Nat.reduceLT, Nat.reduceMul, Nat.reduceSub]
    refine isw_s ?_
    simp (disch := omega) only [kB, kcx, kdm, kdn, kel, aop, resultsL, resultOf, Nat.reduceEqDiff, reduceCtorEq, eq1, apartOK, apart2, AObj.live, Int.reduceEq, Int.reduceLT, Int.reduceLE, Int.reduceAdd, Int.reduceSub, Int.reduceMul, Int.reduceToNat, cutCells, Nat.reduceAdd, Nat.reduceLeDiff, Nat.reduceLT, Nat.reduceMul, Nat.reduceSub, hw]
    exact ⟨_, rfl, ⟨_, rfl⟩, .tup2 (.closed rfl) (.closed rfl), h⟩
  · have hw := isw_nat h1 h2
    rw [maskI, hw, if_pos rfl] at h
    by_cases c1 : n < 0
    · refine WD.gc0 (WD.of follows t24 (by simp) ?_)
      rw [if_pos (.inl c1)] at h
      simp (disch := omega) only [kB, kcx, kdm, kdn, kel, aop, resultsL, resultOf, Nat.reduceEqDiff, reduceCtorEq, eq1, apartOK, apart2, AObj.live, Int.reduceEq, Int.reduceLT, Int.reduceLE, Int.reduceAdd, Int.reduceSub, Int.reduceMul, Int.reduceToNat, cutCells, Nat.reduceAdd, Nat.reduceLeDiff, Nat.reduceLT, Nat.reduceMul, Nat.reduceSub]
      refine isw_s ?_
      simp (disch := omega) only [kB, kcx, kdm, kdn, kel, aop, resultsL, resultOf, Nat.reduceEqDiff, reduceCtorEq, eq1, apartOK, apart2, AObj.live, Int.reduceEq, Int.reduceLT, Int.reduceLE, Int.reduceAdd, Int.reduceSub, Int.reduceMul, Int.reduceToNat, cutCells, Nat.reduceAdd, Nat.reduceLeDiff, Nat.reduceLT, Nat.reduceMul, Nat.reduceSub, hw, c1]
      exact ⟨_, rfl, ⟨_, rfl⟩, .tup2 (.closed rfl) (.closed rfl), h⟩
    · by_cases c2 : (k : Int) < n
      · refine WD.gc0 (WD.of follows t24 (by simp) ?_)
        rw [if_pos (.inr c2)] at h
        simp (disch := omega) only [kB, kcx, kdm, kdn, kel, aop, resultsL, resultOf, Nat.reduceEqDiff, reduceCtorEq, eq1, apartOK, apart2, AObj.live, Int.reduceEq, Int.reduceLT, Int.reduceLE, Int.reduceAdd, Int.reduceSub, Int.reduceMul, Int.reduceToNat, cutCells, Nat.reduceAdd, Nat.reduceLeDiff, Nat.reduceLT, Nat.reduceMul, Nat.reduceSub]
        refine isw_s ?_
        simp (disch := omega) only [kB, kcx, kdm, kdn, kel, aop, resultsL, resultOf, Nat.reduceEqDiff, reduceCtorEq, eq1, apartOK, apart2, AObj.live, Int.reduceEq, Int.reduceLT, Int.reduceLE, Int.reduceAdd, Int.reduceSub, Int.reduceMul, Int.reduceToNat, cutCells, Nat.reduceAdd, Nat.reduceLeDiff, Nat.reduceLT, Nat.reduceMul, Nat.reduceSub, hw, c1, c2]
        exact ⟨_, rfl, ⟨_, rfl⟩, .tup2 (.closed rfl) (.closed rfl), h⟩
      · obtain ⟨m, rfl⟩ : ∃ m : Nat, n = m := ⟨n.toNat, by omega⟩
        rw [if_neg (by omega), Int.toNat_natCast, Int.toNat_natCast] at h
        exact mask_s h1 h2 (by omega) h

theorem most_g {w : Int} (h : R (.ret (pairV (maskI w w))) H) : WD T 27 [.int .i64 w] H R := by
  refine WD.gc0 (WD.of follows t27 (by simp) ?_)
  simp (disch := omega) only [kB, kcx, kdm, kdn, kel, aop, resultsL, resultOf, Nat.reduceEqDiff, reduceCtorEq, eq1, apartOK, apart2, AObj.live, Int.reduceEq, Int.reduceLT, Int.reduceLE, Int.reduceAdd, Int.reduceSub, Int.reduceMul, Int.reduceToNat, cutCells, Nat.reduceAdd, Nat.reduceLeDiff, Nat.reduceLT, Nat.reduceMul, Nat.reduceSub]
  refine mask_g ?_
  simp (disch := omega) only [kB, kcx, kdm, kdn, kel, aop, resultsL, resultOf, Nat.reduceEqDiff, reduceCtorEq, eq1, apartOK, apart2, AObj.live, Int.reduceEq, Int.reduceLT, Int.reduceLE, Int.reduceAdd, Int.reduceSub, Int.reduceMul, Int.reduceToNat, cutCells, Nat.reduceAdd, Nat.reduceLeDiff, Nat.reduceLT, Nat.reduceMul, Nat.reduceSub]
  exact ⟨_, rfl, ⟨_, rfl⟩, .tup2 (.closed rfl) (.closed rfl), h⟩

theorem bit_g {a : Nat} {w i : Int} (ha : a < 2 ^ 128) (h : R (.ret (.bool (bitI a w i))) H) : WD T 20 [bvA a, .int .i64 w, .int .i64 i] H R := by
  rcases wcases w with hw | ⟨k, rfl, h1, h2⟩
  · refine WD.gc0 (WD.of follows t20 (by simp) ?_)
    rw [bitI, hw, if_neg (by simp)] at h
    simp (disch := omega) only [kB, kcx, kdm, kdn, kel, aop, resultsL, resultOf, Nat.reduceEqDiff, reduceCtorEq, eq1, apartOK, apart2, AObj.live, Int.reduceEq, Int.reduceLT, Int.reduceLE, Int.reduceAdd, Int.reduceSub, Int.reduceMul, Int.reduceToNat, cutCells, Nat.reduceAdd, Nat.reduceLeDiff, Nat.reduceLT, Nat.reduceMul, Nat.reduceSub]
    refine isw_s ?_
    simp (disch := omega) only [kB, kcx, kdm, kdn, kel, aop, resultsL, resultOf, Nat.reduceEqDiff, reduceCtorEq, eq1, apartOK, apart2, AObj.live, Int.reduceEq, Int.reduceLT, Int.reduceLE, Int.reduceAdd, Int.reduceSub, Int.reduceMul, Int.reduceToNat, cutCells, Nat.reduceAdd, Nat.reduceLeDiff, Nat.reduceLT, Nat.reduceMul, Nat.reduceSub, hw]
    exact ⟨_, rfl, ⟨_, rfl⟩, .closed rfl, h⟩
  · have hw := isw_nat h1 h2
    by_cases c1 : i < 0
    · refine WD.gc0 (WD.of follows t20 (by simp) ?_)
      rw [bitI, hw, if_neg (by omega)] at h
      simp (disch := omega) only [kB, kcx, kdm, kdn, kel, aop, resultsL, resultOf, Nat.reduceEqDiff, reduceCtorEq, eq1, apartOK, apart2, AObj.live, Int.reduceEq, Int.reduceLT, Int.reduceLE, Int.reduceAdd, Int.reduceSub, Int.reduceMul, Int.reduceToNat, cutCells, Nat.reduceAdd, Nat.reduceLeDiff, Nat.reduceLT, Nat.reduceMul, Nat.reduceSub]
      refine isw_s ?_
      simp (disch := omega) only [kB, kcx, kdm, kdn, kel, aop, resultsL, resultOf, Nat.reduceEqDiff, reduceCtorEq, eq1, apartOK, apart2, AObj.live, Int.reduceEq, Int.reduceLT, Int.reduceLE, Int.reduceAdd, Int.reduceSub, Int.reduceMul, Int.reduceToNat, cutCells, Nat.reduceAdd, Nat.reduceLeDiff, Nat.reduceLT, Nat.reduceMul, Nat.reduceSub, hw, c1]
      exact ⟨_, rfl, ⟨_, rfl⟩, .closed rfl, h⟩
    · by_cases c2 : (k : Int) ≤ i
      · refine WD.gc0 (WD.of follows t20 (by simp) ?_)
        rw [bitI, hw, if_neg (by omega)] at h
        simp (disch := omega) only [kB, kcx, kdm, kdn, kel, aop, resultsL, resultOf, Nat.reduceEqDiff, reduceCtorEq, eq1, apartOK, apart2, AObj.live, Int.reduceEq, Int.reduceLT, Int.reduceLE, Int.reduceAdd, Int.reduceSub, Int.reduceMul, Int.reduceToNat, cutCells, Nat.reduceAdd, Nat.reduceLeDiff, Nat.reduceLT, Nat.reduceMul, Nat.reduceSub]
        refine isw_s ?_
        simp (disch := omega) only [kB, kcx, kdm, kdn, kel, aop, resultsL, resultOf, Nat.reduceEqDiff, reduceCtorEq, eq1, apartOK, apart2, AObj.live, Int.reduceEq, Int.reduceLT, Int.reduceLE, Int.reduceAdd, Int.reduceSub, Int.reduceMul, Int.reduceToNat, cutCells, Nat.reduceAdd, Nat.reduceLeDiff, Nat.reduceLT, Nat.reduceMul, Nat.reduceSub, hw, c1, c2]
        exact ⟨_, rfl, ⟨_, rfl⟩, .closed rfl, h⟩
      · obtain ⟨m, rfl⟩ : ∃ m : Nat, i = m := ⟨i.toNat, by omega⟩
        rw [bitI, hw, if_pos ⟨rfl, by omega, by omega⟩, show ((k : Int) - 1 - (m : Int)).toNat = k - 1 - m by omega] at h
        exact bit_s h1 h2 (by omega) ha h

theorem common_g {a b : Nat} {w : Int} (ha : a < 2 ^ 128) (hb : b < 2 ^ 128) (h : R (.ret (.int .i64 (cmnI a b w : Nat))) H) : WD T 23 [bvA a, bvA b, .int .i64 w] H R := by
  rcases wcases w with hw | ⟨k, rfl, h1, h2⟩
  · refine WD.gc0 (WD.of follows t23 (by simp) ?_)
    rw [cmnI, hw, if_neg (by decide)] at h
    simp (disch := omega) only [kB, kcx, kdm, kdn, kel, aop, resultsL, resultOf, Nat.reduceEqDiff, reduceCtorEq, eq1, apartOK, apart2, AObj.live, Int.reduceEq, Int.reduceLT, Int.reduceLE, Int.reduceAdd, Int.reduceSub, Int.reduceMul, Int.reduceToNat, cutCells, Nat.reduceAdd, Nat.reduceLeDiff, Nat.reduceLT, Nat.reduceMul, Nat.reduceSub]
    refine isw_s ?_
    simp (disch := omega) only [kB, kcx, kdm, kdn, kel, aop, resultsL, resultOf, Nat.reduceEqDiff, reduceCtorEq, eq1, apartOK, apart2, AObj.live, Int.reduceEq, Int.reduceLT, Int.reduceLE, Int.reduceAdd, Int.reduceSub, Int.reduceMul, Int.reduceToNat, cutCells, Nat.reduceAdd, Nat.reduceLeDiff, Nat.reduceLT, Nat.reduceMul, Nat.reduceSub, hw]
    exact ⟨_, rfl, ⟨_, rfl⟩, .closed rfl, h⟩
  · rw [cmnI, isw_nat h1 h2, if_pos rfl, Int.toNat_natCast] at h
    exact commonc_s h1 h2 ha hb h

theorem or_hi {v w : Nat} : (v ||| w) / W64 = (v / W64) ||| (w / W64) := by
  refine Nat.eq_of_testBit_eq fun i => ?_
  simp only [W64, Nat.testBit_div_two_pow, Nat.testBit_or]
theorem or_lo {v w : Nat} : (v ||| w) % W64 = (v % W64) ||| (w % W64) := by
  refine Nat.eq_of_testBit_eq fun i => ?_
  simp only [W64, Nat.testBit_mod_two_pow, Nat.testBit_or]
  cases decide (i < 64) <;> simp
theorem bor_s {v w : Nat} (hv : v < 2 ^ 128) (hw : w < 2 ^ 128) (h : R (.ret (bvA (v ||| w))) H) : WD T 31 [bvA v, bvA w] H R := by
  refine WD.gc0 (WD.of follows t31 (by simp) ?_)
  have e1 := bin_or64 (hi_lt hv) (hi_lt hw)
  have e2 := bin_or64 (lo_lt v) (lo_lt w)
  rw [bvA, or_hi, or_lo] at h
  simp (disch := omega) only [kB, kcx, kdm, kdn, kel, aop, resultsL, resultOf, Nat.reduceEqDiff, reduceCtorEq, eq1, apartOK, apart2, AObj.live, Int.reduceEq, Int.reduceLT, Int.reduceLE, Int.reduceAdd, Int.reduceSub, Int.reduceMul, Int.reduceToNat, cutCells, Nat.reduceAdd, Nat.reduceLeDiff, Nat.reduceLT, Nat.reduceMul, Nat.reduceSub, e1, e2]
  exact ⟨_, rfl, ⟨_, rfl⟩, .closed rfl, h⟩

end Go.Proofs.YtkhkmgcegicmoaaDoor.Ev

/- The document's functions over values: width, cut, sum, difference. -/
namespace Go.Proofs.YtkhkmgcegicmoaaDoor.Ev
set_option maxRecDepth 100000
set_option linter.unusedSimpArgs false
set_option linter.unusedVariables false
variable {R : FRes → Heap → Prop} {H : Heap}

theorem rwidth_s {w : Int} (h : R (.ret (.bool (isw w))) H) : WD T 45 [.int .i64 w] H R := by
  refine WD.gc0 (WD.of follows t45 (by simp) ?_)
  unfold isw at h
  by_cases h1 : 1 ≤ w
  · by_cases h2 : w ≤ 128
    · simp (disch := omega) only [kB, kcx, kdm, kdn, kel, aop, resultsL, resultOf, Nat.reduceEqDiff, reduceCtorEq, eq1, apartOK, apart2, AObj.live, Int.reduceEq, Int.reduceLT, Int.reduceLE, Int.reduceAdd, Int.reduceSub, Int.reduceMul, Int.reduceToNat, cutCells, Nat.reduceAdd, Nat.reduceLeDiff, Nat.reduceLT, Nat.reduceMul, Nat.reduceSub, h1, h2]
      simp only [h1, h2, decide_true, Bool.and_self] at h
      exact ⟨_, rfl, ⟨[], (List.append_nil _).symm⟩, .closed rfl, h⟩
    · simp (disch := omega) only [kB, kcx, kdm, kdn, kel, aop, resultsL, resultOf, Nat.reduceEqDiff, reduceCtorEq, eq1, apartOK, apart2, AObj.live, Int.reduceEq, Int.reduceLT, Int.reduceLE, Int.reduceAdd, Int.reduceSub, Int.reduceMul, Int.reduceToNat, cutCells, Nat.reduceAdd, Nat.reduceLeDiff, Nat.reduceLT, Nat.reduceMul, Nat.reduceSub, h1, h2]
      simp only [h1, h2, decide_true, decide_false, Bool.and_false] at h
      exact ⟨_, rfl, ⟨[], (List.append_nil _).symm⟩, .closed rfl, h⟩
  · simp (disch := omega) only [kB, kcx, kdm, kdn, kel, aop, resultsL, resultOf, Nat.reduceEqDiff, reduceCtorEq, eq1, apartOK, apart2, AObj.live, Int.reduceEq, Int.reduceLT, Int.reduceLE, Int.reduceAdd, Int.reduceSub, Int.reduceMul, Int.reduceToNat, cutCells, Nat.reduceAdd, Nat.reduceLeDiff, Nat.reduceLT, Nat.reduceMul, Nat.reduceSub, h1]
    simp only [h1, decide_false, Bool.false_and] at h
    exact ⟨_, rfl, ⟨[], (List.append_nil _).symm⟩, .closed rfl, h⟩

def cutF (a i : Nat) : Nat → Bool := fun j => decide (i ≤ j) && bF a j
theorem cutF_zero {a : Nat} : bA (bF a) = bA (cutF a 0) := bA_congr fun j _ => by simp [cutF]
theorem cutF_step {a i : Nat} : (bA (cutF a i)).set i (.bool false) = bA (cutF a (i + 1)) := by
  rw [bA_set]
  refine bA_congr fun j _ => ?_
  by_cases h : j = i
  · have e2 : ¬ i + 1 ≤ i := by omega
    simp [h, cutF, e2]
  · have e : (i ≤ j) ↔ (i + 1 ≤ j) := by omega
    simp only [if_neg h, cutF, e]
theorem cutF_all {a k : Nat} (h : k ≤ 128) : nb (cutF a (128 - k)) 128 = a % 2 ^ k := by
  refine Nat.eq_of_testBit_eq fun j => ?_
  rw [nb_testBit, Nat.testBit_mod_two_pow, cutF, bF]
  by_cases h1 : j < 128
  · have e : 127 - (128 - 1 - j) = j := by omega
    have e2 : (128 - k ≤ 128 - 1 - j) ↔ j < k := by omega
    simp only [h1, decide_true, Bool.true_and, e, e2]
  · have e : ¬ j < k := by omega
    simp [h1, e]

def rcutI (a k b4 b5 : Nat) (K : Heap) : Nat → Env → Heap → Prop := fun z e H' =>
  ∃ i : Nat, i ≤ 128 - k ∧ z = 128 - k - i ∧ H' = K ++ [rowU a, rowU 0, rowB (cutF a i)] ∧ (∃ x : Nat → Value, e = [x 0, .int .i64 (k : Int), x 2, x 3, .pointer (some ⟨b4, 0, none⟩), .pointer (some ⟨b5, 0, none⟩), .int .i64 (i : Int), x 7, x 8, x 9, x 10, x 11, x 12, x 13, x 14, x 15, x 16, x 17, x 18, x 19, x 20, x 21, x 22])

theorem rcut_s {a : Nat} {w : Int} (ha : a < 2 ^ 128) (h : R (.ret (bvA (cutI a w))) H) : WD T 37 [bvA a, .int .i64 w] H R := by
  refine WD.gc0 (WD.of follows t37 (by simp) ?_)
  rw [← fA_eq]
  rcases wcases w with hw | ⟨k, rfl, h1, h2⟩
  · rw [cutI, hw, if_neg (by decide), bvA_zero] at h
    simp (disch := omega) only [kB, kcx, kdm, kdn, kel, aop, resultsL, resultOf, Nat.reduceEqDiff, reduceCtorEq, eq1, apartOK, apart2, AObj.live, Int.reduceEq, Int.reduceLT, Int.reduceLE, Int.reduceAdd, Int.reduceSub, Int.reduceMul, Int.reduceToNat, cutCells, Nat.reduceAdd, Nat.reduceLeDiff, Nat.reduceLT, Nat.reduceMul, Nat.reduceSub]
    refine rwidth_s ?_
    simp (disch := omega) only [kB, kcx, kdm, kdn, kel, aop, resultsL, resultOf, Nat.reduceEqDiff, reduceCtorEq, eq1, apartOK, apart2, AObj.live, Int.reduceEq, Int.reduceLT, Int.reduceLE, Int.reduceAdd, Int.reduceSub, Int.reduceMul, Int.reduceToNat, cutCells, Nat.reduceAdd, Nat.reduceLeDiff, Nat.reduceLT, Nat.reduceMul, Nat.reduceSub, hw]
    exact ⟨_, rfl, ⟨_, rfl⟩, .closed rfl, h⟩
  · have hw := isw_nat h1 h2
    rw [cutI, hw, if_pos rfl, Int.toNat_natCast] at h
    simp (disch := omega) only [kB, kcx, kdm, kdn, kel, aop, resultsL, resultOf, Nat.reduceEqDiff, reduceCtorEq, eq1, apartOK, apart2, AObj.live, Int.reduceEq, Int.reduceLT, Int.reduceLE, Int.reduceAdd, Int.reduceSub, Int.reduceMul, Int.reduceToNat, cutCells, Nat.reduceAdd, Nat.reduceLeDiff, Nat.reduceLT, Nat.reduceMul, Nat.reduceSub]
    refine rwidth_s ?_
    simp (disch := omega) only [kB, kcx, kdm, kdn, kel, aop, resultsL, resultOf, Nat.reduceEqDiff, reduceCtorEq, eq1, apartOK, apart2, AObj.live, Int.reduceEq, Int.reduceLT, Int.reduceLE, Int.reduceAdd, Int.reduceSub, Int.reduceMul, Int.reduceToNat, cutCells, Nat.reduceAdd, Nat.reduceLeDiff, Nat.reduceLT, Nat.reduceMul, Nat.reduceSub, hw]
    refine lay_s ha ?_
    simp (disch := omega) only [kB, kcx, kdm, kdn, kel, aop, resultsL, resultOf, Nat.reduceEqDiff, reduceCtorEq, eq1, apartOK, apart2, AObj.live, Int.reduceEq, Int.reduceLT, Int.reduceLE, Int.reduceAdd, Int.reduceSub, Int.reduceMul, Int.reduceToNat, cutCells, Nat.reduceAdd, Nat.reduceLeDiff, Nat.reduceLT, Nat.reduceMul, Nat.reduceSub, bA_len, fA_len, bA_one, setL_fA]
    refine WLoop.inv (rcutI a k (H.length + 1) (H.length + 2) H) ?_ (128 - k) _ _ ⟨0, by omega, by omega, by rw [cutF_zero]; rfl, by exact ex_env rfl⟩
    rintro z e H' ⟨i, hi, rfl, rfl, ⟨x, rfl⟩⟩
    have e0 : (128 : Int) - (k : Int) = ((128 - k : Nat) : Int) := by omega
    by_cases hlt : i < 128 - k
    · have c0 : (i : Int) < ((128 - k : Nat) : Int) := by omega
      have c1 : (i : Int) < 128 := by omega
      simp (disch := omega) only [kB, kcx, kdm, kdn, kel, aop, resultsL, resultOf, Nat.reduceEqDiff, reduceCtorEq, eq1, apartOK, apart2, AObj.live, Int.reduceEq, Int.reduceLT, Int.reduceLE, Int.reduceAdd, Int.reduceSub, Int.reduceMul, Int.reduceToNat, cutCells, Nat.reduceAdd, Nat.reduceLeDiff, Nat.reduceLT, Nat.reduceMul, Nat.reduceSub, c0, c1, wr_i64, e0, if_pos, bA_len, cutF_step]
      exact ⟨128 - k - (i + 1), by omega, i + 1, by omega, rfl, rfl, by exact ex_env rfl⟩
    · obtain rfl : i = 128 - k := by omega
      have c0 : ¬ ((128 - k : Nat) : Int) < ((128 - k : Nat) : Int) := by omega
      simp (disch := omega) only [kB, kcx, kdm, kdn, kel, aop, resultsL, resultOf, Nat.reduceEqDiff, reduceCtorEq, eq1, apartOK, apart2, AObj.live, Int.reduceEq, Int.reduceLT, Int.reduceLE, Int.reduceAdd, Int.reduceSub, Int.reduceMul, Int.reduceToNat, cutCells, Nat.reduceAdd, Nat.reduceLeDiff, Nat.reduceLT, Nat.reduceMul, Nat.reduceSub, c0, wr_i64, e0, if_pos, bA_len, bA_take]
      refine take_s ?_
      rw [cutF_all h2]
      simp (disch := omega) only [kB, kcx, kdm, kdn, kel, aop, resultsL, resultOf, Nat.reduceEqDiff, reduceCtorEq, eq1, apartOK, apart2, AObj.live, Int.reduceEq, Int.reduceLT, Int.reduceLE, Int.reduceAdd, Int.reduceSub, Int.reduceMul, Int.reduceToNat, cutCells, Nat.reduceAdd, Nat.reduceLeDiff, Nat.reduceLT, Nat.reduceMul, Nat.reduceSub]
      exact ⟨_, rfl, ⟨_, rfl⟩, .closed rfl, h⟩

/-! The sum. -/
def sumF (c z : Nat) : Nat → Bool := fun j => decide (z ≤ j) && bF c j
theorem sumF_none {c : Nat} : bA (sumF c 128) = fA := bA_congr fun j hj => by
  have : ¬ 128 ≤ j := by omega
  simp [sumF, this]
theorem sumF_step {c q : Nat} {v : Bool} (h : v = c.testBit (127 - q)) : (bA (sumF c (q + 1))).set q (.bool v) = bA (sumF c q) := by
  rw [bA_set]
  refine bA_congr fun j _ => ?_
  by_cases h1 : j = q
  · subst h1
    simp [sumF, h, bF]
  · have e : (q + 1 ≤ j) ↔ (q ≤ j) := by omega
    simp only [if_neg h1, sumF, e]
theorem sumF_all {c : Nat} : nb (sumF c 0) 128 = c % 2 ^ 128 := by
  rw [← nb_bits]
  exact nb_congr fun j hj => by simp [sumF, bF]

def raddI (a b : Nat) (w : Int) (b6 b7 b8 b9 : Nat) (K : Heap) : Nat → Env → Heap → Prop := fun z e H' =>
  z ≤ 128 ∧ H' = K ++ [rowU a, rowU b, rowU 0, rowB (bF a), rowB (bF b), rowB (sumF (a + b) z)] ∧
    (∃ x : Nat → Value, e = [x 0, x 1, .int .i64 w, x 3, x 4, x 5, .pointer (some ⟨b6, 0, none⟩), .pointer (some ⟨b7, 0, none⟩), .pointer (some ⟨b8, 0, none⟩), .pointer (some ⟨b9, 0, none⟩), .bool (carN a b (128 - z)), .int .i64 ((z : Int) - 1), x 12, x 13, x 14, x 15, x 16, x 17, x 18, x 19, x 20, x 21, x 22, x 23, x 24, x 25, x 26, x 27, x 28, x 29, x 30, x 31, x 32, x 33, x 34, x 35, x 36, x 37, x 38, x 39, x 40, x 41, x 42, x 43, x 44, x 45, x 46, x 47])

set_option maxHeartbeats 4000000 in
theorem radd_s {a b : Nat} {w : Int} (ha : a < 2 ^ 128) (hb : b < 2 ^ 128) (h : R (.ret (bvA (cutI ((a + b) % 2 ^ 128) w))) H) : WD T 38 [bvA a, bvA b, .int .i64 w] H R := by
  refine WD.gc0 (WD.of follows t38 (by simp) ?_)
  rw [← fA_eq]
  simp (disch := omega) only [kB, kcx, kdm, kdn, kel, aop, resultsL, resultOf, Nat.reduceEqDiff, reduceCtorEq, eq1, apartOK, apart2, AObj.live, Int.reduceEq, Int.reduceLT, Int.reduceLE, Int.reduceAdd, Int.reduceSub, Int.reduceMul, Int.reduceToNat, cutCells, Nat.reduceAdd, Nat.reduceLeDiff, Nat.reduceLT, Nat.reduceMul, Nat.reduceSub]
  refine lay_s ha ?_
  simp (disch := omega) only [kB, kcx, kdm, kdn, kel, aop, resultsL, resultOf, Nat.reduceEqDiff, reduceCtorEq, eq1, apartOK, apart2, AObj.live, Int.reduceEq, Int.reduceLT, Int.reduceLE, Int.reduceAdd, Int.reduceSub, Int.reduceMul, Int.reduceToNat, cutCells, Nat.reduceAdd, Nat.reduceLeDiff, Nat.reduceLT, Nat.reduceMul, Nat.reduceSub, bA_len, fA_len, bA_one, setL_fA]
  refine lay_s hb ?_
  simp (disch := omega) only [kB, kcx, kdm, kdn, kel, aop, resultsL, resultOf, Nat.reduceEqDiff, reduceCtorEq, eq1, apartOK, apart2, AObj.live, Int.reduceEq, Int.reduceLT, Int.reduceLE, Int.reduceAdd, Int.reduceSub, Int.reduceMul, Int.reduceToNat, cutCells, Nat.reduceAdd, Nat.reduceLeDiff, Nat.reduceLT, Nat.reduceMul, Nat.reduceSub, bA_len, fA_len, bA_one, setL_fA]
  refine WLoop.inv (raddI a b w (H.length + 2) (H.length + 3) (H.length + 4) (H.length + 5) H) ?_ 128 _ _ ⟨by omega, by rw [rowB, rowB, rowB, sumF_none]; rfl, by rw [Nat.sub_self, car_zero]; exact ex_env rfl⟩
  rintro z e H' ⟨hz, rfl, ⟨x, rfl⟩⟩
  cases z with
  | zero =>
    have c0 : ¬ (0 : Int) ≤ ((0 : Nat) : Int) - 1 := by omega
    simp (disch := omega) only [kB, kcx, kdm, kdn, kel, aop, resultsL, resultOf, Nat.reduceEqDiff, reduceCtorEq, eq1, apartOK, apart2, AObj.live, Int.reduceEq, Int.reduceLT, Int.reduceLE, Int.reduceAdd, Int.reduceSub, Int.reduceMul, Int.reduceToNat, cutCells, Nat.reduceAdd, Nat.reduceLeDiff, Nat.reduceLT, Nat.reduceMul, Nat.reduceSub, c0, if_pos, bA_len, bA_take]
    refine take_s ?_
    rw [sumF_all]
    simp (disch := omega) only [kB, kcx, kdm, kdn, kel, aop, resultsL, resultOf, Nat.reduceEqDiff, reduceCtorEq, eq1, apartOK, apart2, AObj.live, Int.reduceEq, Int.reduceLT, Int.reduceLE, Int.reduceAdd, Int.reduceSub, Int.reduceMul, Int.reduceToNat, cutCells, Nat.reduceAdd, Nat.reduceLeDiff, Nat.reduceLT, Nat.reduceMul, Nat.reduceSub]
    refine rcut_s (Nat.mod_lt _ (by decide)) ?_
    simp (disch := omega) only [kB, kcx, kdm, kdn, kel, aop, resultsL, resultOf, Nat.reduceEqDiff, reduceCtorEq, eq1, apartOK, apart2, AObj.live, Int.reduceEq, Int.reduceLT, Int.reduceLE, Int.reduceAdd, Int.reduceSub, Int.reduceMul, Int.reduceToNat, cutCells, Nat.reduceAdd, Nat.reduceLeDiff, Nat.reduceLT, Nat.reduceMul, Nat.reduceSub]
    exact ⟨_, rfl, ⟨_, rfl⟩, .closed rfl, h⟩
  | succ q =>
    have c0 : (0 : Int) ≤ ((q + 1 : Nat) : Int) - 1 := by omega
    have e1 : ((q + 1 : Nat) : Int) - 1 = (q : Int) := by omega
    have c1 : (q : Int) < 128 := by omega
    have g1 : (bA (bF a))[q]? = some (.bool (a.testBit (127 - q))) := bA_get (by omega)
    have g2 : (bA (bF b))[q]? = some (.bool (b.testBit (127 - q))) := bA_get (by omega)
    obtain ⟨d1, d2⟩ := car_bit (a := a) (b := b) (j := 127 - q)
    have e2 : 128 - (q + 1) = 127 - q := by omega
    have e3 : 128 - q = 127 - q + 1 := by omega
    have st : ∀ v, v = (a + b).testBit (127 - q) → (bA (sumF (a + b) (q + 1))).set q (.bool v) = bA (sumF (a + b) q) := fun v hv => sumF_step hv
    rw [e2]
    rw [← d1.symm] at st
    rw [← e3] at d2
    cases hx : a.testBit (127 - q) <;> cases hy : b.testBit (127 - q) <;> cases hc : carN a b (127 - q) <;> rw [hx, hy, hc] at d2 st <;> rw [hx] at g1 <;> rw [hy] at g2 <;>
      simp only [Bool.and_false, Bool.and_true, Bool.or_false, Bool.or_true, Bool.or_self, Bool.false_or, Bool.true_or, Bool.and_self, Bool.bne_true, Bool.bne_false, Bool.not_true, Bool.not_false] at d2 st <;>
      (have st' := st _ rfl
       simp (disch := omega) only [kB, kcx, kdm, kdn, kel, aop, resultsL, resultOf, Nat.reduceEqDiff, reduceCtorEq, eq1, apartOK, apart2, AObj.live, Int.reduceEq, Int.reduceLT, Int.reduceLE, Int.reduceAdd, Int.reduceSub, Int.reduceMul, Int.reduceToNat, cutCells, Nat.reduceAdd, Nat.reduceLeDiff, Nat.reduceLT, Nat.reduceMul, Nat.reduceSub, c0, c1, e1, wr_i64, g1, g2, if_pos, bA_len, st']
       refine ⟨q, by omega, by omega, rfl, ?_⟩
       rw [d2]
       exact ex_env rfl)

/-! The difference. -/
def notF (b i : Nat) : Nat → Bool := fun j => if j < i then !bF b j else bF b j
theorem notF_zero {b : Nat} : bA (notF b 0) = bA (bF b) := bA_congr fun j _ => by simp [notF]
theorem notF_step {b i : Nat} : (bA (notF b i)).set i (.bool !(b.testBit (127 - i))) = bA (notF b (i + 1)) := by
  rw [bA_set]
  refine bA_congr fun j _ => ?_
  by_cases h : j = i
  · simp [h, notF, bF]
  · have e : (j < i) ↔ (j < i + 1) := by omega
    simp only [if_neg h, notF, e]
theorem notF_all {b : Nat} (hb : b < 2 ^ 128) : nb (notF b 128) 128 = 2 ^ 128 - (b + 1) := by
  refine Nat.eq_of_testBit_eq fun k => ?_
  rw [Nat.testBit_two_pow_sub_succ hb, nb_testBit]
  by_cases h : k < 128
  · have e : 127 - (128 - 1 - k) = k := by omega
    have e2 : 128 - 1 - k < 128 := by omega
    simp only [h, notF, e2, if_true, bF, e]
  · simp [h]

def rsubI (a b : Nat) (w : Int) (b3 b6 b7 : Nat) (K : Heap) : Nat → Env → Heap → Prop := fun z e H' =>
  ∃ i : Nat, i ≤ 128 ∧ z = 128 - i ∧ H' = K ++ [rowU a, rowU b, rowU 0, rowB (notF b i)] ∧
    (∃ x : Nat → Value, e = [x 0, x 1, .int .i64 w, .pointer (some ⟨b3, 0, none⟩), x 4, x 5, .pointer (some ⟨b6, 0, none⟩), .pointer (some ⟨b7, 0, none⟩), .int .i64 (i : Int), x 9, x 10, x 11, x 12, x 13, x 14, x 15, x 16, x 17, x 18, x 19, x 20, x 21, x 22, x 23, x 24, x 25, x 26, x 27, x 28, x 29])

theorem rsub_s {a b : Nat} {w : Int} (ha : a < 2 ^ 128) (hb : b < 2 ^ 128) (h : R (.ret (bvA (cutI ((a + 2 ^ 128 - b) % 2 ^ 128) w))) H) : WD T 39 [bvA a, bvA b, .int .i64 w] H R := by
  refine WD.gc0 (WD.of follows t39 (by simp) ?_)
  rw [← fA_eq]
  simp (disch := omega) only [kB, kcx, kdm, kdn, kel, aop, resultsL, resultOf, Nat.reduceEqDiff, reduceCtorEq, eq1, apartOK, apart2, AObj.live, Int.reduceEq, Int.reduceLT, Int.reduceLE, Int.reduceAdd, Int.reduceSub, Int.reduceMul, Int.reduceToNat, cutCells, Nat.reduceAdd, Nat.reduceLeDiff, Nat.reduceLT, Nat.reduceMul, Nat.reduceSub]
  refine lay_s hb ?_
  simp (disch := omega) only [kB, kcx, kdm, kdn, kel, aop, resultsL, resultOf, Nat.reduceEqDiff, reduceCtorEq, eq1, apartOK, apart2, AObj.live, Int.reduceEq, Int.reduceLT, Int.reduceLE, Int.reduceAdd, Int.reduceSub, Int.reduceMul, Int.reduceToNat, cutCells, Nat.reduceAdd, Nat.reduceLeDiff, Nat.reduceLT, Nat.reduceMul, Nat.reduceSub, bA_len, fA_len, bA_one, setL_fA]
  refine WLoop.inv (rsubI a b w H.length (H.length + 2) (H.length + 3) H) ?_ 128 _ _ ⟨0, by omega, by omega, by rw [rowB, notF_zero]; rfl, by exact ex_env rfl⟩
  rintro z e H' ⟨i, hi, rfl, rfl, ⟨x, rfl⟩⟩
  by_cases hlt : i < 128
  · have c0 : (i : Int) < 128 := by omega
    have g1 := bA_get (f := notF b i) (k := i) hlt
    have g2 : notF b i i = b.testBit (127 - i) := by simp [notF, bF]
    rw [g2] at g1
    have un : ∀ v : Bool, True := fun _ => trivial
    simp (disch := omega) only [kB, kcx, kdm, kdn, kel, aop, resultsL, resultOf, Nat.reduceEqDiff, reduceCtorEq, eq1, apartOK, apart2, AObj.live, Int.reduceEq, Int.reduceLT, Int.reduceLE, Int.reduceAdd, Int.reduceSub, Int.reduceMul, Int.reduceToNat, cutCells, Nat.reduceAdd, Nat.reduceLeDiff, Nat.reduceLT, Nat.reduceMul, Nat.reduceSub, c0, wr_i64, g1, if_pos, bA_len, notF_step]
    exact ⟨128 - (i + 1), by omega, i + 1, by omega, rfl, rfl, by exact ex_env rfl⟩
  · obtain rfl : i = 128 := by omega
    have c0 : ¬ ((128 : Nat) : Int) < 128 := by omega
    simp (disch := omega) only [kB, kcx, kdm, kdn, kel, aop, resultsL, resultOf, Nat.reduceEqDiff, reduceCtorEq, eq1, apartOK, apart2, AObj.live, Int.reduceEq, Int.reduceLT, Int.reduceLE, Int.reduceAdd, Int.reduceSub, Int.reduceMul, Int.reduceToNat, cutCells, Nat.reduceAdd, Nat.reduceLeDiff, Nat.reduceLT, Nat.reduceMul, Nat.reduceSub, c0, if_pos, bA_len, bA_take]
    refine take_s ?_
    rw [notF_all hb]
    simp (disch := omega) only [kB, kcx, kdm, kdn, kel, aop, resultsL, resultOf, Nat.reduceEqDiff, reduceCtorEq, eq1, apartOK, apart2, AObj.live, Int.reduceEq, Int.reduceLT, Int.reduceLE, Int.reduceAdd, Int.reduceSub, Int.reduceMul, Int.reduceToNat, cutCells, Nat.reduceAdd, Nat.reduceLeDiff, Nat.reduceLT, Nat.reduceMul, Nat.reduceSub]
    have one : (.agg #[.int .u64 0, .int .u64 1] : Value) = bvA 1 := rfl
    rw [one]
    refine radd_s (w := 128) (by omega) (by decide) ?_
    have en : cutI ((2 ^ 128 - (b + 1) + 1) % 2 ^ 128) 128 = (2 ^ 128 - b) % 2 ^ 128 := by
      have : 2 ^ 128 - (b + 1) + 1 = 2 ^ 128 - b := by omega
      rw [this, cutI_cut]
      rfl
    rw [en]
    simp (disch := omega) only [kB, kcx, kdm, kdn, kel, aop, resultsL, resultOf, Nat.reduceEqDiff, reduceCtorEq, eq1, apartOK, apart2, AObj.live, Int.reduceEq, Int.reduceLT, Int.reduceLE, Int.reduceAdd, Int.reduceSub, Int.reduceMul, Int.reduceToNat, cutCells, Nat.reduceAdd, Nat.reduceLeDiff, Nat.reduceLT, Nat.reduceMul, Nat.reduceSub]
    refine radd_s ha (Nat.mod_lt _ (by decide)) ?_
    have e2 : (a + (2 ^ 128 - b) % 2 ^ 128) % 2 ^ 128 = (a + 2 ^ 128 - b) % 2 ^ 128 := by
      rw [Nat.add_mod_mod]
      congr 1
      omega
    rw [e2]
    simp (disch := omega) only [kB, kcx, kdm, kdn, kel, aop, resultsL, resultOf, Nat.reduceEqDiff, reduceCtorEq, eq1, apartOK, apart2, AObj.live, Int.reduceEq, Int.reduceLT, Int.reduceLE, Int.reduceAdd, Int.reduceSub, Int.reduceMul, Int.reduceToNat, cutCells, Nat.reduceAdd, Nat.reduceLeDiff, Nat.reduceLT, Nat.reduceMul, Nat.reduceSub]
    exact ⟨_, rfl, ⟨_, rfl⟩, .closed rfl, h⟩

end Go.Proofs.YtkhkmgcegicmoaaDoor.Ev

/- The document's functions over values: bits, what fits, order, masks, common bits. -/
namespace Go.Proofs.YtkhkmgcegicmoaaDoor.Ev
set_option maxRecDepth 100000
set_option linter.unusedSimpArgs false
set_option linter.unusedVariables false
variable {R : FRes → Heap → Prop} {H : Heap}

theorem rbit_s {a : Nat} {w i : Int} (ha : a < 2 ^ 128) (h : R (.ret (.bool (bitI a w i))) H) : WD T 40 [bvA a, .int .i64 w, .int .i64 i] H R := by
  refine WD.gc0 (WD.of follows t40 (by simp) ?_)
  rw [← fA_eq]
  rcases wcases w with hw | ⟨k, rfl, h1, h2⟩
  · rw [bitI, hw, if_neg (by simp)] at h
    simp (disch := omega) only [kB, kcx, kdm, kdn, kel, aop, resultsL, resultOf, Nat.reduceEqDiff, reduceCtorEq, eq1, apartOK, apart2, AObj.live, Int.reduceEq, Int.reduceLT, Int.reduceLE, Int.reduceAdd, Int.reduceSub, Int.reduceMul, Int.reduceToNat, cutCells, Nat.reduceAdd, Nat.reduceLeDiff, Nat.reduceLT, Nat.reduceMul, Nat.reduceSub]
    refine rwidth_s ?_
    simp (disch := omega) only [kB, kcx, kdm, kdn, kel, aop, resultsL, resultOf, Nat.reduceEqDiff, reduceCtorEq, eq1, apartOK, apart2, AObj.live, Int.reduceEq, Int.reduceLT, Int.reduceLE, Int.reduceAdd, Int.reduceSub, Int.reduceMul, Int.reduceToNat, cutCells, Nat.reduceAdd, Nat.reduceLeDiff, Nat.reduceLT, Nat.reduceMul, Nat.reduceSub, hw]
    exact ⟨_, rfl, ⟨_, rfl⟩, .closed rfl, h⟩
  · have hw := isw_nat h1 h2
    by_cases c1 : i < 0
    · rw [bitI, hw, if_neg (by omega)] at h
      simp (disch := omega) only [kB, kcx, kdm, kdn, kel, aop, resultsL, resultOf, Nat.reduceEqDiff, reduceCtorEq, eq1, apartOK, apart2, AObj.live, Int.reduceEq, Int.reduceLT, Int.reduceLE, Int.reduceAdd, Int.reduceSub, Int.reduceMul, Int.reduceToNat, cutCells, Nat.reduceAdd, Nat.reduceLeDiff, Nat.reduceLT, Nat.reduceMul, Nat.reduceSub]
      refine rwidth_s ?_
      simp (disch := omega) only [kB, kcx, kdm, kdn, kel, aop, resultsL, resultOf, Nat.reduceEqDiff, reduceCtorEq, eq1, apartOK, apart2, AObj.live, Int.reduceEq, Int.reduceLT, Int.reduceLE, Int.reduceAdd, Int.reduceSub, Int.reduceMul, Int.reduceToNat, cutCells, Nat.reduceAdd, Nat.reduceLeDiff, Nat.reduceLT, Nat.reduceMul, Nat.reduceSub, hw, c1]
      exact ⟨_, rfl, ⟨_, rfl⟩, .closed rfl, h⟩
    · by_cases c2 : (k : Int) ≤ i
      · rw [bitI, hw, if_neg (by omega)] at h
        simp (disch := omega) only [kB, kcx, kdm, kdn, kel, aop, resultsL, resultOf, Nat.reduceEqDiff, reduceCtorEq, eq1, apartOK, apart2, AObj.live, Int.reduceEq, Int.reduceLT, Int.reduceLE, Int.reduceAdd, Int.reduceSub, Int.reduceMul, Int.reduceToNat, cutCells, Nat.reduceAdd, Nat.reduceLeDiff, Nat.reduceLT, Nat.reduceMul, Nat.reduceSub]
        refine rwidth_s ?_
        simp (disch := omega) only [kB, kcx, kdm, kdn, kel, aop, resultsL, resultOf, Nat.reduceEqDiff, reduceCtorEq, eq1, apartOK, apart2, AObj.live, Int.reduceEq, Int.reduceLT, Int.reduceLE, Int.reduceAdd, Int.reduceSub, Int.reduceMul, Int.reduceToNat, cutCells, Nat.reduceAdd, Nat.reduceLeDiff, Nat.reduceLT, Nat.reduceMul, Nat.reduceSub, hw, c1, c2]
        exact ⟨_, rfl, ⟨_, rfl⟩, .closed rfl, h⟩
      · obtain ⟨m, rfl⟩ : ∃ m : Nat, i = m := ⟨i.toNat, by omega⟩
        rw [bitI, hw, if_pos ⟨rfl, by omega, by omega⟩, show ((k : Int) - 1 - (m : Int)).toNat = k - 1 - m by omega] at h
        simp (disch := omega) only [kB, kcx, kdm, kdn, kel, aop, resultsL, resultOf, Nat.reduceEqDiff, reduceCtorEq, eq1, apartOK, apart2, AObj.live, Int.reduceEq, Int.reduceLT, Int.reduceLE, Int.reduceAdd, Int.reduceSub, Int.reduceMul, Int.reduceToNat, cutCells, Nat.reduceAdd, Nat.reduceLeDiff, Nat.reduceLT, Nat.reduceMul, Nat.reduceSub]
        refine rwidth_s ?_
        simp (disch := omega) only [kB, kcx, kdm, kdn, kel, aop, resultsL, resultOf, Nat.reduceEqDiff, reduceCtorEq, eq1, apartOK, apart2, AObj.live, Int.reduceEq, Int.reduceLT, Int.reduceLE, Int.reduceAdd, Int.reduceSub, Int.reduceMul, Int.reduceToNat, cutCells, Nat.reduceAdd, Nat.reduceLeDiff, Nat.reduceLT, Nat.reduceMul, Nat.reduceSub, hw, c1, c2]
        refine lay_s ha ?_
        have e0 : (128 : Int) - (k : Int) = ((128 - k : Nat) : Int) := by omega
        have e1 : ((128 - k : Nat) : Int) + (m : Int) = ((128 - k + m : Nat) : Int) := by omega
        have c3 : ((128 - k + m : Nat) : Int) < 128 := by omega
        have g1 : (bA (bF a))[128 - k + m]? = some (.bool (a.testBit (k - 1 - m))) := by
          rw [bA_get (by omega), bF, show 127 - (128 - k + m) = k - 1 - m by omega]
        simp (disch := omega) only [kB, kcx, kdm, kdn, kel, aop, resultsL, resultOf, Nat.reduceEqDiff, reduceCtorEq, eq1, apartOK, apart2, AObj.live, Int.reduceEq, Int.reduceLT, Int.reduceLE, Int.reduceAdd, Int.reduceSub, Int.reduceMul, Int.reduceToNat, cutCells, Nat.reduceAdd, Nat.reduceLeDiff, Nat.reduceLT, Nat.reduceMul, Nat.reduceSub, bA_len, fA_len, bA_one, setL_fA, wr_i64, e0, e1, c3, g1, if_pos]
        exact ⟨_, rfl, ⟨_, rfl⟩, .closed rfl, h⟩

theorem rfits_s {a : Nat} {w : Int} (ha : a < 2 ^ 128) (h : R (.ret (.bool (fitsI a w))) H) : WD T 30 [bvA a, .int .i64 w] H R := by
  refine WD.gc0 (WD.of follows t30 (by simp) ?_)
  rcases wcases w with hw | ⟨k, rfl, h1, h2⟩
  · rw [fitsI, hw, Bool.false_and] at h
    simp (disch := omega) only [kB, kcx, kdm, kdn, kel, aop, resultsL, resultOf, Nat.reduceEqDiff, reduceCtorEq, eq1, apartOK, apart2, AObj.live, Int.reduceEq, Int.reduceLT, Int.reduceLE, Int.reduceAdd, Int.reduceSub, Int.reduceMul, Int.reduceToNat, cutCells, Nat.reduceAdd, Nat.reduceLeDiff, Nat.reduceLT, Nat.reduceMul, Nat.reduceSub]
    refine rwidth_s ?_
    simp (disch := omega) only [kB, kcx, kdm, kdn, kel, aop, resultsL, resultOf, Nat.reduceEqDiff, reduceCtorEq, eq1, apartOK, apart2, AObj.live, Int.reduceEq, Int.reduceLT, Int.reduceLE, Int.reduceAdd, Int.reduceSub, Int.reduceMul, Int.reduceToNat, cutCells, Nat.reduceAdd, Nat.reduceLeDiff, Nat.reduceLT, Nat.reduceMul, Nat.reduceSub, hw]
    exact ⟨_, rfl, ⟨_, rfl⟩, .closed rfl, h⟩
  · have hw := isw_nat h1 h2
    rw [fitsI, isw_nat h1 h2, Bool.true_and, Int.toNat_natCast] at h
    simp (disch := omega) only [kB, kcx, kdm, kdn, kel, aop, resultsL, resultOf, Nat.reduceEqDiff, reduceCtorEq, eq1, apartOK, apart2, AObj.live, Int.reduceEq, Int.reduceLT, Int.reduceLE, Int.reduceAdd, Int.reduceSub, Int.reduceMul, Int.reduceToNat, cutCells, Nat.reduceAdd, Nat.reduceLeDiff, Nat.reduceLT, Nat.reduceMul, Nat.reduceSub]
    refine rwidth_s ?_
    simp (disch := omega) only [kB, kcx, kdm, kdn, kel, aop, resultsL, resultOf, Nat.reduceEqDiff, reduceCtorEq, eq1, apartOK, apart2, AObj.live, Int.reduceEq, Int.reduceLT, Int.reduceLE, Int.reduceAdd, Int.reduceSub, Int.reduceMul, Int.reduceToNat, cutCells, Nat.reduceAdd, Nat.reduceLeDiff, Nat.reduceLT, Nat.reduceMul, Nat.reduceSub, hw]
    refine WV.of (fun c hc => ?_) ?_
    · simp only [List.mem_cons, List.not_mem_nil, or_false] at hc
      subst hc
      simp (disch := omega) only [kgd, kge, kgf, kgg, kgh, kgi, kgj, kgk, kgl, kgm, kgn, kgo, kgp, kfy, kgq, kgr, kgs, kgt, kgu, kgv, kgw, kfw, kfx, kgx, kgy, kgz, kha, khb, khc, kga, kgb, kgc, Nat.reduceAdd, khd]
      rfl
    refine rcut_s ha ?_
    rw [thaw_frz0, cutI, hw, if_pos rfl, Int.toNat_natCast]
    have e1 := eq_bv (v := a % 2 ^ k) (w := a)
    have e2 : decide (a % 2 ^ k = a) = decide (a < 2 ^ k) := by
      rw [Bool.eq_iff_iff]
      simp only [decide_eq_true_eq]
      constructor
      · intro q
        rw [← q]
        exact Nat.mod_lt _ (Nat.two_pow_pos _)
      · exact Nat.mod_eq_of_lt
    rw [e2] at e1
    simp (disch := omega) only [kB, kcx, kdm, kdn, kel, aop, resultsL, resultOf, Nat.reduceEqDiff, reduceCtorEq, eq1, apartOK, apart2, AObj.live, Int.reduceEq, Int.reduceLT, Int.reduceLE, Int.reduceAdd, Int.reduceSub, Int.reduceMul, Int.reduceToNat, cutCells, Nat.reduceAdd, Nat.reduceLeDiff, Nat.reduceLT, Nat.reduceMul, Nat.reduceSub, e1]
    exact ⟨_, rfl, ⟨_, rfl⟩, .closed rfl, h⟩

theorem rand_s {v w : Nat} (hv : v < 2 ^ 128) (hw : w < 2 ^ 128) (h : R (.ret (bvA (v &&& w))) H) : WD T 34 [bvA v, bvA w] H R := by
  refine WD.gc0 (WD.of follows t34 (by simp) ?_)
  have e1 := bin_and64 (hi_lt hv) (hi_lt hw)
  have e2 := bin_and64 (lo_lt v) (lo_lt w)
  rw [bvA, and_hi, and_lo] at h
  simp (disch := omega) only [kB, kcx, kdm, kdn, kel, aop, resultsL, resultOf, Nat.reduceEqDiff, reduceCtorEq, eq1, apartOK, apart2, AObj.live, Int.reduceEq, Int.reduceLT, Int.reduceLE, Int.reduceAdd, Int.reduceSub, Int.reduceMul, Int.reduceToNat, cutCells, Nat.reduceAdd, Nat.reduceLeDiff, Nat.reduceLT, Nat.reduceMul, Nat.reduceSub, e1, e2]
  exact ⟨_, rfl, ⟨_, rfl⟩, .closed rfl, h⟩
theorem ror_s {v w : Nat} (hv : v < 2 ^ 128) (hw : w < 2 ^ 128) (h : R (.ret (bvA (v ||| w))) H) : WD T 35 [bvA v, bvA w] H R := by
  refine WD.gc0 (WD.of follows t35 (by simp) ?_)
  have e1 := bin_or64 (hi_lt hv) (hi_lt hw)
  have e2 := bin_or64 (lo_lt v) (lo_lt w)
  rw [bvA, or_hi, or_lo] at h
  simp (disch := omega) only [kB, kcx, kdm, kdn, kel, aop, resultsL, resultOf, Nat.reduceEqDiff, reduceCtorEq, eq1, apartOK, apart2, AObj.live, Int.reduceEq, Int.reduceLT, Int.reduceLE, Int.reduceAdd, Int.reduceSub, Int.reduceMul, Int.reduceToNat, cutCells, Nat.reduceAdd, Nat.reduceLeDiff, Nat.reduceLT, Nat.reduceMul, Nat.reduceSub, e1, e2]
  exact ⟨_, rfl, ⟨_, rfl⟩, .closed rfl, h⟩
theorem rxor_s {v w : Nat} (hv : v < 2 ^ 128) (hw : w < 2 ^ 128) (h : R (.ret (bvA (v ^^^ w))) H) : WD T 36 [bvA v, bvA w] H R := by
  refine WD.gc0 (WD.of follows t36 (by simp) ?_)
  have e1 := bin_xor64 (hi_lt hv) (hi_lt hw)
  have e2 := bin_xor64 (lo_lt v) (lo_lt w)
  rw [bvA, xor_hi, xor_lo] at h
  simp (disch := omega) only [kB, kcx, kdm, kdn, kel, aop, resultsL, resultOf, Nat.reduceEqDiff, reduceCtorEq, eq1, apartOK, apart2, AObj.live, Int.reduceEq, Int.reduceLT, Int.reduceLE, Int.reduceAdd, Int.reduceSub, Int.reduceMul, Int.reduceToNat, cutCells, Nat.reduceAdd, Nat.reduceLeDiff, Nat.reduceLT, Nat.reduceMul, Nat.reduceSub, e1, e2]
  exact ⟨_, rfl, ⟨_, rfl⟩, .closed rfl, h⟩

/-! Masks. -/
def mskF (k i : Nat) : Nat → Bool := fun j => decide (128 - k ≤ j) && decide (j < 128 - k + i)
theorem mskF_zero {k : Nat} : fA = bA (mskF k 0) := bA_congr fun j _ => by simp [mskF]
theorem mskF_step {k i : Nat} : (bA (mskF k i)).set (128 - k + i) (.bool true) = bA (mskF k (i + 1)) := by
  rw [bA_set]
  refine bA_congr fun j _ => ?_
  by_cases h : j = 128 - k + i
  · have e1 : 128 - k ≤ j := by omega
    have e2 : j < 128 - k + (i + 1) := by omega
    rw [if_pos h, mskF, decide_eq_true e1, decide_eq_true e2]
    rfl
  · have e : (j < 128 - k + i) ↔ (j < 128 - k + (i + 1)) := by omega
    simp only [if_neg h, mskF, e]
theorem mskF_all {k n : Nat} (h : k ≤ 128) (hn : n ≤ k) : nb (mskF k n) 128 = maskN k n := by
  refine Nat.eq_of_testBit_eq fun j => ?_
  rw [nb_testBit, maskN, testBit_shl, onesN, Nat.testBit_two_pow_sub_one, mskF]
  by_cases h1 : j < 128
  · have e2 : (128 - k ≤ 128 - 1 - j ∧ 128 - 1 - j < 128 - k + n) ↔ (k - n ≤ j ∧ j - (k - n) < n) := by omega
    simp only [h1, decide_true, Bool.true_and]
    rw [Bool.eq_iff_iff]
    simpa using e2
  · simp [h1]

def rmskI (k n b4 b6 : Nat) (K : Heap) : Nat → Env → Heap → Prop := fun z e H' =>
  ∃ i : Nat, i ≤ n ∧ z = n - i ∧ H' = K ++ [rowU 0, rowB (mskF k i)] ∧
    (∃ x : Nat → Value, e = [.int .i64 (k : Int), .int .i64 (n : Int), x 2, x 3, .pointer (some ⟨b4, 0, none⟩), x 5, .pointer (some ⟨b6, 0, none⟩), .int .i64 (i : Int), x 8, x 9, x 10, x 11, x 12, x 13, x 14, x 15, x 16, x 17, x 18, x 19, x 20, x 21, x 22, x 23, x 24, x 25, x 26, x 27, x 28, x 29, x 30, x 31])

theorem rmask_s {w n : Int} (h : R (.ret (pairV (maskI w n))) H) : WD T 29 [.int .i64 w, .int .i64 n] H R := by
  refine WD.gc0 (WD.of follows t29 (by simp) ?_)
  rw [← fA_eq]
  rcases wcases w with hw | ⟨k, rfl, h1, h2⟩
  · rw [maskI, hw, if_neg (by decide)] at h
    simp (disch := omega) only [kB, kcx, kdm, kdn, kel, aop, resultsL, resultOf, Nat.reduceEqDiff, reduceCtorEq, eq1, apartOK, apart2, AObj.live, Int.reduceEq, Int.reduceLT, Int.reduceLE, Int.reduceAdd, Int.reduceSub, Int.reduceMul, Int.reduceToNat, cutCells, Nat.reduceAdd, Nat.reduceLeDiff, Nat.reduceLT, Nat.reduceMul, Nat.reduceSub]
    refine rwidth_s ?_
    simp (disch := omega) only [kB, kcx, kdm, kdn, kel, aop, resultsL, resultOf, Nat.reduceEqDiff, reduceCtorEq, eq1, apartOK, apart2, AObj.live, Int.reduceEq, Int.reduceLT, Int.reduceLE, Int.reduceAdd, Int.reduceSub, Int.reduceMul, Int.reduceToNat, cutCells, Nat.reduceAdd, Nat.reduceLeDiff, Nat.reduceLT, Nat.reduceMul, Nat.reduceSub, hw]
    exact ⟨_, rfl, ⟨_, rfl⟩, .tup2 (.closed rfl) (.closed rfl), h⟩
  · have hw := isw_nat h1 h2
    rw [maskI, hw, if_pos rfl] at h
    by_cases c1 : n < 0
    · rw [if_pos (.inl c1)] at h
      simp (disch := omega) only [kB, kcx, kdm, kdn, kel, aop, resultsL, resultOf, Nat.reduceEqDiff, reduceCtorEq, eq1, apartOK, apart2, AObj.live, Int.reduceEq, Int.reduceLT, Int.reduceLE, Int.reduceAdd, Int.reduceSub, Int.reduceMul, Int.reduceToNat, cutCells, Nat.reduceAdd, Nat.reduceLeDiff, Nat.reduceLT, Nat.reduceMul, Nat.reduceSub]
      refine rwidth_s ?_
      simp (disch := omega) only [kB, kcx, kdm, kdn, kel, aop, resultsL, resultOf, Nat.reduceEqDiff, reduceCtorEq, eq1, apartOK, apart2, AObj.live, Int.reduceEq, Int.reduceLT, Int.reduceLE, Int.reduceAdd, Int.reduceSub, Int.reduceMul, Int.reduceToNat, cutCells, Nat.reduceAdd, Nat.reduceLeDiff, Nat.reduceLT, Nat.reduceMul, Nat.reduceSub, hw, c1]
      exact ⟨_, rfl, ⟨_, rfl⟩, .tup2 (.closed rfl) (.closed rfl), h⟩
    · by_cases c2 : (k : Int) < n
      · rw [if_pos (.inr c2)] at h
        simp (disch := omega) only [kB, kcx, kdm, kdn, kel, aop, resultsL, resultOf, Nat.reduceEqDiff, reduceCtorEq, eq1, apartOK, apart2, AObj.live, Int.reduceEq, Int.reduceLT, Int.reduceLE, Int.reduceAdd, Int.reduceSub, Int.reduceMul, Int.reduceToNat, cutCells, Nat.reduceAdd, Nat.reduceLeDiff, Nat.reduceLT, Nat.reduceMul, Nat.reduceSub]
        refine rwidth_s ?_
        simp (disch := omega) only [kB, kcx, kdm, kdn, kel, aop, resultsL, resultOf, Nat.reduceEqDiff, reduceCtorEq, eq1, apartOK, apart2, AObj.live, Int.reduceEq, Int.reduceLT, Int.reduceLE, Int.reduceAdd, Int.reduceSub, Int.reduceMul, Int.reduceToNat, cutCells, Nat.reduceAdd, Nat.reduceLeDiff, Nat.reduceLT, Nat.reduceMul, Nat.reduceSub, hw, c1, c2]
        exact ⟨_, rfl, ⟨_, rfl⟩, .tup2 (.closed rfl) (.closed rfl), h⟩
      · obtain ⟨m, rfl⟩ : ∃ m : Nat, n = m := ⟨n.toNat, by omega⟩
        rw [if_neg (by omega), Int.toNat_natCast, Int.toNat_natCast] at h
        simp (disch := omega) only [kB, kcx, kdm, kdn, kel, aop, resultsL, resultOf, Nat.reduceEqDiff, reduceCtorEq, eq1, apartOK, apart2, AObj.live, Int.reduceEq, Int.reduceLT, Int.reduceLE, Int.reduceAdd, Int.reduceSub, Int.reduceMul, Int.reduceToNat, cutCells, Nat.reduceAdd, Nat.reduceLeDiff, Nat.reduceLT, Nat.reduceMul, Nat.reduceSub]
        refine rwidth_s ?_
        simp (disch := omega) only [kB, kcx, kdm, kdn, kel, aop, resultsL, resultOf, Nat.reduceEqDiff, reduceCtorEq, eq1, apartOK, apart2, AObj.live, Int.reduceEq, Int.reduceLT, Int.reduceLE, Int.reduceAdd, Int.reduceSub, Int.reduceMul, Int.reduceToNat, cutCells, Nat.reduceAdd, Nat.reduceLeDiff, Nat.reduceLT, Nat.reduceMul, Nat.reduceSub, hw, c1, c2]
        refine WLoop.inv (rmskI k m H.length (H.length + 1) H) ?_ m _ _ ⟨0, by omega, by omega, by rw [rowB, ← mskF_zero]; rfl, by exact ex_env rfl⟩
        rintro z e H' ⟨i, hi, rfl, rfl, ⟨x, rfl⟩⟩
        by_cases hlt : i < m
        · have c0 : (i : Int) < (m : Int) := by omega
          have e0 : (128 : Int) - (k : Int) = ((128 - k : Nat) : Int) := by omega
          have e1 : ((128 - k : Nat) : Int) + (i : Int) = ((128 - k + i : Nat) : Int) := by omega
          have c3 : ((128 - k + i : Nat) : Int) < 128 := by omega
          simp (disch := omega) only [kB, kcx, kdm, kdn, kel, aop, resultsL, resultOf, Nat.reduceEqDiff, reduceCtorEq, eq1, apartOK, apart2, AObj.live, Int.reduceEq, Int.reduceLT, Int.reduceLE, Int.reduceAdd, Int.reduceSub, Int.reduceMul, Int.reduceToNat, cutCells, Nat.reduceAdd, Nat.reduceLeDiff, Nat.reduceLT, Nat.reduceMul, Nat.reduceSub, c0, wr_i64, e0, e1, c3, if_pos, bA_len, mskF_step]
          exact ⟨m - (i + 1), by omega, i + 1, by omega, rfl, rfl, by exact ex_env rfl⟩
        · obtain rfl : i = m := by omega
          have c0 : ¬ (i : Int) < (i : Int) := by omega
          simp (disch := omega) only [kB, kcx, kdm, kdn, kel, aop, resultsL, resultOf, Nat.reduceEqDiff, reduceCtorEq, eq1, apartOK, apart2, AObj.live, Int.reduceEq, Int.reduceLT, Int.reduceLE, Int.reduceAdd, Int.reduceSub, Int.reduceMul, Int.reduceToNat, cutCells, Nat.reduceAdd, Nat.reduceLeDiff, Nat.reduceLT, Nat.reduceMul, Nat.reduceSub, c0, if_pos, bA_len, bA_take]
          refine take_s ?_
          rw [mskF_all h2 (by omega)]
          simp (disch := omega) only [kB, kcx, kdm, kdn, kel, aop, resultsL, resultOf, Nat.reduceEqDiff, reduceCtorEq, eq1, apartOK, apart2, AObj.live, Int.reduceEq, Int.reduceLT, Int.reduceLE, Int.reduceAdd, Int.reduceSub, Int.reduceMul, Int.reduceToNat, cutCells, Nat.reduceAdd, Nat.reduceLeDiff, Nat.reduceLT, Nat.reduceMul, Nat.reduceSub]
          exact ⟨_, rfl, ⟨_, rfl⟩, .tup2 (.closed rfl) (.closed rfl), h⟩

theorem rmost_s {w : Int} (h : R (.ret (pairV (maskI w w))) H) : WD T 28 [.int .i64 w] H R := by
  refine WD.gc0 (WD.of follows t28 (by simp) ?_)
  simp (disch := omega) only [kB, kcx, kdm, kdn, kel, aop, resultsL, resultOf, Nat.reduceEqDiff, reduceCtorEq, eq1, apartOK, apart2, AObj.live, Int.reduceEq, Int.reduceLT, Int.reduceLE, Int.reduceAdd, Int.reduceSub, Int.reduceMul, Int.reduceToNat, cutCells, Nat.reduceAdd, Nat.reduceLeDiff, Nat.reduceLT, Nat.reduceMul, Nat.reduceSub]
  refine rmask_s ?_
  simp (disch := omega) only [kB, kcx, kdm, kdn, kel, aop, resultsL, resultOf, Nat.reduceEqDiff, reduceCtorEq, eq1, apartOK, apart2, AObj.live, Int.reduceEq, Int.reduceLT, Int.reduceLE, Int.reduceAdd, Int.reduceSub, Int.reduceMul, Int.reduceToNat, cutCells, Nat.reduceAdd, Nat.reduceLeDiff, Nat.reduceLT, Nat.reduceMul, Nat.reduceSub]
  exact ⟨_, rfl, ⟨_, rfl⟩, .tup2 (.closed rfl) (.closed rfl), h⟩

end Go.Proofs.YtkhkmgcegicmoaaDoor.Ev

/- The document's order and common bits. -/
namespace Go.Proofs.YtkhkmgcegicmoaaDoor.Ev
set_option maxRecDepth 100000
set_option linter.unusedSimpArgs false
set_option linter.unusedVariables false
variable {R : FRes → Heap → Prop} {H : Heap}

theorem same_high {a b i : Nat} (ha : a < 2 ^ 128) (hb : b < 2 ^ 128) (hi : i < 128) (h : ∀ j, j < i → bF a j = bF b j) : a >>> (127 - i + 1) = b >>> (127 - i + 1) := by
  refine Nat.eq_of_testBit_eq fun k => ?_
  rw [Nat.testBit_shiftRight, Nat.testBit_shiftRight]
  by_cases h1 : 127 - i + 1 + k < 128
  · have := h (127 - (127 - i + 1 + k)) (by omega)
    simp only [bF] at this
    rwa [show 127 - (127 - (127 - i + 1 + k)) = 127 - i + 1 + k by omega] at this
  · rw [Nat.testBit_lt_two_pow (Nat.lt_of_lt_of_le ha (Nat.pow_le_pow_right (by decide) (by omega))), Nat.testBit_lt_two_pow (Nat.lt_of_lt_of_le hb (Nat.pow_le_pow_right (by decide) (by omega)))]
theorem same_all {a b : Nat} (ha : a < 2 ^ 128) (hb : b < 2 ^ 128) (h : ∀ j, j < 128 → bF a j = bF b j) : a = b := by
  rw [← nb_bF ha, ← nb_bF hb]
  exact nb_congr h

def rcmpI (a b b5 b6 : Nat) (K : Heap) : Nat → Env → Heap → Prop := fun z e H' =>
  ∃ i : Nat, i ≤ 128 ∧ z = 128 - i ∧ (∀ j, j < i → bF a j = bF b j) ∧ H' = K ++ [rowU a, rowU b, rowB (bF a), rowB (bF b)] ∧
    (∃ x : Nat → Value, e = [x 0, x 1, x 2, x 3, x 4, .pointer (some ⟨b5, 0, none⟩), .pointer (some ⟨b6, 0, none⟩), .int .i64 (i : Int), x 8, x 9, x 10, x 11, x 12, x 13, x 14, x 15, x 16, x 17, x 18, x 19, x 20, x 21, x 22, x 23, x 24, x 25])

theorem rcmp_s {a b : Nat} (ha : a < 2 ^ 128) (hb : b < 2 ^ 128) (h : R (.ret (.int .i64 (cmp3 a b))) H) : WD T 33 [bvA a, bvA b] H R := by
  refine WD.gc0 (WD.of follows t33 (by simp) ?_)
  rw [← fA_eq]
  simp (disch := omega) only [kB, kcx, kdm, kdn, kel, aop, resultsL, resultOf, Nat.reduceEqDiff, reduceCtorEq, eq1, apartOK, apart2, AObj.live, Int.reduceEq, Int.reduceLT, Int.reduceLE, Int.reduceAdd, Int.reduceSub, Int.reduceMul, Int.reduceToNat, cutCells, Nat.reduceAdd, Nat.reduceLeDiff, Nat.reduceLT, Nat.reduceMul, Nat.reduceSub]
  refine lay_s ha ?_
  simp (disch := omega) only [kB, kcx, kdm, kdn, kel, aop, resultsL, resultOf, Nat.reduceEqDiff, reduceCtorEq, eq1, apartOK, apart2, AObj.live, Int.reduceEq, Int.reduceLT, Int.reduceLE, Int.reduceAdd, Int.reduceSub, Int.reduceMul, Int.reduceToNat, cutCells, Nat.reduceAdd, Nat.reduceLeDiff, Nat.reduceLT, Nat.reduceMul, Nat.reduceSub, bA_len, fA_len, bA_one, setL_fA]
  refine lay_s hb ?_
  simp (disch := omega) only [kB, kcx, kdm, kdn, kel, aop, resultsL, resultOf, Nat.reduceEqDiff, reduceCtorEq, eq1, apartOK, apart2, AObj.live, Int.reduceEq, Int.reduceLT, Int.reduceLE, Int.reduceAdd, Int.reduceSub, Int.reduceMul, Int.reduceToNat, cutCells, Nat.reduceAdd, Nat.reduceLeDiff, Nat.reduceLT, Nat.reduceMul, Nat.reduceSub, bA_len, fA_len, bA_one, setL_fA]
  refine WLoop.inv (rcmpI a b (H.length + 2) (H.length + 3) H) ?_ 128 _ _ ⟨0, by omega, by omega, by omega, rfl, by exact ex_env rfl⟩
  rintro z e H' ⟨i, hi, rfl, hs, rfl, ⟨x, rfl⟩⟩
  by_cases hlt : i < 128
  · have c0 : (i : Int) < 128 := by omega
    have g1 : (bA (bF a))[i]? = some (.bool (a.testBit (127 - i))) := bA_get hlt
    have g2 : (bA (bF b))[i]? = some (.bool (b.testBit (127 - i))) := bA_get hlt
    have hh := same_high ha hb hlt hs
    cases hx : a.testBit (127 - i) <;> cases hy : b.testBit (127 - i) <;> rw [hx] at g1 <;> rw [hy] at g2
    · simp (disch := omega) only [kB, kcx, kdm, kdn, kel, aop, resultsL, resultOf, Nat.reduceEqDiff, reduceCtorEq, eq1, apartOK, apart2, AObj.live, Int.reduceEq, Int.reduceLT, Int.reduceLE, Int.reduceAdd, Int.reduceSub, Int.reduceMul, Int.reduceToNat, cutCells, Nat.reduceAdd, Nat.reduceLeDiff, Nat.reduceLT, Nat.reduceMul, Nat.reduceSub, c0, wr_i64, g1, g2, if_pos, bA_len, Bool.bne_true, Bool.bne_false, Bool.not_true, Bool.not_false, Bool.true_bne, Bool.false_bne, Bool.true_beq, Bool.false_beq]
      refine ⟨128 - (i + 1), by omega, i + 1, by omega, rfl, fun j hj => ?_, rfl, by exact ex_env rfl⟩
      by_cases q : j = i
      · subst q; simp only [bF, hx, hy]
      · exact hs j (by omega)
    · have hl := lt_of_bit hh hx hy
      rw [cmp3, if_pos hl] at h
      simp (disch := omega) only [kB, kcx, kdm, kdn, kel, aop, resultsL, resultOf, Nat.reduceEqDiff, reduceCtorEq, eq1, apartOK, apart2, AObj.live, Int.reduceEq, Int.reduceLT, Int.reduceLE, Int.reduceAdd, Int.reduceSub, Int.reduceMul, Int.reduceToNat, cutCells, Nat.reduceAdd, Nat.reduceLeDiff, Nat.reduceLT, Nat.reduceMul, Nat.reduceSub, c0, wr_i64, g1, g2, if_pos, bA_len, Bool.bne_true, Bool.bne_false, Bool.not_true, Bool.not_false, Bool.true_bne, Bool.false_bne, Bool.true_beq, Bool.false_beq]
      exact ⟨_, rfl, ⟨_, rfl⟩, .closed rfl, h⟩
    · have hl := lt_of_bit hh.symm hy hx
      rw [cmp3, if_neg (by omega), if_pos hl] at h
      simp (disch := omega) only [kB, kcx, kdm, kdn, kel, aop, resultsL, resultOf, Nat.reduceEqDiff, reduceCtorEq, eq1, apartOK, apart2, AObj.live, Int.reduceEq, Int.reduceLT, Int.reduceLE, Int.reduceAdd, Int.reduceSub, Int.reduceMul, Int.reduceToNat, cutCells, Nat.reduceAdd, Nat.reduceLeDiff, Nat.reduceLT, Nat.reduceMul, Nat.reduceSub, c0, wr_i64, g1, g2, if_pos, bA_len, Bool.bne_true, Bool.bne_false, Bool.not_true, Bool.not_false, Bool.true_bne, Bool.false_bne, Bool.true_beq, Bool.false_beq]
      exact ⟨_, rfl, ⟨_, rfl⟩, .closed rfl, h⟩
    · simp (disch := omega) only [kB, kcx, kdm, kdn, kel, aop, resultsL, resultOf, Nat.reduceEqDiff, reduceCtorEq, eq1, apartOK, apart2, AObj.live, Int.reduceEq, Int.reduceLT, Int.reduceLE, Int.reduceAdd, Int.reduceSub, Int.reduceMul, Int.reduceToNat, cutCells, Nat.reduceAdd, Nat.reduceLeDiff, Nat.reduceLT, Nat.reduceMul, Nat.reduceSub, c0, wr_i64, g1, g2, if_pos, bA_len, Bool.bne_true, Bool.bne_false, Bool.not_true, Bool.not_false, Bool.true_bne, Bool.false_bne, Bool.true_beq, Bool.false_beq]
      refine ⟨128 - (i + 1), by omega, i + 1, by omega, rfl, fun j hj => ?_, rfl, by exact ex_env rfl⟩
      by_cases q : j = i
      · subst q; simp only [bF, hx, hy]
      · exact hs j (by omega)
  · obtain rfl : i = 128 := by omega
    have c0 : ¬ ((128 : Nat) : Int) < 128 := by omega
    obtain rfl := same_all ha hb hs
    rw [cmp3, if_neg (by omega), if_neg (by omega)] at h
    simp (disch := omega) only [kB, kcx, kdm, kdn, kel, aop, resultsL, resultOf, Nat.reduceEqDiff, reduceCtorEq, eq1, apartOK, apart2, AObj.live, Int.reduceEq, Int.reduceLT, Int.reduceLE, Int.reduceAdd, Int.reduceSub, Int.reduceMul, Int.reduceToNat, cutCells, Nat.reduceAdd, Nat.reduceLeDiff, Nat.reduceLT, Nat.reduceMul, Nat.reduceSub, c0]
    exact ⟨_, rfl, ⟨_, rfl⟩, .closed rfl, h⟩

def rcmnI (a b b3 b4 : Nat) (w : Int) (K : Heap) : Nat → Env → Heap → Prop := fun z e H' =>
  ∃ i : Nat, i ≤ cmnI a b w ∧ z = cmnI a b w - i ∧ H' = K ++ [rowU a, rowU b] ∧
    (∃ x : Nat → Value, e = [x 0, x 1, .int .i64 w, .pointer (some ⟨b3, 0, none⟩), .pointer (some ⟨b4, 0, none⟩), x 5, x 6, .int .i64 (i : Int), x 8, x 9, x 10, x 11, x 12, x 13, x 14, x 15, x 16, x 17, x 18, x 19, x 20, x 21, x 22, x 23, x 24, x 25, x 26, x 27, x 28])

theorem bitI_nat {a k n : Nat} (h1 : 1 ≤ k) (h2 : k ≤ 128) (h3 : n < k) : bitI a (k : Int) (n : Int) = (a % 2 ^ k).testBit (k - 1 - n) := by
  rw [bitI, isw_nat h1 h2, if_pos ⟨rfl, by omega, by omega⟩, show ((k : Int) - 1 - (n : Int)).toNat = k - 1 - n by omega, Nat.testBit_mod_two_pow, decide_eq_true (by omega), Bool.true_and]

theorem rcommon_s {a b : Nat} {w : Int} (ha : a < 2 ^ 128) (hb : b < 2 ^ 128) (h : R (.ret (.int .i64 (cmnI a b w : Nat))) H) : WD T 41 [bvA a, bvA b, .int .i64 w] H R := by
  refine WD.gc0 (WD.of follows t41 (by simp) ?_)
  simp (disch := omega) only [kB, kcx, kdm, kdn, kel, aop, resultsL, resultOf, Nat.reduceEqDiff, reduceCtorEq, eq1, apartOK, apart2, AObj.live, Int.reduceEq, Int.reduceLT, Int.reduceLE, Int.reduceAdd, Int.reduceSub, Int.reduceMul, Int.reduceToNat, cutCells, Nat.reduceAdd, Nat.reduceLeDiff, Nat.reduceLT, Nat.reduceMul, Nat.reduceSub]
  refine WLoop.inv (rcmnI a b H.length (H.length + 1) w H) ?_ (cmnI a b w) _ _ ⟨0, by omega, by omega, rfl, by exact ex_env rfl⟩
  rintro z e H' ⟨i, hi, rfl, rfl, ⟨x, rfl⟩⟩
  rcases wcases w with hw | ⟨k, rfl, h1, h2⟩
  · rw [cmnI, hw, if_neg (by decide)] at h hi
    obtain rfl : i = 0 := by omega
    simp (disch := omega) only [kB, kcx, kdm, kdn, kel, aop, resultsL, resultOf, Nat.reduceEqDiff, reduceCtorEq, eq1, apartOK, apart2, AObj.live, Int.reduceEq, Int.reduceLT, Int.reduceLE, Int.reduceAdd, Int.reduceSub, Int.reduceMul, Int.reduceToNat, cutCells, Nat.reduceAdd, Nat.reduceLeDiff, Nat.reduceLT, Nat.reduceMul, Nat.reduceSub]
    refine rwidth_s ?_
    simp (disch := omega) only [kB, kcx, kdm, kdn, kel, aop, resultsL, resultOf, Nat.reduceEqDiff, reduceCtorEq, eq1, apartOK, apart2, AObj.live, Int.reduceEq, Int.reduceLT, Int.reduceLE, Int.reduceAdd, Int.reduceSub, Int.reduceMul, Int.reduceToNat, cutCells, Nat.reduceAdd, Nat.reduceLeDiff, Nat.reduceLT, Nat.reduceMul, Nat.reduceSub, hw]
    exact ⟨_, rfl, ⟨_, rfl⟩, .closed rfl, h⟩
  · have hw := isw_nat h1 h2
    have hc : cmnI a b (k : Int) = cmn k (a % 2 ^ k) (b % 2 ^ k) := by rw [cmnI, hw, if_pos rfl, Int.toNat_natCast]
    have hA : a % 2 ^ k < 2 ^ k := Nat.mod_lt _ (Nat.two_pow_pos _)
    have hB : b % 2 ^ k < 2 ^ k := Nat.mod_lt _ (Nat.two_pow_pos _)
    have hle := cmn_le (w := k) (a := a % 2 ^ k) (b := b % 2 ^ k)
    by_cases hk : i < k
    · have c0 : (i : Int) < (k : Int) := by omega
      simp (disch := omega) only [kB, kcx, kdm, kdn, kel, aop, resultsL, resultOf, Nat.reduceEqDiff, reduceCtorEq, eq1, apartOK, apart2, AObj.live, Int.reduceEq, Int.reduceLT, Int.reduceLE, Int.reduceAdd, Int.reduceSub, Int.reduceMul, Int.reduceToNat, cutCells, Nat.reduceAdd, Nat.reduceLeDiff, Nat.reduceLT, Nat.reduceMul, Nat.reduceSub]
      refine rwidth_s ?_
      simp (disch := omega) only [kB, kcx, kdm, kdn, kel, aop, resultsL, resultOf, Nat.reduceEqDiff, reduceCtorEq, eq1, apartOK, apart2, AObj.live, Int.reduceEq, Int.reduceLT, Int.reduceLE, Int.reduceAdd, Int.reduceSub, Int.reduceMul, Int.reduceToNat, cutCells, Nat.reduceAdd, Nat.reduceLeDiff, Nat.reduceLT, Nat.reduceMul, Nat.reduceSub, hw, c0]
      refine WV.of (fun c hc => ?_) ?_
      · simp only [List.mem_cons, List.not_mem_nil, or_false] at hc
        subst hc
        simp (disch := omega) only [kgd, kge, kgf, kgg, kgh, kgi, kgj, kgk, kgl, kgm, kgn, kgo, kgp, kfy, kgq, kgr, kgs, kgt, kgu, kgv, kgw, kfw, kfx, kgx, kgy, kgz, kha, khb, khc, kga, kgb, kgc, Nat.reduceAdd, khd]
        rfl
      refine rbit_s ha ?_
      rw [thaw_frz0, bitI_nat h1 h2 hk]
      simp (disch := omega) only [kB, kcx, kdm, kdn, kel, aop, resultsL, resultOf, Nat.reduceEqDiff, reduceCtorEq, eq1, apartOK, apart2, AObj.live, Int.reduceEq, Int.reduceLT, Int.reduceLE, Int.reduceAdd, Int.reduceSub, Int.reduceMul, Int.reduceToNat, cutCells, Nat.reduceAdd, Nat.reduceLeDiff, Nat.reduceLT, Nat.reduceMul, Nat.reduceSub]
      refine rbit_s hb ?_
      rw [bitI_nat h1 h2 hk]
      by_cases hlt : i < cmnI a b (k : Int)
      · have same := cmn_high hA hB (j := k - 1 - i) (by omega)
        rw [same]
        cases (b % 2 ^ k).testBit (k - 1 - i) <;>
          (simp (disch := omega) only [kB, kcx, kdm, kdn, kel, aop, resultsL, resultOf, Nat.reduceEqDiff, reduceCtorEq, eq1, apartOK, apart2, AObj.live, Int.reduceEq, Int.reduceLT, Int.reduceLE, Int.reduceAdd, Int.reduceSub, Int.reduceMul, Int.reduceToNat, cutCells, Nat.reduceAdd, Nat.reduceLeDiff, Nat.reduceLT, Nat.reduceMul, Nat.reduceSub, wr_i64]
           exact ⟨cmnI a b (k : Int) - (i + 1), by omega, i + 1, by omega, rfl, rfl, by exact ex_env rfl⟩)
      · obtain rfl : i = cmnI a b (k : Int) := by omega
        have dif := (cmn_side hA hB (by omega)).1
        rw [← hc] at dif
        rw [dif]
        cases (b % 2 ^ k).testBit (k - 1 - cmnI a b (k : Int)) <;>
          (simp (disch := omega) only [kB, kcx, kdm, kdn, kel, aop, resultsL, resultOf, Nat.reduceEqDiff, reduceCtorEq, eq1, apartOK, apart2, AObj.live, Int.reduceEq, Int.reduceLT, Int.reduceLE, Int.reduceAdd, Int.reduceSub, Int.reduceMul, Int.reduceToNat, cutCells, Nat.reduceAdd, Nat.reduceLeDiff, Nat.reduceLT, Nat.reduceMul, Nat.reduceSub, Bool.not_true, Bool.not_false]
           exact ⟨_, rfl, ⟨_, rfl⟩, .closed rfl, h⟩)
    · have c0 : ¬ (i : Int) < (k : Int) := by omega
      obtain rfl : i = cmnI a b (k : Int) := by omega
      simp (disch := omega) only [kB, kcx, kdm, kdn, kel, aop, resultsL, resultOf, Nat.reduceEqDiff, reduceCtorEq, eq1, apartOK, apart2, AObj.live, Int.reduceEq, Int.reduceLT, Int.reduceLE, Int.reduceAdd, Int.reduceSub, Int.reduceMul, Int.reduceToNat, cutCells, Nat.reduceAdd, Nat.reduceLeDiff, Nat.reduceLT, Nat.reduceMul, Nat.reduceSub]
      refine rwidth_s ?_
      simp (disch := omega) only [kB, kcx, kdm, kdn, kel, aop, resultsL, resultOf, Nat.reduceEqDiff, reduceCtorEq, eq1, apartOK, apart2, AObj.live, Int.reduceEq, Int.reduceLT, Int.reduceLE, Int.reduceAdd, Int.reduceSub, Int.reduceMul, Int.reduceToNat, cutCells, Nat.reduceAdd, Nat.reduceLeDiff, Nat.reduceLT, Nat.reduceMul, Nat.reduceSub, hw, c0]
      exact ⟨_, rfl, ⟨_, rfl⟩, .closed rfl, h⟩

end Go.Proofs.YtkhkmgcegicmoaaDoor.Ev

/- ValueBits: every two values, every width and number: the program answers as the document. -/
namespace Go.Proofs.YtkhkmgcegicmoaaDoor.Ev
set_option maxRecDepth 100000
set_option linter.unusedSimpArgs false
set_option linter.unusedVariables false
variable {R : FRes → Heap → Prop}

theorem eq_bvv {v : Nat} : eqL [(1, .int .u64 ((v / W64 : Nat) : Int), .int .u64 ((v / W64 : Nat) : Int)), (1, .int .u64 ((v % W64 : Nat) : Int), .int .u64 ((v % W64 : Nat) : Int))] = some true := by
  rw [eq_bv, decide_eq_true rfl]

set_option maxHeartbeats 20000000 in
theorem bits_w {a b : Nat} {w n : Int} (ha : a < W64 * W64) (hb : b < W64 * W64) : WD T 8 [bvA a, bvA b, .int .i64 w, .int .i64 n] H0 (fun r _ => r = .ret (.bool true)) := by
  have ha' : a < 2 ^ 128 := ha
  have hb' : b < 2 ^ 128 := hb
  generalize hH : H0 = H at *
  have hp : H0 <+: H := by rw [hH]; exact List.prefix_refl _
  clear hH
  refine WD.of follows t8 (by simp) ?_
  simp (disch := omega) only [kB, kcx, kdm, kdn, kel, aop, resultsL, resultOf, Nat.reduceEqDiff, reduceCtorEq, eq1, apartOK, apart2, AObj.live, Int.reduceEq, Int.reduceLT, Int.reduceLE, Int.reduceAdd, Int.reduceSub, Int.reduceMul, Int.reduceToNat, cutCells, Nat.reduceAdd, Nat.reduceLeDiff, Nat.reduceLT, Nat.reduceMul, Nat.reduceSub]
  refine awake_s (hp.trans (List.prefix_append _ _)) ?_
  simp (disch := omega) only [kB, kcx, kdm, kdn, kel, aop, resultsL, resultOf, Nat.reduceEqDiff, reduceCtorEq, eq1, apartOK, apart2, AObj.live, Int.reduceEq, Int.reduceLT, Int.reduceLE, Int.reduceAdd, Int.reduceSub, Int.reduceMul, Int.reduceToNat, cutCells, Nat.reduceAdd, Nat.reduceLeDiff, Nat.reduceLT, Nat.reduceMul, Nat.reduceSub]
  refine fits_g ha' ?_
  simp (disch := omega) only [kB, kcx, kdm, kdn, kel, aop, resultsL, resultOf, Nat.reduceEqDiff, reduceCtorEq, eq1, apartOK, apart2, AObj.live, Int.reduceEq, Int.reduceLT, Int.reduceLE, Int.reduceAdd, Int.reduceSub, Int.reduceMul, Int.reduceToNat, cutCells, Nat.reduceAdd, Nat.reduceLeDiff, Nat.reduceLT, Nat.reduceMul, Nat.reduceSub]
  refine most_g ?_
  simp (disch := omega) only [kB, kcx, kdm, kdn, kel, aop, resultsL, resultOf, Nat.reduceEqDiff, reduceCtorEq, eq1, apartOK, apart2, AObj.live, Int.reduceEq, Int.reduceLT, Int.reduceLE, Int.reduceAdd, Int.reduceSub, Int.reduceMul, Int.reduceToNat, cutCells, Nat.reduceAdd, Nat.reduceLeDiff, Nat.reduceLT, Nat.reduceMul, Nat.reduceSub]
  refine mask_g ?_
  simp (disch := omega) only [kB, kcx, kdm, kdn, kel, aop, resultsL, resultOf, Nat.reduceEqDiff, reduceCtorEq, eq1, apartOK, apart2, AObj.live, Int.reduceEq, Int.reduceLT, Int.reduceLE, Int.reduceAdd, Int.reduceSub, Int.reduceMul, Int.reduceToNat, cutCells, Nat.reduceAdd, Nat.reduceLeDiff, Nat.reduceLT, Nat.reduceMul, Nat.reduceSub]
  refine rmost_s ?_
  simp (disch := omega) only [kB, kcx, kdm, kdn, kel, aop, resultsL, resultOf, Nat.reduceEqDiff, reduceCtorEq, eq1, apartOK, apart2, AObj.live, Int.reduceEq, Int.reduceLT, Int.reduceLE, Int.reduceAdd, Int.reduceSub, Int.reduceMul, Int.reduceToNat, cutCells, Nat.reduceAdd, Nat.reduceLeDiff, Nat.reduceLT, Nat.reduceMul, Nat.reduceSub]
  refine rmask_s ?_
  simp (disch := omega) only [kB, kcx, kdm, kdn, kel, aop, resultsL, resultOf, Nat.reduceEqDiff, reduceCtorEq, eq1, apartOK, apart2, AObj.live, Int.reduceEq, Int.reduceLT, Int.reduceLE, Int.reduceAdd, Int.reduceSub, Int.reduceMul, Int.reduceToNat, cutCells, Nat.reduceAdd, Nat.reduceLeDiff, Nat.reduceLT, Nat.reduceMul, Nat.reduceSub]
  refine rfits_s ha' ?_
  generalize maskI w w = m1
  generalize maskI w n = m2
  have eb : ∀ x : Bool, ((x == x) != false) = true := fun x => by cases x <;> rfl
  simp (disch := omega) only [kB, kcx, kdm, kdn, kel, aop, resultsL, resultOf, Nat.reduceEqDiff, reduceCtorEq, eq1, apartOK, apart2, AObj.live, Int.reduceEq, Int.reduceLT, Int.reduceLE, Int.reduceAdd, Int.reduceSub, Int.reduceMul, Int.reduceToNat, cutCells, Nat.reduceAdd, Nat.reduceLeDiff, Nat.reduceLT, Nat.reduceMul, Nat.reduceSub, eb, eq_bvv, decide_true, Bool.bne_true, Bool.bne_false, Bool.not_true, Bool.not_false]
  refine cmp_s ?_
  simp (disch := omega) only [kB, kcx, kdm, kdn, kel, aop, resultsL, resultOf, Nat.reduceEqDiff, reduceCtorEq, eq1, apartOK, apart2, AObj.live, Int.reduceEq, Int.reduceLT, Int.reduceLE, Int.reduceAdd, Int.reduceSub, Int.reduceMul, Int.reduceToNat, cutCells, Nat.reduceAdd, Nat.reduceLeDiff, Nat.reduceLT, Nat.reduceMul, Nat.reduceSub, eb, eq_bvv, decide_true, Bool.bne_true, Bool.bne_false, Bool.not_true, Bool.not_false]
  refine and_s ha' hb' ?_
  simp (disch := omega) only [kB, kcx, kdm, kdn, kel, aop, resultsL, resultOf, Nat.reduceEqDiff, reduceCtorEq, eq1, apartOK, apart2, AObj.live, Int.reduceEq, Int.reduceLT, Int.reduceLE, Int.reduceAdd, Int.reduceSub, Int.reduceMul, Int.reduceToNat, cutCells, Nat.reduceAdd, Nat.reduceLeDiff, Nat.reduceLT, Nat.reduceMul, Nat.reduceSub, eb, eq_bvv, decide_true, Bool.bne_true, Bool.bne_false, Bool.not_true, Bool.not_false]
  refine bor_s ha' hb' ?_
  simp (disch := omega) only [kB, kcx, kdm, kdn, kel, aop, resultsL, resultOf, Nat.reduceEqDiff, reduceCtorEq, eq1, apartOK, apart2, AObj.live, Int.reduceEq, Int.reduceLT, Int.reduceLE, Int.reduceAdd, Int.reduceSub, Int.reduceMul, Int.reduceToNat, cutCells, Nat.reduceAdd, Nat.reduceLeDiff, Nat.reduceLT, Nat.reduceMul, Nat.reduceSub, eb, eq_bvv, decide_true, Bool.bne_true, Bool.bne_false, Bool.not_true, Bool.not_false]
  refine xor_s ha' hb' ?_
  simp (disch := omega) only [kB, kcx, kdm, kdn, kel, aop, resultsL, resultOf, Nat.reduceEqDiff, reduceCtorEq, eq1, apartOK, apart2, AObj.live, Int.reduceEq, Int.reduceLT, Int.reduceLE, Int.reduceAdd, Int.reduceSub, Int.reduceMul, Int.reduceToNat, cutCells, Nat.reduceAdd, Nat.reduceLeDiff, Nat.reduceLT, Nat.reduceMul, Nat.reduceSub, eb, eq_bvv, decide_true, Bool.bne_true, Bool.bne_false, Bool.not_true, Bool.not_false]
  refine rcmp_s ha' hb' ?_
  simp (disch := omega) only [kB, kcx, kdm, kdn, kel, aop, resultsL, resultOf, Nat.reduceEqDiff, reduceCtorEq, eq1, apartOK, apart2, AObj.live, Int.reduceEq, Int.reduceLT, Int.reduceLE, Int.reduceAdd, Int.reduceSub, Int.reduceMul, Int.reduceToNat, cutCells, Nat.reduceAdd, Nat.reduceLeDiff, Nat.reduceLT, Nat.reduceMul, Nat.reduceSub, eb, eq_bvv, decide_true, Bool.bne_true, Bool.bne_false, Bool.not_true, Bool.not_false]
  refine WV.of (fun c hc => ?_) ?_
  · simp only [List.mem_cons, List.not_mem_nil, or_false] at hc
    subst hc
    simp (disch := omega) only [kgd, kge, kgf, kgg, kgh, kgi, kgj, kgk, kgl, kgm, kgn, kgo, kgp, kfy, kgq, kgr, kgs, kgt, kgu, kgv, kgw, kfw, kfx, kgx, kgy, kgz, kha, khb, khc, kga, kgb, kgc, Nat.reduceAdd, khd]
    rfl
  refine rand_s ha' hb' ?_
  rw [thaw_frz0]
  simp (disch := omega) only [kB, kcx, kdm, kdn, kel, aop, resultsL, resultOf, Nat.reduceEqDiff, reduceCtorEq, eq1, apartOK, apart2, AObj.live, Int.reduceEq, Int.reduceLT, Int.reduceLE, Int.reduceAdd, Int.reduceSub, Int.reduceMul, Int.reduceToNat, cutCells, Nat.reduceAdd, Nat.reduceLeDiff, Nat.reduceLT, Nat.reduceMul, Nat.reduceSub, eb, eq_bvv, decide_true, Bool.bne_true, Bool.bne_false, Bool.not_true, Bool.not_false]
  refine WV.of (fun c hc => ?_) ?_
  · simp only [List.mem_cons, List.not_mem_nil, or_false] at hc
    subst hc
    simp (disch := omega) only [kgd, kge, kgf, kgg, kgh, kgi, kgj, kgk, kgl, kgm, kgn, kgo, kgp, kfy, kgq, kgr, kgs, kgt, kgu, kgv, kgw, kfw, kfx, kgx, kgy, kgz, kha, khb, khc, kga, kgb, kgc, Nat.reduceAdd, khd]
    rfl
  refine ror_s ha' hb' ?_
  rw [thaw_frz0]
  simp (disch := omega) only [kB, kcx, kdm, kdn, kel, aop, resultsL, resultOf, Nat.reduceEqDiff, reduceCtorEq, eq1, apartOK, apart2, AObj.live, Int.reduceEq, Int.reduceLT, Int.reduceLE, Int.reduceAdd, Int.reduceSub, Int.reduceMul, Int.reduceToNat, cutCells, Nat.reduceAdd, Nat.reduceLeDiff, Nat.reduceLT, Nat.reduceMul, Nat.reduceSub, eb, eq_bvv, decide_true, Bool.bne_true, Bool.bne_false, Bool.not_true, Bool.not_false]
  refine WV.of (fun c hc => ?_) ?_
  · simp only [List.mem_cons, List.not_mem_nil, or_false] at hc
    subst hc
    simp (disch := omega) only [kgd, kge, kgf, kgg, kgh, kgi, kgj, kgk, kgl, kgm, kgn, kgo, kgp, kfy, kgq, kgr, kgs, kgt, kgu, kgv, kgw, kfw, kfx, kgx, kgy, kgz, kha, khb, khc, kga, kgb, kgc, Nat.reduceAdd, khd]
    rfl
  refine rxor_s ha' hb' ?_
  rw [thaw_frz0]
  simp (disch := omega) only [kB, kcx, kdm, kdn, kel, aop, resultsL, resultOf, Nat.reduceEqDiff, reduceCtorEq, eq1, apartOK, apart2, AObj.live, Int.reduceEq, Int.reduceLT, Int.reduceLE, Int.reduceAdd, Int.reduceSub, Int.reduceMul, Int.reduceToNat, cutCells, Nat.reduceAdd, Nat.reduceLeDiff, Nat.reduceLT, Nat.reduceMul, Nat.reduceSub, eb, eq_bvv, decide_true, Bool.bne_true, Bool.bne_false, Bool.not_true, Bool.not_false]
  generalize a &&& b = v1
  generalize a ||| b = v2
  generalize a ^^^ b = v3
  generalize cmp3 a b = v4
  refine cut_g ha' ?_
  simp (disch := omega) only [kB, kcx, kdm, kdn, kel, aop, resultsL, resultOf, Nat.reduceEqDiff, reduceCtorEq, eq1, apartOK, apart2, AObj.live, Int.reduceEq, Int.reduceLT, Int.reduceLE, Int.reduceAdd, Int.reduceSub, Int.reduceMul, Int.reduceToNat, cutCells, Nat.reduceAdd, Nat.reduceLeDiff, Nat.reduceLT, Nat.reduceMul, Nat.reduceSub, eb, eq_bvv, decide_true, Bool.bne_true, Bool.bne_false, Bool.not_true, Bool.not_false]
  refine add_g ha' hb' ?_
  simp (disch := omega) only [kB, kcx, kdm, kdn, kel, aop, resultsL, resultOf, Nat.reduceEqDiff, reduceCtorEq, eq1, apartOK, apart2, AObj.live, Int.reduceEq, Int.reduceLT, Int.reduceLE, Int.reduceAdd, Int.reduceSub, Int.reduceMul, Int.reduceToNat, cutCells, Nat.reduceAdd, Nat.reduceLeDiff, Nat.reduceLT, Nat.reduceMul, Nat.reduceSub, eb, eq_bvv, decide_true, Bool.bne_true, Bool.bne_false, Bool.not_true, Bool.not_false]
  refine sub_g ha' hb' ?_
  simp (disch := omega) only [kB, kcx, kdm, kdn, kel, aop, resultsL, resultOf, Nat.reduceEqDiff, reduceCtorEq, eq1, apartOK, apart2, AObj.live, Int.reduceEq, Int.reduceLT, Int.reduceLE, Int.reduceAdd, Int.reduceSub, Int.reduceMul, Int.reduceToNat, cutCells, Nat.reduceAdd, Nat.reduceLeDiff, Nat.reduceLT, Nat.reduceMul, Nat.reduceSub, eb, eq_bvv, decide_true, Bool.bne_true, Bool.bne_false, Bool.not_true, Bool.not_false]
  refine bit_g ha' ?_
  simp (disch := omega) only [kB, kcx, kdm, kdn, kel, aop, resultsL, resultOf, Nat.reduceEqDiff, reduceCtorEq, eq1, apartOK, apart2, AObj.live, Int.reduceEq, Int.reduceLT, Int.reduceLE, Int.reduceAdd, Int.reduceSub, Int.reduceMul, Int.reduceToNat, cutCells, Nat.reduceAdd, Nat.reduceLeDiff, Nat.reduceLT, Nat.reduceMul, Nat.reduceSub, eb, eq_bvv, decide_true, Bool.bne_true, Bool.bne_false, Bool.not_true, Bool.not_false]
  refine common_g ha' hb' ?_
  simp (disch := omega) only [kB, kcx, kdm, kdn, kel, aop, resultsL, resultOf, Nat.reduceEqDiff, reduceCtorEq, eq1, apartOK, apart2, AObj.live, Int.reduceEq, Int.reduceLT, Int.reduceLE, Int.reduceAdd, Int.reduceSub, Int.reduceMul, Int.reduceToNat, cutCells, Nat.reduceAdd, Nat.reduceLeDiff, Nat.reduceLT, Nat.reduceMul, Nat.reduceSub, eb, eq_bvv, decide_true, Bool.bne_true, Bool.bne_false, Bool.not_true, Bool.not_false]
  refine WV.of (fun c hc => ?_) ?_
  · simp only [List.mem_cons, List.not_mem_nil, or_false] at hc
    subst hc
    simp (disch := omega) only [kgd, kge, kgf, kgg, kgh, kgi, kgj, kgk, kgl, kgm, kgn, kgo, kgp, kfy, kgq, kgr, kgs, kgt, kgu, kgv, kgw, kfw, kfx, kgx, kgy, kgz, kha, khb, khc, kga, kgb, kgc, Nat.reduceAdd, khd]
    rfl
  refine rcut_s ha' ?_
  rw [thaw_frz0]
  simp (disch := omega) only [kB, kcx, kdm, kdn, kel, aop, resultsL, resultOf, Nat.reduceEqDiff, reduceCtorEq, eq1, apartOK, apart2, AObj.live, Int.reduceEq, Int.reduceLT, Int.reduceLE, Int.reduceAdd, Int.reduceSub, Int.reduceMul, Int.reduceToNat, cutCells, Nat.reduceAdd, Nat.reduceLeDiff, Nat.reduceLT, Nat.reduceMul, Nat.reduceSub, eb, eq_bvv, decide_true, Bool.bne_true, Bool.bne_false, Bool.not_true, Bool.not_false]
  refine WV.of (fun c hc => ?_) ?_
  · simp only [List.mem_cons, List.not_mem_nil, or_false] at hc
    subst hc
    simp (disch := omega) only [kgd, kge, kgf, kgg, kgh, kgi, kgj, kgk, kgl, kgm, kgn, kgo, kgp, kfy, kgq, kgr, kgs, kgt, kgu, kgv, kgw, kfw, kfx, kgx, kgy, kgz, kha, khb, khc, kga, kgb, kgc, Nat.reduceAdd, khd]
    rfl
  refine radd_s ha' hb' ?_
  rw [thaw_frz0]
  simp (disch := omega) only [kB, kcx, kdm, kdn, kel, aop, resultsL, resultOf, Nat.reduceEqDiff, reduceCtorEq, eq1, apartOK, apart2, AObj.live, Int.reduceEq, Int.reduceLT, Int.reduceLE, Int.reduceAdd, Int.reduceSub, Int.reduceMul, Int.reduceToNat, cutCells, Nat.reduceAdd, Nat.reduceLeDiff, Nat.reduceLT, Nat.reduceMul, Nat.reduceSub, eb, eq_bvv, decide_true, Bool.bne_true, Bool.bne_false, Bool.not_true, Bool.not_false]
  refine WV.of (fun c hc => ?_) ?_
  · simp only [List.mem_cons, List.not_mem_nil, or_false] at hc
    subst hc
    simp (disch := omega) only [kgd, kge, kgf, kgg, kgh, kgi, kgj, kgk, kgl, kgm, kgn, kgo, kgp, kfy, kgq, kgr, kgs, kgt, kgu, kgv, kgw, kfw, kfx, kgx, kgy, kgz, kha, khb, khc, kga, kgb, kgc, Nat.reduceAdd, khd]
    rfl
  refine rsub_s ha' hb' ?_
  rw [thaw_frz0]
  simp (disch := omega) only [kB, kcx, kdm, kdn, kel, aop, resultsL, resultOf, Nat.reduceEqDiff, reduceCtorEq, eq1, apartOK, apart2, AObj.live, Int.reduceEq, Int.reduceLT, Int.reduceLE, Int.reduceAdd, Int.reduceSub, Int.reduceMul, Int.reduceToNat, cutCells, Nat.reduceAdd, Nat.reduceLeDiff, Nat.reduceLT, Nat.reduceMul, Nat.reduceSub, eb, eq_bvv, decide_true, Bool.bne_true, Bool.bne_false, Bool.not_true, Bool.not_false]
  refine rbit_s ha' ?_
  simp (disch := omega) only [kB, kcx, kdm, kdn, kel, aop, resultsL, resultOf, Nat.reduceEqDiff, reduceCtorEq, eq1, apartOK, apart2, AObj.live, Int.reduceEq, Int.reduceLT, Int.reduceLE, Int.reduceAdd, Int.reduceSub, Int.reduceMul, Int.reduceToNat, cutCells, Nat.reduceAdd, Nat.reduceLeDiff, Nat.reduceLT, Nat.reduceMul, Nat.reduceSub, eb, eq_bvv, decide_true, Bool.bne_true, Bool.bne_false, Bool.not_true, Bool.not_false]
  refine rcommon_s ha' hb' ?_
  simp (disch := omega) only [kB, kcx, kdm, kdn, kel, aop, resultsL, resultOf, Nat.reduceEqDiff, reduceCtorEq, eq1, apartOK, apart2, AObj.live, Int.reduceEq, Int.reduceLT, Int.reduceLE, Int.reduceAdd, Int.reduceSub, Int.reduceMul, Int.reduceToNat, cutCells, Nat.reduceAdd, Nat.reduceLeDiff, Nat.reduceLT, Nat.reduceMul, Nat.reduceSub, eb, eq_bvv, decide_true, Bool.bne_true, Bool.bne_false, Bool.not_true, Bool.not_false]

end Go.Proofs.YtkhkmgcegicmoaaDoor.Ev

/- A law's arguments as its row reads them: rows of cells that nothing writes, and what stands in them. Conditions: none. -/
namespace Go.Proofs.YtkhkmgcegicmoaaDoor.Ev
open Go.RowKit Go.ChangeShapes Go.WideShapes

/-- What data stands in some cells. -/
inductive Rep (P : Program) (H : Heap) {X : Type} : TypeId → DataW X → List Value → Prop where
  | bool {t : TypeId} (b : Bool) (hu : P.underlying t = some .bool) : Rep P H t (.lit (.bool b)) [.bool b]
  | int {t : TypeId} (k : IntKind) (n : Int) (hu : P.underlying t = some (.int k)) (hw : (Lit.int k n).wf = true) : Rep P H t (.lit (.int k n)) [.int k n]
  | str {t : TypeId} (l : List UInt8) (hu : P.underlying t = some .string) (hl : l.length ≤ maxLen) : Rep P H t (.lit (.string l)) [.string (bs l)]
  | struct {t : TypeId} {fs : Array Field} {ds : List (DataW X)} {ass : List (List Value)} (hu : P.underlying t = some (.struct fs)) (h1 : ds.length = fs.size) (h2 : ass.length = fs.size)
      (h : ∀ (i : Nat) (f : Field) (d : DataW X) (cz : List Value), fs[i]? = some f → ds[i]? = some d → ass[i]? = some cz → Rep P H f.type d cz)
      (hl : ∀ (i : Nat) (f : Field) (cz : List Value), fs[i]? = some f → ass[i]? = some cz → cz.length = P.cellsOf f.type) : Rep P H t (.agg ds) ass.flatten
  | nilS {t e : TypeId} (hu : P.underlying t = some (.slice e)) : Rep P H t .nil [.slice none 0 0]
  | empty {t e : TypeId} {sp : List (DataW X)} (hu : P.underlying t = some (.slice e)) : Rep P H t (.slice [] sp) [.slice (some ⟨0, 0, some 0⟩) 0 0]
  | slice {t e : TypeId} {b : Nat} {ds sp : List (DataW X)} {ass : List (List Value)} (hu : P.underlying t = some (.slice e)) (hne : ds ≠ []) (hb : hget H b = .row ass.flatten 0 false) (h2 : ass.length = ds.length)
      (h : ∀ (i : Nat) (d : DataW X) (cz : List Value), ds[i]? = some d → ass[i]? = some cz → Rep P H e d cz)
      (hl : ∀ (i : Nat) (cz : List Value), ass[i]? = some cz → cz.length = P.cellsOf e) : Rep P H t (.slice ds sp) [.slice (some ⟨b, 0, none⟩) ds.length ds.length]

theorem Rep.mono {P : Program} {H g : Heap} {X : Type} {t : TypeId} {d : DataW X} {cz : List Value} (h : Rep P H t d cz) : Rep P (H ++ g) t d cz := by
  induction h with
  | bool b hu => exact .bool b hu
  | int k n hu hw => exact .int k n hu hw
  | str l hu hl => exact .str l hu hl
  | struct hu h1 h2 h hl ih => exact .struct hu h1 h2 ih hl
  | nilS hu => exact .nilS hu
  | empty hu => exact .empty hu
  | slice hu hne hb h2 h hl ih => exact .slice hu hne (by rw [hget_old (hget_lt hb rfl)]; exact hb) h2 ih hl

/-- A set of types of plain data: numbers, texts, structs and lists of them. -/
def plainSet (P : Program) (L : List TypeId) : Bool := L.all fun t => decide (t < P.types.size) && match P.underlying t with
  | some .bool | some (.int _) | some .string => true
  | some (.struct fs) => fs.toList.all fun f => L.contains f.type
  | some (.slice e) => L.contains e && decide (0 < P.cellsOf e)
  | _ => false

def chunks : List Nat → List Value → List (List Value)
  | [], _ => []
  | n :: ns, cs => cs.take n :: chunks ns (cs.drop n)

theorem chunks_flat : ∀ (ns : List Nat) (cs : List Value), cs.length = ns.sum → (chunks ns cs).flatten = cs
  | [], cs, h => by simp at h; simp [chunks, h]
  | n :: ns, cs, h => by
    rw [chunks, List.flatten_cons, chunks_flat ns _ (by simp at h ⊢; omega), List.take_append_drop]

theorem chunks_len : ∀ (ns : List Nat) (cs : List Value), (chunks ns cs).length = ns.length
  | [], _ => rfl
  | n :: ns, cs => by rw [chunks, List.length_cons, List.length_cons, chunks_len ns]

theorem chunks_get : ∀ (ns : List Nat) (cs : List Value) (j n : Nat), ns[j]? = some n → (chunks ns cs)[j]? = some ((cs.drop (ns.take j).sum).take n)
  | [], _, j, n, h => by simp at h
  | m :: ns, cs, 0, n, h => by simp at h; simp [chunks, h]
  | m :: ns, cs, j + 1, n, h => by
    have h' : ns[j]? = some n := by simpa using h
    have := chunks_get ns (cs.drop m) j n h'
    simp only [chunks, List.getElem?_cons_succ, List.take_succ_cons, List.sum_cons]
    rw [this, List.drop_drop]

theorem VL.flat {n : Nat} {ρ : Nat → Place} : ∀ (xss yss : List (List Value)), xss.length = yss.length → (∀ (i : Nat) (xs ys : List Value), xss[i]? = some xs → yss[i]? = some ys → VL n ρ xs ys) → VL n ρ xss.flatten yss.flatten
  | [], [], _, _ => VL.nil
  | [], _ :: _, h, _ => by simp at h
  | _ :: _, [], h, _ => by simp at h
  | xs :: xss, ys :: yss, h, hh => by
    rw [List.flatten_cons, List.flatten_cons]
    exact (hh 0 xs ys rfl rfl).append (VL.flat xss yss (by simpa using h) fun i a b ha hb => hh (i + 1) a b (by simpa using ha) (by simpa using hb))

section
variable {X : Type} {enc : TypeId × Value → X} {P : Program} {G : Nat} {W : World} {base : Nat} {sp : Nat → Bool} {held : Bool} {L : List TypeId}

/-- Some cells can be told in a heap of the evaluator's. -/
def Opens (P : Program) (G : Nat) (W : World) (t : TypeId) (cs : List Value) (d : DataW X) : Prop :=
  ∀ (H : Heap) (ρ : Nat → Place), (∀ o ∈ H, o.wrt = false) → Rel G ρ H W → ∃ (g : Heap) (ρ' : Nat → Place) (cz : List Value), Rel G ρ' (H ++ g) W ∧ (∀ b, b < H.length → ρ' b = ρ b) ∧ (∀ o ∈ g, ∃ c, o = .row c 0 false) ∧ VL (H ++ g).length ρ' cz cs ∧ Rep P (H ++ g) t d cz

theorem ro_app {H g : Heap} (h : ∀ o ∈ H, o.wrt = false) (hg : ∀ o ∈ g, ∃ c, o = .row c 0 false) : ∀ o ∈ H ++ g, o.wrt = false := fun o ho => by
  rcases List.mem_append.1 ho with ho | ho
  · exact h o ho
  · obtain ⟨c, rfl⟩ := hg o ho; rfl

theorem opens_list : ∀ (l : List (TypeId × List Value × DataW X)), (∀ q ∈ l, Opens P G W q.1 q.2.1 q.2.2) → ∀ (H : Heap) (ρ : Nat → Place), (∀ o ∈ H, o.wrt = false) → Rel G ρ H W →
    ∃ (g : Heap) (ρ' : Nat → Place) (ass : List (List Value)), Rel G ρ' (H ++ g) W ∧ (∀ b, b < H.length → ρ' b = ρ b) ∧ (∀ o ∈ g, ∃ c, o = .row c 0 false) ∧ ass.length = l.length ∧
      ∀ (i : Nat) (q : TypeId × List Value × DataW X) (cz : List Value), l[i]? = some q → ass[i]? = some cz → VL (H ++ g).length ρ' cz q.2.1 ∧ Rep P (H ++ g) q.1 q.2.2 cz
  | [], _, H, ρ, _, hr => ⟨[], ρ, [], by simpa using hr, fun _ _ => rfl, fun o ho => (by cases ho), rfl, fun i q cz h => by simp at h⟩
  | q :: l, h, H, ρ, hro, hr => by
    obtain ⟨g, ρ1, cz, hr1, hs1, hg1, hv1, hp1⟩ := h q (by simp) H ρ hro hr
    obtain ⟨g2, ρ2, ass, hr2, hs2, hg2, hl2, hh⟩ := opens_list l (fun q hq => h q (by simp [hq])) (H ++ g) ρ1 (ro_app hro hg1) hr1
    rw [List.append_assoc] at hr2 hh
    refine ⟨g ++ g2, ρ2, cz :: ass, hr2, fun b hb => (hs2 b (by simp; omega)).trans (hs1 b hb), fun o ho => ?_, by simp [hl2], fun i q' cz' hq has => ?_⟩
    · rcases List.mem_append.1 ho with ho | ho
      · exact hg1 o ho
      · exact hg2 o ho
    · cases i with
      | zero =>
        simp at hq has
        subst hq; subst has
        refine ⟨hv1.mono (by simp) hs2, ?_⟩
        rw [← List.append_assoc]
        exact hp1.mono
      | succ i => exact hh i q' cz' (by simpa using hq) (by simpa using has)

theorem mem_plain (hP : plainSet P L = true) {t : TypeId} (ht : L.contains t = true) : (decide (t < P.types.size) && (match P.underlying t with
    | some .bool | some (.int _) | some .string => true
    | some (.struct fs) => fs.toList.all fun f => L.contains f.type
    | some (.slice e) => L.contains e && decide (0 < P.cellsOf e)
    | _ => false)) = true := by
  unfold plainSet at hP
  exact List.all_eq_true.1 hP t (List.contains_iff_mem.1 ht)

theorem flat_get {c : Nat} (hc : 0 < c) : ∀ (css : List (List Value)) (k j : Nat) (cs : List Value), (∀ (i : Nat) (cz : List Value), css[i]? = some cz → cz.length = c) → css[k]? = some cs → j < c → css.flatten[k * c + j]? = cs[j]?
  | [], k, j, cs, _, h, _ => by simp at h
  | a :: css, 0, j, cs, hl, h, hj => by
    have h1 := hl 0 a rfl
    simp at h
    subst h
    rw [List.flatten_cons, Nat.zero_mul, Nat.zero_add, List.getElem?_append_left (by omega)]
  | a :: css, k + 1, j, cs, hl, h, hj => by
    have h1 := hl 0 a rfl
    have := flat_get hc css k j cs (fun i cz hi => hl (i + 1) cz (by simpa using hi)) (by simpa using h) hj
    rw [List.flatten_cons, List.getElem?_append_right (by rw [h1, Nat.add_mul]; omega), h1, show (k + 1) * c + j - c = k * c + j by rw [Nat.add_mul]; omega]
    exact this

theorem flat_len {c : Nat} : ∀ (css : List (List Value)), (∀ (i : Nat) (cz : List Value), css[i]? = some cz → cz.length = c) → css.flatten.length = css.length * c
  | [], _ => by simp
  | a :: css, hl => by
    rw [List.flatten_cons, List.length_append, hl 0 a rfl, flat_len css (fun i cz hi => hl (i + 1) cz (by simpa using hi)), List.length_cons, Nat.add_mul]
    omega

/-- A row that nothing writes, new in the evaluator's heap. -/
theorem rel_row {H : Heap} {ρ : Nat → Place} (hro : ∀ o ∈ H, o.wrt = false) (hr : Rel G ρ H W) {a : Addr} {cs : List Value} {cells : Array Value} {t : TypeId} {fr : Nat × Nat} {ext0 : Nat} (hh : W.heap[a.block]? = some (.cells cells t fr))
    (hc : ∀ (i : Nat) (v : Value), cs[i]? = some v → ∃ v', cells[a.off + i]? = some v' ∧ VR H.length ρ v v') : Rel G (ext ρ H.length ⟨a.block, a.off, ext0⟩) (H ++ [.row cs 0 false]) W := by
  have cases_ : ∀ b u, (H ++ [AObj.row cs 0 false])[b]? = some u → (b < H.length ∧ H[b]? = some u) ∨ (b = H.length ∧ u = .row cs 0 false) := fun b u h => by
    by_cases hb : b < H.length
    · rw [List.getElem?_append_left hb] at h; exact .inl ⟨hb, h⟩
    · rw [List.getElem?_append_right (by omega)] at h
      obtain ⟨h1, h2⟩ := List.getElem?_eq_some_iff.1 h
      simp at h1
      have : b = H.length := by omega
      subst this
      simp at h2
      exact .inr ⟨rfl, h2.symm⟩
  have hlen : (H ++ [AObj.row cs 0 false]).length = H.length + 1 := by simp
  refine ⟨fun b u hu => ?_, fun b c u v hu hv hne hw hl => ?_, fun g hg => ?_, by rw [hlen]; have := hr.many; omega⟩
  · rcases cases_ b u hu with ⟨hb, hu⟩ | ⟨rfl, rfl⟩
    · exact (hr.obj b u hu).mono (by omega) (ext_lt hb) (fun c hc => ext_lt hc) (fun _ => rfl)
    · rw [OR, ext_same]
      refine ⟨cells, t, fr, hh, fun i v hi => ?_, fun h => by cases h⟩
      obtain ⟨v', h1, h2⟩ := hc i v hi
      exact ⟨v', h1, h2.mono (by omega) fun b hb => ext_lt hb⟩
  · rcases cases_ b u hu with ⟨hb, hu2⟩ | ⟨rfl, rfl⟩
    · rw [hro u (List.mem_of_getElem? hu2)] at hw
      cases hw
    · cases hw
  · rw [ext_lt (Nat.lt_of_lt_of_le hg hr.many)]; exact hr.glob g hg

theorem opens_trod (hl : laidOutB P = true) (hm : mapsRowed P = true) (hP : plainSet P L = true) : ∀ (n : Nat) (t : TypeId) (cs : List Value) (x : DataW X × List MemPlace), L.contains t = true →
    DataW.trod enc P W base (fun _ => true) held n t cs = some x → Opens P G W t cs x.1 := by
  intro n
  induction n with
  | zero => intro t cs x _ h; simp [DataW.trod] at h
  | succ n ih =>
    intro t cs x ht h
    have hk := mem_plain hP ht
    simp only [Bool.and_eq_true, decide_eq_true_eq] at hk
    obtain ⟨htp, hk⟩ := hk
    have K := kids_rows hl hm
    intro H ρ hro hr
    split at hk
    · rename_i hu
      obtain ⟨b, rfl, rfl⟩ := DataW.trod_bool hu h
      exact ⟨[], ρ, [.bool b], by simpa using hr, fun _ _ => rfl, fun o ho => (by cases ho), VL.cons (.bool b) VL.nil, .bool b hu⟩
    · rename_i k hu
      obtain ⟨m, rfl, rfl, hw⟩ := DataW.trod_int hu h
      exact ⟨[], ρ, [.int k m], by simpa using hr, fun _ _ => rfl, fun o ho => (by cases ho), VL.cons (.int k m) VL.nil, .int k m hu hw⟩
    · rename_i hu
      obtain ⟨s, rfl, rfl, hs⟩ := DataW.trod_string hu h
      exact ⟨[], ρ, [.string s], by simpa using hr, fun _ _ => rfl, fun o ho => (by cases ho), VL.cons (.string s) VL.nil, .str s.data.toList hu (by simpa using hs)⟩
    · rename_i fs hu
      obtain ⟨xs, m, hm1, rfl, hlen, hxl, hf⟩ := DataW.trod_struct hu h
      cases hm1
      obtain ⟨_, hsum, hoff⟩ := K.struct htp hu
      -- the fields, one by one
      have hget : ∀ (i : Nat) (f : Field) (y : DataW X × List MemPlace), fs[i]? = some f → xs[i]? = some y → DataW.trod enc P W base (fun _ => true) held n f.type ((cs.drop f.offset).take (P.cellsOf f.type)) = some y := fun i f y hfi hy => by
        rw [hf i f hfi, hy]
      let l : List (TypeId × List Value × DataW X) := (List.range fs.size).map fun i => ((fs[i]?.map (·.type)).getD 0, ((chunks (fs.toList.map fun f => P.cellsOf f.type) cs)[i]?).getD [], (xs[i]?.map (·.1)).getD .nil)
      have hl1 : ∀ i, i < fs.size → ∃ f y, fs[i]? = some f ∧ xs[i]? = some y ∧ l[i]? = some (f.type, (cs.drop f.offset).take (P.cellsOf f.type), y.1) := fun i hi => by
        have e1 : fs[i]? = some fs[i] := Array.getElem?_eq_getElem hi
        have e2 : xs[i]? = some (xs[i]'(by omega)) := List.getElem?_eq_getElem (by omega)
        refine ⟨_, _, e1, e2, ?_⟩
        have e3 : fs.toList[i]? = some fs[i] := by rw [Array.getElem?_toList]; exact e1
        have e4 := chunks_get (fs.toList.map fun f => P.cellsOf f.type) cs i (P.cellsOf fs[i].type) (by simp [hi])
        have e5 := hoff i _ e3
        rw [List.map_take] at e5
        rw [← e5] at e4
        simp only [l, List.getElem?_map, List.getElem?_range hi, Option.map_some, e1, e2, e4, Option.getD_some]
      have hlL : l.length = fs.size := by simp [l]
      obtain ⟨g, ρ', ass, hr', hs', hg', hal, hh⟩ := opens_list l (fun q hq => by
        obtain ⟨i, hi⟩ := List.getElem?_of_mem hq
        have hi2 : i < fs.size := by rw [← hlL]; exact (List.getElem?_eq_some_iff.1 hi).1
        obtain ⟨f, y, h1, h2, h3⟩ := hl1 i hi2
        rw [hi] at h3
        cases h3
        refine ih f.type _ y ?_ (hget i f y h1 h2)
        have hmem : f ∈ fs.toList := by
          have : fs.toList[i]? = some f := by simpa using h1
          exact List.mem_of_getElem? this
        exact List.all_eq_true.1 hk f hmem) H ρ hro hr
      refine ⟨g, ρ', ass.flatten, hr', hs', hg', ?_, ?_⟩
      · have hflat := chunks_flat (fs.toList.map fun f => P.cellsOf f.type) cs (by rw [hlen, hsum])
        rw [← hflat]
        refine VL.flat _ _ (by rw [hal, hlL, chunks_len]; simp) fun i a b ha hb => ?_
        have hi : i < fs.size := by rw [← hlL, ← hal]; exact (List.getElem?_eq_some_iff.1 ha).1
        obtain ⟨f, y, h1, h2, h3⟩ := hl1 i hi
        have e4 := chunks_get (fs.toList.map fun f => P.cellsOf f.type) cs i (P.cellsOf f.type) (by
          have : fs.toList[i]? = some f := by simpa using h1
          simp [this])
        have e5 := hoff i f (by simpa using h1)
        rw [List.map_take] at e5
        rw [← e5] at e4
        rw [hb] at e4
        cases e4
        exact (hh i _ a h3 ha).1
      · refine .struct hu (by simpa using hxl) (by rw [hal, hlL]) (fun i f d cz hfi hd ha => ?_) (fun i f cz hfi ha => ?_)
        · have hi : i < fs.size := (Array.getElem?_eq_some_iff.1 hfi).1
          obtain ⟨f', y, h1, h2, h3⟩ := hl1 i hi
          rw [hfi] at h1
          cases h1
          rw [List.getElem?_map, h2] at hd
          cases hd
          exact (hh i _ cz h3 ha).2
        · have hi : i < fs.size := (Array.getElem?_eq_some_iff.1 hfi).1
          obtain ⟨f', y, h1, h2, h3⟩ := hl1 i hi
          rw [hfi] at h1
          cases h1
          have := (hh i _ cz h3 ha).1.1
          rw [this]
          have e5 := hoff i f (by simpa using hfi)
          have hle : f.offset + P.cellsOf f.type ≤ cs.length := by
            rw [hlen, hsum, e5]
            have : fs.toList[i]? = some f := by simpa using hfi
            obtain ⟨h7, h8⟩ := List.getElem?_eq_some_iff.1 this
            have e6 : fs.toList = fs.toList.take i ++ f :: fs.toList.drop (i + 1) := by
              rw [← h8, ← List.drop_eq_getElem_cons h7, List.take_append_drop]
            conv => rhs; rw [e6]
            rw [List.map_append, List.sum_append, List.map_cons, List.sum_cons]
            omega
          rw [List.length_take, List.length_drop]
          omega
    · rename_i e hu
      simp only [Bool.and_eq_true, decide_eq_true_eq] at hk
      rcases DataW.trod_slice hu h with ⟨rfl, rfl⟩ | ⟨a, len, cap, elems, rest, m, hm1, rfl, rfl, hbase, hlc, hcm, hel, hge, _, _⟩
      · exact ⟨[], ρ, [.slice none 0 0], by simpa using hr, fun _ _ => rfl, fun o ho => (by cases ho), VL.cons .slNil VL.nil, .nilS hu⟩
      cases hm1
      by_cases h0 : elems = []
      · subst h0
        obtain rfl : len = 0 := by simpa using hel.symm
        exact ⟨[], ρ, [.slice (some ⟨0, 0, some 0⟩) 0 0], by simpa using hr, fun _ _ => rfl, fun o ho => (by cases ho), VL.cons (.slE 0 0 0 a cap) VL.nil, .empty hu⟩
      have hlen0 : 0 < len := by rw [← hel]; exact List.length_pos_iff.2 h0
      have hcell : ∀ i, i < len → ∃ csi y, W.cells? base (a.add (i * P.cellsOf e)) (P.cellsOf e) = some csi ∧ elems[i]? = some y ∧ DataW.trod enc P W base (fun _ => true) held n e csi = some y := fun i hi => by
        have h1 := hge i hi
        have h2 : elems[i]? = some (elems[i]'(by omega)) := List.getElem?_eq_getElem (by omega)
        rw [h2] at h1
        obtain ⟨csi, h3, h4⟩ := Option.bind_eq_some_iff.1 h1
        exact ⟨csi, _, h3, h2, h4⟩
      let css : List (List Value) := (List.range len).map fun i => (W.cells? base (a.add (i * P.cellsOf e)) (P.cellsOf e)).getD []
      have hcss : ∀ i, i < len → ∃ csi y, css[i]? = some csi ∧ W.cells? base (a.add (i * P.cellsOf e)) (P.cellsOf e) = some csi ∧ elems[i]? = some y ∧ DataW.trod enc P W base (fun _ => true) held n e csi = some y := fun i hi => by
        obtain ⟨csi, y, h1, h2, h3⟩ := hcell i hi
        exact ⟨csi, y, by simp [css, hi, h1], h1, h2, h3⟩
      have hcssL : css.length = len := by simp [css]
      let l : List (TypeId × List Value × DataW X) := (List.range len).map fun i => (e, (css[i]?).getD [], (elems[i]?.map (·.1)).getD .nil)
      have hl1 : ∀ i, i < len → ∃ csi y, css[i]? = some csi ∧ W.cells? base (a.add (i * P.cellsOf e)) (P.cellsOf e) = some csi ∧ elems[i]? = some y ∧ DataW.trod enc P W base (fun _ => true) held n e csi = some y ∧ l[i]? = some (e, csi, y.1) := fun i hi => by
        obtain ⟨csi, y, h1, h2, h3, h4⟩ := hcss i hi
        exact ⟨csi, y, h1, h2, h3, h4, by simp [l, hi, h1, h3]⟩
      have hlL : l.length = len := by simp [l]
      obtain ⟨g, ρ', ass, hr', hs', hg', hal, hh⟩ := opens_list l (fun q hq => by
        obtain ⟨i, hi⟩ := List.getElem?_of_mem hq
        have hi2 : i < len := by rw [← hlL]; exact (List.getElem?_eq_some_iff.1 hi).1
        obtain ⟨csi, y, h1, h2, h3, h4, h5⟩ := hl1 i hi2
        rw [hi] at h5
        cases h5
        exact ih e _ y hk.1 h4) H ρ hro hr
      have hasl : ∀ (i : Nat) (cz : List Value), ass[i]? = some cz → cz.length = P.cellsOf e := fun i cz ha => by
        have hi : i < len := by rw [← hlL, ← hal]; exact (List.getElem?_eq_some_iff.1 ha).1
        obtain ⟨csi, y, h1, h2, h3, h4, h5⟩ := hl1 i hi
        rw [(hh i _ cz h5 ha).1.1]
        exact (World.cells?_some h2).2.1
      -- the block itself
      obtain ⟨cs0, y0, g1, g2, _⟩ := hcell 0 hlen0
      obtain ⟨_, gl, gc⟩ := World.cells?_some g1
      have gc0 := gc 0 hk.2
      rw [Nat.zero_mul] at gc0
      have hadd : ∀ (k j : Nat), ((a.add k).add j) = if k + j = 0 then a else ⟨a.block, a.off + (k + j), none⟩ := fun k j => by
        unfold Addr.add
        by_cases hk0 : k = 0
        · subst hk0
          by_cases hj0 : j = 0
          · subst hj0; rfl
          · simp [hj0]
        · by_cases hj0 : j = 0
          · subst hj0; simp [hk0]
          · simp only [if_neg hk0, if_neg hj0, if_neg (show ¬ k + j = 0 by omega), Nat.add_assoc]
      have hblk : ∃ cells ty fr, W.heap[a.block]? = some (.cells cells ty fr) ∧ a.spot = none := by
        have h7 : W.cell? a = cs0[0]? := by simpa [hadd] using gc0
        have h8 : cs0[0]? = some (cs0[0]'(by omega)) := List.getElem?_eq_getElem (by omega)
        rw [h8] at h7
        unfold World.cell? at h7
        split at h7
        · rename_i c ty fr hc
          split at h7
          · cases h7
          · rename_i hsp
            exact ⟨c, ty, fr, hc, by simpa using hsp⟩
        · cases h7
      obtain ⟨cells, ty, fr, hh0, hsp⟩ := hblk
      have hcellat : ∀ (i : Nat) (v : Value), ass.flatten[i]? = some v → ∃ v', cells[a.off + i]? = some v' ∧ VR (H ++ g).length ρ' v v' := fun i v hv => by
        have hi : i < ass.flatten.length := (List.getElem?_eq_some_iff.1 hv).1
        rw [flat_len ass hasl, hal, hlL] at hi
        have hq : i / P.cellsOf e < len := (Nat.div_lt_iff_lt_mul hk.2).2 hi
        have hm2 : i % P.cellsOf e < P.cellsOf e := Nat.mod_lt _ hk.2
        have hid : i / P.cellsOf e * P.cellsOf e + i % P.cellsOf e = i := Nat.div_add_mod' i (P.cellsOf e)
        obtain ⟨csi, y, h1, h2, h3, h4, h5⟩ := hl1 _ hq
        have ha : ass[i / P.cellsOf e]? = some (ass[i / P.cellsOf e]'(by rw [hal, hlL]; exact hq)) := List.getElem?_eq_getElem _
        obtain ⟨hv1, _⟩ := hh _ _ _ h5 ha
        have hfg := flat_get hk.2 ass _ _ _ hasl ha hm2
        rw [hid, hv] at hfg
        obtain ⟨v', hv', hvr⟩ := hv1.get hfg.symm
        refine ⟨v', ?_, hvr⟩
        have h9 := (World.cells?_some h2).2.2 _ hm2
        rw [hadd, hid, hv'] at h9
        by_cases hi0 : i = 0
        · subst hi0
          simp only [if_true] at h9
          unfold World.cell? at h9
          rw [hh0, hsp] at h9
          simpa using h9
        · rw [if_neg hi0] at h9
          unfold World.cell? at h9
          simpa [hh0] using h9
      have hr2 := rel_row (a := a) (cs := ass.flatten) (ext0 := cap - len) (ro_app hro hg') hr' hh0 hcellat
      refine ⟨g ++ [.row ass.flatten 0 false], ext ρ' (H ++ g).length ⟨a.block, a.off, cap - len⟩, [.slice (some ⟨(H ++ g).length, 0, none⟩) len len], by rw [← List.append_assoc]; exact hr2, fun b hb => ?_, fun o ho => ?_, ?_, ?_⟩
      · rw [ext_lt (by rw [List.length_append]; omega)]; exact hs' b hb
      · rcases List.mem_append.1 ho with ho | ho
        · exact hg' o ho
        · rw [List.mem_singleton.1 ho]; exact ⟨_, rfl⟩
      · have := VR.sl (n := (H ++ (g ++ [AObj.row ass.flatten 0 false])).length) (ρ := ext ρ' (H ++ g).length ⟨a.block, a.off, cap - len⟩) (H ++ g).length 0 len len cap (by simp only [List.length_append, List.length_cons, List.length_nil]; omega) (Nat.le_refl _) hlc (by rw [ext_same]; show cap ≤ len + (cap - len); omega)
        rw [ext_same, Nat.add_zero] at this
        have ha2 : (⟨a.block, a.off, none⟩ : Addr) = a := by rw [← hsp]
        rw [ha2] at this
        exact VL.cons this VL.nil
      · have := Rep.slice (P := P) (H := H ++ (g ++ [AObj.row ass.flatten 0 false])) (t := t) (e := e) (b := (H ++ g).length) (ds := elems.map (·.1)) (sp := rest.map (·.1)) (ass := ass) hu (by simpa using h0) (by rw [← List.append_assoc]; exact hget_last _ _) (by rw [hal, hlL, List.length_map, hel])
          (fun i d cz hd ha => by
            have hi : i < len := by rw [← hlL, ← hal]; exact (List.getElem?_eq_some_iff.1 ha).1
            obtain ⟨csi, y, h1, h2, h3, h4, h5⟩ := hl1 i hi
            rw [List.getElem?_map, h3] at hd
            cases hd
            have := (hh i _ cz h5 ha).2
            rw [← List.append_assoc]
            exact this.mono) hasl
        rw [List.length_map, hel] at this
        exact this
    · cases hk

/-! ### The call's end -/

def slicesPos (P : Program) : Bool := (List.range P.types.size).all fun t => match P.underlying t with
  | some (.slice e) => decide (0 < P.cellsOf e)
  | _ => true

theorem args_stay {W' : World} (hl : laidOutB P = true) (hm : mapsRowed P = true) (hp : slicesPos P = true) (bel : Below W.heap.size W W') :
    ∀ {ts : List TypeId} {vs : List Value} {ds : List (DataW X)} {ps : List MemPlace}, (∀ t ∈ ts, t < P.types.size) → DataW.TrodAll enc P W 0 (fun _ => true) true ts vs ds ps →
      DataW.TrodAll enc P W' 0 (fun b => decide (b < W.heap.size)) true ts vs ds ps
  | [], vs, ds, ps, _, h => by
    obtain ⟨rfl, rfl, rfl⟩ := trodAll_nil h
    rfl
  | t :: ts, vs, ds, ps, ht, h => by
    obtain ⟨v, vs1, d, ds1, p, q, rfl, rfl, rfl, ⟨fuel, h1⟩, h2⟩ := trodAll_cons h
    have hlt := DataW.trod_lt fuel t v.cells.toList _ h1
    refine ⟨p, q, ⟨fuel, DataW.trod_stays (kids_rows hl hm) (fun {t e} htt hu => ?_) (fun h => by cases h) (ht t (by simp)) h1 (fun x hx => bel.same (hlt x hx)) (fun x hx => by simpa using hlt x hx)⟩, args_stay hl hm hp bel (fun u hu => ht u (by simp [hu])) h2, rfl⟩
    have := List.all_eq_true.1 hp t (List.mem_range.2 htt)
    simpa [hu] using this

/-! ### The call's arguments -/

/-- An argument tells some data. -/
def ArgRep (P : Program) (H : Heap) (t : TypeId) (d : DataW X) (a : Value) : Prop := ∃ cz, Rep P H t d cz ∧ (((∃ fs, P.underlying t = some (.struct fs)) ∧ a = .agg cz.toArray) ∨ cz = [a])

theorem ArgRep.mono {H g : Heap} {t : TypeId} {d : DataW X} {a : Value} (h : ArgRep P H t d a) : ArgRep P (H ++ g) t d a := by
  obtain ⟨cz, h1, h2⟩ := h
  exact ⟨cz, h1.mono, h2⟩

theorem vr_single {n : Nat} {ρ : Nat → Place} {a : Value} {v : Value} (h : VL n ρ [a] v.cells.toList) (hv : ∀ cs, v ≠ .agg cs) : VR n ρ a v := by
  have : v.cells.toList = [v] := by
    cases v <;> first | rfl | exact absurd rfl (hv _)
  rw [this] at h
  exact h.head

theorem open_args (hl : laidOutB P = true) (hm : mapsRowed P = true) (hP : plainSet P L = true) {r : Reach} {b0 : Nat} : ∀ {ts : List TypeId} {vs : List Value} {ds : List (DataW X)} {ps : List MemPlace},
    (∀ t ∈ ts, L.contains t = true) → DataW.TrodAll enc P W base (fun _ => true) held ts vs ds ps → (∀ (j : Nat) t v, ts[j]? = some t → vs[j]? = some v → Value.okWide P W r b0 t v) →
    ∀ (H : Heap) (ρ : Nat → Place), (∀ o ∈ H, o.wrt = false) → Rel G ρ H W → ∃ (g : Heap) (ρ' : Nat → Place) (avs : List Value), Rel G ρ' (H ++ g) W ∧ (∀ b, b < H.length → ρ' b = ρ b) ∧ (∀ o ∈ g, ∃ c, o = .row c 0 false) ∧
      VL (H ++ g).length ρ' avs vs ∧ avs.length = ts.length ∧ ∀ (j : Nat) t d a, ts[j]? = some t → ds[j]? = some d → avs[j]? = some a → ArgRep P (H ++ g) t d a
  | [], vs, ds, ps, _, h, _, H, ρ, hro, hr => by
    obtain ⟨rfl, rfl, rfl⟩ := trodAll_nil h
    exact ⟨[], ρ, [], by simpa using hr, fun _ _ => rfl, fun o ho => (by cases ho), VL.nil, rfl, fun j t d a h => by simp at h⟩
  | t :: ts, vs, ds, ps, hts, h, hok, H, ρ, hro, hr => by
    obtain ⟨v, vs1, d, ds1, p, q, rfl, rfl, rfl, ⟨fuel, h1⟩, h2⟩ := trodAll_cons h
    have htc := hts t (by simp)
    obtain ⟨g, ρ1, cz, hr1, hs1, hg1, hv1, hp1⟩ := opens_trod (G := G) hl hm hP fuel t _ _ htc h1 H ρ hro hr
    obtain ⟨g2, ρ2, avs, hr2, hs2, hg2, hv2, hl2, hh⟩ := open_args hl hm hP (fun u hu => hts u (by simp [hu])) h2 (fun j t v hj hv => hok (j + 1) t v (by simpa using hj) (by simpa using hv)) (H ++ g) ρ1 (ro_app hro hg1) hr1
    rw [List.append_assoc] at hr2 hh hv2
    have hval := hok 0 t v rfl rfl
    have hk := mem_plain hP htc
    simp only [Bool.and_eq_true, decide_eq_true_eq] at hk
    obtain ⟨_, hk⟩ := hk
    have single : (∀ cs, v ≠ .agg cs) → (∃ a, cz = [a]) → ∃ a, VR (H ++ g).length ρ1 a v ∧ ArgRep P (H ++ g) t d a := fun hna ⟨a, ha⟩ => by
      subst ha
      exact ⟨a, vr_single hv1 hna, [a], hp1, .inr rfl⟩
    have one : (∀ cs, v ≠ .agg cs) → ∃ a, cz = [a] := fun hna => by
      have : v.cells.toList = [v] := by
        cases v <;> first | rfl | exact absurd rfl (hna _)
      have h3 := hv1.1
      rw [this] at h3
      match cz, h3 with
      | [a], _ => exact ⟨a, rfl⟩
    have hex : ∃ a, VR (H ++ g).length ρ1 a v ∧ ArgRep P (H ++ g) t d a := by
      split at hk
      · rename_i hu
        obtain ⟨b, rfl⟩ := okWide_bool hu hval
        exact single (fun _ h => by cases h) (one fun _ h => by cases h)
      · rename_i k hu
        obtain ⟨b, rfl⟩ := okWide_int hu hval
        exact single (fun _ h => by cases h) (one fun _ h => by cases h)
      · rename_i hu
        obtain ⟨b, rfl⟩ := okWide_string hu hval
        exact single (fun _ h => by cases h) (one fun _ h => by cases h)
      · rename_i fs hu
        obtain ⟨cs, rfl, _⟩ := okWide_struct hu hval
        refine ⟨.agg cz.toArray, ?_, cz, hp1, .inl ⟨⟨fs, hu⟩, rfl⟩⟩
        have := hv1.agg
        simpa [Value.cells] using this
      · rename_i e hu
        obtain ⟨a, l, c, rfl⟩ := okWide_slice hu hval
        exact single (fun _ h => by cases h) (one fun _ h => by cases h)
      · cases hk
    obtain ⟨a, ha1, ha2⟩ := hex
    refine ⟨g ++ g2, ρ2, a :: avs, hr2, fun b hb => (hs2 b (by simp; omega)).trans (hs1 b hb), fun o ho => ?_, VL.cons (ha1.mono (by simp) hs2) hv2, by simp [hl2], fun j t' d' a' hj hd ha => ?_⟩
    · rcases List.mem_append.1 ho with ho | ho
      · exact hg1 o ho
      · exact hg2 o ho
    · cases j with
      | zero =>
        simp at hj hd ha
        subst hj; subst hd; subst ha
        rw [← List.append_assoc]
        exact ha2.mono
      | succ j => exact hh j t' d' a' (by simpa using hj) (by simpa using hd) (by simpa using ha)

/-! ### What an argument is -/

theorem Rep.inv_int {H : Heap} {t : TypeId} {k : IntKind} {d : DataW X} {cz : List Value} (hu : P.underlying t = some (.int k)) (h : Rep P H t d cz) : ∃ n, d = .lit (.int k n) ∧ cz = [.int k n] ∧ (Lit.int k n).wf = true := by
  cases h with
  | int k' n hu' hw => rw [hu] at hu'; cases hu'; exact ⟨n, rfl, rfl, hw⟩
  | bool b hu' => rw [hu] at hu'; cases hu'
  | str l hu' hl => rw [hu] at hu'; cases hu'
  | struct hu' => rw [hu] at hu'; cases hu'
  | nilS hu' => rw [hu] at hu'; cases hu'
  | empty hu' => rw [hu] at hu'; cases hu'
  | slice hu' => rw [hu] at hu'; cases hu'

theorem Rep.inv_bool {H : Heap} {t : TypeId} {d : DataW X} {cz : List Value} (hu : P.underlying t = some .bool) (h : Rep P H t d cz) : ∃ b, d = .lit (.bool b) ∧ cz = [.bool b] := by
  cases h with
  | int k' n hu' hw => rw [hu] at hu'; cases hu'
  | bool b hu' => exact ⟨b, rfl, rfl⟩
  | str l hu' hl => rw [hu] at hu'; cases hu'
  | struct hu' => rw [hu] at hu'; cases hu'
  | nilS hu' => rw [hu] at hu'; cases hu'
  | empty hu' => rw [hu] at hu'; cases hu'
  | slice hu' => rw [hu] at hu'; cases hu'

theorem Rep.inv_str {H : Heap} {t : TypeId} {d : DataW X} {cz : List Value} (hu : P.underlying t = some .string) (h : Rep P H t d cz) : ∃ l, d = .lit (.string l) ∧ cz = [.string (bs l)] ∧ l.length ≤ maxLen := by
  cases h with
  | int k' n hu' hw => rw [hu] at hu'; cases hu'
  | bool b hu' => rw [hu] at hu'; cases hu'
  | str l hu' hl => exact ⟨l, rfl, rfl, hl⟩
  | struct hu' => rw [hu] at hu'; cases hu'
  | nilS hu' => rw [hu] at hu'; cases hu'
  | empty hu' => rw [hu] at hu'; cases hu'
  | slice hu' => rw [hu] at hu'; cases hu'

theorem Rep.inv_struct {H : Heap} {t : TypeId} {fs : Array Field} {d : DataW X} {cz : List Value} (hu : P.underlying t = some (.struct fs)) (h : Rep P H t d cz) : ∃ (ds : List (DataW X)) (ass : List (List Value)), d = .agg ds ∧ cz = ass.flatten ∧ ds.length = fs.size ∧ ass.length = fs.size ∧
    ∀ (i : Nat) (f : Field) (d : DataW X) (cz : List Value), fs[i]? = some f → ds[i]? = some d → ass[i]? = some cz → Rep P H f.type d cz := by
  cases h with
  | int k' n hu' hw => rw [hu] at hu'; cases hu'
  | bool b hu' => rw [hu] at hu'; cases hu'
  | str l hu' hl => rw [hu] at hu'; cases hu'
  | struct hu' h1 h2 h3 h4 => rw [hu] at hu'; cases hu'; exact ⟨_, _, rfl, rfl, h1, h2, h3⟩
  | nilS hu' => rw [hu] at hu'; cases hu'
  | empty hu' => rw [hu] at hu'; cases hu'
  | slice hu' => rw [hu] at hu'; cases hu'

theorem Rep.inv_slice {H : Heap} {t e : TypeId} {d : DataW X} {cz : List Value} (hu : P.underlying t = some (.slice e)) (h : Rep P H t d cz) : (d = .nil ∧ cz = [.slice none 0 0]) ∨ (∃ sp, d = .slice [] sp ∧ cz = [.slice (some ⟨0, 0, some 0⟩) 0 0]) ∨
    ∃ (b : Nat) (ds sp : List (DataW X)) (ass : List (List Value)), d = .slice ds sp ∧ ds ≠ [] ∧ cz = [.slice (some ⟨b, 0, none⟩) ds.length ds.length] ∧ hget H b = .row ass.flatten 0 false ∧ ass.length = ds.length ∧
      (∀ (i : Nat) (d : DataW X) (cz : List Value), ds[i]? = some d → ass[i]? = some cz → Rep P H e d cz) ∧ (∀ (i : Nat) (cz : List Value), ass[i]? = some cz → cz.length = P.cellsOf e) := by
  cases h with
  | int k' n hu' hw => rw [hu] at hu'; cases hu'
  | bool b hu' => rw [hu] at hu'; cases hu'
  | str l hu' hl => rw [hu] at hu'; cases hu'
  | struct hu' => rw [hu] at hu'; cases hu'
  | nilS hu' => exact .inl ⟨rfl, rfl⟩
  | empty hu' => exact .inr (.inl ⟨_, rfl, rfl⟩)
  | slice hu' hne hb h2 h3 h4 => rw [hu] at hu'; cases hu'; exact .inr (.inr ⟨_, _, _, _, rfl, hne, rfl, hb, h2, h3, h4⟩)

/-- A struct of two fields. -/
theorem Rep.inv_two {H : Heap} {t : TypeId} {f0 f1 : Field} {d : DataW X} {cz : List Value} (hu : P.underlying t = some (.struct #[f0, f1])) (h : Rep P H t d cz) : ∃ d0 d1 a0 a1, d = .agg [d0, d1] ∧ cz = a0 ++ a1 ∧ Rep P H f0.type d0 a0 ∧ Rep P H f1.type d1 a1 := by
  obtain ⟨ds, ass, rfl, rfl, h1, h2, h3⟩ := h.inv_struct hu
  match ds, ass, h1, h2, h3 with
  | [d0, d1], [a0, a1], _, _, h3 => exact ⟨d0, d1, a0, a1, rfl, by simp, h3 0 f0 d0 a0 rfl rfl rfl, h3 1 f1 d1 a1 rfl rfl rfl⟩

/-- An unsigned number of 64 bits. -/
theorem Rep.inv_u64 {H : Heap} {t : TypeId} {d : DataW X} {cz : List Value} (hu : P.underlying t = some (.int .u64)) (h : Rep P H t d cz) : ∃ n : Nat, d = .lit (.int .u64 n) ∧ cz = [.int .u64 (n : Int)] ∧ n < 18446744073709551616 := by
  obtain ⟨n, rfl, rfl, hw⟩ := h.inv_int hu
  have hw : (0 : Int) ≤ n ∧ n ≤ 18446744073709551615 := by
    simpa [Lit.wf, IntKind.min, IntKind.max, IntKind.signed, IntKind.bits] using hw
  refine ⟨n.toNat, ?_, ?_, by omega⟩ <;> rw [Int.toNat_of_nonneg hw.1]

/-- A number of 64 bits. -/
theorem Rep.inv_i64 {H : Heap} {t : TypeId} {d : DataW X} {cz : List Value} (hu : P.underlying t = some (.int .i64)) (h : Rep P H t d cz) : ∃ n : Int, d = .lit (.int .i64 n) ∧ cz = [.int .i64 n] ∧ -9223372036854775808 ≤ n ∧ n < 9223372036854775808 := by
  obtain ⟨n, rfl, rfl, hw⟩ := h.inv_int hu
  have hw : (-9223372036854775808 : Int) ≤ n ∧ n ≤ 9223372036854775807 := by
    simpa [Lit.wf, IntKind.min, IntKind.max, IntKind.signed, IntKind.bits] using hw
  exact ⟨n, rfl, rfl, hw.1, by omega⟩

end

end Go.Proofs.YtkhkmgcegicmoaaDoor.Ev

/- ValueBits: every two values, every width and every number: the program answers as the document does: whatever the inputs, the law answers true. Conditions: the listed variables read as the program's text lays them. -/
namespace Go.Proofs.YtkhkmgcegicmoaaDoor.Ev
open Go.ChangeShapes Go.WideShapes Go.ChangeAt Go.RowKit

theorem own : ownKnob Tryd.prog.godebug = none := by kernel_rfl

theorem VL.narrow {n m : Nat} {ρ ρ' : Nat → Place} {xs ys : List Value} (h : VL m ρ' xs ys) (hs : ∀ x ∈ xs, Scoped n x) (he : ∀ b, b < n → ρ' b = ρ b) : VL n ρ xs ys :=
  ⟨h.1, fun i x y hx hy => ((h.2 i x y hx hy).narrow (hs x (List.mem_of_getElem? hx))).mono (Nat.le_refl _) fun b hb => (he b hb).symm⟩

theorem bits_arg {P : Program} {H : Heap} {X : Type} {t : TypeId} {f0 f1 : Field} {d : DataW X} {a : Value} (hu : P.underlying t = some (.struct #[f0, f1])) (h0 : P.underlying f0.type = some (.int .u64)) (h1 : P.underlying f1.type = some (.int .u64))
    (h : ArgRep P H t d a) : ∃ v, v < W64 * W64 ∧ a = .agg #[.int .u64 ((v / W64 : Nat) : Int), .int .u64 ((v % W64 : Nat) : Int)] := by
  obtain ⟨cs, hr, hcase⟩ := h
  obtain ⟨d0, d1, a0, a1, rfl, rfl, r0, r1⟩ := hr.inv_two hu
  obtain ⟨x, rfl, rfl, hx⟩ := r0.inv_u64 h0
  obtain ⟨y, rfl, rfl, hy⟩ := r1.inv_u64 h1
  rcases hcase with ⟨_, rfl⟩ | h
  · have e1 : (x * W64 + y) / W64 = x := by show (x * 18446744073709551616 + y) / 18446744073709551616 = x; omega
    have e2 : (x * W64 + y) % W64 = y := by show (x * 18446744073709551616 + y) % 18446744073709551616 = y; omega
    refine ⟨x * W64 + y, ?_, ?_⟩
    · show x * 18446744073709551616 + y < 18446744073709551616 * 18446744073709551616; omega
    · rw [e1, e2]; rfl
  · simp at h

theorem int_arg {P : Program} {H : Heap} {X : Type} {t : TypeId} {d : DataW X} {a : Value} (hu : P.underlying t = some (.int .i64)) (h : ArgRep P H t d a) : ∃ n : Int, d = .lit (.int .i64 n) ∧ a = .int .i64 n := by
  obtain ⟨cs, hr, hcase⟩ := h
  obtain ⟨n, rfl, rfl, _⟩ := hr.inv_i64 hu
  rcases hcase with ⟨⟨fs, hf⟩, _⟩ | h
  · rw [hu] at hf; cases hf
  · simp at h; exact ⟨n, rfl, h.symm⟩

theorem str_arg {P : Program} {H : Heap} {X : Type} {t : TypeId} {d : DataW X} {a : Value} (hu : P.underlying t = some .string) (h : ArgRep P H t d a) : ∃ l, d = .lit (.string l) ∧ a = .string (bs l) := by
  obtain ⟨cs, hr, hcase⟩ := h
  obtain ⟨l, rfl, rfl, _⟩ := hr.inv_str hu
  rcases hcase with ⟨⟨fs, hf⟩, _⟩ | h
  · rw [hu] at hf; cases hf
  · simp at h; exact ⟨l, rfl, h.symm⟩

set_option maxRecDepth 100000 in
theorem valueBits_lifted (os : Os) (started : os.Started) (H : Type) (enc : TypeId × Value → H) :
    ReturnsInHanded {} Tryd.checked os 8 .any (fun w args => (Rows.valueBitsSpec.pre enc Tryd.prog Tryd.f8 [] false w args ∧ laidMetH Tryd.prog laidL w) ∧ sizedMet enc Tryd.prog Tryd.f8 (OpenSpec.ofChange Rows.valueBitsSpec) false w args)
      (Rows.valueBitsSpec.post enc Tryd.prog Tryd.f8 false true false false) := by
  refine returnsInHanded_of_change_and (C := Tryd.checked) (X := fun w _ => laidMetH Tryd.prog laidL w) (fun _ _ _ hh h => h.of_heap hh) own started (by kernel_rfl) Tryd.func8
    (ChangeSpec.witness_at (enc := enc) (C := Tryd.checked) (os := os) (X := fun w _ => laidMetH Tryd.prog laidL w) false (laidWorld os) #[.agg #[.int .u64 0, .int .u64 0], .agg #[.int .u64 0, .int .u64 0], .int .i64 0, .int .i64 0] 8 rfl (by kernel_rfl) (by kernel_rfl) (by kernel_rfl) (by kernel_rfl) (by kernel_rfl) (laidWorld_met os _)) ?_
  intro W base args ds gs before hval0 hW _ hsz hL _
  have hval : ∀ (j : Nat) t v, Tryd.f8.params[j]? = some t → args[j]? = some v → Value.okWide Tryd.prog W .any base t v := hval0
  have hW' := hW
  obtain ⟨p, q, hA0, hV, rfl, hfz, hnd⟩ := hW
  have hA : DataW.TrodAll enc Tryd.prog W 0 (fun _ => true) true Tryd.f8.params.toList args.toList ds p := hA0
  rw [Tryd.params8] at hA hval
  obtain ⟨rfl, rfl⟩ := trodVars_none hV
  obtain ⟨g, ρ', avs, hr, hs, hg, hvl, hlen, hrep⟩ := open_args (G := 6) (L := [24, 22, 3]) (by kernel_rfl) (by kernel_rfl) (by kernel_rfl) (by decide) hA (fun j t v h1 h2 => hval j t v (by simpa using h1) (by simpa using h2)) H0 ρ0 H0_ro (rel_of_laid hL)
  have hA1 := hA
  obtain ⟨v0, vs0, d0, ds0, p0, q0, hargs, rfl, rfl, h0, r0⟩ := trodAll_cons hA1
  obtain ⟨v1, vs1, d1, ds1, p1, q1, rfl, rfl, rfl, h1, r1⟩ := trodAll_cons r0
  obtain ⟨v2, vs2, d2, ds2, p2, q2, rfl, rfl, rfl, h2, r2⟩ := trodAll_cons r1
  obtain ⟨v3, vs3, d3, ds3, p3, q3, rfl, rfl, rfl, h3, r3⟩ := trodAll_cons r2
  obtain ⟨rfl, rfl, rfl⟩ := trodAll_nil r3
  obtain rfl : args = #[v0, v1, v2, v3] := by cases args; simp_all
  match avs, hlen with
  | [a0, a1, a2, a3], _ =>
  obtain ⟨x0, y0, rfl⟩ := bits_arg Tryd.underlying24 Tryd.underlying22 Tryd.underlying22 (hrep 0 24 d0 a0 rfl rfl rfl)
  obtain ⟨x1, y1, rfl⟩ := bits_arg Tryd.underlying24 Tryd.underlying22 Tryd.underlying22 (hrep 1 24 d1 a1 rfl rfl rfl)
  obtain ⟨x2, rfl, rfl⟩ := int_arg Tryd.underlying3 (hrep 2 3 d2 a2 rfl rfl rfl)
  obtain ⟨x3, rfl, rfl⟩ := int_arg Tryd.underlying3 (hrep 3 3 d3 a3 rfl rfl rfl)
  have hG : T.G = 6 := by unfold T; kernel_rfl
  refine (wd_true t8 (H := H0) (bits_w y0 y1) (by rw [hG]; exact rel_of_laid hL) (args' := #[v0, v1, v2, v3]) (VL.narrow hvl (fun x hx => ?_) hs) H0_ro).mono fun e W' ⟨he, bel⟩ => ?_
  · simp only [List.mem_cons, List.not_mem_nil, or_false] at hx
    rcases hx with rfl | rfl | rfl | rfl <;> exact .closed rfl
  subst he
  exact ⟨_, rfl, _, _, _, [], _, [], hW', trodAll_mk1 (shut_bool Tryd.underlying4 _), args_stay (by kernel_rfl) (by kernel_rfl) (by kernel_rfl) bel (by decide) hA, rfl, bel.frame _, fun h => by cases h⟩

theorem valueBits_holds : Rows.ValueBitsSaid :=
  OpenClaim.holds_of_wide 8 Tryd.f8 rfl rfl rfl rfl rfl rfl rfl ⟨rfl, rfl, rfl, rfl, rfl⟩ rfl rfl rfl rfl rfl (by kernel_rfl) Tryd.func8 (by kernel_rfl)
    (of_decide_eq_true (by kernel_rfl)) (by unfold Func.isWrapper; first | (rw [if_pos (by decide +kernel)]; kernel_rfl) | (rw [if_neg (by decide +kernel)]; exact ⟨rfl, rfl⟩))
    (fun os started H enc _ => valueBits_lifted os started H enc)

theorem valueBits_card : Rows.ValueBitsCardSaid :=
  Claim7.holds_tied_plain_at .later [] [.data, .data, .pinned] true (true, "764e126c04e3df85a29b907664f7bdd7858c56c45a012816159f0e78ad711cc5") false
    valueBits_holds (fun _ h => by cases h) (by kernel_rfl) (fun _ h => by cases h) valueBits_row_tie rfl ⟨rfl, rfl⟩ (by kernel_rfl) rfl
    (fun f fn hf hfn => by
      obtain rfl : f = 8 := Option.some.inj ((show Tryd.prog.funcNamed "turnout/turnoutlaw01.ValueBits" = some 8 by kernel_rfl).symm.trans hf) |>.symm
      obtain rfl : fn = Tryd.f8 := (Option.some.inj (Tryd.func8.symm.trans hfn)).symm
      exact ⟨by kernel_rfl, fun j t ht => by
        rw [Tryd.params8] at ht
        have h3 : t = 24 ∨ t = 3 := by
          rcases j with _ | _ | _ | _ | j
          · have : t = 24 := by simpa using ht.symm
            subst this; simp
          · have : t = 24 := by simpa using ht.symm
            subst this; simp
          · have : t = 3 := by simpa using ht.symm
            subst this; simp
          · have : t = 3 := by simpa using ht.symm
            subst this; simp
          · simp at ht
        rcases h3 with rfl | rfl
        · exact (show Tryd.prog.wantsStandIn 24 = false by kernel_rfl)
        · exact (show Tryd.prog.wantsStandIn 3 = false by kernel_rfl)⟩)
    (by kernel_rfl)
#print axioms valueBits_card
end Go.Proofs.YtkhkmgcegicmoaaDoor.Ev
