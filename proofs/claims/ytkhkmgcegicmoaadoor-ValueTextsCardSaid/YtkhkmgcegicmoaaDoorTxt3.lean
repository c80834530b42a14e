/- Parts of the proof: V3, Laid, Y1, W1, Y2, Z1, W2, Z2, C1, Z3, Z4, B1, B2, B3, B4, B5, B6, C2, C3, B7, D1, D2. Conditions: none. -/
import Derived.Test.YtkhkmgcegicmoaaDoorTxt2
import Derived.Test.YtkhkmgcegicmoaaDoorRows
import Derived.ChangeSame
import Derived.ChangeVars
import Derived.JoinedOf
import Derived.RowKit
import Derived.RowKitTokens
import Derived.LaidLaws
import Derived.LaidHandle
import Derived.MakeChecks
import Derived.Stop.Joined
/- Values of 128 bits: common bits, single bits, what fits. -/
namespace Go.Proofs.YtkhkmgcegicmoaaDoor.Ev
set_option maxRecDepth 100000
set_option linter.unusedSimpArgs false
set_option linter.unusedVariables false
variable {R : FRes → Heap → Prop} {H : Heap}

theorem lz_s {z : Nat} (hx : z < 18446744073709551616) (h : R (.ret (.int .i64 ((64 - blen z : Nat) : Int))) H) : WD T 62 [.int .u64 (z : Int)] H R := by
  refine WD.of follows t62 (by simp) ?_
  simp (disch := omega) only [kB, kcx, kdm, kdn, kel, aop, resultsL, resultOf, Nat.reduceEqDiff, reduceCtorEq, eq1, apartOK, apart2, AObj.live, Int.reduceEq, Int.reduceLT, Int.reduceLE, Int.reduceAdd, Int.reduceSub, Int.reduceMul, Int.reduceToNat, cutCells, Nat.reduceAdd, Nat.reduceLeDiff, Nat.reduceLT, Nat.reduceMul, Nat.reduceSub]
  refine len64_s hx ?_
  have hb : blen z ≤ 64 := blen_le.2 hx
  have hs : (64 : Int) - (blen z : Int) = ((64 - blen z : Nat) : Int) := by omega
  simp (disch := omega) only [kB, kcx, kdm, kdn, kel, aop, resultsL, resultOf, Nat.reduceEqDiff, reduceCtorEq, eq1, apartOK, apart2, AObj.live, Int.reduceEq, Int.reduceLT, Int.reduceLE, Int.reduceAdd, Int.reduceSub, Int.reduceMul, Int.reduceToNat, cutCells, Nat.reduceAdd, Nat.reduceLeDiff, Nat.reduceLT, Nat.reduceMul, Nat.reduceSub, wr_i64, hs]
  exact h

theorem shl_eq {z k m : Nat} (hz : z < 2 ^ m) (hm : m + k ≤ 128) : shl z k = z * 2 ^ k := by
  unfold shl
  rw [Nat.shiftLeft_eq]
  refine Nat.mod_eq_of_lt (Nat.lt_of_lt_of_le (Nat.mul_lt_mul_of_pos_right hz (Nat.pow_pos (by decide))) ?_)
  rw [← Nat.pow_add]
  exact Nat.pow_le_pow_right (by decide) hm
theorem blen_mul {z k : Nat} (hz : z ≠ 0) : blen (z * 2 ^ k) = blen z + k := by
  have h1 : (z * 2 ^ k) >>> k = z := by rw [Nat.shiftRight_eq_div_pow, Nat.mul_div_cancel _ (Nat.pow_pos (by decide))]
  have h2 : 2 ^ k ≤ z * 2 ^ k := Nat.le_mul_of_pos_left _ (by omega)
  rw [blen_ge h2, h1]

/-- How many of the highest bits of a width two numbers have in common. -/
def cmn (w a b : Nat) : Nat := w - blen (a ^^^ b)

theorem mm_two {k : IntKind} {a b : Nat} : mmL false (.int k (a : Int)) [.int k (b : Int)] = some (.int k ((min a b : Nat) : Int)) := by
  simp only [mmL, mm2, if_true, Bool.false_eq_true, if_false]
  by_cases h : (b : Int) < (a : Int)
  · rw [if_pos h, Nat.min_eq_right (by omega)]
  · rw [if_neg h, Nat.min_eq_left (by omega)]
theorem mm_three {k : IntKind} {a b c : Nat} : mmL false (.int k (a : Int)) [.int k (b : Int), .int k (c : Int)] = some (.int k ((min (min a b) c : Nat) : Int)) := by
  have h1 := mm_two (k := k) (a := a) (b := b)
  have h2 := mm_two (k := k) (a := min a b) (b := c)
  simp only [mmL] at h1 h2 ⊢
  cases hm : mm2 false (.int k (a : Int)) (.int k (b : Int)) with
  | none => rw [hm] at h1; cases h1
  | some z => rw [hm] at h1; cases h1; exact h2

theorem common_s {w a b : Nat} (hw : 1 ≤ w) (hw2 : w ≤ 128) (ha : a < 2 ^ w) (hb : b < 2 ^ w) (h : R (.ret (.int .i64 (cmn w a b : Nat))) H) : WD T 23 [bvA a, bvA b, .int .i64 w] H R := by
  refine WD.gc0 (WD.of follows t23 (by simp) ?_)
  have hp : 2 ^ w ≤ 2 ^ 128 := Nat.pow_le_pow_right (by decide) hw2
  have e0 : isw (w : Int) = true := by simp [isw]; omega
  simp (disch := omega) only [kB, kcx, kdm, kdn, kel, aop, resultsL, resultOf, Nat.reduceEqDiff, reduceCtorEq, eq1, apartOK, apart2, AObj.live, Int.reduceEq, Int.reduceLT, Int.reduceLE, Int.reduceAdd, Int.reduceSub, Int.reduceMul, Int.reduceToNat, cutCells, Nat.reduceAdd, Nat.reduceLeDiff, Nat.reduceLT, Nat.reduceMul, Nat.reduceSub]
  refine isw_s ?_
  simp (disch := omega) only [kB, kcx, kdm, kdn, kel, aop, resultsL, resultOf, Nat.reduceEqDiff, reduceCtorEq, eq1, apartOK, apart2, AObj.live, Int.reduceEq, Int.reduceLT, Int.reduceLE, Int.reduceAdd, Int.reduceSub, Int.reduceMul, Int.reduceToNat, cutCells, Nat.reduceAdd, Nat.reduceLeDiff, Nat.reduceLT, Nat.reduceMul, Nat.reduceSub, e0]
  refine xor_s (by omega) (by omega) ?_
  have e1 : (128 : Int) - (w : Int) = ((128 - w : Nat) : Int) := by omega
  have hx : a ^^^ b < 2 ^ w := Nat.xor_lt_two_pow ha hb
  simp (disch := omega) only [kB, kcx, kdm, kdn, kel, aop, resultsL, resultOf, Nat.reduceEqDiff, reduceCtorEq, eq1, apartOK, apart2, AObj.live, Int.reduceEq, Int.reduceLT, Int.reduceLE, Int.reduceAdd, Int.reduceSub, Int.reduceMul, Int.reduceToNat, cutCells, Nat.reduceAdd, Nat.reduceLeDiff, Nat.reduceLT, Nat.reduceMul, Nat.reduceSub, wr_i64, e1]
  refine left_s (by omega) (by omega) ?_
  have hs := shl_eq (k := 128 - w) hx (by omega)
  have hlt := shl_lt (a ^^^ b) (128 - w)
  have h1 : blen (shl (a ^^^ b) (128 - w) / W64) = blen (shl (a ^^^ b) (128 - w)) - 64 := by
    rw [W64, ← Nat.shiftRight_eq_div_pow, blen_shr]
  have h2 := hi_lt hlt
  have h3 := lo_lt (shl (a ^^^ b) (128 - w))
  have hbl : blen (a ^^^ b) ≤ w := blen_le.2 hx
  have hbl2 : blen (shl (a ^^^ b) (128 - w)) = if a ^^^ b = 0 then 0 else blen (a ^^^ b) + (128 - w) := by
    rw [hs]
    split
    · rename_i q; rw [q, Nat.zero_mul]; rfl
    · rename_i q; exact blen_mul q
  have hdm := Nat.div_add_mod (shl (a ^^^ b) (128 - w)) W64
  have hz0 : a ^^^ b = 0 → blen (a ^^^ b) = 0 := fun q => by rw [q]; rfl
  generalize hS : shl (a ^^^ b) (128 - w) = s at *
  by_cases hh : s / W64 = 0
  · have hh' : ((s / W64 : Nat) : Int) = 0 := by omega
    simp (disch := omega) only [kB, kcx, kdm, kdn, kel, aop, resultsL, resultOf, Nat.reduceEqDiff, reduceCtorEq, eq1, apartOK, apart2, AObj.live, Int.reduceEq, Int.reduceLT, Int.reduceLE, Int.reduceAdd, Int.reduceSub, Int.reduceMul, Int.reduceToNat, cutCells, Nat.reduceAdd, Nat.reduceLeDiff, Nat.reduceLT, Nat.reduceMul, Nat.reduceSub, hh']
    refine lz_s h3 ?_
    have hsl : s % W64 = s := by rw [hh, Nat.mul_zero, Nat.zero_add] at hdm; exact hdm
    have hb64 : blen s ≤ 64 := by rw [hh] at h1; have : blen 0 = 0 := rfl; omega
    rw [hsl]
    have e2 : (64 : Int) + ((64 - blen s : Nat) : Int) = ((128 - blen s : Nat) : Int) := by omega
    have e3 : min w (128 - blen s) = cmn w a b := by
      unfold cmn
      rw [hbl2]
      split
      · rename_i q; rw [hz0 q]; omega
      · omega
    have e4 := mm_two (k := .i64) (a := w) (b := 128 - blen s)
    rw [e3] at e4
    simp (disch := omega) only [kB, kcx, kdm, kdn, kel, aop, resultsL, resultOf, Nat.reduceEqDiff, reduceCtorEq, eq1, apartOK, apart2, AObj.live, Int.reduceEq, Int.reduceLT, Int.reduceLE, Int.reduceAdd, Int.reduceSub, Int.reduceMul, Int.reduceToNat, cutCells, Nat.reduceAdd, Nat.reduceLeDiff, Nat.reduceLT, Nat.reduceMul, Nat.reduceSub, wr_i64, e2, e4]
    exact ⟨_, rfl, ⟨_, rfl⟩, .closed rfl, h⟩
  · have hh' : ¬ ((s / W64 : Nat) : Int) = 0 := by omega
    simp (disch := omega) only [kB, kcx, kdm, kdn, kel, aop, resultsL, resultOf, Nat.reduceEqDiff, reduceCtorEq, eq1, apartOK, apart2, AObj.live, Int.reduceEq, Int.reduceLT, Int.reduceLE, Int.reduceAdd, Int.reduceSub, Int.reduceMul, Int.reduceToNat, cutCells, Nat.reduceAdd, Nat.reduceLeDiff, Nat.reduceLT, Nat.reduceMul, Nat.reduceSub, hh']
    refine lz_s h2 ?_
    rw [h1]
    have hpos := blen_pos hh
    have hx0 : ¬ a ^^^ b = 0 := fun q => by rw [if_pos q] at hbl2; omega
    rw [if_neg hx0] at hbl2
    have e3 : min w (64 - (blen s - 64)) = cmn w a b := by
      unfold cmn
      omega
    have e4 := mm_two (k := .i64) (a := w) (b := 64 - (blen s - 64))
    rw [e3] at e4
    simp (disch := omega) only [kB, kcx, kdm, kdn, kel, aop, resultsL, resultOf, Nat.reduceEqDiff, reduceCtorEq, eq1, apartOK, apart2, AObj.live, Int.reduceEq, Int.reduceLT, Int.reduceLE, Int.reduceAdd, Int.reduceSub, Int.reduceMul, Int.reduceToNat, cutCells, Nat.reduceAdd, Nat.reduceLeDiff, Nat.reduceLT, Nat.reduceMul, Nat.reduceSub, wr_i64, e4]
    exact ⟨_, rfl, ⟨_, rfl⟩, .closed rfl, h⟩

theorem eq_bv {v w : Nat} : eqL [(1, .int .u64 ((v / W64 : Nat) : Int), .int .u64 ((w / W64 : Nat) : Int)), (1, .int .u64 ((v % W64 : Nat) : Int), .int .u64 ((w % W64 : Nat) : Int))] = some (decide (v = w)) := by
  have e : ∀ x y : Nat, ((x : Int) == (y : Int)) = decide (x = y) := fun x y => by rw [Bool.eq_iff_iff]; simp; omega
  simp only [eqL, eqT1, if_true, e]
  by_cases h1 : v / W64 = w / W64 <;> by_cases h2 : v % W64 = w % W64 <;> simp [h1, h2, two_words (v := v) (w := w)]
theorem eq_bv0 {v : Nat} : eqL [(1, .int .u64 ((v / W64 : Nat) : Int), .int .u64 0), (1, .int .u64 ((v % W64 : Nat) : Int), .int .u64 0)] = some (decide (v = 0)) := eq_bv (w := 0)

theorem shr_zero {a w : Nat} : a >>> w = 0 ↔ a < 2 ^ w := by
  rw [Nat.shiftRight_eq_div_pow, Nat.div_eq_zero_iff_lt (Nat.pow_pos (by decide))]

/-- Does it fit? -/
theorem fits_s {w a : Nat} (hw : 1 ≤ w) (hw2 : w ≤ 128) (ha : a < 2 ^ 128) (h : R (.ret (.bool (decide (a < 2 ^ w)))) H) : WD T 22 [bvA a, .int .i64 w] H R := by
  refine WD.gc0 (WD.of follows t22 (by simp) ?_)
  have e0 : isw (w : Int) = true := by simp [isw]; omega
  simp (disch := omega) only [kB, kcx, kdm, kdn, kel, aop, resultsL, resultOf, Nat.reduceEqDiff, reduceCtorEq, eq1, apartOK, apart2, AObj.live, Int.reduceEq, Int.reduceLT, Int.reduceLE, Int.reduceAdd, Int.reduceSub, Int.reduceMul, Int.reduceToNat, cutCells, Nat.reduceAdd, Nat.reduceLeDiff, Nat.reduceLT, Nat.reduceMul, Nat.reduceSub]
  refine isw_s ?_
  simp (disch := omega) only [kB, kcx, kdm, kdn, kel, aop, resultsL, resultOf, Nat.reduceEqDiff, reduceCtorEq, eq1, apartOK, apart2, AObj.live, Int.reduceEq, Int.reduceLT, Int.reduceLE, Int.reduceAdd, Int.reduceSub, Int.reduceMul, Int.reduceToNat, cutCells, Nat.reduceAdd, Nat.reduceLeDiff, Nat.reduceLT, Nat.reduceMul, Nat.reduceSub, e0]
  refine right_s ha hw2 ?_
  have e1 := eq_bv0 (v := a >>> w)
  have e2 : decide (a >>> w = 0) = decide (a < 2 ^ w) := by rw [Bool.eq_iff_iff]; simp [shr_zero]
  rw [e2] at e1
  simp (disch := omega) only [kB, kcx, kdm, kdn, kel, aop, resultsL, resultOf, Nat.reduceEqDiff, reduceCtorEq, eq1, apartOK, apart2, AObj.live, Int.reduceEq, Int.reduceLT, Int.reduceLE, Int.reduceAdd, Int.reduceSub, Int.reduceMul, Int.reduceToNat, cutCells, Nat.reduceAdd, Nat.reduceLeDiff, Nat.reduceLT, Nat.reduceMul, Nat.reduceSub, e1]
  exact ⟨_, rfl, ⟨_, rfl⟩, .closed rfl, h⟩

theorem bit_s {w a i : Nat} (hw : 1 ≤ w) (hw2 : w ≤ 128) (hi : i < w) (ha : a < 2 ^ 128) (h : R (.ret (.bool (a.testBit (w - 1 - i)))) H) : WD T 20 [bvA a, .int .i64 w, .int .i64 i] H R := by
  refine WD.gc0 (WD.of follows t20 (by simp) ?_)
  have e0 : isw (w : Int) = true := by simp [isw]; omega
  have e1 : ¬ (i : Int) < 0 := by omega
  have e2 : ¬ (w : Int) ≤ (i : Int) := by omega
  simp (disch := omega) only [kB, kcx, kdm, kdn, kel, aop, resultsL, resultOf, Nat.reduceEqDiff, reduceCtorEq, eq1, apartOK, apart2, AObj.live, Int.reduceEq, Int.reduceLT, Int.reduceLE, Int.reduceAdd, Int.reduceSub, Int.reduceMul, Int.reduceToNat, cutCells, Nat.reduceAdd, Nat.reduceLeDiff, Nat.reduceLT, Nat.reduceMul, Nat.reduceSub]
  refine isw_s ?_
  have e3 : (w : Int) - 1 = ((w - 1 : Nat) : Int) := by omega
  have e4 : ((w - 1 : Nat) : Int) - (i : Int) = ((w - 1 - i : Nat) : Int) := by omega
  simp (disch := omega) only [kB, kcx, kdm, kdn, kel, aop, resultsL, resultOf, Nat.reduceEqDiff, reduceCtorEq, eq1, apartOK, apart2, AObj.live, Int.reduceEq, Int.reduceLT, Int.reduceLE, Int.reduceAdd, Int.reduceSub, Int.reduceMul, Int.reduceToNat, cutCells, Nat.reduceAdd, Nat.reduceLeDiff, Nat.reduceLT, Nat.reduceMul, Nat.reduceSub, e0, e1, e2, wr_i64, e3, e4]
  refine right_s ha (by omega) ?_
  have e5 := bin_and64 (lo_lt (a >>> (w - 1 - i))) (b := 1) (by decide)
  have e6 : ((1 : Nat) : Int) = 1 := rfl
  rw [e6] at e5
  have e7 : (((a >>> (w - 1 - i)) % W64) &&& 1) = if a.testBit (w - 1 - i) = true then 1 else 0 := by
    rw [Nat.and_one_is_mod, W64, Nat.mod_mod_of_dvd _ (by decide), Nat.testBit_eq_decide_div_mod_eq, Nat.shiftRight_eq_div_pow]
    simp only [decide_eq_true_eq]
    split <;> omega
  rw [e7] at e5
  cases hb : a.testBit (w - 1 - i) with
  | true =>
    rw [hb] at e5 h
    have e8 : (((if true = true then 1 else 0 : Nat)) : Int) = 1 := rfl
    rw [e8] at e5
    simp (disch := omega) only [kB, kcx, kdm, kdn, kel, aop, resultsL, resultOf, Nat.reduceEqDiff, reduceCtorEq, eq1, apartOK, apart2, AObj.live, Int.reduceEq, Int.reduceLT, Int.reduceLE, Int.reduceAdd, Int.reduceSub, Int.reduceMul, Int.reduceToNat, cutCells, Nat.reduceAdd, Nat.reduceLeDiff, Nat.reduceLT, Nat.reduceMul, Nat.reduceSub, e5]
    exact ⟨_, rfl, ⟨_, rfl⟩, .closed rfl, h⟩
  | false =>
    rw [hb] at e5 h
    have e8 : (((if false = true then 1 else 0 : Nat)) : Int) = 0 := rfl
    rw [e8] at e5
    simp (disch := omega) only [kB, kcx, kdm, kdn, kel, aop, resultsL, resultOf, Nat.reduceEqDiff, reduceCtorEq, eq1, apartOK, apart2, AObj.live, Int.reduceEq, Int.reduceLT, Int.reduceLE, Int.reduceAdd, Int.reduceSub, Int.reduceMul, Int.reduceToNat, cutCells, Nat.reduceAdd, Nat.reduceLeDiff, Nat.reduceLT, Nat.reduceMul, Nat.reduceSub, e5]
    exact ⟨_, rfl, ⟨_, rfl⟩, .closed rfl, h⟩

end Go.Proofs.YtkhkmgcegicmoaaDoor.Ev

/- The laid variables of the seat: what the condition gives a call, and a world that meets it. Conditions: none. -/
namespace Go.Proofs.YtkhkmgcegicmoaaDoor.Ev
open Go.ChangeShapes Go.WideShapes Go.RowKit

theorem mapM_some {α β : Type} {f : α → Option β} : ∀ {l : List α} {xs : List β}, l.mapM f = some xs → xs.length = l.length ∧ ∀ (i : Nat) (x : α), l[i]? = some x → ∃ y, xs[i]? = some y ∧ f x = some y
  | [], xs, h => by
    simp at h
    subst h
    exact ⟨rfl, fun i x hx => by simp at hx⟩
  | a :: l, xs, h => by
    rw [List.mapM_cons] at h
    simp only [Option.bind_eq_bind, Option.bind_eq_some_iff, Option.pure_def, Option.some.injEq] at h
    obtain ⟨y, hy, ys, hys, rfl⟩ := h
    obtain ⟨h1, h2⟩ := mapM_some hys
    refine ⟨by simp [h1], fun i x hx => ?_⟩
    cases i with
    | zero =>
      simp at hx
      subst hx
      exact ⟨y, rfl, hy⟩
    | succ i =>
      simp at hx
      simpa using h2 i x hx

theorem nums_of_trod {H : Type} {enc : TypeId × Value → H} {P : Program} {w : World} {base : Nat} {sp : Nat → Bool} {held : Bool} {fuel : Nat} {t e : TypeId} {n : Nat} {cs : List Value} {l : List Int} {p : List MemPlace}
    (ht : P.underlying t = some (.array n e)) (he : P.underlying e = some (.int .u8)) (hc : P.cellsOf e = 1) (hct : P.cellsOf t = n) (hl : l.length = n)
    (h : DataW.trod enc P w base sp held fuel t cs = some (.agg (l.map fun s => .lit (.int .u8 s)), p)) : cs = l.map fun s => Value.int .u8 s := by
  cases fuel with
  | zero => simp [DataW.trod] at h
  | succ fuel =>
    simp only [DataW.trod, ht, hct, hc] at h
    split at h
    · rename_i hcs
      simp only [Option.map_eq_some_iff] at h
      obtain ⟨xs, hxs, hx⟩ := h
      obtain ⟨h1, h2⟩ := mapM_some hxs
      injection hx with hx1 hx2
      injection hx1 with hx1
      refine List.ext_getElem? fun i => ?_
      by_cases hi : i < n
      · obtain ⟨y, hy, hf⟩ := h2 i i (by simp [hi])
        have hci : i < cs.length := by omega
        have e1 : (cs.drop (i * 1)).take 1 = [cs[i]] := by
          rw [Nat.mul_one, List.drop_eq_getElem_cons hci]
          rfl
        rw [e1] at hf
        have hli : i < l.length := by omega
        have e2 : y.1 = .lit (.int .u8 l[i]) := by
          have h3 : (xs.map (·.1))[i]? = (l.map fun s => (DataW.lit (.int .u8 s) : DataW H))[i]? := by rw [hx1]
          rw [List.getElem?_map, List.getElem?_map, hy, List.getElem?_eq_getElem hli] at h3
          simpa using h3
        have e3 : cs[i] = .int .u8 l[i] := by
          cases fuel with
          | zero => simp [DataW.trod] at hf
          | succ fuel =>
            generalize cs[i] = c at hf
            cases c <;> simp [DataW.trod, he] at hf
            obtain ⟨hk, hy2⟩ := hf
            obtain ⟨rfl, -⟩ := hk
            subst hy2
            simp at e2
            rw [← e2]
        rw [List.getElem?_eq_getElem hci, List.getElem?_map, List.getElem?_eq_getElem hli, e3]
        rfl
      · rw [List.getElem?_eq_none (by omega), List.getElem?_eq_none (by simp; omega)]
    · cases h

def intD : DataW Unit → Int
  | .lit (.int _ n) => n
  | _ => 0
def intsD : DataW Unit → List Int
  | .agg l => l.map intD
  | _ => []
def flatD : Nat → DataW Unit → List Value
  | 0, _ => []
  | n + 1, d =>
    match d with
    | .agg l => l.flatMap (flatD n)
    | .lit (.int k x) => [.int k x]
    | _ => []
def signsL : List Int := intsD Rows.laid_turnout_value_signs
def numV (l : List Int) : List Value := l.map fun s => .int .u8 s
/-- The heap that a law begins with: the signs, to be read alone; the other variables are not read. -/
def H0 : Heap := [.row (numV signsL) 0 false, .dead, .dead, .dead, .dead, .dead]
def ρ0 : Nat → Place := fun b => ⟨b, 0, 0⟩

abbrev laidL : List (String × DataW Unit) := [("unicode/utf8.acceptRanges", Rows.laid_unicode_utf8_acceptRanges), ("turnout/value.signs", Rows.laid_turnout_value_signs), ("unicode/utf8.first", Rows.laid_unicode_utf8_first)]

theorem signs_named : Tryd.prog.globalNamed "turnout/value.signs" = some 0 := by kernel_rfl

theorem cells_of_var {P : Program} {W : World} {n : String} {g : Nat} {cs : Array Value} (hg : P.globalNamed n = some g) (h : W.var? P n = some cs) : ∃ t fr, W.heap[g]? = some (.cells cs t fr) := by
  simp only [World.var?, hg, Option.bind_some] at h
  split at h
  · rename_i c t fr hc
    cases h
    exact ⟨t, fr, hc⟩
  · cases h

theorem laidMetH_of_noHandle {P : Program} {laid : List (String × DataW Unit)} {w : World} (h : (laid.filter fun x => x.2.handleName?.isSome).isEmpty = true) : laidMetH P laid w ↔ laidMet P laid w := by
  unfold laidMetH
  split
  · exact Iff.rfl
  · rename_i e
    rw [e] at h
    cases h

theorem row_of_laid {W : World} {g : Nat} {cs : Array Value} {l : List Int} {t : TypeId} {fr : Nat × Nat} (h : W.heap[g]? = some (.cells cs t fr)) (hl : cs.toList = numV l) (n : Nat) (ρ : Nat → Place) (hρ : ρ g = ⟨g, 0, 0⟩) : OR n ρ W g (.row (numV l) 0 false) := by
  refine ⟨cs, t, fr, by rw [hρ]; exact h, fun i v hv => ?_, fun h => by cases h⟩
  refine ⟨v, ?_, ?_⟩
  · rw [hρ, Nat.zero_add, ← Array.getElem?_toList, hl]
    exact hv
  · simp only [numV, List.getElem?_map, Option.map_eq_some_iff] at hv
    obtain ⟨s, _, rfl⟩ := hv
    exact .int _ _

theorem rel_of_laid {W : World} (h : laidMetH Tryd.prog laidL W) : Rel 6 ρ0 H0 W := by
  have h' : laidMet Tryd.prog laidL W := by
    exact (laidMetH_of_noHandle (by kernel_rfl)).1 h
  obtain ⟨ps, ⟨g, t, cs, fuel, p, q, hg, ht, hvar, hd, ⟨g2, t2, cs2, fuel2, p2, q2, hg2, ht2, hvar2, hd2, _⟩, _⟩, _⟩ := h'
  obtain rfl := Option.some.inj (signs_named.symm.trans hg2)
  obtain rfl := Option.some.inj ((show (Tryd.prog.globals[0]?).map (·.type) = some 54 by kernel_rfl).symm.trans ht2)
  have e2 : cs2.toList = numV signsL := nums_of_trod (n := 16) (e := 5) (l := signsL) (by kernel_rfl) (by kernel_rfl) (by kernel_rfl) (by kernel_rfl) rfl hd2
  obtain ⟨t2, f2, c2⟩ := cells_of_var signs_named hvar2
  refine ⟨fun b o ho => ?_, fun b c o u hb hc hne hw hu => ?_, fun g _ => rfl, by simp [H0]⟩
  · match b, ho with
    | 0, ho => cases ho; exact row_of_laid c2 e2 _ _ rfl
    | 1, ho => cases ho; trivial
    | 2, ho => cases ho; trivial
    | 3, ho => cases ho; trivial
    | 4, ho => cases ho; trivial
    | 5, ho => cases ho; trivial
  · match b, hb with
    | 0, hb => cases hb; cases hw
    | 1, hb => cases hb; cases hw
    | 2, hb => cases hb; cases hw
    | 3, hb => cases hb; cases hw
    | 4, hb => cases hb; cases hw
    | 5, hb => cases hb; cases hw

theorem H0_ro : ∀ o ∈ H0, o.wrt = false := by
  intro o ho
  simp only [H0, List.mem_cons, List.not_mem_nil, or_false] at ho
  rcases ho with rfl | rfl | rfl | rfl | rfl | rfl <;> rfl

/-- A world that meets the condition: the settled one, the variables' cells laid. -/
noncomputable def laidWorld (os : Os) : World :=
  let w0 := World.holding Tryd.prog os ⟨#[], #[], []⟩
  { w0 with heap := ((w0.heap.modify 0 fun
      | .cells _ t frozen => .cells (numV signsL).toArray t frozen
      | o => o).modify 5 fun
      | .cells _ t frozen => .cells (flatD 3 Rows.laid_unicode_utf8_acceptRanges).toArray t frozen
      | o => o).modify 4 fun
      | .cells _ t frozen => .cells (flatD 2 Rows.laid_unicode_utf8_first).toArray t frozen
      | o => o }
theorem laidWorld_met (os : Os) (args : Array Value) : laidMetH Tryd.prog laidL ((laidWorld os).forCall (fun _ _ => 0) ⟨#[], args, []⟩).memory := by
  exact (laidMetH_of_noHandle (by kernel_rfl)).2 (laidMet_of_run' 8 (by kernel_rfl) (by kernel_rfl))

end Go.Proofs.YtkhkmgcegicmoaaDoor.Ev

/- The call that shows that the packages are awake. -/
namespace Go.Proofs.YtkhkmgcegicmoaaDoor.Ev
set_option maxRecDepth 100000
set_option linter.unusedSimpArgs false
set_option linter.unusedVariables false
variable {R : FRes → Heap → Prop} {H : Heap}

def isTrue : Option (FRes × Heap) → Bool
  | some (.ret (.bool true), _) => true
  | _ => false
theorem of_isTrue {x : Option (FRes × Heap)} (h : isTrue x = true) : ∃ H1, x = some (.ret (.bool true), H1) := by
  unfold isTrue at h
  split at h
  · exact ⟨_, rfl⟩
  · cases h

/-- A call that is evaluated over blocks that are read alone, or never. -/
theorem WD.frameM {f : FuncId} {args : List Value} {H0 H : Heap} {v : Value} (hp : ∃ g, H = H0 ++ g) (hG : T.G ≤ H0.length) (hro : ∀ o ∈ H0, o = .dead ∨ ∃ cs, o = .row cs 0 false ∧ ∀ v ∈ cs, Scoped H0.length v)
    (hargs : ∀ a ∈ args, closedV a = true) (hv : Scoped T.G v) (h : WD T f args H0 (fun r _ => r = .ret v)) {R : FRes → Heap → Prop} (hR : R (.ret v) H) : WD T f args H R := by
  obtain ⟨g, rfl⟩ := hp
  intro ρ w args' hr ha
  have hr0 : Rel T.G ρ H0 w := by
    refine ⟨fun b o ho => ?_, fun b c o u hb hc hne hw hl => ?_, hr.glob, hG⟩
    · rcases hro o (List.mem_of_getElem? ho) with rfl | ⟨cs, rfl, hcs⟩
      · exact trivial
      have hb : b < H0.length := (List.getElem?_eq_some_iff.1 ho).1
      obtain ⟨cells, t, fr, h1, h2, h3⟩ := hr.obj b _ (by rw [List.getElem?_append_left hb]; exact ho)
      refine ⟨cells, t, fr, h1, fun i v hi => ?_, h3⟩
      obtain ⟨v', hv', hvr⟩ := h2 i v hi
      exact ⟨v', hv', hvr.narrow (hcs v (List.mem_of_getElem? hi))⟩
    · rcases hro o (List.mem_of_getElem? hb) with rfl | ⟨cs, rfl, _⟩ <;> cases hw
  have ha0 : VL H0.length ρ args args'.toList := ⟨ha.1, fun i x y hx hy => (ha.2 i x y hx hy).narrow (.closed (hargs x (List.mem_of_getElem? hx)))⟩
  have nofoot : ∀ c, ¬ Foot ρ H0 c := by
    rintro c ⟨b, o, hb, hw, _⟩
    rcases hro o (List.mem_of_getElem? hb) with rfl | ⟨cs, rfl, _⟩ <;> cases hw
  have key : ∀ en w1, (∃ r H1, r = .ret v ∧ RetOK T.G ρ H0 w r H1 en w1) → ∃ r H1, R r H1 ∧ RetOK T.G ρ (H0 ++ g) w r H1 en w1 := by
    rintro en w1 ⟨r, H1, rfl, ρ1, hs, v', rfl, hvr⟩
    have hold : ∀ c, c < w.heap.size → w1.heap[c]? = w.heap[c]? := fun c hc => hs.frame c hc (nofoot c)
    refine ⟨_, _, hR, ρ, ⟨⟨fun b o ho => ?_, hr.inj, hr.glob, hr.many⟩, Nat.le_refl _, fun _ _ => rfl, hs.os, hs.tape, hs.output, hs.size, fun c hc _ => hold c hc, fun c hc => .inl hc, hs.loops, fun c u hu hl => .inl ⟨u, hu, hl⟩⟩, v', rfl, ?_⟩
    · exact (hr.obj b o ho).mono (Nat.le_refl _) rfl (fun _ _ => rfl) (fun hl => hold _ (lt_of_live (hr.obj b o ho) hl))
    · have h1 : VR T.G ρ1 v v' := hvr.narrow hv
      refine (h1.mono (Nat.le_refl _) fun b hb => ?_).mono (by have := hr.many; omega) fun _ _ => rfl
      exact (hr.glob b hb).trans (hs.rel.glob b hb).symm
  rcases h ρ w args' hr0 ha0 with ⟨v', h1, h2⟩ | ⟨h1, h2⟩
  · exact .inl ⟨v', h1, key _ _ h2⟩
  · exact .inr ⟨h1, h2.mono key⟩


theorem awake_ev : isTrue (evalFn Tab 64 9 [] H0) = true := by kernel_rfl

theorem globs : T.G ≤ H0.length := by
  have : T.G = 6 := by unfold T; kernel_rfl
  rw [this]
  exact Nat.le_refl _

theorem awake_s (hb : H0 <+: H) (h : R (.ret (.bool true)) H) : WD T 9 [] H R := by
  obtain ⟨H1, he⟩ := of_isTrue awake_ev
  obtain ⟨g, hg⟩ := hb
  refine WD.frameM (H0 := H0) ⟨g, hg.symm⟩ globs (fun o ho => ?_) (by simp) .bool (WD.ev follows table_ok he rfl) h
  simp only [H0, List.mem_cons, List.not_mem_nil, or_false] at ho
  rcases ho with rfl | rfl | rfl | rfl | rfl | rfl
  · refine .inr ⟨_, rfl, fun v hv => ?_⟩
    simp only [numV, List.mem_map] at hv
    obtain ⟨s, _, rfl⟩ := hv
    exact .closed rfl
  all_goals exact .inl rfl

end Go.Proofs.YtkhkmgcegicmoaaDoor.Ev

/- Sums and differences of 128 bits, bit by bit: plain laws. -/
namespace Go.Proofs.YtkhkmgcegicmoaaDoor.Ev
set_option linter.unusedSimpArgs false
set_option linter.unusedVariables false

/-- The carry into a bit. -/
def carN (a b j : Nat) : Bool := decide (2 ^ j ≤ a % 2 ^ j + b % 2 ^ j)

theorem car_zero {a b : Nat} : carN a b 0 = false := by simp [carN, Nat.mod_one]

theorem car_bit {a b j : Nat} : (a + b).testBit j = ((a.testBit j != b.testBit j) != carN a b j) ∧ carN a b (j + 1) = (a.testBit j && b.testBit j || a.testBit j && carN a b j || b.testBit j && carN a b j) := by
  have hp : 0 < 2 ^ j := Nat.two_pow_pos j
  have ha := Nat.mod_lt a hp
  have hb := Nat.mod_lt b hp
  have e1 : ∀ x : Nat, x % 2 ^ (j + 1) = x % 2 ^ j + 2 ^ j * (x / 2 ^ j % 2) := fun x => by rw [Nat.pow_succ, Nat.mod_mul]
  have e2 : ∀ x : Nat, x.testBit j = decide (x / 2 ^ j % 2 = 1) := fun x => by rw [Nat.testBit_eq_decide_div_mod_eq]
  have hsum : (a + b) / 2 ^ j = a / 2 ^ j + b / 2 ^ j + (a % 2 ^ j + b % 2 ^ j) / 2 ^ j := by
    have h1 := Nat.div_add_mod a (2 ^ j)
    have h2 := Nat.div_add_mod b (2 ^ j)
    conv => lhs; rw [← h1, ← h2]
    rw [show 2 ^ j * (a / 2 ^ j) + a % 2 ^ j + (2 ^ j * (b / 2 ^ j) + b % 2 ^ j) = (a % 2 ^ j + b % 2 ^ j) + 2 ^ j * (a / 2 ^ j + b / 2 ^ j) by rw [Nat.mul_add]; omega, Nat.add_mul_div_left _ _ hp]
    omega
  have hc : (a % 2 ^ j + b % 2 ^ j) / 2 ^ j = if 2 ^ j ≤ a % 2 ^ j + b % 2 ^ j then 1 else 0 := by
    split
    · rename_i h
      have : (a % 2 ^ j + b % 2 ^ j) / 2 ^ j < 2 := Nat.div_lt_of_lt_mul (by omega)
      have : 0 < (a % 2 ^ j + b % 2 ^ j) / 2 ^ j := Nat.div_pos h hp
      omega
    · rename_i h
      exact Nat.div_eq_of_lt (by omega)
  rw [e2, e2, e2, carN, carN, e1, e1, hsum, hc, Nat.pow_succ]
  generalize a / 2 ^ j = p
  generalize b / 2 ^ j = q
  generalize a % 2 ^ j = x at *
  generalize b % 2 ^ j = y at *
  generalize 2 ^ j = m at *
  rcases Nat.mod_two_eq_zero_or_one p with hp2 | hp2 <;> rcases Nat.mod_two_eq_zero_or_one q with hq2 | hq2 <;> by_cases h : m ≤ x + y <;>
    (rw [hp2, hq2]; simp only [h, if_true, if_false, Nat.mul_zero, Nat.mul_one, Nat.add_zero, decide_true, decide_false]; constructor <;> simp <;> omega)

end Go.Proofs.YtkhkmgcegicmoaaDoor.Ev

/- Cut, Add, Sub. -/
namespace Go.Proofs.YtkhkmgcegicmoaaDoor.Ev
set_option maxRecDepth 100000
set_option linter.unusedSimpArgs false
set_option linter.unusedVariables false
variable {R : FRes → Heap → Prop} {H : Heap}

theorem cut_s {w v : Nat} (hw : 1 ≤ w) (hw2 : w ≤ 128) (hv : v < 2 ^ 128) (h : R (.ret (bvA (v % 2 ^ w))) H) : WD T 18 [bvA v, .int .i64 w] H R := by
  refine WD.gc0 (WD.of follows t18 (by simp) ?_)
  have e0 : isw (w : Int) = true := by simp [isw]; omega
  simp (disch := omega) only [kB, kcx, kdm, kdn, kel, aop, resultsL, resultOf, Nat.reduceEqDiff, reduceCtorEq, eq1, apartOK, apart2, AObj.live, Int.reduceEq, Int.reduceLT, Int.reduceLE, Int.reduceAdd, Int.reduceSub, Int.reduceMul, Int.reduceToNat, cutCells, Nat.reduceAdd, Nat.reduceLeDiff, Nat.reduceLT, Nat.reduceMul, Nat.reduceSub]
  refine isw_s ?_
  simp (disch := omega) only [kB, kcx, kdm, kdn, kel, aop, resultsL, resultOf, Nat.reduceEqDiff, reduceCtorEq, eq1, apartOK, apart2, AObj.live, Int.reduceEq, Int.reduceLT, Int.reduceLE, Int.reduceAdd, Int.reduceSub, Int.reduceMul, Int.reduceToNat, cutCells, Nat.reduceAdd, Nat.reduceLeDiff, Nat.reduceLT, Nat.reduceMul, Nat.reduceSub, e0]
  refine WV.of (fun c hc => ?_) ?_
  · simp only [List.mem_cons, List.not_mem_nil, or_false] at hc
    subst hc
    simp (disch := omega) only [kgd, kge, kgf, kgg, kgh, kgi, kgj, kgk, kgl, kgm, kgn, kgo, kgp, kfy, kgq, kgr, kgs, kgt, kgu, kgv, kgw, kfw, kfx, kgx, kgy, kgz, kha, khb, khc, kga, kgb, kgc, Nat.reduceAdd, khd]
    rfl
  refine ones_s hw2 ?_
  rw [thaw_frz0]
  simp (disch := omega) only [kB, kcx, kdm, kdn, kel, aop, resultsL, resultOf, Nat.reduceEqDiff, reduceCtorEq, eq1, apartOK, apart2, AObj.live, Int.reduceEq, Int.reduceLT, Int.reduceLE, Int.reduceAdd, Int.reduceSub, Int.reduceMul, Int.reduceToNat, cutCells, Nat.reduceAdd, Nat.reduceLeDiff, Nat.reduceLT, Nat.reduceMul, Nat.reduceSub]
  refine and_s hv (onesN_lt hw2) ?_
  rw [onesN, Nat.and_two_pow_sub_one_eq_mod]
  simp (disch := omega) only [kB, kcx, kdm, kdn, kel, aop, resultsL, resultOf, Nat.reduceEqDiff, reduceCtorEq, eq1, apartOK, apart2, AObj.live, Int.reduceEq, Int.reduceLT, Int.reduceLE, Int.reduceAdd, Int.reduceSub, Int.reduceMul, Int.reduceToNat, cutCells, Nat.reduceAdd, Nat.reduceLeDiff, Nat.reduceLT, Nat.reduceMul, Nat.reduceSub]
  exact ⟨_, rfl, ⟨_, rfl⟩, .closed rfl, h⟩

theorem add64_s {x y c : Nat} (hc : c ≤ 1) (h : R (.ret (.tuple #[.int .u64 (((x + y + c) % 18446744073709551616 : Nat) : Int), .int .u64 (((x + y + c) / 18446744073709551616 : Nat) : Int)])) H) :
    WD T 60 [.int .u64 (x : Int), .int .u64 (y : Int), .int .u64 (c : Int)] H R := by
  refine WD.ext table_ok (show Tab 60 = some (.ext add64) from rfl) ?_ h
  simp only [add64]
  rw [if_pos (by omega)]
  congr 4 <;> simp <;> omega
theorem add64_s0 {x y : Nat} (h : R (.ret (.tuple #[.int .u64 (((x + y) % 18446744073709551616 : Nat) : Int), .int .u64 (((x + y) / 18446744073709551616 : Nat) : Int)])) H) :
    WD T 60 [.int .u64 (x : Int), .int .u64 (y : Int), .int .u64 0] H R := add64_s (c := 0) (by omega) h
theorem sub64_s {x y c : Nat} (hc : c ≤ 1) (h : R (.ret (.tuple #[.int .u64 (((x + 18446744073709551616 - y - c) % 18446744073709551616 : Nat) : Int), .int .u64 (((if x < y + c then 1 else 0 : Nat)) : Int)])) H) :
    WD T 61 [.int .u64 (x : Int), .int .u64 (y : Int), .int .u64 (c : Int)] H R := by
  refine WD.ext table_ok (show Tab 61 = some (.ext sub64) from rfl) ?_ h
  simp only [sub64]
  rw [if_pos (by omega)]
  rfl
theorem sub64_s0 {x y : Nat} (h : R (.ret (.tuple #[.int .u64 (((x + 18446744073709551616 - y) % 18446744073709551616 : Nat) : Int), .int .u64 (((if x < y then 1 else 0 : Nat)) : Int)])) H) :
    WD T 61 [.int .u64 (x : Int), .int .u64 (y : Int), .int .u64 0] H R := sub64_s (c := 0) (by omega) h

theorem bvA_of {hi lo : Nat} (hl : lo < 18446744073709551616) : (.agg #[.int .u64 (hi : Int), .int .u64 (lo : Int)] : Value) = bvA (hi * W64 + lo) := by
  have e1 : (hi * W64 + lo) / W64 = hi := by show (hi * 18446744073709551616 + lo) / 18446744073709551616 = hi; omega
  have e2 : (hi * W64 + lo) % W64 = lo := by show (hi * 18446744073709551616 + lo) % 18446744073709551616 = lo; omega
  rw [bvA, e1, e2]

theorem mod_mod_pow {x w : Nat} (hw : w ≤ 128) : x % 2 ^ 128 % 2 ^ w = x % 2 ^ w := Nat.mod_mod_of_dvd _ (Nat.pow_dvd_pow 2 hw)

theorem add_s {w a b : Nat} (hw : 1 ≤ w) (hw2 : w ≤ 128) (ha : a < 2 ^ 128) (hb : b < 2 ^ 128) (h : R (.ret (bvA ((a + b) % 2 ^ w))) H) : WD T 19 [bvA a, bvA b, .int .i64 w] H R := by
  refine WD.gc0 (WD.of follows t19 (by simp) ?_)
  have a1 := hi_lt ha
  have a2 := lo_lt a
  have b1 := hi_lt hb
  have b2 := lo_lt b
  simp (disch := omega) only [kB, kcx, kdm, kdn, kel, aop, resultsL, resultOf, Nat.reduceEqDiff, reduceCtorEq, eq1, apartOK, apart2, AObj.live, Int.reduceEq, Int.reduceLT, Int.reduceLE, Int.reduceAdd, Int.reduceSub, Int.reduceMul, Int.reduceToNat, cutCells, Nat.reduceAdd, Nat.reduceLeDiff, Nat.reduceLT, Nat.reduceMul, Nat.reduceSub]
  refine add64_s0 ?_
  simp (disch := omega) only [kB, kcx, kdm, kdn, kel, aop, resultsL, resultOf, Nat.reduceEqDiff, reduceCtorEq, eq1, apartOK, apart2, AObj.live, Int.reduceEq, Int.reduceLT, Int.reduceLE, Int.reduceAdd, Int.reduceSub, Int.reduceMul, Int.reduceToNat, cutCells, Nat.reduceAdd, Nat.reduceLeDiff, Nat.reduceLT, Nat.reduceMul, Nat.reduceSub]
  refine add64_s (by omega) ?_
  simp (disch := omega) only [kB, kcx, kdm, kdn, kel, aop, resultsL, resultOf, Nat.reduceEqDiff, reduceCtorEq, eq1, apartOK, apart2, AObj.live, Int.reduceEq, Int.reduceLT, Int.reduceLE, Int.reduceAdd, Int.reduceSub, Int.reduceMul, Int.reduceToNat, cutCells, Nat.reduceAdd, Nat.reduceLeDiff, Nat.reduceLT, Nat.reduceMul, Nat.reduceSub]
  have hs : (.agg #[.int .u64 (((a / W64 + b / W64 + (a % W64 + b % W64) / 18446744073709551616) % 18446744073709551616 : Nat) : Int), .int .u64 (((a % W64 + b % W64) % 18446744073709551616 : Nat) : Int)] : Value) = bvA ((a + b) % 2 ^ 128) := by
    rw [bvA_of (Nat.mod_lt _ (by decide))]
    congr 1
    simp only [W64_eq]
    show _ = (a + b) % 340282366920938463463374607431768211456
    omega
  rw [hs]
  refine cut_s hw hw2 (Nat.mod_lt _ (by decide)) ?_
  rw [mod_mod_pow hw2]
  simp (disch := omega) only [kB, kcx, kdm, kdn, kel, aop, resultsL, resultOf, Nat.reduceEqDiff, reduceCtorEq, eq1, apartOK, apart2, AObj.live, Int.reduceEq, Int.reduceLT, Int.reduceLE, Int.reduceAdd, Int.reduceSub, Int.reduceMul, Int.reduceToNat, cutCells, Nat.reduceAdd, Nat.reduceLeDiff, Nat.reduceLT, Nat.reduceMul, Nat.reduceSub]
  exact ⟨_, rfl, ⟨_, rfl⟩, .closed rfl, h⟩

theorem sub_s {w a b : Nat} (hw : 1 ≤ w) (hw2 : w ≤ 128) (ha : a < 2 ^ 128) (hb : b < 2 ^ 128) (h : R (.ret (bvA ((a + 2 ^ 128 - b) % 2 ^ w))) H) : WD T 21 [bvA a, bvA b, .int .i64 w] H R := by
  refine WD.gc0 (WD.of follows t21 (by simp) ?_)
  have a1 := hi_lt ha
  have a2 := lo_lt a
  have b1 := hi_lt hb
  have b2 := lo_lt b
  simp (disch := omega) only [kB, kcx, kdm, kdn, kel, aop, resultsL, resultOf, Nat.reduceEqDiff, reduceCtorEq, eq1, apartOK, apart2, AObj.live, Int.reduceEq, Int.reduceLT, Int.reduceLE, Int.reduceAdd, Int.reduceSub, Int.reduceMul, Int.reduceToNat, cutCells, Nat.reduceAdd, Nat.reduceLeDiff, Nat.reduceLT, Nat.reduceMul, Nat.reduceSub]
  refine sub64_s0 ?_
  simp (disch := omega) only [kB, kcx, kdm, kdn, kel, aop, resultsL, resultOf, Nat.reduceEqDiff, reduceCtorEq, eq1, apartOK, apart2, AObj.live, Int.reduceEq, Int.reduceLT, Int.reduceLE, Int.reduceAdd, Int.reduceSub, Int.reduceMul, Int.reduceToNat, cutCells, Nat.reduceAdd, Nat.reduceLeDiff, Nat.reduceLT, Nat.reduceMul, Nat.reduceSub]
  refine sub64_s (by split <;> omega) ?_
  simp (disch := omega) only [kB, kcx, kdm, kdn, kel, aop, resultsL, resultOf, Nat.reduceEqDiff, reduceCtorEq, eq1, apartOK, apart2, AObj.live, Int.reduceEq, Int.reduceLT, Int.reduceLE, Int.reduceAdd, Int.reduceSub, Int.reduceMul, Int.reduceToNat, cutCells, Nat.reduceAdd, Nat.reduceLeDiff, Nat.reduceLT, Nat.reduceMul, Nat.reduceSub]
  have hs : ∀ c : Nat, (a % W64 < b % W64 → c = 1) → (¬ a % W64 < b % W64 → c = 0) →
      (.agg #[.int .u64 (((a / W64 + 18446744073709551616 - b / W64 - c) % 18446744073709551616 : Nat) : Int), .int .u64 (((a % W64 + 18446744073709551616 - b % W64) % 18446744073709551616 : Nat) : Int)] : Value) = bvA ((a + 2 ^ 128 - b) % 2 ^ 128) := by
    intro c hc1 hc0
    rw [bvA_of (Nat.mod_lt _ (by decide))]
    congr 1
    simp only [W64_eq] at a1 a2 b1 b2 hc1 hc0 ⊢
    have ha' : a < 340282366920938463463374607431768211456 := ha
    have hb' : b < 340282366920938463463374607431768211456 := hb
    show _ = (a + 340282366920938463463374607431768211456 - b) % 340282366920938463463374607431768211456
    by_cases hlt : a % 18446744073709551616 < b % 18446744073709551616
    · rw [hc1 hlt]; omega
    · rw [hc0 hlt]; omega
  rw [hs _ (fun h => if_pos h) (fun h => if_neg h)]
  refine cut_s hw hw2 (Nat.mod_lt _ (by decide)) ?_
  rw [mod_mod_pow hw2]
  simp (disch := omega) only [kB, kcx, kdm, kdn, kel, aop, resultsL, resultOf, Nat.reduceEqDiff, reduceCtorEq, eq1, apartOK, apart2, AObj.live, Int.reduceEq, Int.reduceLT, Int.reduceLE, Int.reduceAdd, Int.reduceSub, Int.reduceMul, Int.reduceToNat, cutCells, Nat.reduceAdd, Nat.reduceLeDiff, Nat.reduceLT, Nat.reduceMul, Nat.reduceSub]
  exact ⟨_, rfl, ⟨_, rfl⟩, .closed rfl, h⟩

end Go.Proofs.YtkhkmgcegicmoaaDoor.Ev

/- Compare: which of two values is less. -/
namespace Go.Proofs.YtkhkmgcegicmoaaDoor.Ev
set_option maxRecDepth 100000
set_option linter.unusedSimpArgs false
set_option linter.unusedVariables false
variable {R : FRes → Heap → Prop} {H : Heap}

def cmp3 (a b : Nat) : Int := if a < b then -1 else if b < a then 1 else 0

theorem isnan_s {x : Nat} (h : R (.ret (.bool false)) H) : WD T 79 [.int .u64 (x : Int)] H R := by
  refine WD.of follows t79 (by simp) ?_
  have e : decide ((x : Int) = (x : Int)) = true := decide_eq_true rfl
  simp (disch := omega) only [kB, kcx, kdm, kdn, kel, aop, resultsL, resultOf, Nat.reduceEqDiff, reduceCtorEq, eq1, apartOK, apart2, AObj.live, Int.reduceEq, Int.reduceLT, Int.reduceLE, Int.reduceAdd, Int.reduceSub, Int.reduceMul, Int.reduceToNat, cutCells, Nat.reduceAdd, Nat.reduceLeDiff, Nat.reduceLT, Nat.reduceMul, Nat.reduceSub, e, Bool.not_true]
  exact h

theorem cmp64_s {x y : Nat} (h : R (.ret (.int .i64 (cmp3 x y))) H) : WD T 64 [.int .u64 (x : Int), .int .u64 (y : Int)] H R := by
  refine WD.of follows t64 (by simp) ?_
  unfold cmp3 at h
  simp (disch := omega) only [kB, kcx, kdm, kdn, kel, aop, resultsL, resultOf, Nat.reduceEqDiff, reduceCtorEq, eq1, apartOK, apart2, AObj.live, Int.reduceEq, Int.reduceLT, Int.reduceLE, Int.reduceAdd, Int.reduceSub, Int.reduceMul, Int.reduceToNat, cutCells, Nat.reduceAdd, Nat.reduceLeDiff, Nat.reduceLT, Nat.reduceMul, Nat.reduceSub]
  refine isnan_s ?_
  simp (disch := omega) only [kB, kcx, kdm, kdn, kel, aop, resultsL, resultOf, Nat.reduceEqDiff, reduceCtorEq, eq1, apartOK, apart2, AObj.live, Int.reduceEq, Int.reduceLT, Int.reduceLE, Int.reduceAdd, Int.reduceSub, Int.reduceMul, Int.reduceToNat, cutCells, Nat.reduceAdd, Nat.reduceLeDiff, Nat.reduceLT, Nat.reduceMul, Nat.reduceSub]
  refine isnan_s ?_
  by_cases h1 : x < y
  · have h1' : (x : Int) < (y : Int) := by omega
    simp (disch := omega) only [kB, kcx, kdm, kdn, kel, aop, resultsL, resultOf, Nat.reduceEqDiff, reduceCtorEq, eq1, apartOK, apart2, AObj.live, Int.reduceEq, Int.reduceLT, Int.reduceLE, Int.reduceAdd, Int.reduceSub, Int.reduceMul, Int.reduceToNat, cutCells, Nat.reduceAdd, Nat.reduceLeDiff, Nat.reduceLT, Nat.reduceMul, Nat.reduceSub, h1']
    simpa only [if_pos h1] using h
  · have h1' : ¬ (x : Int) < (y : Int) := by omega
    by_cases h2 : y < x
    · have h2' : (y : Int) < (x : Int) := by omega
      simp (disch := omega) only [kB, kcx, kdm, kdn, kel, aop, resultsL, resultOf, Nat.reduceEqDiff, reduceCtorEq, eq1, apartOK, apart2, AObj.live, Int.reduceEq, Int.reduceLT, Int.reduceLE, Int.reduceAdd, Int.reduceSub, Int.reduceMul, Int.reduceToNat, cutCells, Nat.reduceAdd, Nat.reduceLeDiff, Nat.reduceLT, Nat.reduceMul, Nat.reduceSub, h1', h2']
      simpa only [if_neg h1, if_pos h2] using h
    · have h2' : ¬ (y : Int) < (x : Int) := by omega
      simp (disch := omega) only [kB, kcx, kdm, kdn, kel, aop, resultsL, resultOf, Nat.reduceEqDiff, reduceCtorEq, eq1, apartOK, apart2, AObj.live, Int.reduceEq, Int.reduceLT, Int.reduceLE, Int.reduceAdd, Int.reduceSub, Int.reduceMul, Int.reduceToNat, cutCells, Nat.reduceAdd, Nat.reduceLeDiff, Nat.reduceLT, Nat.reduceMul, Nat.reduceSub, h1', h2']
      simpa only [if_neg h1, if_neg h2] using h

def orI (p q : Int) : Int := if p ≠ 0 then p else q

def orInv (b : Nat) (p q : Int) (H : Heap) : Nat → Env → Heap → Prop := fun z e H' => ∃ i : Nat, i ≤ 2 ∧ z = 2 - i ∧ H' = H ∧ (i = 1 → p = 0) ∧ (i = 2 → p = 0 ∧ q = 0) ∧ (∃ x : Nat → Value, e = [x 0, x 1, x 2, .int .i64 0, x 4, x 5, .slice (some ⟨b, 0, none⟩) 2 2, .int .i64 2, .int .i64 (i : Int), x 9, x 10, x 11, x 12, x 13, x 14, x 15, x 16, x 17])

theorem or_s {b : Nat} {p q : Int} (hb : hget H b = .row [.int .i64 p, .int .i64 q] 1 true) (h : R (.ret (.int .i64 (orI p q))) H) : WD T 63 [.slice (some ⟨b, 0, none⟩) 2 2] H R := by
  refine WD.of follows t63 (by simp) ?_
  unfold orI at h
  simp (disch := omega) only [kB, kcx, kdm, kdn, kel, aop, resultsL, resultOf, Nat.reduceEqDiff, reduceCtorEq, eq1, apartOK, apart2, AObj.live, Int.reduceEq, Int.reduceLT, Int.reduceLE, Int.reduceAdd, Int.reduceSub, Int.reduceMul, Int.reduceToNat, cutCells, Nat.reduceAdd, Nat.reduceLeDiff, Nat.reduceLT, Nat.reduceMul, Nat.reduceSub]
  refine WLoop.inv (orInv b p q H) ?_ 2 _ _ ⟨0, by omega, rfl, rfl, by omega, by omega, by exact ex_env rfl⟩
  rintro z e H' ⟨i, hi, rfl, rfl, hp, hq, ⟨x, rfl⟩⟩
  match i, hi with
  | 0, _ =>
    have h0 : ((0 : Nat) : Int) < 2 := by omega
    have h0' : ((0 : Nat) : Int) < ((2 : Nat) : Int) := by omega
    by_cases hp0 : p = 0
    · simp (disch := omega) only [kB, kcx, kdm, kdn, kel, aop, resultsL, resultOf, Nat.reduceEqDiff, reduceCtorEq, eq1, apartOK, apart2, AObj.live, Int.reduceEq, Int.reduceLT, Int.reduceLE, Int.reduceAdd, Int.reduceSub, Int.reduceMul, Int.reduceToNat, cutCells, Nat.reduceAdd, Nat.reduceLeDiff, Nat.reduceLT, Nat.reduceMul, Nat.reduceSub, h0, h0', hb, hp0]
      exact ⟨1, by omega, 1, by omega, rfl, rfl, fun _ => rfl, by omega, by exact ex_env rfl⟩
    · simp (disch := omega) only [kB, kcx, kdm, kdn, kel, aop, resultsL, resultOf, Nat.reduceEqDiff, reduceCtorEq, eq1, apartOK, apart2, AObj.live, Int.reduceEq, Int.reduceLT, Int.reduceLE, Int.reduceAdd, Int.reduceSub, Int.reduceMul, Int.reduceToNat, cutCells, Nat.reduceAdd, Nat.reduceLeDiff, Nat.reduceLT, Nat.reduceMul, Nat.reduceSub, h0, h0', hb, hp0]
      simpa only [if_pos hp0] using h
  | 1, _ =>
    have h0 : ((1 : Nat) : Int) < 2 := by omega
    have h0' : ((1 : Nat) : Int) < ((2 : Nat) : Int) := by omega
    have hp0 := hp rfl
    by_cases hq0 : q = 0
    · simp (disch := omega) only [kB, kcx, kdm, kdn, kel, aop, resultsL, resultOf, Nat.reduceEqDiff, reduceCtorEq, eq1, apartOK, apart2, AObj.live, Int.reduceEq, Int.reduceLT, Int.reduceLE, Int.reduceAdd, Int.reduceSub, Int.reduceMul, Int.reduceToNat, cutCells, Nat.reduceAdd, Nat.reduceLeDiff, Nat.reduceLT, Nat.reduceMul, Nat.reduceSub, h0, h0', hb, hq0]
      exact ⟨0, by omega, 2, by omega, rfl, rfl, by omega, fun _ => ⟨hp0, rfl⟩, by exact ex_env rfl⟩
    · simp (disch := omega) only [kB, kcx, kdm, kdn, kel, aop, resultsL, resultOf, Nat.reduceEqDiff, reduceCtorEq, eq1, apartOK, apart2, AObj.live, Int.reduceEq, Int.reduceLT, Int.reduceLE, Int.reduceAdd, Int.reduceSub, Int.reduceMul, Int.reduceToNat, cutCells, Nat.reduceAdd, Nat.reduceLeDiff, Nat.reduceLT, Nat.reduceMul, Nat.reduceSub, h0, h0', hb, hq0]
      simpa only [hp0, ne_eq, not_true_eq_false, if_false] using h
  | 2, _ =>
    have h0 : ¬ ((2 : Nat) : Int) < 2 := by omega
    obtain ⟨hp0, hq0⟩ := hq rfl
    simp (disch := omega) only [kB, kcx, kdm, kdn, kel, aop, resultsL, resultOf, Nat.reduceEqDiff, reduceCtorEq, eq1, apartOK, apart2, AObj.live, Int.reduceEq, Int.reduceLT, Int.reduceLE, Int.reduceAdd, Int.reduceSub, Int.reduceMul, Int.reduceToNat, cutCells, Nat.reduceAdd, Nat.reduceLeDiff, Nat.reduceLT, Nat.reduceMul, Nat.reduceSub, h0]
    simpa only [hp0, hq0, ne_eq, not_true_eq_false, if_false] using h

theorem cmp3_words {a b : Nat} : orI (cmp3 (a / W64) (b / W64)) (cmp3 (a % W64) (b % W64)) = cmp3 a b := by
  have hw : 0 < W64 := by decide
  have ea := Nat.div_add_mod a W64
  have eb := Nat.div_add_mod b W64
  have la := Nat.mod_lt a hw
  have lb := Nat.mod_lt b hw
  simp only [W64_eq] at *
  unfold orI cmp3
  repeat' split
  all_goals first | rfl | omega

theorem cmp_s {a b : Nat} (h : R (.ret (.int .i64 (cmp3 a b))) H) : WD T 26 [bvA a, bvA b] H R := by
  refine WD.gc0 (WD.of follows t26 (by simp) ?_)
  simp (disch := omega) only [kB, kcx, kdm, kdn, kel, aop, resultsL, resultOf, Nat.reduceEqDiff, reduceCtorEq, eq1, apartOK, apart2, AObj.live, Int.reduceEq, Int.reduceLT, Int.reduceLE, Int.reduceAdd, Int.reduceSub, Int.reduceMul, Int.reduceToNat, cutCells, Nat.reduceAdd, Nat.reduceLeDiff, Nat.reduceLT, Nat.reduceMul, Nat.reduceSub]
  refine WV.of (fun c hc => ?_) ?_
  · simp only [List.mem_cons, List.not_mem_nil, or_false] at hc
    rcases hc with rfl | rfl <;> (simp (disch := omega) only [kgd, kge, kgf, kgg, kgh, kgi, kgj, kgk, kgl, kgm, kgn, kgo, kgp, kfy, kgq, kgr, kgs, kgt, kgu, kgv, kgw, kfw, kfx, kgx, kgy, kgz, kha, khb, khc, kga, kgb, kgc, Nat.reduceAdd, khd]; rfl)
  refine cmp64_s ?_
  rw [thaw_frz0]
  simp (disch := omega) only [kB, kcx, kdm, kdn, kel, aop, resultsL, resultOf, Nat.reduceEqDiff, reduceCtorEq, eq1, apartOK, apart2, AObj.live, Int.reduceEq, Int.reduceLT, Int.reduceLE, Int.reduceAdd, Int.reduceSub, Int.reduceMul, Int.reduceToNat, cutCells, Nat.reduceAdd, Nat.reduceLeDiff, Nat.reduceLT, Nat.reduceMul, Nat.reduceSub]
  refine cmp64_s ?_
  simp (disch := omega) only [kB, kcx, kdm, kdn, kel, aop, resultsL, resultOf, Nat.reduceEqDiff, reduceCtorEq, eq1, apartOK, apart2, AObj.live, Int.reduceEq, Int.reduceLT, Int.reduceLE, Int.reduceAdd, Int.reduceSub, Int.reduceMul, Int.reduceToNat, cutCells, Nat.reduceAdd, Nat.reduceLeDiff, Nat.reduceLT, Nat.reduceMul, Nat.reduceSub]
  refine or_s (p := cmp3 (a / W64) (b / W64)) (q := cmp3 (a % W64) (b % W64)) (by simp (disch := omega) only [kgd, kge, kgf, kgg, kgh, kgi, kgj, kgk, kgl, kgm, kgn, kgo, kgp, kfy, kgq, kgr, kgs, kgt, kgu, kgv, kgw, kfw, kfx, kgx, kgy, kgz, kha, khb, khc, kga, kgb, kgc, Nat.reduceAdd, khd]) ?_
  rw [cmp3_words]
  simp (disch := omega) only [kB, kcx, kdm, kdn, kel, aop, resultsL, resultOf, Nat.reduceEqDiff, reduceCtorEq, eq1, apartOK, apart2, AObj.live, Int.reduceEq, Int.reduceLT, Int.reduceLE, Int.reduceAdd, Int.reduceSub, Int.reduceMul, Int.reduceToNat, cutCells, Nat.reduceAdd, Nat.reduceLeDiff, Nat.reduceLT, Nat.reduceMul, Nat.reduceSub]
  exact ⟨_, rfl, ⟨_, rfl⟩, .closed rfl, h⟩

end Go.Proofs.YtkhkmgcegicmoaaDoor.Ev

/- The bytes of a number, the highest first: their order is the numbers'. -/
namespace Go.Proofs.YtkhkmgcegicmoaaDoor.Ev
set_option linter.unusedSimpArgs false
set_option linter.unusedVariables false

/-- A number in so many bytes, the highest first. -/
def beL : Nat → Nat → List UInt8
  | 0, _ => []
  | n + 1, x => UInt8.ofNat (x >>> (8 * n)) :: beL n x
theorem beL_len : ∀ (n x : Nat), (beL n x).length = n
  | 0, _ => rfl
  | n + 1, x => by rw [beL, List.length_cons, beL_len]
theorem beL_mod : ∀ (n m x : Nat), n ≤ m → beL n (x % 2 ^ (8 * m)) = beL n x
  | 0, _, _, _ => rfl
  | n + 1, m, x, h => by
    rw [beL, beL, beL_mod n m x (by omega)]
    congr 1
    refine UInt8.toNat_inj.1 ?_
    rw [UInt8.toNat_ofNat', UInt8.toNat_ofNat', Nat.shiftRight_eq_div_pow, Nat.shiftRight_eq_div_pow]
    have e : 2 ^ (8 * m) = 2 ^ (8 * n) * 2 ^ (8 * m - 8 * n) := by rw [← Nat.pow_add]; congr 1; omega
    rw [e, Nat.mod_mul_right_div_self]
    have e2 : 2 ^ (8 * m - 8 * n) = 2 ^ 8 * 2 ^ (8 * m - 8 * n - 8) := by rw [← Nat.pow_add]; congr 1; omega
    rw [e2]
    exact Nat.mod_mul_right_mod _ _ _

theorem beL_less : ∀ (n x y : Nat), x < 2 ^ (8 * n) → y < 2 ^ (8 * n) → Op.bytesLess (beL n x) (beL n y) = decide (x < y)
  | 0, x, y, hx, hy => by
    have : x = 0 := by simpa using hx
    have : y = 0 := by simpa using hy
    subst x; subst y
    rfl
  | n + 1, x, y, hx, hy => by
    have hp : 0 < 2 ^ (8 * n) := Nat.two_pow_pos _
    have e : 2 ^ (8 * (n + 1)) = 2 ^ (8 * n) * 256 := by rw [show 8 * (n + 1) = 8 * n + 8 by omega, Nat.pow_add]
    rw [e] at hx hy
    have hx1 : x / 2 ^ (8 * n) < 256 := Nat.div_lt_of_lt_mul (by omega)
    have hy1 : y / 2 ^ (8 * n) < 256 := Nat.div_lt_of_lt_mul (by omega)
    rw [beL, beL, Op.bytesLess, ← beL_mod n n x (Nat.le_refl _), ← beL_mod n n y (Nat.le_refl _), beL_less n _ _ (Nat.mod_lt _ hp) (Nat.mod_lt _ hp), Nat.shiftRight_eq_div_pow, Nat.shiftRight_eq_div_pow]
    have h1 : (UInt8.ofNat (x / 2 ^ (8 * n)) < UInt8.ofNat (y / 2 ^ (8 * n))) ↔ x / 2 ^ (8 * n) < y / 2 ^ (8 * n) := by
      rw [UInt8.lt_iff_toNat_lt, UInt8.toNat_ofNat', UInt8.toNat_ofNat', Nat.mod_eq_of_lt (by omega), Nat.mod_eq_of_lt (by omega)]
    have h2 : (UInt8.ofNat (x / 2 ^ (8 * n)) = UInt8.ofNat (y / 2 ^ (8 * n))) ↔ x / 2 ^ (8 * n) = y / 2 ^ (8 * n) := by
      rw [← UInt8.toNat_inj, UInt8.toNat_ofNat', UInt8.toNat_ofNat', Nat.mod_eq_of_lt (by omega), Nat.mod_eq_of_lt (by omega)]
    have hxe := Nat.div_add_mod x (2 ^ (8 * n))
    have hye := Nat.div_add_mod y (2 ^ (8 * n))
    have hxm := Nat.mod_lt x hp
    have hym := Nat.mod_lt y hp
    rw [Bool.eq_iff_iff]
    simp only [Bool.or_eq_true, decide_eq_true_eq, Bool.and_eq_true, beq_iff_eq, h1, h2]
    generalize x / 2 ^ (8 * n) = p at *
    generalize y / 2 ^ (8 * n) = q at *
    generalize x % 2 ^ (8 * n) = r at *
    generalize y % 2 ^ (8 * n) = s at *
    generalize 2 ^ (8 * n) = m at *
    constructor
    · rintro (h | ⟨rfl, h⟩)
      · have : m * (p + 1) ≤ m * q := Nat.mul_le_mul_left m h
        rw [Nat.mul_add] at this
        omega
      · omega
    · intro h
      rcases Nat.lt_trichotomy p q with h3 | h3 | h3
      · exact .inl h3
      · subst h3; exact .inr ⟨rfl, by omega⟩
      · have : m * (q + 1) ≤ m * p := Nat.mul_le_mul_left m h3
        rw [Nat.mul_add] at this
        omega

end Go.Proofs.YtkhkmgcegicmoaaDoor.Ev

/- Bytes: a value as bytes, the highest first. -/
namespace Go.Proofs.YtkhkmgcegicmoaaDoor.Ev
set_option maxRecDepth 100000
set_option linter.unusedSimpArgs false
set_option linter.unusedVariables false
variable {R : FRes → Heap → Prop} {H : Heap}

def u8c (b : UInt8) : Value := .int .u8 b.toNat
theorem bytes_u8 : ∀ l : List UInt8, bytesOf (l.map u8c) = some l
  | [] => rfl
  | b :: l => by
    rw [List.map_cons, u8c, bytesOf, bytes_u8 l]
    simp

theorem bin_quo {k : IntKind} {a b : Nat} (hb : 0 < b) : binV .quo (.int k (a : Int)) (.int k (b : Int)) = some (.int k (k.wrap ((a / b : Nat) : Int))) := by
  have h0 : ¬ (b : Int) = 0 := by omega
  have : pr (Op.intDiv .quo k (a : Int) (b : Int)) = some (.int k (k.wrap ((a : Int).tdiv (b : Int)))) := by unfold Op.intDiv; rw [if_neg h0]; rfl
  simp only [binV, intBin, if_true, if_neg h0, this]
  rfl

theorem wrap_byte (x : Nat) : IntKind.u8.wrap ((x % W64 : Nat) : Int) = ((UInt8.ofNat x).toNat : Int) := by
  rw [UInt8.toNat_ofNat', W64_eq]
  show ((x % 18446744073709551616 : Nat) : Int) % 256 = ((x % 256 : Nat) : Int)
  omega

theorem rep_flat (n : Nat) (z : Value) : (List.replicate n [z]).flatten = List.replicate n z := by
  induction n with
  | zero => rfl
  | succ n ih => rw [List.replicate_succ, List.flatten_cons, ih]; rfl

theorem set_zero {n i : Nat} {z x : Value} {L : List Value} (h : i < n) : (List.replicate (n - i) z ++ L).set (n - 1 - i) x = List.replicate (n - (i + 1)) z ++ x :: L := by
  have e : n - i = (n - 1 - i) + 1 := by omega
  have e2 : n - (i + 1) = n - 1 - i := by omega
  rw [e, e2, List.replicate_succ', List.append_assoc, List.set_append_right _ _ (by simp)]
  simp

def bytI (n v w : Nat) (H : Heap) : Nat → Env → Heap → Prop := fun z e H' =>
  ∃ i : Nat, i ≤ n ∧ z = n - i ∧ H' = H ++ [.row [.int .u64 ((v / W64 : Nat) : Int), .int .u64 ((v % W64 : Nat) : Int)] 0 true, .row (List.replicate (n - i) (.int .u8 0) ++ (beL i v).map u8c) 1 true] ∧
    (∃ x : Nat → Value, e = [x 0, x 1, .pointer (some ⟨H.length, 0, none⟩), x 3, x 4, x 5, .slice (some ⟨H.length + 1, 0, none⟩) n n, x 7, x 8, x 9, x 10, x 11, x 12, x 13, x 14, x 15, x 16, x 17, x 18, x 19, x 20, x 21, .int .i64 (n : Int), .int .i64 (i : Int), x 24, x 25, x 26, x 27, x 28, x 29, x 30, x 31, x 32, x 33, x 34, x 35, x 36, x 37, x 38, x 39, x 40, x 41])

theorem bytes_s {w v : Nat} (hw : 1 ≤ w) (hw2 : w ≤ 128) (hv : v < 2 ^ w) (h : R (.ret (.tuple #[.string (bs (beL ((w + 7) / 8) v)), .int .i64 0])) H) : WD T 10 [bvA v, .int .i64 w] H R := by
  have hv2 : v < 2 ^ 128 := Nat.lt_of_lt_of_le hv (Nat.pow_le_pow_right (by decide) hw2)
  refine WD.gc0 (WD.of follows t10 (by simp) ?_)
  have e0 : isw (w : Int) = true := by simp [isw]; omega
  simp (disch := omega) only [kB, kcx, kdm, kdn, kel, aop, resultsL, resultOf, Nat.reduceEqDiff, reduceCtorEq, eq1, apartOK, apart2, AObj.live, Int.reduceEq, Int.reduceLT, Int.reduceLE, Int.reduceAdd, Int.reduceSub, Int.reduceMul, Int.reduceToNat, cutCells, Nat.reduceAdd, Nat.reduceLeDiff, Nat.reduceLT, Nat.reduceMul, Nat.reduceSub]
  refine isw_s ?_
  simp (disch := omega) only [kB, kcx, kdm, kdn, kel, aop, resultsL, resultOf, Nat.reduceEqDiff, reduceCtorEq, eq1, apartOK, apart2, AObj.live, Int.reduceEq, Int.reduceLT, Int.reduceLE, Int.reduceAdd, Int.reduceSub, Int.reduceMul, Int.reduceToNat, cutCells, Nat.reduceAdd, Nat.reduceLeDiff, Nat.reduceLT, Nat.reduceMul, Nat.reduceSub, e0]
  refine fits_s hw hw2 hv2 ?_
  rw [decide_eq_true hv]
  obtain ⟨n, hn⟩ : ∃ n, n = (w + 7) / 8 := ⟨_, rfl⟩
  have hn16 : n ≤ 16 := by omega
  have hq := bin_quo (k := .i64) (a := w + 7) (b := 8) (by decide)
  rw [← hn] at hq h
  have e1 : (w : Int) + 7 = ((w + 7 : Nat) : Int) := by omega
  have e2 : (((8 : Nat) : Int)) = 8 := rfl
  rw [e2] at hq
  have hroom : (n : Int) ≤ (n : Int) ∧ n ≤ roomMax := by simp only [roomMax]; omega
  have hfl := rep_flat n (Value.int .u8 0)
  simp (disch := omega) only [kB, kcx, kdm, kdn, kel, aop, resultsL, resultOf, Nat.reduceEqDiff, reduceCtorEq, eq1, apartOK, apart2, AObj.live, Int.reduceEq, Int.reduceLT, Int.reduceLE, Int.reduceAdd, Int.reduceSub, Int.reduceMul, Int.reduceToNat, cutCells, Nat.reduceAdd, Nat.reduceLeDiff, Nat.reduceLT, Nat.reduceMul, Nat.reduceSub, wr_i64, e1, hq, if_pos hroom, Int.toNat_natCast, hfl]
  refine WLoop.inv (bytI n v w H) ?_ n _ _ ⟨0, by omega, rfl, by simp [beL], by exact ex_env rfl⟩
  rintro z e H' ⟨i, hi, rfl, rfl, ⟨x, rfl⟩⟩
  by_cases hlt : i < n
  · have hlt' : (i : Int) < (n : Int) := by omega
    have e3 : (n : Int) - 1 - (i : Int) = ((n - 1 - i : Nat) : Int) := by omega
    have e4 : (8 : Int) * (i : Int) = ((8 * i : Nat) : Int) := by omega
    simp (disch := omega) only [kB, kcx, kdm, kdn, kel, aop, resultsL, resultOf, Nat.reduceEqDiff, reduceCtorEq, eq1, apartOK, apart2, AObj.live, Int.reduceEq, Int.reduceLT, Int.reduceLE, Int.reduceAdd, Int.reduceSub, Int.reduceMul, Int.reduceToNat, cutCells, Nat.reduceAdd, Nat.reduceLeDiff, Nat.reduceLT, Nat.reduceMul, Nat.reduceSub, hlt', wr_i64, e3, e4]
    refine right_s hv2 (by omega) ?_
    have e5 : ((n - 1 - i : Nat) : Int) < (n : Int) := by omega
    have e6 := wrap_byte (v >>> (8 * i))
    have e7 := set_zero (z := .int .u8 0) (x := .int .u8 ((UInt8.ofNat (v >>> (8 * i))).toNat : Int)) (L := (beL i v).map u8c) hlt
    have e8 : n - 1 - i < (List.replicate (n - i) (Value.int .u8 0) ++ (beL i v).map u8c).length := by simp; omega
    have e9 : n - 1 - i + 1 ≤ (List.replicate (n - i) (Value.int .u8 0)).length + ((beL i v).map u8c).length := by rw [← List.length_append]; omega
    simp (disch := omega) only [kB, kcx, kdm, kdn, kel, aop, resultsL, resultOf, Nat.reduceEqDiff, reduceCtorEq, eq1, apartOK, apart2, AObj.live, Int.reduceEq, Int.reduceLT, Int.reduceLE, Int.reduceAdd, Int.reduceSub, Int.reduceMul, Int.reduceToNat, cutCells, Nat.reduceAdd, Nat.reduceLeDiff, Nat.reduceLT, Nat.reduceMul, Nat.reduceSub, e5, e6, e7, if_pos e9, nadd1, wr_i64]
    exact ⟨n - (i + 1), by omega, i + 1, by omega, rfl, rfl, by exact ex_env rfl⟩
  · have hlt' : ¬ (i : Int) < (n : Int) := by omega
    obtain rfl : i = n := by omega
    have hsrc : (srcCells (H ++ [.row [.int .u64 ((v / W64 : Nat) : Int), .int .u64 ((v % W64 : Nat) : Int)] 0 true, .row (List.replicate (i - i) (.int .u8 0) ++ (beL i v).map u8c) 1 true]) 1 i (.slice (some ⟨H.length + 1, 0, none⟩) i i)).bind bytesOf = some (beL i v) := by
      simp only [srcCells, hget_base, Nat.sub_self, List.replicate_zero, List.nil_append, List.length_map, beL_len, Nat.mul_one, Nat.zero_add]
      show (if i ≤ ((beL i v).map u8c).length then some ((((beL i v).map u8c).drop 0).take i) else none).bind bytesOf = _
      rw [if_pos (by simp [beL_len]), List.drop_zero, List.take_of_length_le (by simp [beL_len])]
      exact bytes_u8 _
    simp (disch := omega) only [kB, kcx, kdm, kdn, kel, aop, resultsL, resultOf, Nat.reduceEqDiff, reduceCtorEq, eq1, apartOK, apart2, AObj.live, Int.reduceEq, Int.reduceLT, Int.reduceLE, Int.reduceAdd, Int.reduceSub, Int.reduceMul, Int.reduceToNat, cutCells, Nat.reduceAdd, Nat.reduceLeDiff, Nat.reduceLT, Nat.reduceMul, Nat.reduceSub, hlt', hsrc, lenV]
    exact ⟨_, rfl, ⟨_, rfl⟩, .tup2 .string (.closed rfl), h⟩

end Go.Proofs.YtkhkmgcegicmoaaDoor.Ev

/- Slices that grow; lists of bytes. -/
namespace Go.Proofs.YtkhkmgcegicmoaaDoor.Ev
set_option maxRecDepth 100000
set_option linter.unusedSimpArgs false
set_option linter.unusedVariables false
variable {R : FRes → Heap → Prop} {H : Heap}

theorem append_one {K : Heap} {b bx l unit bytes u2 : Nat} {cells xs : List Value} {w2 : Bool} (hb : hget K b = .row cells unit true) (hl : cells.length = l * unit) (hx : hget K bx = .row xs u2 w2) (hxl : xs.length = unit) (hall : xs.all oneCell = true)
    (hr : (l + 1) * bytes ≤ roomMax ∧ l + 1 ≤ roomMax) :
    appendV K unit bytes (.slice (some ⟨b, 0, none⟩) l l) (.slice (some ⟨bx, 0, none⟩) 1 1) = .val (.slice (some ⟨K.length, 0, none⟩) (l + 1) (l + 1)) (K.set b .dead ++ [.row (cells ++ xs) unit true]) := by
  simp only [appendV, lenV, srcCells, hx, hb]
  rw [if_pos (by omega)]
  have e1 : List.take (1 * unit) (List.drop 0 xs) = xs := by rw [List.drop_zero, Nat.one_mul, ← hxl, List.take_length]
  have e2 : List.take (l * unit) (List.drop 0 cells) = cells := by rw [List.drop_zero, ← hl, List.take_length]
  simp only [e1]
  rw [if_neg (by omega)]
  simp only [hb, e2]
  rw [if_pos ⟨trivial, by omega, by omega, by omega⟩, if_neg (by omega), if_pos ⟨hr.1, hr.2, hall⟩]

theorem append_nil {K : Heap} {bx unit bytes u2 : Nat} {xs : List Value} {w2 : Bool} (hx : hget K bx = .row xs u2 w2) (hxl : xs.length = unit) (hr : 1 * bytes ≤ roomMax) :
    appendV K unit bytes (.slice none 0 0) (.slice (some ⟨bx, 0, none⟩) 1 1) = .val (.slice (some ⟨K.length, 0, none⟩) 1 1) (K ++ [.row xs unit true]) := by
  simp only [appendV, lenV, srcCells, hx]
  rw [if_pos (by omega)]
  have e1 : List.take (1 * unit) (List.drop 0 xs) = xs := by rw [List.drop_zero, Nat.one_mul, ← hxl, List.take_length]
  simp only [e1]
  rw [if_neg (by omega), if_pos ⟨hr, by decide⟩]


/-! ### Slices that grow -/

/-- A slice of elements of so many cells, in a block of its own. -/
def SLs (u n0 : Nat) (H : Heap) (sv : Value) (css : List (List Value)) : Prop :=
  (css = [] ∧ sv = .slice none 0 0) ∨ (css ≠ [] ∧ ∃ k, n0 ≤ k ∧ sv = .slice (some ⟨k, 0, none⟩) css.length css.length ∧ hget H k = .row css.flatten u true ∧ ∀ cs ∈ css, cs.length = u)
def blk : Value → Option Nat
  | .slice (some a) _ _ => some a.block
  | _ => none

theorem flat_len_u {u : Nat} : ∀ {css : List (List Value)}, (∀ cs ∈ css, cs.length = u) → css.flatten.length = css.length * u
  | [], _ => by simp
  | cs :: css, h => by
    rw [List.flatten_cons, List.length_append, h cs (by simp), flat_len_u fun q hq => h q (by simp [hq]), List.length_cons, Nat.succ_mul, Nat.add_comm]
theorem flat_cut {u : Nat} : ∀ {css : List (List Value)} (i : Nat), (∀ cs ∈ css, cs.length = u) → (hi : i < css.length) → ((css.flatten).drop (i * u)).take u = css[i]
  | [], i, _, hi => by simp at hi
  | cs :: css, 0, h, _ => by
    have := h cs (by simp)
    simp [List.take_append, this]
    try rw [← this, List.take_length]
  | cs :: css, i + 1, h, hi => by
    have h1 := h cs (by simp)
    rw [List.flatten_cons, List.drop_append, List.drop_eq_nil_of_le (by rw [h1, Nat.succ_mul]; omega), h1, Nat.succ_mul, Nat.add_sub_cancel, List.nil_append]
    simpa using flat_cut i (fun q hq => h q (by simp [hq])) (by simpa using hi)

theorem SLs.same {u n0 : Nat} {H K : Heap} {sv : Value} {css : List (List Value)} (h : SLs u n0 H sv css) (hs : ∀ c, blk sv = some c → hget K c = hget H c) : SLs u n0 K sv css := by
  rcases h with h | ⟨h1, k, k0, rfl, k2, k3⟩
  · exact .inl h
  · exact .inr ⟨h1, k, k0, rfl, by rw [hs k rfl]; exact k2, k3⟩
theorem SLs.lt {u n0 : Nat} {H : Heap} {sv : Value} {css : List (List Value)} (h : SLs u n0 H sv css) {c : Nat} (hc : blk sv = some c) : c < H.length ∧ n0 ≤ c := by
  rcases h with ⟨_, rfl⟩ | ⟨h1, k, k0, rfl, k2, k3⟩
  · cases hc
  · cases hc; exact ⟨hget_lt k2 rfl, k0⟩
theorem SLs.app {u n0 : Nat} {H G : Heap} {sv : Value} {css : List (List Value)} (h : SLs u n0 H sv css) : SLs u n0 (H ++ G) sv css := h.same fun c hc => hget_old (h.lt hc).1
theorem SLs.ne {u n0 : Nat} {H : Heap} {sv : Value} {css : List (List Value)} (h : SLs u n0 H sv css) {c u2 : Nat} {cs : List Value} {wr : Bool} (hc : hget H c = .row cs u2 wr) (hu : u ≠ u2) : blk sv ≠ some c := by
  intro e
  rcases h with ⟨_, rfl⟩ | ⟨h1, k, k0, rfl, k2, k3⟩
  · cases e
  · cases e
    rw [k2] at hc
    cases hc
    exact hu rfl
theorem SLs.len {u n0 : Nat} {H : Heap} {sv : Value} {css : List (List Value)} (h : SLs u n0 H sv css) : ∃ ad, sv = .slice ad css.length css.length := by
  rcases h with ⟨rfl, rfl⟩ | ⟨h1, k, k0, rfl, k2, k3⟩
  · exact ⟨_, rfl⟩
  · exact ⟨_, rfl⟩

theorem app_sl {u n0 bytes bx u2 : Nat} {K : Heap} {sv : Value} {css : List (List Value)} {xs : List Value} {w2 : Bool} (h : SLs u n0 K sv css) (hn : n0 ≤ K.length) (hx : hget K bx = .row xs u2 w2) (hl : xs.length = u) (hall : xs.all oneCell = true)
    (hr : (css.length + 1) * bytes ≤ roomMax ∧ css.length + 1 ≤ roomMax) : ∃ sv' K', appendV K u bytes sv (.slice (some ⟨bx, 0, none⟩) 1 1) = .val sv' K' ∧ SLs u n0 K' sv' (css ++ [xs]) ∧ K'.length = K.length + 1 ∧ blk sv' = some K.length ∧
      ∀ c, c < K.length → blk sv ≠ some c → hget K' c = hget K c := by
  rcases h with ⟨rfl, rfl⟩ | ⟨h1, k, k0, rfl, k2, k3⟩
  · refine ⟨_, _, append_nil hx hl (by simpa using hr.1), .inr ⟨by simp, K.length, hn, rfl, by simp [hget_last], by simpa using hl⟩, by simp, rfl, fun c hc _ => hget_old hc⟩
  · have lk := hget_lt k2 rfl
    refine ⟨_, _, append_one k2 (flat_len_u k3) hx hl hall hr, .inr ⟨by simp, K.length, hn, by simp, ?_, ?_⟩, by simp, rfl, fun c hc hb => ?_⟩
    · have e : (K.set k AObj.dead).length = K.length := List.length_set ..
      rw [← e, hget_last]
      simp
    · intro cs hcs
      rcases List.mem_append.1 hcs with q | q
      · exact k3 cs q
      · simp at q; rw [q]; exact hl
    · rw [hget_oldS hc, hget_ne (fun q => hb (by rw [q]; rfl))]

/-- Many are put behind a slice's elements. -/
theorem app_many {u n0 bytes : Nat} {K : Heap} {sv x : Value} {css dss : List (List Value)} (h : SLs u n0 K sv css) (hn : n0 ≤ K.length) (hu : 0 < u) (hx : lenV x = some dss.length) (hs : srcCells K u dss.length x = some dss.flatten) (hd : ∀ cs ∈ dss, cs.length = u) (hall : dss.flatten.all oneCell = true)
    (hr : (css.length + dss.length) * bytes ≤ roomMax ∧ css.length + dss.length ≤ roomMax) : ∃ sv' K', appendV K u bytes sv x = .val sv' K' ∧ SLs u n0 K' sv' (css ++ dss) ∧ K.length ≤ K'.length ∧ (∀ c, blk sv' = some c → blk sv = some c ∨ K.length ≤ c) ∧
      ∀ c, c < K.length → blk sv ≠ some c → hget K' c = hget K c := by
  by_cases h0 : dss = []
  · subst h0
    rcases h with ⟨rfl, rfl⟩ | ⟨h1, k, k0, rfl, k2, k3⟩
    · refine ⟨.slice none 0 0, K, ?_, .inl ⟨rfl, rfl⟩, Nat.le_refl _, fun c q => .inl q, fun _ _ _ => rfl⟩
      simp only [List.length_nil, List.flatten_nil] at hx hs
      simp only [appendV, hx, hs, if_true]
    · refine ⟨.slice (some ⟨k, 0, none⟩) css.length css.length, K, ?_, .inr ⟨by simpa using h1, k, k0, by simp, by simpa using k2, by simpa using k3⟩, Nat.le_refl _, fun c q => .inl q, fun _ _ _ => rfl⟩
      simp only [List.length_nil, List.flatten_nil] at hx hs
      simp only [appendV, hx, hs, if_true]
  have hpos : 0 < dss.length := List.length_pos_iff.2 h0
  have hne : ¬ dss.length = 0 := by omega
  have hfl := flat_len_u hd
  rcases h with ⟨rfl, rfl⟩ | ⟨h1, k, k0, rfl, k2, k3⟩
  · refine ⟨.slice (some ⟨K.length, 0, none⟩) dss.length dss.length, K ++ [.row dss.flatten u true], ?_, .inr ⟨by simpa using h0, K.length, hn, by simp, by simp [hget_last], by simpa using hd⟩, by simp, fun c q => .inr (by cases q; exact Nat.le_refl _), fun c hc _ => hget_old hc⟩
    simp only [appendV, hx, hs]
    rw [if_neg hne, if_pos (by simpa using hr)]
  · have lk := hget_lt k2 rfl
    refine ⟨.slice (some ⟨K.length, 0, none⟩) (css.length + dss.length) (css.length + dss.length), (K.set k .dead) ++ [.row (css.flatten ++ dss.flatten) u true], ?_, .inr ⟨by simp [h0], K.length, hn, by simp, ?_, fun cs hcs => ?_⟩, by simp, fun c q => .inr (by cases q; exact Nat.le_refl _), fun c hc hb => ?_⟩
    · have e2 : List.take (css.length * u) (List.drop 0 css.flatten) = css.flatten := by rw [List.drop_zero, ← flat_len_u k3, List.take_length]
      simp only [appendV, hx, hs]
      rw [if_neg hne]
      simp only [k2, e2]
      rw [if_pos ⟨trivial, Nat.le_refl _, by rw [flat_len_u k3]; omega, hfl⟩, if_neg (by omega), if_pos ⟨hr.1, hr.2, hall⟩]
    · have e : (K.set k AObj.dead).length = K.length := List.length_set ..
      rw [← e, hget_last]
      simp
    · rcases List.mem_append.1 hcs with q | q
      · exact k3 cs q
      · exact hd cs q
    · rw [hget_oldS hc, hget_ne (fun q => hb (by rw [q]; rfl))]


/-- What stood below a place stands. -/
def KP (n : Nat) (H K : Heap) : Prop := n ≤ K.length ∧ ∀ c, c < n → hget K c = hget H c
theorem KP.ext {H K : Heap} (h : KP H.length H K) : ∃ g, K = H ++ g := by
  refine ⟨K.drop H.length, ?_⟩
  conv => lhs; rw [← List.take_append_drop H.length K]
  congr 1
  refine List.ext_getElem? fun i => ?_
  by_cases hi : i < H.length
  · have h1 : i < K.length := Nat.lt_of_lt_of_le hi h.1
    have h2 := h.2 i hi
    simp only [hget, List.getElem?_eq_getElem hi, List.getElem?_eq_getElem h1] at h2
    rw [List.getElem?_take, if_pos hi, List.getElem?_eq_getElem hi, List.getElem?_eq_getElem h1, h2]
  · rw [List.getElem?_eq_none (by simp; omega), List.getElem?_eq_none (by omega)]
theorem KP.refl {n : Nat} {H : Heap} (h : n ≤ H.length) : KP n H H := ⟨h, fun _ _ => rfl⟩
theorem KP.trans {n : Nat} {H K L : Heap} (h : KP n H K) (g : KP n K L) : KP n H L := ⟨g.1, fun c hc => (g.2 c hc).trans (h.2 c hc)⟩
theorem KP.app {n : Nat} {H G : Heap} (h : n ≤ H.length) : KP n H (H ++ G) := ⟨by simp; omega, fun c hc => hget_old (by omega)⟩
theorem KP.le {n m : Nat} {H K : Heap} (h : KP n H K) (hm : m ≤ n) : KP m H K := ⟨by have := h.1; omega, fun c hc => h.2 c (by omega)⟩
theorem KP.set {n b : Nat} {H K : Heap} {o : AObj} (h : KP n H K) (hb : n ≤ b) : KP n H (K.set b o) := ⟨by simpa using h.1, fun c hc => by rw [hget_ne (by omega)]; exact h.2 c hc⟩

def cB (l : List UInt8) : List (List Value) := l.map fun b => [u8c b]
theorem cB_len (l : List UInt8) : (cB l).length = l.length := List.length_map ..
theorem cB_flat : ∀ l : List UInt8, (cB l).flatten = l.map u8c
  | [] => rfl
  | b :: l => by
    have := cB_flat l
    simp only [cB, List.map_cons, List.flatten_cons] at this ⊢
    rw [this]
    rfl
/-- A list of bytes that grows. -/
def BL (n0 : Nat) (K : Heap) (sv : Value) (l : List UInt8) : Prop := SLs 1 n0 K sv (cB l)
theorem BL.nil {n0 : Nat} {K : Heap} : BL n0 K (.slice none 0 0) [] := .inl ⟨rfl, rfl⟩
theorem BL.lenV {n0 : Nat} {K : Heap} {sv : Value} {l : List UInt8} (h : BL n0 K sv l) : ∃ ad, sv = .slice ad l.length l.length := by
  obtain ⟨ad, h⟩ := SLs.len h
  rw [cB_len] at h
  exact ⟨ad, h⟩
theorem BL.push {n0 : Nat} {K : Heap} {sv : Value} {l : List UInt8} (h : BL n0 K sv l) (hn : n0 ≤ K.length) (b : UInt8) (hr : l.length + 1 ≤ roomMax) :
    ∃ sv' K', appendV (K ++ [.row [u8c b] 1 true]) 1 1 sv (.slice (some ⟨K.length, 0, none⟩) 1 1) = .val sv' K' ∧ BL n0 K' sv' (l ++ [b]) ∧ KP n0 K K' := by
  obtain ⟨sv', K', h1, h2, h3, h4, h5⟩ := app_sl (K := K ++ [.row [u8c b] 1 true]) (bytes := 1) (bx := K.length) (xs := [u8c b]) (u2 := 1) (w2 := true) (SLs.app h) (by simp; omega) (by rw [hget_last]) rfl rfl (by rw [cB_len]; omega)
  refine ⟨sv', K', h1, ?_, by rw [h3]; simp; omega, fun c hc => ?_⟩
  · have e : cB (l ++ [b]) = cB l ++ [[u8c b]] := by simp [cB]
    unfold BL
    rw [e]
    exact h2
  · rw [h5 c (by simp; omega) (fun q => by have := (SLs.lt h q).2; omega), hget_old (by omega)]
theorem BL.same {n0 : Nat} {H K : Heap} {sv : Value} {l : List UInt8} (h : BL n0 H sv l) (hs : ∀ c, n0 ≤ c → c < H.length → hget K c = hget H c) : BL n0 K sv l := SLs.same h fun c hc => hs c (SLs.lt h hc).2 (SLs.lt h hc).1
theorem BL.app {n0 : Nat} {K G : Heap} {sv : Value} {l : List UInt8} (h : BL n0 K sv l) : BL n0 (K ++ G) sv l := SLs.app h
theorem BL.src {n0 : Nat} {K : Heap} {sv : Value} {l : List UInt8} (h : BL n0 K sv l) : (srcCells K 1 l.length sv).bind bytesOf = some l := by
  rcases h with ⟨h1, rfl⟩ | ⟨h1, k, k0, rfl, k2, k3⟩
  · have : l = [] := by simpa [cB] using h1
    subst this
    rfl
  · rw [cB_flat] at k2
    simp only [srcCells, k2]
    rw [if_pos (by simp), List.drop_zero, Nat.mul_one, List.take_of_length_le (by simp)]
    exact bytes_u8 l
theorem BL.str {n0 : Nat} {K : Heap} {sv : Value} {l : List UInt8} (h : BL n0 K sv l) (e : Env) (t : Nat) (ht : get e t = sv) : aop e K (.b2s (.tmp t)) = .val (.string (bs l)) K := by
  obtain ⟨ad, rfl⟩ := h.lenV
  have hs := h.src
  simp only [aop, aev_tmp, ht, Ev.lenV, hs]
  rfl

end Go.Proofs.YtkhkmgcegicmoaaDoor.Ev

/- Common bits of two values that are cut to a width first. -/
namespace Go.Proofs.YtkhkmgcegicmoaaDoor.Ev
set_option maxRecDepth 100000
set_option linter.unusedSimpArgs false
set_option linter.unusedVariables false
variable {R : FRes → Heap → Prop} {H : Heap}

theorem shl_cut {z w : Nat} (hw : w ≤ 128) : shl z (128 - w) = shl (z % 2 ^ w) (128 - w) := by
  unfold shl
  have e : 2 ^ 128 = 2 ^ w * 2 ^ (128 - w) := by rw [← Nat.pow_add]; congr 1; omega
  rw [Nat.shiftLeft_eq, Nat.shiftLeft_eq, e, Nat.mul_mod_mul_right, Nat.mul_mod_mul_right, Nat.mod_mod]

theorem commonc_s {w a0 b0 : Nat} (hw : 1 ≤ w) (hw2 : w ≤ 128) (ha0 : a0 < 2 ^ 128) (hb0 : b0 < 2 ^ 128) (h : R (.ret (.int .i64 (cmn w (a0 % 2 ^ w) (b0 % 2 ^ w) : Nat))) H) : WD T 23 [bvA a0, bvA b0, .int .i64 w] H R := by
  refine WD.gc0 (WD.of follows t23 (by simp) ?_)
  have hp : 2 ^ w ≤ 2 ^ 128 := Nat.pow_le_pow_right (by decide) hw2
  have e0 : isw (w : Int) = true := by simp [isw]; omega
  simp (disch := omega) only [kB, kcx, kdm, kdn, kel, aop, resultsL, resultOf, Nat.reduceEqDiff, reduceCtorEq, eq1, apartOK, apart2, AObj.live, Int.reduceEq, Int.reduceLT, Int.reduceLE, Int.reduceAdd, Int.reduceSub, Int.reduceMul, Int.reduceToNat, cutCells, Nat.reduceAdd, Nat.reduceLeDiff, Nat.reduceLT, Nat.reduceMul, Nat.reduceSub]
  refine isw_s ?_
  simp (disch := omega) only [kB, kcx, kdm, kdn, kel, aop, resultsL, resultOf, Nat.reduceEqDiff, reduceCtorEq, eq1, apartOK, apart2, AObj.live, Int.reduceEq, Int.reduceLT, Int.reduceLE, Int.reduceAdd, Int.reduceSub, Int.reduceMul, Int.reduceToNat, cutCells, Nat.reduceAdd, Nat.reduceLeDiff, Nat.reduceLT, Nat.reduceMul, Nat.reduceSub, e0]
  refine xor_s ha0 hb0 ?_
  have e1 : (128 : Int) - (w : Int) = ((128 - w : Nat) : Int) := by omega
  have hcut := shl_cut (z := a0 ^^^ b0) hw2
  rw [Nat.xor_mod_two_pow] at hcut
  have ha : a0 % 2 ^ w < 2 ^ w := Nat.mod_lt _ (Nat.two_pow_pos _)
  have hb : b0 % 2 ^ w < 2 ^ w := Nat.mod_lt _ (Nat.two_pow_pos _)
  have hx0128 : a0 ^^^ b0 < 2 ^ 128 := Nat.xor_lt_two_pow ha0 hb0
  have hx : a0 % 2 ^ w ^^^ b0 % 2 ^ w < 2 ^ w := Nat.xor_lt_two_pow ha hb
  simp (disch := omega) only [kB, kcx, kdm, kdn, kel, aop, resultsL, resultOf, Nat.reduceEqDiff, reduceCtorEq, eq1, apartOK, apart2, AObj.live, Int.reduceEq, Int.reduceLT, Int.reduceLE, Int.reduceAdd, Int.reduceSub, Int.reduceMul, Int.reduceToNat, cutCells, Nat.reduceAdd, Nat.reduceLeDiff, Nat.reduceLT, Nat.reduceMul, Nat.reduceSub, wr_i64, e1]
  refine left_s hx0128 (by omega) ?_
  rw [hcut]
  generalize a0 % 2 ^ w = a at *
  generalize b0 % 2 ^ w = b at *
  have hs := shl_eq (k := 128 - w) hx (by omega)
  have hlt := shl_lt (a ^^^ b) (128 - w)
  have h1 : blen (shl (a ^^^ b) (128 - w) / W64) = blen (shl (a ^^^ b) (128 - w)) - 64 := by
    rw [W64, ← Nat.shiftRight_eq_div_pow, blen_shr]
  have h2 := hi_lt hlt
  have h3 := lo_lt (shl (a ^^^ b) (128 - w))
  have hbl : blen (a ^^^ b) ≤ w := blen_le.2 hx
  have hbl2 : blen (shl (a ^^^ b) (128 - w)) = if a ^^^ b = 0 then 0 else blen (a ^^^ b) + (128 - w) := by
    rw [hs]
    split
    · rename_i q; rw [q, Nat.zero_mul]; rfl
    · rename_i q; exact blen_mul q
  have hdm := Nat.div_add_mod (shl (a ^^^ b) (128 - w)) W64
  have hz0 : a ^^^ b = 0 → blen (a ^^^ b) = 0 := fun q => by rw [q]; rfl
  generalize hS : shl (a ^^^ b) (128 - w) = s at *
  by_cases hh : s / W64 = 0
  · have hh' : ((s / W64 : Nat) : Int) = 0 := by omega
    simp (disch := omega) only [kB, kcx, kdm, kdn, kel, aop, resultsL, resultOf, Nat.reduceEqDiff, reduceCtorEq, eq1, apartOK, apart2, AObj.live, Int.reduceEq, Int.reduceLT, Int.reduceLE, Int.reduceAdd, Int.reduceSub, Int.reduceMul, Int.reduceToNat, cutCells, Nat.reduceAdd, Nat.reduceLeDiff, Nat.reduceLT, Nat.reduceMul, Nat.reduceSub, hh']
    refine lz_s h3 ?_
    have hsl : s % W64 = s := by rw [hh, Nat.mul_zero, Nat.zero_add] at hdm; exact hdm
    have hb64 : blen s ≤ 64 := by rw [hh] at h1; have : blen 0 = 0 := rfl; omega
    rw [hsl]
    have e2 : (64 : Int) + ((64 - blen s : Nat) : Int) = ((128 - blen s : Nat) : Int) := by omega
    have e3 : min w (128 - blen s) = cmn w a b := by
      unfold cmn
      rw [hbl2]
      split
      · rename_i q; rw [hz0 q]; omega
      · omega
    have e4 := mm_two (k := .i64) (a := w) (b := 128 - blen s)
    rw [e3] at e4
    simp (disch := omega) only [kB, kcx, kdm, kdn, kel, aop, resultsL, resultOf, Nat.reduceEqDiff, reduceCtorEq, eq1, apartOK, apart2, AObj.live, Int.reduceEq, Int.reduceLT, Int.reduceLE, Int.reduceAdd, Int.reduceSub, Int.reduceMul, Int.reduceToNat, cutCells, Nat.reduceAdd, Nat.reduceLeDiff, Nat.reduceLT, Nat.reduceMul, Nat.reduceSub, wr_i64, e2, e4]
    exact ⟨_, rfl, ⟨_, rfl⟩, .closed rfl, h⟩
  · have hh' : ¬ ((s / W64 : Nat) : Int) = 0 := by omega
    simp (disch := omega) only [kB, kcx, kdm, kdn, kel, aop, resultsL, resultOf, Nat.reduceEqDiff, reduceCtorEq, eq1, apartOK, apart2, AObj.live, Int.reduceEq, Int.reduceLT, Int.reduceLE, Int.reduceAdd, Int.reduceSub, Int.reduceMul, Int.reduceToNat, cutCells, Nat.reduceAdd, Nat.reduceLeDiff, Nat.reduceLT, Nat.reduceMul, Nat.reduceSub, hh']
    refine lz_s h2 ?_
    rw [h1]
    have hpos := blen_pos hh
    have hx0 : ¬ a ^^^ b = 0 := fun q => by rw [if_pos q] at hbl2; omega
    rw [if_neg hx0] at hbl2
    have e3 : min w (64 - (blen s - 64)) = cmn w a b := by
      unfold cmn
      omega
    have e4 := mm_two (k := .i64) (a := w) (b := 64 - (blen s - 64))
    rw [e3] at e4
    simp (disch := omega) only [kB, kcx, kdm, kdn, kel, aop, resultsL, resultOf, Nat.reduceEqDiff, reduceCtorEq, eq1, apartOK, apart2, AObj.live, Int.reduceEq, Int.reduceLT, Int.reduceLE, Int.reduceAdd, Int.reduceSub, Int.reduceMul, Int.reduceToNat, cutCells, Nat.reduceAdd, Nat.reduceLeDiff, Nat.reduceLT, Nat.reduceMul, Nat.reduceSub, wr_i64, e4]
    exact ⟨_, rfl, ⟨_, rfl⟩, .closed rfl, h⟩


end Go.Proofs.YtkhkmgcegicmoaaDoor.Ev

/- Common bits, order and masks of two values: plain laws. -/
namespace Go.Proofs.YtkhkmgcegicmoaaDoor.Ev
set_option linter.unusedSimpArgs false
set_option linter.unusedVariables false

theorem topbit {z : Nat} (hz : z ≠ 0) : z.testBit (blen z - 1) = true := by
  have h1 := blen_pos hz
  cases hb : z.testBit (blen z - 1) with
  | true => rfl
  | false =>
    exfalso
    have h2 : z < 2 ^ (blen z - 1) := by
      refine Nat.lt_pow_two_of_testBit z fun i hi => ?_
      by_cases h : i = blen z - 1
      · rw [h]; exact hb
      · exact Nat.testBit_lt_two_pow (Nat.lt_of_lt_of_le (blen_le.1 (Nat.le_refl _)) (Nat.pow_le_pow_right (by decide) (by omega)))
    have := blen_le.2 h2
    omega

theorem split_bit (x j : Nat) : x >>> j = 2 * (x >>> (j + 1)) + (if x.testBit j = true then 1 else 0) := by
  rw [Nat.testBit_eq_decide_div_mod_eq, Nat.shiftRight_eq_div_pow, Nat.shiftRight_eq_div_pow, Nat.pow_succ, ← Nat.div_div_eq_div_mul]
  simp only [decide_eq_true_eq]
  split <;> omega

theorem lt_of_bit {a b j : Nat} (h : a >>> (j + 1) = b >>> (j + 1)) (ha : a.testBit j = false) (hb : b.testBit j = true) : a < b := by
  have h1 := split_bit a j
  have h2 := split_bit b j
  rw [ha] at h1
  rw [hb, ← h] at h2
  simp only [Bool.false_eq_true, if_false, if_true] at h1 h2
  have h3 : a / 2 ^ j < b / 2 ^ j := by
    rw [← Nat.shiftRight_eq_div_pow, ← Nat.shiftRight_eq_div_pow]; omega
  exact Nat.lt_of_div_lt_div h3

theorem cmn_le {w a b : Nat} : cmn w a b ≤ w := Nat.sub_le _ _
theorem xor_zero {a b : Nat} (h : a ^^^ b = 0) : a = b := by
  refine Nat.eq_of_testBit_eq fun i => ?_
  have : (a ^^^ b).testBit i = false := by rw [h]; simp
  rw [Nat.testBit_xor] at this
  revert this
  cases a.testBit i <;> cases b.testBit i <;> simp
theorem cmn_eq {w a b : Nat} (hw : 1 ≤ w) : cmn w a b = w ↔ a = b := by
  constructor
  · intro h
    refine xor_zero ?_
    by_cases hz : a ^^^ b = 0
    · exact hz
    · have := blen_pos hz
      unfold cmn at h
      omega
  · rintro rfl
    simp [cmn, blen_zero]

theorem cmn_high {w a b j : Nat} (ha : a < 2 ^ w) (hb : b < 2 ^ w) (h : w - cmn w a b ≤ j) : a.testBit j = b.testBit j := by
  have hx : a ^^^ b < 2 ^ w := Nat.xor_lt_two_pow ha hb
  have hl := blen_le.2 hx
  unfold cmn at h
  have h1 : (a ^^^ b).testBit j = false := Nat.testBit_lt_two_pow (Nat.lt_of_lt_of_le (blen_le.1 (Nat.le_refl _)) (Nat.pow_le_pow_right (by decide) (by omega)))
  rw [Nat.testBit_xor] at h1
  revert h1
  cases a.testBit j <;> cases b.testBit j <;> simp

theorem cmn_side {w a b : Nat} (ha : a < 2 ^ w) (hb : b < 2 ^ w) (h : cmn w a b < w) : a.testBit (w - 1 - cmn w a b) = !(b.testBit (w - 1 - cmn w a b)) ∧ a >>> (w - 1 - cmn w a b + 1) = b >>> (w - 1 - cmn w a b + 1) := by
  constructor
  · have hx : a ^^^ b < 2 ^ w := Nat.xor_lt_two_pow ha hb
    have hl := blen_le.2 hx
    have hz : a ^^^ b ≠ 0 := fun hz => by unfold cmn at h; rw [hz, blen_zero] at h; omega
    have hp := blen_pos hz
    have h1 := topbit hz
    have e : w - 1 - cmn w a b = blen (a ^^^ b) - 1 := by unfold cmn; omega
    rw [e]
    rw [Nat.testBit_xor] at h1
    revert h1
    cases a.testBit (blen (a ^^^ b) - 1) <;> cases b.testBit (blen (a ^^^ b) - 1) <;> simp
  · refine Nat.eq_of_testBit_eq fun i => ?_
    rw [Nat.testBit_shiftRight, Nat.testBit_shiftRight]
    exact cmn_high ha hb (by omega)

theorem cmn_lt {w a b : Nat} (ha : a < 2 ^ w) (hb : b < 2 ^ w) (h : cmn w a b < w) : if a.testBit (w - 1 - cmn w a b) = true then b < a else a < b := by
  obtain ⟨h1, h2⟩ := cmn_side ha hb h
  split
  · rename_i h3
    rw [h3] at h1
    exact lt_of_bit h2.symm (by revert h1; cases b.testBit (w - 1 - cmn w a b) <;> simp) h3
  · rename_i h3
    have h4 : a.testBit (w - 1 - cmn w a b) = false := by simpa using h3
    rw [h4] at h1
    exact lt_of_bit h2 h4 (by revert h1; cases b.testBit (w - 1 - cmn w a b) <;> simp)

theorem mask_same {w a b : Nat} (ha : a < 2 ^ w) (hb : b < 2 ^ w) : a &&& maskN w (cmn w a b) = b &&& maskN w (cmn w a b) := by
  refine Nat.eq_of_testBit_eq fun j => ?_
  rw [Nat.testBit_and, Nat.testBit_and]
  by_cases h : w - cmn w a b ≤ j
  · rw [cmn_high ha hb h]
  · have : (maskN w (cmn w a b)).testBit j = false := by
      unfold maskN shl
      rw [Nat.testBit_mod_two_pow, Nat.testBit_shiftLeft, decide_eq_false (show ¬ j ≥ w - cmn w a b by omega)]
      simp
    rw [this, Bool.and_false, Bool.and_false]

end Go.Proofs.YtkhkmgcegicmoaaDoor.Ev

/- Lists of 128 bits, the highest first: plain laws. -/
namespace Go.Proofs.YtkhkmgcegicmoaaDoor.Ev
set_option maxRecDepth 100000
set_option linter.unusedSimpArgs false
set_option linter.unusedVariables false

def bA (f : Nat → Bool) : List Value := (List.range 128).map fun j => .bool (f j)
theorem bA_len (f : Nat → Bool) : (bA f).length = 128 := by simp [bA]
theorem bA_get {f : Nat → Bool} {k : Nat} (h : k < 128) : (bA f)[k]? = some (.bool (f k)) := by simp [bA, h]
theorem bA_congr {f g : Nat → Bool} (h : ∀ j, j < 128 → f j = g j) : bA f = bA g :=
  List.map_congr_left fun j hj => by rw [h j (List.mem_range.1 hj)]
theorem bA_set (f : Nat → Bool) (k : Nat) (v : Bool) : (bA f).set k (.bool v) = bA (fun j => if j = k then v else f j) := by
  refine List.ext_getElem? fun i => ?_
  by_cases hi : i < 128
  · rw [bA_get hi]
    by_cases hk : k = i
    · subst hk
      rw [List.getElem?_set_self (by rw [bA_len]; exact hi), if_pos rfl]
    · rw [List.getElem?_set_ne hk, bA_get hi, if_neg (fun q => hk q.symm)]
  · rw [List.getElem?_eq_none (by rw [List.length_set, bA_len]; omega), List.getElem?_eq_none (by rw [bA_len]; omega)]
theorem bA_take (f : Nat → Bool) : (bA f).take 128 = bA f := List.take_of_length_le (by rw [bA_len]; omega)
theorem bA_one (f : Nat → Bool) : (bA f).all oneCell = true := by
  rw [List.all_eq_true]
  intro v hv
  simp only [bA, List.mem_map] at hv
  obtain ⟨j, _, rfl⟩ := hv
  rfl
theorem setL_all : ∀ (cs ds : List Value), cs.length = ds.length → setL cs 0 ds = ds := by
  have key : ∀ (ds pre cs : List Value), cs.length = ds.length → setL (pre ++ cs) pre.length ds = pre ++ ds := by
    intro ds
    induction ds with
    | nil => intro pre cs h; rw [List.length_eq_zero_iff.1 h, setL_nil]
    | cons d ds ih =>
      intro pre cs h
      match cs, h with
      | c :: cs, h =>
        rw [setL_cons]
        have e : (pre ++ c :: cs).set pre.length d = (pre ++ [d]) ++ cs := by simp
        have q := ih (pre ++ [d]) cs (by simpa using h)
        rw [List.length_append, List.length_singleton] at q
        rw [e, q, List.append_assoc]
        rfl
  intro cs ds h
  exact key ds [] cs h
theorem setL_bA (f g : Nat → Bool) : setL (bA f) 0 (bA g) = bA g := setL_all _ _ (by rw [bA_len, bA_len])

/-- No bit. -/
def fA : List Value := bA fun _ => false
set_option maxHeartbeats 2000000 in
theorem fA_eq : fA = [.bool false, .bool false, .bool false, .bool false, .bool false, .bool false, .bool false, .bool false, .bool false, .bool false, .bool false, .bool false, .bool false, .bool false, .bool false, .bool false, .bool false, .bool false, .bool false, .bool false, .bool false, .bool false, .bool false, .bool false, .bool false, .bool false, .bool false, .bool false, .bool false, .bool false, .bool false, .bool false, .bool false, .bool false, .bool false, .bool false, .bool false, .bool false, .bool false, .bool false, .bool false, .bool false, .bool false, .bool false, .bool false, .bool false, .bool false, .bool false, .bool false, .bool false, .bool false, .bool false, .bool false, .bool false, .bool false, .bool false, .bool false, .bool false, .bool false, .bool false, .bool false, .bool false, .bool false, .bool false, .bool false, .bool false, .bool false, .bool false, .bool false, .bool false, .bool false, .bool false, .bool false, .bool false, .bool false, .bool false, .bool false, .bool false, .bool false, .bool false, .bool false, .bool false, .bool false, .bool false, .bool false, .bool false, .bool false, .bool false, .bool false, .bool false, .bool false, .bool false, .bool false, .bool false, .bool false, .bool false, .bool false, .bool false, .bool false, .bool false, .bool false, .bool false, .bool false, .bool false, .bool false, .bool false, .bool false, .bool false, .bool false, .bool false, .bool false, .bool false, .bool false, .bool false, .bool false, .bool false, .bool false, .bool false, .bool false, .bool false, .bool false, .bool false, .bool false, .bool false, .bool false, .bool false, .bool false, .bool false] := by
  show (List.range 128).map (fun _ => Value.bool false) = _
  rw [List.map_const', List.length_range]
  rfl

/-- The number of a list's first bits. -/
def nb (f : Nat → Bool) : Nat → Nat
  | 0 => 0
  | n + 1 => 2 * nb f n + (if f n = true then 1 else 0)
theorem nb_lt (f : Nat → Bool) : ∀ n, nb f n < 2 ^ n
  | 0 => by simp [nb]
  | n + 1 => by
    have := nb_lt f n
    rw [nb, Nat.pow_succ]
    split <;> omega
theorem nb_testBit (f : Nat → Bool) : ∀ n k, (nb f n).testBit k = (decide (k < n) && f (n - 1 - k))
  | 0, k => by simp [nb]
  | n + 1, 0 => by
    rw [Nat.testBit_zero, nb]
    cases h : f n
    · simp [h]
    · simp [h]
  | n + 1, k + 1 => by
    have e : (nb f (n + 1)) / 2 = nb f n := by
      rw [nb]
      split <;> omega
    rw [Nat.testBit_succ, e, nb_testBit f n k]
    have e2 : n + 1 - 1 - (k + 1) = n - 1 - k := by omega
    rw [e2]
    congr 1
    simp
theorem nb_add (f : Nat → Bool) (m : Nat) : ∀ n, nb f (m + n) = nb f m * 2 ^ n + nb (fun i => f (m + i)) n
  | 0 => by simp [nb]
  | n + 1 => by
    rw [← Nat.add_assoc, nb, nb, nb_add f m n, Nat.pow_succ]
    split <;> (rw [Nat.mul_add]; have : 2 * (nb f m * 2 ^ n) = nb f m * (2 ^ n * 2) := by rw [Nat.mul_comm, Nat.mul_assoc]
               omega)
theorem nb_bits {a n : Nat} : nb (fun j => a.testBit (n - 1 - j)) n = a % 2 ^ n := by
  refine Nat.eq_of_testBit_eq fun k => ?_
  rw [nb_testBit, Nat.testBit_mod_two_pow]
  by_cases h : k < n
  · have e : n - 1 - (n - 1 - k) = k := by omega
    simp [h, e]
  · simp [h]
theorem nb_congr {f g : Nat → Bool} : ∀ {n : Nat}, (∀ j, j < n → f j = g j) → nb f n = nb g n
  | 0, _ => rfl
  | n + 1, h => by rw [nb, nb, nb_congr fun j hj => h j (by omega), h n (by omega)]

/-- A value's bits. -/
def bF (a : Nat) : Nat → Bool := fun j => a.testBit (127 - j)
theorem nb_bF {a : Nat} (h : a < 2 ^ 128) : nb (bF a) 128 = a := by
  have := nb_bits (a := a) (n := 128)
  rw [Nat.mod_eq_of_lt h] at this
  exact this
theorem nb_words (f : Nat → Bool) : nb f 128 / W64 = nb f 64 ∧ nb f 128 % W64 = nb (fun i => f (64 + i)) 64 := by
  have e := nb_add f 64 64
  have h := nb_lt (fun i => f (64 + i)) 64
  rw [show 64 + 64 = 128 from rfl] at e
  rw [e]
  exact ⟨by rw [W64, Nat.mul_comm, Nat.mul_add_div (by decide), Nat.div_eq_of_lt h, Nat.add_zero], by rw [W64, Nat.mul_comm, Nat.mul_add_mod, Nat.mod_eq_of_lt h]⟩
theorem bvA_nb (f : Nat → Bool) : bvA (nb f 128) = .agg #[.int .u64 ((nb f 64 : Nat) : Int), .int .u64 ((nb (fun i => f (64 + i)) 64 : Nat) : Int)] := by
  rw [bvA, (nb_words f).1, (nb_words f).2]

end Go.Proofs.YtkhkmgcegicmoaaDoor.Ev

/- The document's lists of 128 bits: laid out, and put together again. -/
namespace Go.Proofs.YtkhkmgcegicmoaaDoor.Ev
set_option maxRecDepth 100000
set_option linter.unusedSimpArgs false
set_option linter.unusedVariables false
variable {R : FRes → Heap → Prop} {H : Heap}

abbrev rowU (v : Nat) : AObj := .row [.int .u64 ((v / W64 : Nat) : Int), .int .u64 ((v % W64 : Nat) : Int)] 0 true
abbrev rowB (f : Nat → Bool) : AObj := .row (bA f) 0 true
abbrev arr (f : Nat → Bool) : Value := .agg (bA f).toArray

theorem bit_and {x i : Nat} (h : x < 18446744073709551616) : binV .and (.int .u64 ((x >>> i : Nat) : Int)) (.int .u64 1) = some (.int .u64 ((Bool.toNat (x.testBit i) : Nat) : Int)) := by
  have e5 := bin_and64 (a := x >>> i) (b := 1) (Nat.lt_of_le_of_lt (Nat.shiftRight_le _ _) h) (by decide)
  have e6 : ((1 : Nat) : Int) = 1 := rfl
  rw [e6] at e5
  rw [e5, Nat.and_one_is_mod, Nat.testBit_eq_decide_div_mod_eq, Nat.shiftRight_eq_div_pow]
  congr 3
  rcases Nat.mod_two_eq_zero_or_one (x / 2 ^ i) with q | q <;> rw [q] <;> rfl
theorem toNat_one (b : Bool) : decide (((Bool.toNat b : Nat) : Int) = 1) = b := by cases b <;> rfl
theorem hi_bit {a i : Nat} : (a / W64).testBit i = a.testBit (64 + i) := by
  rw [W64, Nat.testBit_div_two_pow, Nat.add_comm]
theorem lo_bit {a i : Nat} (h : i < 64) : (a % W64).testBit i = a.testBit i := by
  rw [W64, Nat.testBit_mod_two_pow]
  simp [h]

theorem fA_len : fA.length = 128 := bA_len _
theorem setL_fA (g : Nat → Bool) : setL fA 0 (bA g) = bA g := setL_bA _ g
theorem closed_arr (f : Nat → Bool) : closedV (arr f) = true := by
  show (bA f).toArray.toList.all closed1 = true
  rw [toList_mk, List.all_eq_true]
  intro v hv
  simp only [bA, List.mem_map] at hv
  obtain ⟨j, _, rfl⟩ := hv
  rfl

def layF (a i : Nat) : Nat → Bool := fun j => decide ((127 - j) % 64 < i) && a.testBit (127 - j)
theorem layF_zero {a : Nat} : bA (layF a 0) = fA := bA_congr fun j _ => by simp [layF]
theorem layF_all {a : Nat} : bA (layF a 64) = bA (bF a) := bA_congr fun j _ => by
  have : (127 - j) % 64 < 64 := Nat.mod_lt _ (by decide)
  simp [layF, bF, this]
theorem layF_step {a i : Nat} (h : i < 64) : ((bA (layF a i)).set (63 - i) (.bool (a.testBit (64 + i)))).set (127 - i) (.bool (a.testBit i)) = bA (layF a (i + 1)) := by
  rw [bA_set, bA_set]
  refine bA_congr fun j hj => ?_
  by_cases h1 : j = 127 - i
  · have e : 127 - j = i := by omega
    have e2 : i % 64 < i + 1 := by omega
    simp [h1, layF, e2, show 127 - (127 - i) = i by omega]
  · rw [if_neg h1]
    by_cases h2 : j = 63 - i
    · have e : 127 - j = 64 + i := by omega
      have e2 : (64 + i) % 64 < i + 1 := by omega
      have e3 : i % 64 < i + 1 := by omega
      simp [h2, layF, e2, e3, show 127 - (63 - i) = 64 + i by omega]
    · rw [if_neg h2]
      have e : ((127 - j) % 64 < i) ↔ ((127 - j) % 64 < i + 1) := by omega
      simp only [layF, e]

def layI (a b1 b2 b3 : Nat) (H : Heap) : Nat → Env → Heap → Prop := fun z e H' =>
  ∃ i : Nat, i ≤ 64 ∧ z = 64 - i ∧ H' = H ++ [rowU a, .row fA 0 true, rowB (layF a i)] ∧ (∃ x : Nat → Value, e = [x 0, .pointer (some ⟨b1, 0, none⟩), .pointer (some ⟨b2, 0, none⟩), .pointer (some ⟨b3, 0, none⟩), .int .i64 (i : Int), x 5, x 6, x 7, x 8, x 9, x 10, x 11, x 12, x 13, x 14, x 15, x 16, x 17, x 18, x 19, x 20, x 21, x 22, x 23, x 24, x 25, x 26, x 27, x 28, x 29])

theorem lay_s {a : Nat} (ha : a < 2 ^ 128) (h : R (.ret (arr (bF a))) H) : WD T 66 [bvA a] H R := by
  refine WD.gc0 (WD.of follows t66 (by simp) ?_)
  rw [← fA_eq]
  have h1 := hi_lt ha
  have h2 := lo_lt a
  simp (disch := omega) only [kB, kcx, kdm, kdn, kel, aop, resultsL, resultOf, Nat.reduceEqDiff, reduceCtorEq, eq1, apartOK, apart2, AObj.live, Int.reduceEq, Int.reduceLT, Int.reduceLE, Int.reduceAdd, Int.reduceSub, Int.reduceMul, Int.reduceToNat, cutCells, Nat.reduceAdd, Nat.reduceLeDiff, Nat.reduceLT, Nat.reduceMul, Nat.reduceSub]
  refine WLoop.inv (layI a H.length (H.length + 1) (H.length + 2) H) ?_ 64 _ _ ⟨0, by omega, rfl, by rw [rowB, layF_zero], by exact ex_env rfl⟩
  rintro z e H' ⟨i, hi, rfl, rfl, ⟨x, rfl⟩⟩
  by_cases hlt : i < 64
  · have c0 : (i : Int) < 64 := by omega
    have e1 : (63 : Int) - (i : Int) = ((63 - i : Nat) : Int) := by omega
    have e2 : (127 : Int) - (i : Int) = ((127 - i : Nat) : Int) := by omega
    have e3 := bin_shr64 (k' := .u64) (a := a / W64) (b := i) (by omega)
    have e4 := bin_shr64 (k' := .u64) (a := a % W64) (b := i) (by omega)
    have e5 := bit_and (i := i) h1
    have e6 := bit_and (i := i) h2
    rw [hi_bit] at e5
    rw [lo_bit hlt] at e6
    have e7 : (((63 - i : Nat)) : Int) < 128 := by omega
    have e8 : (((127 - i : Nat)) : Int) < 128 := by omega
    have e9 := layF_step (a := a) hlt
    simp (disch := omega) only [kB, kcx, kdm, kdn, kel, aop, resultsL, resultOf, Nat.reduceEqDiff, reduceCtorEq, eq1, apartOK, apart2, AObj.live, Int.reduceEq, Int.reduceLT, Int.reduceLE, Int.reduceAdd, Int.reduceSub, Int.reduceMul, Int.reduceToNat, cutCells, Nat.reduceAdd, Nat.reduceLeDiff, Nat.reduceLT, Nat.reduceMul, Nat.reduceSub, c0, wr_i64, wr_u64, e1, e2, e3, e4, e5, e6, toNat_one, if_pos, bA_len, e9]
    exact ⟨64 - (i + 1), by omega, i + 1, by omega, rfl, rfl, by exact ex_env rfl⟩
  · obtain rfl : i = 64 := by omega
    have c0 : ¬ ((64 : Nat) : Int) < 64 := by omega
    simp (disch := omega) only [kB, kcx, kdm, kdn, kel, aop, resultsL, resultOf, Nat.reduceEqDiff, reduceCtorEq, eq1, apartOK, apart2, AObj.live, Int.reduceEq, Int.reduceLT, Int.reduceLE, Int.reduceAdd, Int.reduceSub, Int.reduceMul, Int.reduceToNat, cutCells, Nat.reduceAdd, Nat.reduceLeDiff, Nat.reduceLT, Nat.reduceMul, Nat.reduceSub, c0, layF_all, if_pos, bA_len, fA_len, bA_take, setL_fA, bA_one]
    exact ⟨_, rfl, ⟨_, rfl⟩, .closed (closed_arr _), h⟩

def takI (f : Nat → Bool) (b1 b2 b3 : Nat) (H : Heap) : Nat → Env → Heap → Prop := fun z e H' =>
  ∃ i : Nat, i ≤ 64 ∧ z = 64 - i ∧ H' = H ++ [rowB f, .row [.int .u64 0, .int .u64 0] 0 true, .row [.int .u64 ((nb f i : Nat) : Int), .int .u64 ((nb (fun i => f (64 + i)) i : Nat) : Int)] 0 true] ∧
    (∃ x : Nat → Value, e = [x 0, .pointer (some ⟨b1, 0, none⟩), .pointer (some ⟨b2, 0, none⟩), .pointer (some ⟨b3, 0, none⟩), .int .i64 (i : Int), x 5, x 6, x 7, x 8, x 9, x 10, x 11, x 12, x 13, x 14, x 15, x 16, x 17, x 18, x 19, x 20, x 21, x 22, x 23, x 24, x 25, x 26, x 27, x 28, x 29, x 30, x 31, x 32, x 33])

theorem take_s {f : Nat → Bool} (h : R (.ret (bvA (nb f 128))) H) : WD T 65 [arr f] H R := by
  refine WD.gc0 (WD.of follows t65 (by simp) ?_)
  rw [bvA_nb] at h
  simp (disch := omega) only [kB, kcx, kdm, kdn, kel, aop, resultsL, resultOf, Nat.reduceEqDiff, reduceCtorEq, eq1, apartOK, apart2, AObj.live, Int.reduceEq, Int.reduceLT, Int.reduceLE, Int.reduceAdd, Int.reduceSub, Int.reduceMul, Int.reduceToNat, cutCells, Nat.reduceAdd, Nat.reduceLeDiff, Nat.reduceLT, Nat.reduceMul, Nat.reduceSub]
  refine WLoop.inv (takI f H.length (H.length + 1) (H.length + 2) H) ?_ 64 _ _ ⟨0, by omega, rfl, rfl, by exact ex_env rfl⟩
  rintro z e H' ⟨i, hi, rfl, rfl, ⟨x, rfl⟩⟩
  by_cases hlt : i < 64
  · have c0 : (i : Int) < 64 := by omega
    have c1 : (i : Int) < 128 := by omega
    have e1 : (64 : Int) + (i : Int) = ((64 + i : Nat) : Int) := by omega
    have c2 : ((64 + i : Nat) : Int) < 128 := by omega
    have n1 := nb_lt f i
    have n2 := nb_lt (fun i => f (64 + i)) i
    have n3 : 2 ^ i * 2 ≤ 2 ^ 64 := by rw [← Nat.pow_succ]; exact Nat.pow_le_pow_right (by decide) hlt
    have n4 : (2 : Nat) ^ 64 = 18446744073709551616 := rfl
    have m1 : ((nb f i : Nat) : Int) * 2 = ((2 * nb f i : Nat) : Int) := by omega
    have m2 : ((nb (fun i => f (64 + i)) i : Nat) : Int) * 2 = ((2 * nb (fun i => f (64 + i)) i : Nat) : Int) := by omega
    have g1 := bA_get (f := f) (k := i) (by omega)
    have g2 := bA_get (f := f) (k := 64 + i) (by omega)
    have s1 : nb f (i + 1) = 2 * nb f i + (if f i = true then 1 else 0) := rfl
    have s2 : nb (fun i => f (64 + i)) (i + 1) = 2 * nb (fun i => f (64 + i)) i + (if f (64 + i) = true then 1 else 0) := rfl
    cases q1 : f i <;> cases q2 : f (64 + i) <;> rw [q1] at g1 s1 <;> rw [q2] at g2 s2 <;>
      (simp (disch := omega) only [kB, kcx, kdm, kdn, kel, aop, resultsL, resultOf, Nat.reduceEqDiff, reduceCtorEq, eq1, apartOK, apart2, AObj.live, Int.reduceEq, Int.reduceLT, Int.reduceLE, Int.reduceAdd, Int.reduceSub, Int.reduceMul, Int.reduceToNat, cutCells, Nat.reduceAdd, Nat.reduceLeDiff, Nat.reduceLT, Nat.reduceMul, Nat.reduceSub, c0, c1, c2, wr_i64, wr_u64, e1, m1, m2, g1, g2, if_pos, bA_len]
       refine ⟨64 - (i + 1), by omega, i + 1, by omega, rfl, ?_, by exact ex_env rfl⟩
       rw [s1, s2]
       simp)
  · obtain rfl : i = 64 := by omega
    have c0 : ¬ ((64 : Nat) : Int) < 64 := by omega
    simp (disch := omega) only [kB, kcx, kdm, kdn, kel, aop, resultsL, resultOf, Nat.reduceEqDiff, reduceCtorEq, eq1, apartOK, apart2, AObj.live, Int.reduceEq, Int.reduceLT, Int.reduceLE, Int.reduceAdd, Int.reduceSub, Int.reduceMul, Int.reduceToNat, cutCells, Nat.reduceAdd, Nat.reduceLeDiff, Nat.reduceLT, Nat.reduceMul, Nat.reduceSub, c0]
    exact ⟨_, rfl, ⟨_, rfl⟩, .closed rfl, h⟩

end Go.Proofs.YtkhkmgcegicmoaaDoor.Ev

/- The program's functions over any width and any number. -/
namespace Go.Proofs.YtkhkmgcegicmoaaDoor.Ev
set_option maxRecDepth 100000
set_option linter.unusedSimpArgs false
set_option linter.unusedVariables false
variable {R : FRes → Heap → Prop} {H : Heap}

def cutI (a : Nat) (w : Int) : Nat := if isw w = true then a % 2 ^ w.toNat else 0
def fitsI (a : Nat) (w : Int) : Bool := isw w && decide (a < 2 ^ w.toNat)
def maskI (w n : Int) : Nat × Int := if isw w = true then (if n < 0 ∨ w < n then (0, 1) else (maskN w.toNat n.toNat, 0)) else (0, 10)
def bitI (a : Nat) (w i : Int) : Bool := if isw w = true ∧ 0 ≤ i ∧ i < w then a.testBit (w - 1 - i).toNat else false
def cmnI (a b : Nat) (w : Int) : Nat := if isw w = true then cmn w.toNat (a % 2 ^ w.toNat) (b % 2 ^ w.toNat) else 0
abbrev pairV (p : Nat × Int) : Value := .tuple #[bvA p.1, .int .i64 p.2]

theorem wcases (w : Int) : isw w = false ∨ ∃ k : Nat, w = k ∧ 1 ≤ k ∧ k ≤ 128 := by
  by_cases h1 : 1 ≤ w
  · by_cases h2 : w ≤ 128
    · exact .inr ⟨w.toNat, by omega, by omega, by omega⟩
    · exact .inl (by simp [isw, h2])
  · exact .inl (by simp [isw, h1])
theorem isw_nat {k : Nat} (h1 : 1 ≤ k) (h2 : k ≤ 128) : isw (k : Int) = true := by simp [isw]; omega
theorem bvA_zero : bvA 0 = .agg #[.int .u64 0, .int .u64 0] := rfl
theorem cutI_lt {a : Nat} {w : Int} : cutI a w < 2 ^ 128 := by
  unfold cutI
  rcases wcases w with hw | ⟨k, rfl, h1, h2⟩
  · rw [hw]; simp
  · rw [isw_nat h1 h2, if_pos rfl, Int.toNat_natCast]
    exact Nat.lt_of_lt_of_le (Nat.mod_lt _ (Nat.two_pow_pos _)) (Nat.pow_le_pow_right (by decide) h2)
theorem cutI_cut {a : Nat} {w : Int} : cutI (a % 2 ^ 128) w = cutI a w := by
  unfold cutI
  rcases wcases w with hw | ⟨k, rfl, h1, h2⟩
  · rw [hw]; simp
  · rw [isw_nat h1 h2, if_pos rfl, if_pos rfl, Int.toNat_natCast, mod_mod_pow h2]

theorem fits_g {a : Nat} {w : Int} (ha : a < 2 ^ 128) (h : R (.ret (.bool (fitsI a w))) H) : WD T 22 [bvA a, .int .i64 w] H R := by
  rcases wcases w with hw | ⟨k, rfl, h1, h2⟩
  · refine WD.gc0 (WD.of follows t22 (by simp) ?_)
    rw [fitsI, hw, Bool.false_and] at h
    simp (disch := omega) only [kB, kcx, kdm, kdn, kel, aop, resultsL, resultOf, Nat.reduceEqDiff, reduceCtorEq, eq1, apartOK, apart2, AObj.live, Int.reduceEq, Int.reduceLT, Int.reduceLE, Int.reduceAdd, Int.reduceSub, Int.reduceMul, Int.reduceToNat, cutCells, Nat.reduceAdd, Nat.reduceLeDiff, Nat.reduceLT, Nat.reduceMul, Nat.reduceSub]
    refine isw_s ?_
    simp (disch := omega) only [kB, kcx, kdm, kdn, kel, aop, resultsL, resultOf, Nat.reduceEqDiff, reduceCtorEq, eq1, apartOK, apart2, AObj.live, Int.reduceEq, Int.reduceLT, Int.reduceLE, Int.reduceAdd, Int.reduceSub, Int.reduceMul, Int.reduceToNat, cutCells, Nat.reduceAdd, Nat.reduceLeDiff, Nat.reduceLT, Nat.reduceMul, Nat.reduceSub, hw]
    exact ⟨_, rfl, ⟨_, rfl⟩, .closed rfl, h⟩
  · rw [fitsI, isw_nat h1 h2, Bool.true_and, Int.toNat_natCast] at h
    exact fits_s h1 h2 ha h

theorem cut_g {a : Nat} {w : Int} (ha : a < 2 ^ 128) (h : R (.ret (bvA (cutI a w))) H) : WD T 18 [bvA a, .int .i64 w] H R := by
  rcases wcases w with hw | ⟨k, rfl, h1, h2⟩
  · refine WD.gc0 (WD.of follows t18 (by simp) ?_)
    rw [cutI, hw, if_neg (by decide), bvA_zero] at h
    simp (disch := omega) only [kB, kcx, kdm, kdn, kel, aop, resultsL, resultOf, Nat.reduceEqDiff, reduceCtorEq, eq1, apartOK, apart2, AObj.live, Int.reduceEq, Int.reduceLT, Int.reduceLE, Int.reduceAdd, Int.reduceSub, Int.reduceMul, Int.reduceToNat, cutCells, Nat.reduceAdd, Nat.reduceLeDiff, Nat.reduceLT, Nat.reduceMul, Nat.reduceSub]
    refine isw_s ?_
    simp (disch := omega) only [kB, kcx, kdm, kdn, kel, aop, resultsL, resultOf, Nat.reduceEqDiff, reduceCtorEq, eq1, apartOK, apart2, AObj.live, Int.reduceEq, Int.reduceLT, Int.reduceLE, Int.reduceAdd, Int.reduceSub, Int.reduceMul, Int.reduceToNat, cutCells, Nat.reduceAdd, Nat.reduceLeDiff, Nat.reduceLT, Nat.reduceMul, Nat.reduceSub, hw]
    exact ⟨_, rfl, ⟨_, rfl⟩, .closed rfl, h⟩
  · rw [cutI, isw_nat h1 h2, if_pos rfl, Int.toNat_natCast] at h
    exact cut_s h1 h2 ha h

theorem add_g {a b : Nat} {w : Int} (ha : a < 2 ^ 128) (hb : b < 2 ^ 128) (h : R (.ret (bvA (cutI ((a + b) % 2 ^ 128) w))) H) : WD T 19 [bvA a, bvA b, .int .i64 w] H R := by
  refine WD.gc0 (WD.of follows t19 (by simp) ?_)
  have a1 := hi_lt ha
  have a2 := lo_lt a
  have b1 := hi_lt hb
  have b2 := lo_lt b
  simp (disch := omega) only [kB, kcx, kdm, kdn, kel, aop, resultsL, resultOf, Nat.reduceEqDiff, reduceCtorEq, eq1, apartOK, apart2, AObj.live, Int.reduceEq, Int.reduceLT, Int.reduceLE, Int.reduceAdd, Int.reduceSub, Int.reduceMul, Int.reduceToNat, cutCells, Nat.reduceAdd, Nat.reduceLeDiff, Nat.reduceLT, Nat.reduceMul, Nat.reduceSub]
  refine add64_s0 ?_
  simp (disch := omega) only [kB, kcx, kdm, kdn, kel, aop, resultsL, resultOf, Nat.reduceEqDiff, reduceCtorEq, eq1, apartOK, apart2, AObj.live, Int.reduceEq, Int.reduceLT, Int.reduceLE, Int.reduceAdd, Int.reduceSub, Int.reduceMul, Int.reduceToNat, cutCells, Nat.reduceAdd, Nat.reduceLeDiff, Nat.reduceLT, Nat.reduceMul, Nat.reduceSub]
  refine add64_s (by omega) ?_
  simp (disch := omega) only [kB, kcx, kdm, kdn, kel, aop, resultsL, resultOf, Nat.reduceEqDiff, reduceCtorEq, eq1, apartOK, apart2, AObj.live, Int.reduceEq, Int.reduceLT, Int.reduceLE, Int.reduceAdd, Int.reduceSub, Int.reduceMul, Int.reduceToNat, cutCells, Nat.reduceAdd, Nat.reduceLeDiff, Nat.reduceLT, Nat.reduceMul, Nat.reduceSub]
  have hs : (.agg #[.int .u64 (((a / W64 + b / W64 + (a % W64 + b % W64) / 18446744073709551616) % 18446744073709551616 : Nat) : Int), .int .u64 (((a % W64 + b % W64) % 18446744073709551616 : Nat) : Int)] : Value) = bvA ((a + b) % 2 ^ 128) := by
    rw [bvA_of (Nat.mod_lt _ (by decide))]
    congr 1
    simp only [W64_eq]
    show _ = (a + b) % 340282366920938463463374607431768211456
    omega
  rw [hs]
  refine cut_g (Nat.mod_lt _ (by decide)) ?_
  simp (disch := omega) only [kB, kcx, kdm, kdn, kel, aop, resultsL, resultOf, Nat.reduceEqDiff, reduceCtorEq, eq1, apartOK, apart2, AObj.live, Int.reduceEq, Int.reduceLT, Int.reduceLE, Int.reduceAdd, Int.reduceSub, Int.reduceMul, Int.reduceToNat, cutCells, Nat.reduceAdd, Nat.reduceLeDiff, Nat.reduceLT, Nat.reduceMul, Nat.reduceSub]
  exact ⟨_, rfl, ⟨_, rfl⟩, .closed rfl, h⟩

theorem sub_g {a b : Nat} {w : Int} (ha : a < 2 ^ 128) (hb : b < 2 ^ 128) (h : R (.ret (bvA (cutI ((a + 2 ^ 128 - b) % 2 ^ 128) w))) H) : WD T 21 [bvA a, bvA b, .int .i64 w] H R := by
  refine WD.gc0 (WD.of follows t21 (by simp) ?_)
  have a1 := hi_lt ha
  have a2 := lo_lt a
  have b1 := hi_lt hb
  have b2 := lo_lt b
  simp (disch := omega) only [kB, kcx, kdm, kdn, kel, aop, resultsL, resultOf, Nat.reduceEqDiff, reduceCtorEq, eq1, apartOK, apart2, AObj.live, Int.reduceEq, Int.reduceLT, Int.reduceLE, Int.reduceAdd, Int.reduceSub, Int.reduceMul, Int.reduceToNat, cutCells, Nat.reduceAdd, Nat.reduceLeDiff, Nat.reduceLT, Nat.reduceMul, Nat.reduceSub]
  refine sub64_s0 ?_
  simp (disch := omega) only [kB, kcx, kdm, kdn, kel, aop, resultsL, resultOf, Nat.reduceEqDiff, reduceCtorEq, eq1, apartOK, apart2, AObj.live, Int.reduceEq, Int.reduceLT, Int.reduceLE, Int.reduceAdd, Int.reduceSub, Int.reduceMul, Int.reduceToNat, cutCells, Nat.reduceAdd, Nat.reduceLeDiff, Nat.reduceLT, Nat.reduceMul, Nat.reduceSub]
  refine sub64_s (by split <;> omega) ?_
  simp (disch := omega) only [kB, kcx, kdm, kdn, kel, aop, resultsL, resultOf, Nat.reduceEqDiff, reduceCtorEq, eq1, apartOK, apart2, AObj.live, Int.reduceEq, Int.reduceLT, Int.reduceLE, Int.reduceAdd, Int.reduceSub, Int.reduceMul, Int.reduceToNat, cutCells, Nat.reduceAdd, Nat.reduceLeDiff, Nat.reduceLT, Nat.reduceMul, Nat.reduceSub]
  have hs : ∀ c : Nat, (a % W64 < b % W64 → c = 1) → (¬ a % W64 < b % W64 → c = 0) →
      (.agg #[.int .u64 (((a / W64 + 18446744073709551616 - b / W64 - c) % 18446744073709551616 : Nat) : Int), .int .u64 (((a % W64 + 18446744073709551616 - b % W64) % 18446744073709551616 : Nat) : Int)] : Value) = bvA ((a + 2 ^ 128 - b) % 2 ^ 128) := by
    intro c hc1 hc0
    rw [bvA_of (Nat.mod_lt _ (by decide))]
    congr 1
    simp only [W64_eq] at a1 a2 b1 b2 hc1 hc0 ⊢
    have ha' : a < 340282366920938463463374607431768211456 := ha
    have hb' : b < 340282366920938463463374607431768211456 := hb
    show _ = (a + 340282366920938463463374607431768211456 - b) % 340282366920938463463374607431768211456
    by_cases hlt : a % 18446744073709551616 < b % 18446744073709551616
    · rw [hc1 hlt]; omega
    · rw [hc0 hlt]; omega
  rw [hs _ (fun h => if_pos h) (fun h => if_neg h)]
  refine cut_g (Nat.mod_lt _ (by decide)) ?_
  simp (disch := omega) only [kB, kcx, kdm, kdn, kel, aop, resultsL, resultOf, Nat.reduceEqDiff, reduceCtorEq, eq1, apartOK, apart2, AObj.live, Int.reduceEq, Int.reduceLT, Int.reduceLE, Int.reduceAdd, Int.reduceSub, Int.reduceMul, Int.reduceToNat, cutCells, Nat.reduceAdd, Nat.reduceLeDiff, Nat.reduceLT, Nat.reduceMul, Nat.reduceSub]
  exact ⟨_, rfl, ⟨_, rfl⟩, .closed rfl, h⟩

theorem mask_g {w n : Int} (h : R (.ret (pairV (maskI w n))) H) : WD T 24 [.int .i64 w, .int .i64 n] H R := by
  rcases wcases w with hw | ⟨k, rfl, h1, h2⟩
  · refine WD.gc0 (WD.of follows t24 (by simp) ?_)
    rw [maskI, hw, if_neg (by decide)] at h
    simp (disch := omega) only [kB, kcx, kdm, kdn, kel, aop, resultsL, resultOf, Nat.reduceEqDiff, reduceCtorEq, eq1, apartOK, apart2, AObj.live, Int.reduceEq, Int.reduceLT, Int.reduceLE, Int.reduceAdd, Int.reduceSub, Int.reduceMul, Int.reduceToNat, cutCells, Nat.reduceAdd, Nat.reduceLeDiff, Nat.reduceLT, Nat.reduceMul, Nat.reduceSub]
    refine isw_s ?_
    simp (disch := omega) only [kB, kcx, kdm, kdn, kel, aop, resultsL, resultOf, Nat.reduceEqDiff, reduceCtorEq, eq1, apartOK, apart2, AObj.live, Int.reduceEq, Int.reduceLT, Int.reduceLE, Int.reduceAdd, Int.reduceSub, Int.reduceMul, Int.reduceToNat, cutCells, Nat.reduceAdd, Nat.reduceLeDiff, Nat.reduceLT, Nat.reduceMul, Nat.reduceSub, hw]
    exact ⟨_, rfl, ⟨_, rfl⟩, .tup2 (.closed rfl) (.closed rfl), h⟩
  · have hw := isw_nat h1 h2
    rw [maskI, hw, if_pos rfl] at h
    by_cases c1 : n < 0
    · refine WD.gc0 (WD.of follows t24 (by simp) ?_)
      rw [if_pos (.inl c1)] at h
      simp (disch := omega) only [kB, kcx, kdm, kdn, kel, aop, resultsL, resultOf, Nat.reduceEqDiff, reduceCtorEq, eq1, apartOK, apart2, AObj.live, Int.reduceEq, Int.reduceLT, Int.reduceLE, Int.reduceAdd, Int.reduceSub, Int.reduceMul, Int.reduceToNat, cutCells, Nat.reduceAdd, Nat.reduceLeDiff, Nat.reduceLT, Nat.reduceMul, Nat.reduceSub]
      refine isw_s ?_
      simp (disch := omega) only [kB, kcx, kdm, kdn, kel, aop, resultsL, resultOf, Nat.reduceEqDiff, reduceCtorEq, eq1, apartOK, apart2, AObj.live, Int.reduceEq, Int.reduceLT, Int.reduceLE, Int.reduceAdd, Int.reduceSub, Int.reduceMul, Int.reduceToNat, cutCells, Nat.reduceAdd, Nat.reduceLeDiff, Nat.reduceLT, Nat.reduceMul, Nat.reduceSub, hw, c1]
      exact ⟨_, rfl, ⟨_, rfl⟩, .tup2 (.closed rfl) (.closed rfl), h⟩
    · by_cases c2 : (k : Int) < n
      · refine WD.gc0 (WD.of follows t24 (by simp) ?_)
        rw [if_pos (.inr c2)] at h
        simp (disch := omega) only [kB, kcx, kdm, kdn, kel, aop, resultsL, resultOf, Nat.reduceEqDiff, reduceCtorEq, eq1, apartOK, apart2, AObj.live, Int.reduceEq, Int.reduceLT, Int.reduceLE, Int.reduceAdd, Int.reduceSub, Int.reduceMul, Int.reduceToNat, cutCells, Nat.reduceAdd, Nat.reduceLeDiff, Nat.reduceLT, Nat.reduceMul, Nat.reduceSub]
        refine isw_s ?_
        simp (disch := omega) only [kB, kcx, kdm, kdn, kel, aop, resultsL, resultOf, Nat.reduceEqDiff, reduceCtorEq, eq1, apartOK, apart2, AObj.live, Int.reduceEq, Int.reduceLT, Int.reduceLE, Int.reduceAdd, Int.reduceSub, Int.reduceMul, Int.reduceToNat, cutCells, Nat.reduceAdd, Nat.reduceLeDiff, Nat.reduceLT, Nat.reduceMul, Nat.reduceSub, hw, c1, c2]
        exact ⟨_, rfl, ⟨_, rfl⟩, .tup2 (.closed rfl) (.closed rfl), h⟩
      · obtain ⟨m, rfl⟩ : ∃ m : Nat, n = m := ⟨n.toNat, by omega⟩
        rw [if_neg (by omega), Int.toNat_natCast, Int.toNat_natCast] at h
        exact mask_s h1 h2 (by omega) h

theorem most_g {w : Int} (h : R (.ret (pairV (maskI w w))) H) : WD T 27 [.int .i64 w] H R := by
  refine WD.gc0 (WD.of follows t27 (by simp) ?_)
  simp (disch := omega) only [kB, kcx, kdm, kdn, kel, aop, resultsL, resultOf, Nat.reduceEqDiff, reduceCtorEq, eq1, apartOK, apart2, AObj.live, Int.reduceEq, Int.reduceLT, Int.reduceLE, Int.reduceAdd, Int.reduceSub, Int.reduceMul, Int.reduceToNat, cutCells, Nat.reduceAdd, Nat.reduceLeDiff, Nat.reduceLT, Nat.reduceMul, Nat.reduceSub]
  refine mask_g ?_
  simp (disch := omega) only [kB, kcx, kdm, kdn, kel, aop, resultsL, resultOf, Nat.reduceEqDiff, reduceCtorEq, eq1, apartOK, apart2, AObj.live, Int.reduceEq, Int.reduceLT, Int.reduceLE, Int.reduceAdd, Int.reduceSub, Int.reduceMul, Int.reduceToNat, cutCells, Nat.reduceAdd, Nat.reduceLeDiff, Nat.reduceLT, Nat.reduceMul, Nat.reduceSub]
  exact ⟨_, rfl, ⟨_, rfl⟩, .tup2 (.closed rfl) (.closed rfl), h⟩

theorem bit_g {a : Nat} {w i : Int} (ha : a < 2 ^ 128) (h : R (.ret (.bool (bitI a w i))) H) : WD T 20 [bvA a, .int .i64 w, .int .i64 i] H R := by
  rcases wcases w with hw | ⟨k, rfl, h1, h2⟩
  · refine WD.gc0 (WD.of follows t20 (by simp) ?_)
    rw [bitI, hw, if_neg (by simp)] at h
    simp (disch := omega) only [kB, kcx, kdm, kdn, kel, aop, resultsL, resultOf, Nat.reduceEqDiff, reduceCtorEq, eq1, apartOK, apart2, AObj.live, Int.reduceEq, Int.reduceLT, Int.reduceLE, Int.reduceAdd, Int.reduceSub, Int.reduceMul, Int.reduceToNat, cutCells, Nat.reduceAdd, Nat.reduceLeDiff, Nat.reduceLT, Nat.reduceMul, Nat.reduceSub]
    refine isw_s ?_
    simp (disch := omega) only [kB, kcx, kdm, kdn, kel, aop, resultsL, resultOf, Nat.reduceEqDiff, reduceCtorEq, eq1, apartOK, apart2, AObj.live, Int.reduceEq, Int.reduceLT, Int.reduceLE, Int.reduceAdd, Int.reduceSub, Int.reduceMul, Int.reduceToNat, cutCells, Nat.reduceAdd, Nat.reduceLeDiff, Nat.reduceLT, Nat.reduceMul, Nat.reduceSub, hw]
    exact ⟨_, rfl, ⟨_, rfl⟩, .closed rfl, h⟩
  · have hw := isw_nat h1 h2
    by_cases c1 : i < 0
    · refine WD.gc0 (WD.of follows t20 (by simp) ?_)
      rw [bitI, hw, if_neg (by omega)] at h
      simp (disch := omega) only [kB, kcx, kdm, kdn, kel, aop, resultsL, resultOf, Nat.reduceEqDiff, reduceCtorEq, eq1, apartOK, apart2, AObj.live, Int.reduceEq, Int.reduceLT, Int.reduceLE, Int.reduceAdd, Int.reduceSub, Int.reduceMul, Int.reduceToNat, cutCells, Nat.reduceAdd, Nat.reduceLeDiff, Nat.reduceLT, Nat.reduceMul, Nat.reduceSub]
      refine isw_s ?_
      simp (disch := omega) only [kB, kcx, kdm, kdn, kel, aop, resultsL, resultOf, Nat.reduceEqDiff, reduceCtorEq, eq1, apartOK, apart2, AObj.live, Int.reduceEq, Int.reduceLT, Int.reduceLE, Int.reduceAdd, Int.reduceSub, Int.reduceMul, Int.reduceToNat, cutCells, Nat.reduceAdd, Nat.reduceLeDiff, Nat.reduceLT, Nat.reduceMul, Nat.reduceSub, hw, c1]
      exact ⟨_, rfl, ⟨_, rfl⟩, .closed rfl, h⟩
    · by_cases c2 : (k : Int) ≤ i
      · refine WD.gc0 (WD.of follows t20 (by simp) ?_)
        rw [bitI, hw, if_neg (by omega)] at h
        simp (disch := omega) only [kB, kcx, kdm, kdn, kel, aop, resultsL, resultOf, Nat.reduceEqDiff, reduceCtorEq, eq1, apartOK, apart2, AObj.live, Int.reduceEq, Int.reduceLT, Int.reduceLE, Int.reduceAdd, Int.reduceSub, Int.reduceMul, Int.reduceToNat, cutCells, Nat.reduceAdd, Nat.reduceLeDiff, Nat.reduceLT, Nat.reduceMul, Nat.reduceSub]
        refine isw_s ?_
        simp (disch := omega) only [kB, kcx, kdm, kdn, kel, aop, resultsL, resultOf, Nat.reduceEqDiff, reduceCtorEq, eq1, apartOK, apart2, AObj.live, Int.reduceEq, Int.reduceLT, Int.reduceLE, Int.reduceAdd, Int.reduceSub, Int.reduceMul, Int.reduceToNat, cutCells, Nat.reduceAdd, Nat.reduceLeDiff, Nat.reduceLT, Nat.reduceMul, Nat.reduceSub, hw, c1, c2]
        exact ⟨_, rfl, ⟨_, rfl⟩, .closed rfl, h⟩
      · obtain ⟨m, rfl⟩ : ∃ m : Nat, i = m := ⟨i.toNat, by omega⟩
        rw [bitI, hw, if_pos ⟨rfl, by omega, by omega⟩, show ((k : Int) - 1 - (m : Int)).toNat = k - 1 - m by omega] at h
        exact bit_s h1 h2 (by omega) ha h

theorem common_g {a b : Nat} {w : Int} (ha : a < 2 ^ 128) (hb : b < 2 ^ 128) (h : R (.ret (.int .i64 (cmnI a b w : Nat))) H) : WD T 23 [bvA a, bvA b, .int .i64 w] H R := by
  rcases wcases w with hw | ⟨k, rfl, h1, h2⟩
  · refine WD.gc0 (WD.of follows t23 (by simp) ?_)
    rw [cmnI, hw, if_neg (by decide)] at h
    simp (disch := omega) only [kB, kcx, kdm, kdn, kel, aop, resultsL, resultOf, Nat.reduceEqDiff, reduceCtorEq, eq1, apartOK, apart2, AObj.live, Int.reduceEq, Int.reduceLT, Int.reduceLE, Int.reduceAdd, Int.reduceSub, Int.reduceMul, Int.reduceToNat, cutCells, Nat.reduceAdd, Nat.reduceLeDiff, Nat.reduceLT, Nat.reduceMul, Nat.reduceSub]
    refine isw_s ?_
    simp (disch := omega) only [kB, kcx, kdm, kdn, kel, aop, resultsL, resultOf, Nat.reduceEqDiff, reduceCtorEq, eq1, apartOK, apart2, AObj.live, Int.reduceEq, Int.reduceLT, Int.reduceLE, Int.reduceAdd, Int.reduceSub, Int.reduceMul, Int.reduceToNat, cutCells, Nat.reduceAdd, Nat.reduceLeDiff, Nat.reduceLT, Nat.reduceMul, Nat.reduceSub, hw]
    exact ⟨_, rfl, ⟨_, rfl⟩, .closed rfl, h⟩
  · rw [cmnI, isw_nat h1 h2, if_pos rfl, Int.toNat_natCast] at h
    exact commonc_s h1 h2 ha hb h

theorem or_hi {v w : Nat} : (v ||| w) / W64 = (v / W64) ||| (w / W64) := by
  refine Nat.eq_of_testBit_eq fun i => ?_
  simp only [W64, Nat.testBit_div_two_pow, Nat.testBit_or]
theorem or_lo {v w : Nat} : (v ||| w) % W64 = (v % W64) ||| (w % W64) := by
  refine Nat.eq_of_testBit_eq fun i => ?_
  simp only [W64, Nat.testBit_mod_two_pow, Nat.testBit_or]
  cases decide (i < 64) <;> simp
theorem bor_s {v w : Nat} (hv : v < 2 ^ 128) (hw : w < 2 ^ 128) (h : R (.ret (bvA (v ||| w))) H) : WD T 31 [bvA v, bvA w] H R := by
  refine WD.gc0 (WD.of follows t31 (by simp) ?_)
  have e1 := bin_or64 (hi_lt hv) (hi_lt hw)
  have e2 := bin_or64 (lo_lt v) (lo_lt w)
  rw [bvA, or_hi, or_lo] at h
  simp (disch := omega) only [kB, kcx, kdm, kdn, kel, aop, resultsL, resultOf, Nat.reduceEqDiff, reduceCtorEq, eq1, apartOK, apart2, AObj.live, Int.reduceEq, Int.reduceLT, Int.reduceLE, Int.reduceAdd, Int.reduceSub, Int.reduceMul, Int.reduceToNat, cutCells, Nat.reduceAdd, Nat.reduceLeDiff, Nat.reduceLT, Nat.reduceMul, Nat.reduceSub, e1, e2]
  exact ⟨_, rfl, ⟨_, rfl⟩, .closed rfl, h⟩

end Go.Proofs.YtkhkmgcegicmoaaDoor.Ev

/- The document's functions over values: width, cut, sum, difference. -/
namespace Go.Proofs.YtkhkmgcegicmoaaDoor.Ev
set_option maxRecDepth 100000
set_option linter.unusedSimpArgs false
set_option linter.unusedVariables false
variable {R : FRes → Heap → Prop} {H : Heap}

theorem rwidth_s {w : Int} (h : R (.ret (.bool (isw w))) H) : WD T 45 [.int .i64 w] H R := by
  refine WD.gc0 (WD.of follows t45 (by simp) ?_)
  unfold isw at h
  by_cases h1 : 1 ≤ w
  · by_cases h2 : w ≤ 128
    · simp (disch := omega) only [kB, kcx, kdm, kdn, kel, aop, resultsL, resultOf, Nat.reduceEqDiff, reduceCtorEq, eq1, apartOK, apart2, AObj.live, Int.reduceEq, Int.reduceLT, Int.reduceLE, Int.reduceAdd, Int.reduceSub, Int.reduceMul, Int.reduceToNat, cutCells, Nat.reduceAdd, Nat.reduceLeDiff, Nat.reduceLT, Nat.reduceMul, Nat.reduceSub, h1, h2]
      simp only [h1, h2, decide_true, Bool.and_self] at h
      exact ⟨_, rfl, ⟨[], (List.append_nil _).symm⟩, .closed rfl, h⟩
    · simp (disch := omega) only [kB, kcx, kdm, kdn, kel, aop, resultsL, resultOf, Nat.reduceEqDiff, reduceCtorEq, eq1, apartOK, apart2, AObj.live, Int.reduceEq, Int.reduceLT, Int.reduceLE, Int.reduceAdd, Int.reduceSub, Int.reduceMul, Int.reduceToNat, cutCells, Nat.reduceAdd, Nat.reduceLeDiff, Nat.reduceLT, Nat.reduceMul, Nat.reduceSub, h1, h2]
      simp only [h1, h2, decide_true, decide_false, Bool.and_false] at h
      exact ⟨_, rfl, ⟨[], (List.append_nil _).symm⟩, .closed rfl, h⟩
  · simp (disch := omega) only [kB, kcx, kdm, kdn, kel, aop, resultsL, resultOf, Nat.reduceEqDiff, reduceCtorEq, eq1, apartOK, apart2, AObj.live, Int.reduceEq, Int.reduceLT, Int.reduceLE, Int.reduceAdd, Int.reduceSub, Int.reduceMul, Int.reduceToNat, cutCells, Nat.reduceAdd, Nat.reduceLeDiff, Nat.reduceLT, Nat.reduceMul, Nat.reduceSub, h1]
    simp only [h1, decide_false, Bool.false_and] at h
    exact ⟨_, rfl, ⟨[], (List.append_nil _).symm⟩, .closed rfl, h⟩

def cutF (a i : Nat) : Nat → Bool := fun j => decide (i ≤ j) && bF a j
theorem cutF_zero {a : Nat} : bA (bF a) = bA (cutF a 0) := bA_congr fun j _ => by simp [cutF]
theorem cutF_step {a i : Nat} : (bA (cutF a i)).set i (.bool false) = bA (cutF a (i + 1)) := by
  rw [bA_set]
  refine bA_congr fun j _ => ?_
  by_cases h : j = i
  · have e2 : ¬ i + 1 ≤ i := by omega
    simp [h, cutF, e2]
  · have e : (i ≤ j) ↔ (i + 1 ≤ j) := by omega
    simp only [if_neg h, cutF, e]
theorem cutF_all {a k : Nat} (h : k ≤ 128) : nb (cutF a (128 - k)) 128 = a % 2 ^ k := by
  refine Nat.eq_of_testBit_eq fun j => ?_
  rw [nb_testBit, Nat.testBit_mod_two_pow, cutF, bF]
  by_cases h1 : j < 128
  · have e : 127 - (128 - 1 - j) = j := by omega
    have e2 : (128 - k ≤ 128 - 1 - j) ↔ j < k := by omega
    simp only [h1, decide_true, Bool.true_and, e, e2]
  · have e : ¬ j < k := by omega
    simp [h1, e]

def rcutI (a k b4 b5 : Nat) (K : Heap) : Nat → Env → Heap → Prop := fun z e H' =>
  ∃ i : Nat, i ≤ 128 - k ∧ z = 128 - k - i ∧ H' = K ++ [rowU a, rowU 0, rowB (cutF a i)] ∧ (∃ x : Nat → Value, e = [x 0, .int .i64 (k : Int), x 2, x 3, .pointer (some ⟨b4, 0, none⟩), .pointer (some ⟨b5, 0, none⟩), .int .i64 (i : Int), x 7, x 8, x 9, x 10, x 11, x 12, x 13, x 14, x 15, x 16, x 17, x 18, x 19, x 20, x 21, x 22])

theorem rcut_s {a : Nat} {w : Int} (ha : a < 2 ^ 128) (h : R (.ret (bvA (cutI a w))) H) : WD T 37 [bvA a, .int .i64 w] H R := by
  refine WD.gc0 (WD.of follows t37 (by simp) ?_)
  rw [← fA_eq]
  rcases wcases w with hw | ⟨k, rfl, h1, h2⟩
  · rw [cutI, hw, if_neg (by decide), bvA_zero] at h
    simp (disch := omega) only [kB, kcx, kdm, kdn, kel, aop, resultsL, resultOf, Nat.reduceEqDiff, reduceCtorEq, eq1, apartOK, apart2, AObj.live, Int.reduceEq, Int.reduceLT, Int.reduceLE, Int.reduceAdd, Int.reduceSub, Int.reduceMul, Int.reduceToNat, cutCells, Nat.reduceAdd, Nat.reduceLeDiff, Nat.reduceLT, Nat.reduceMul, Nat.reduceSub]
    refine rwidth_s ?_
    simp (disch := omega) only [kB, kcx, kdm, kdn, kel, aop, resultsL, resultOf, Nat.reduceEqDiff, reduceCtorEq, eq1, apartOK, apart2, AObj.live, Int.reduceEq, Int.reduceLT, Int.reduceLE, Int.reduceAdd, Int.reduceSub, Int.reduceMul, Int.reduceToNat, cutCells, Nat.reduceAdd, Nat.reduceLeDiff, Nat.reduceLT, Nat.reduceMul, Nat.reduceSub, hw]
    exact ⟨_, rfl, ⟨_, rfl⟩, .closed rfl, h⟩
  · have hw := isw_nat h1 h2
    rw [cutI, hw, if_pos rfl, Int.toNat_natCast] at h
    simp (disch := omega) only [kB, kcx, kdm, kdn, kel, aop, resultsL, resultOf, Nat.reduceEqDiff, reduceCtorEq, eq1, apartOK, apart2, AObj.live, Int.reduceEq, Int.reduceLT, Int.reduceLE, Int.reduceAdd, Int.reduceSub, Int.reduceMul, Int.reduceToNat, cutCells, Nat.reduceAdd, Nat.reduceLeDiff, Nat.reduceLT, Nat.reduceMul, Nat.reduceSub]
    refine rwidth_s ?_
    simp (disch := omega) only [kB, kcx, kdm, kdn, kel, aop, resultsL, resultOf, Nat.reduceEqDiff, reduceCtorEq, eq1, apartOK, apart2, AObj.live, Int.reduceEq, Int.reduceLT, Int.reduceLE, Int.reduceAdd, Int.reduceSub, Int.reduceMul, Int.reduceToNat, cutCells, Nat.reduceAdd, Nat.reduceLeDiff, Nat.reduceLT, Nat.reduceMul, Nat.reduceSub, hw]
    refine lay_s ha ?_
    simp (disch := omega) only [kB, kcx, kdm, kdn, kel, aop, resultsL, resultOf, Nat.reduceEqDiff, reduceCtorEq, eq1, apartOK, apart2, AObj.live, Int.reduceEq, Int.reduceLT, Int.reduceLE, Int.reduceAdd, Int.reduceSub, Int.reduceMul, Int.reduceToNat, cutCells, Nat.reduceAdd, Nat.reduceLeDiff, Nat.reduceLT, Nat.reduceMul, Nat.reduceSub, bA_len, fA_len, bA_one, setL_fA]
    refine WLoop.inv (rcutI a k (H.length + 1) (H.length + 2) H) ?_ (128 - k) _ _ ⟨0, by omega, by omega, by rw [cutF_zero]; rfl, by exact ex_env rfl⟩
    rintro z e H' ⟨i, hi, rfl, rfl, ⟨x, rfl⟩⟩
    have e0 : (128 : Int) - (k : Int) = ((128 - k : Nat) : Int) := by omega
    by_cases hlt : i < 128 - k
    · have c0 : (i : Int) < ((128 - k : Nat) : Int) := by omega
      have c1 : (i : Int) < 128 := by omega
      simp (disch := omega) only [kB, kcx, kdm, kdn, kel, aop, resultsL, resultOf, Nat.reduceEqDiff, reduceCtorEq, eq1, apartOK, apart2, AObj.live, Int.reduceEq, Int.reduceLT, Int.reduceLE, Int.reduceAdd, Int.reduceSub, Int.reduceMul, Int.reduceToNat, cutCells, Nat.reduceAdd, Nat.reduceLeDiff, Nat.reduceLT, Nat.reduceMul, Nat.reduceSub, c0, c1, wr_i64, e0, if_pos, bA_len, cutF_step]
      exact ⟨128 - k - (i + 1), by omega, i + 1, by omega, rfl, rfl, by exact ex_env rfl⟩
    · obtain rfl : i = 128 - k := by omega
      have c0 : ¬ ((128 - k : Nat) : Int) < ((128 - k : Nat) : Int) := by omega
      simp (disch := omega) only [kB, kcx, kdm, kdn, kel, aop, resultsL, resultOf, Nat.reduceEqDiff, reduceCtorEq, eq1, apartOK, apart2, AObj.live, Int.reduceEq, Int.reduceLT, Int.reduceLE, Int.reduceAdd, Int.reduceSub, Int.reduceMul, Int.reduceToNat, cutCells, Nat.reduceAdd, Nat.reduceLeDiff, Nat.reduceLT, Nat.reduceMul, Nat.reduceSub, c0, wr_i64, e0, if_pos, bA_len, bA_take]
      refine take_s ?_
      rw [cutF_all h2]
      simp (disch := omega) only [kB, kcx, kdm, kdn, kel, aop, resultsL, resultOf, Nat.reduceEqDiff, reduceCtorEq, eq1, apartOK, apart2, AObj.live, Int.reduceEq, Int.reduceLT, Int.reduceLE, Int.reduceAdd, Int.reduceSub, Int.reduceMul, Int.reduceToNat, cutCells, Nat.reduceAdd, Nat.reduceLeDiff, Nat.reduceLT, Nat.reduceMul, Nat.reduceSub]
      exact ⟨_, rfl, ⟨_, rfl⟩, .closed rfl, h⟩

/-! The sum. -/
def sumF (c z : Nat) : Nat → Bool := fun j => decide (z ≤ j) && bF c j
theorem sumF_none {c : Nat} : bA (sumF c 128) = fA := bA_congr fun j hj => by
  have : ¬ 128 ≤ j := by omega
  simp [sumF, this]
theorem sumF_step {c q : Nat} {v : Bool} (h : v = c.testBit (127 - q)) : (bA (sumF c (q + 1))).set q (.bool v) = bA (sumF c q) := by
  rw [bA_set]
  refine bA_congr fun j _ => ?_
  by_cases h1 : j = q
  · subst h1
    simp [sumF, h, bF]
  · have e : (q + 1 ≤ j) ↔ (q ≤ j) := by omega
    simp only [if_neg h1, sumF, e]
theorem sumF_all {c : Nat} : nb (sumF c 0) 128 = c % 2 ^ 128 := by
  rw [← nb_bits]
  exact nb_congr fun j hj => by simp [sumF, bF]

def raddI (a b : Nat) (w : Int) (b6 b7 b8 b9 : Nat) (K : Heap) : Nat → Env → Heap → Prop := fun z e H' =>
  z ≤ 128 ∧ H' = K ++ [rowU a, rowU b, rowU 0, rowB (bF a), rowB (bF b), rowB (sumF (a + b) z)] ∧
    (∃ x : Nat → Value, e = [x 0, x 1, .int .i64 w, x 3, x 4, x 5, .pointer (some ⟨b6, 0, none⟩), .pointer (some ⟨b7, 0, none⟩), .pointer (some ⟨b8, 0, none⟩), .pointer (some ⟨b9, 0, none⟩), .bool (carN a b (128 - z)), .int .i64 ((z : Int) - 1), x 12, x 13, x 14, x 15, x 16, x 17, x 18, x 19, x 20, x 21, x 22, x 23, x 24, x 25, x 26, x 27, x 28, x 29, x 30, x 31, x 32, x 33, x 34, x 35, x 36, x 37, x 38, x 39, x 40, x 41, x 42, x 43, x 44, x 45, x 46, x 47])

set_option maxHeartbeats 4000000 in
theorem radd_s {a b : Nat} {w : Int} (ha : a < 2 ^ 128) (hb : b < 2 ^ 128) (h : R (.ret (bvA (cutI ((a + b) % 2 ^ 128) w))) H) : WD T 38 [bvA a, bvA b, .int .i64 w] H R := by
  refine WD.gc0 (WD.of follows t38 (by simp) ?_)
  rw [← fA_eq]
  simp (disch := omega) only [kB, kcx, kdm, kdn, kel, aop, resultsL, resultOf, Nat.reduceEqDiff, reduceCtorEq, eq1, apartOK, apart2, AObj.live, Int.reduceEq, Int.reduceLT, Int.reduceLE, Int.reduceAdd, Int.reduceSub, Int.reduceMul, Int.reduceToNat, cutCells, Nat.reduceAdd, Nat.reduceLeDiff, Nat.reduceLT, Nat.reduceMul, Nat.reduceSub]
  refine lay_s ha ?_
  simp (disch := omega) only [kB, kcx, kdm, kdn, kel, aop, resultsL, resultOf, Nat.reduceEqDiff, reduceCtorEq, eq1, apartOK, apart2, AObj.live, Int.reduceEq, Int.reduceLT, Int.reduceLE, Int.reduceAdd, Int.reduceSub, Int.reduceMul, Int.reduceToNat, cutCells, Nat.reduceAdd, Nat.reduceLeDiff, Nat.reduceLT, Nat.reduceMul, Nat.reduceSub, bA_len, fA_len, bA_one, setL_fA]
  refine lay_s hb ?_
  simp (disch := omega) only [kB, kcx, kdm, kdn, kel, aop, resultsL, resultOf, Nat.reduceEqDiff, reduceCtorEq, eq1, apartOK, apart2, AObj.live, Int.reduceEq, Int.reduceLT, Int.reduceLE, Int.reduceAdd, Int.reduceSub, Int.reduceMul, Int.reduceToNat, cutCells, Nat.reduceAdd, Nat.reduceLeDiff, Nat.reduceLT, Nat.reduceMul, Nat.reduceSub, bA_len, fA_len, bA_one, setL_fA]
  refine WLoop.inv (raddI a b w (H.length + 2) (H.length + 3) (H.length + 4) (H.length + 5) H) ?_ 128 _ _ ⟨by omega, by rw [rowB, rowB, rowB, sumF_none]; rfl, by rw [Nat.sub_self, car_zero]; exact ex_env rfl⟩
  rintro z e H' ⟨hz, rfl, ⟨x, rfl⟩⟩
  cases z with
  | zero =>
    have c0 : ¬ (0 : Int) ≤ ((0 : Nat) : Int) - 1 := by omega
    simp (disch := omega) only [kB, kcx, kdm, kdn, kel, aop, resultsL, resultOf, Nat.reduceEqDiff, reduceCtorEq, eq1, apartOK, apart2, AObj.live, Int.reduceEq, Int.reduceLT, Int.reduceLE, Int.reduceAdd, Int.reduceSub, Int.reduceMul, Int.reduceToNat, cutCells, Nat.reduceAdd, Nat.reduceLeDiff, Nat.reduceLT, Nat.reduceMul, Nat.reduceSub, c0, if_pos, bA_len, bA_take]
    refine take_s ?_
    rw [sumF_all]
    simp (disch := omega) only [kB, kcx, kdm, kdn, kel, aop, resultsL, resultOf, Nat.reduceEqDiff, reduceCtorEq, eq1, apartOK, apart2, AObj.live, Int.reduceEq, Int.reduceLT, Int.reduceLE, Int.reduceAdd, Int.reduceSub, Int.reduceMul, Int.reduceToNat, cutCells, Nat.reduceAdd, Nat.reduceLeDiff, Nat.reduceLT, Nat.reduceMul, Nat.reduceSub]
    refine rcut_s (Nat.mod_lt _ (by decide)) ?_
    simp (disch := omega) only [kB, kcx, kdm, kdn, kel, aop, resultsL, resultOf, Nat.reduceEqDiff, reduceCtorEq, eq1, apartOK, apart2, AObj.live, Int.reduceEq, Int.reduceLT, Int.reduceLE, Int.reduceAdd, Int.reduceSub, Int.reduceMul, Int.reduceToNat, cutCells, Nat.reduceAdd, Nat.reduceLeDiff, Nat.reduceLT, Nat.reduceMul, Nat.reduceSub]
    exact ⟨_, rfl, ⟨_, rfl⟩, .closed rfl, h⟩
  | succ q =>
    have c0 : (0 : Int) ≤ ((q + 1 : Nat) : Int) - 1 := by omega
    have e1 : ((q + 1 : Nat) : Int) - 1 = (q : Int) := by omega
    have c1 : (q : Int) < 128 := by omega
    have g1 : (bA (bF a))[q]? = some (.bool (a.testBit (127 - q))) := bA_get (by omega)
    have g2 : (bA (bF b))[q]? = some (.bool (b.testBit (127 - q))) := bA_get (by omega)
    obtain ⟨d1, d2⟩ := car_bit (a := a) (b := b) (j := 127 - q)
    have e2 : 128 - (q + 1) = 127 - q := by omega
    have e3 : 128 - q = 127 - q + 1 := by omega
    have st : ∀ v, v = (a + b).testBit (127 - q) → (bA (sumF (a + b) (q + 1))).set q (.bool v) = bA (sumF (a + b) q) := fun v hv => sumF_step hv
    rw [e2]
    rw [← d1.symm] at st
    rw [← e3] at d2
    cases hx : a.testBit (127 - q) <;> cases hy : b.testBit (127 - q) <;> cases hc : carN a b (127 - q) <;> rw [hx, hy, hc] at d2 st <;> rw [hx] at g1 <;> rw [hy] at g2 <;>
      simp only [Bool.and_false, Bool.and_true, Bool.or_false, Bool.or_true, Bool.or_self, Bool.false_or, Bool.true_or, Bool.and_self, Bool.bne_true, Bool.bne_false, Bool.not_true, Bool.not_false] at d2 st <;>
      (have st' := st _ rfl
       simp (disch := omega) only [kB, kcx, kdm, kdn, kel, aop, resultsL, resultOf, Nat.reduceEqDiff, reduceCtorEq, eq1, apartOK, apart2, AObj.live, Int.reduceEq, Int.reduceLT, Int.reduceLE, Int.reduceAdd, Int.reduceSub, Int.reduceMul, Int.reduceToNat, cutCells, Nat.reduceAdd, Nat.reduceLeDiff, Nat.reduceLT, Nat.reduceMul, Nat.reduceSub, c0, c1, e1, wr_i64, g1, g2, if_pos, bA_len, st']
       refine ⟨q, by omega, by omega, rfl, ?_⟩
       rw [d2]
       exact ex_env rfl)

/-! The difference. -/
def notF (b i : Nat) : Nat → Bool := fun j => if j < i then !bF b j else bF b j
theorem notF_zero {b : Nat} : bA (notF b 0) = bA (bF b) := bA_congr fun j _ => by simp [notF]
theorem notF_step {b i : Nat} : (bA (notF b i)).set i (.bool !(b.testBit (127 - i))) = bA (notF b (i + 1)) := by
  rw [bA_set]
  refine bA_congr fun j _ => ?_
  by_cases h : j = i
  · simp [h, notF, bF]
  · have e : (j < i) ↔ (j < i + 1) := by omega
    simp only [if_neg h, notF, e]
theorem notF_all {b : Nat} (hb : b < 2 ^ 128) : nb (notF b 128) 128 = 2 ^ 128 - (b + 1) := by
  refine Nat.eq_of_testBit_eq fun k => ?_
  rw [Nat.testBit_two_pow_sub_succ hb, nb_testBit]
  by_cases h : k < 128
  · have e : 127 - (128 - 1 - k) = k := by omega
    have e2 : 128 - 1 - k < 128 := by omega
    simp only [h, notF, e2, if_true, bF, e]
  · simp [h]

def rsubI (a b : Nat) (w : Int) (b3 b6 b7 : Nat) (K : Heap) : Nat → Env → Heap → Prop := fun z e H' =>
  ∃ i : Nat, i ≤ 128 ∧ z = 128 - i ∧ H' = K ++ [rowU a, rowU b, rowU 0, rowB (notF b i)] ∧
    (∃ x : Nat → Value, e = [x 0, x 1, .int .i64 w, .pointer (some ⟨b3, 0, none⟩), x 4, x 5, .pointer (some ⟨b6, 0, none⟩), .pointer (some ⟨b7, 0, none⟩), .int .i64 (i : Int), x 9, x 10, x 11, x 12, x 13, x 14, x 15, x 16, x 17, x 18, x 19, x 20, x 21, x 22, x 23, x 24, x 25, x 26, x 27, x 28, x 29])

theorem rsub_s {a b : Nat} {w : Int} (ha : a < 2 ^ 128) (hb : b < 2 ^ 128) (h : R (.ret (bvA (cutI ((a + 2 ^ 128 - b) % 2 ^ 128) w))) H) : WD T 39 [bvA a, bvA b, .int .i64 w] H R := by
  refine WD.gc0 (WD.of follows t39 (by simp) ?_)
  rw [← fA_eq]
  simp (disch := omega) only [kB, kcx, kdm, kdn, kel, aop, resultsL, resultOf, Nat.reduceEqDiff, reduceCtorEq, eq1, apartOK, apart2, AObj.live, Int.reduceEq, Int.reduceLT, Int.reduceLE, Int.reduceAdd, Int.reduceSub, Int.reduceMul, Int.reduceToNat, cutCells, Nat.reduceAdd, Nat.reduceLeDiff, Nat.reduceLT, Nat.reduceMul, Nat.reduceSub]
  refine lay_s hb ?_
  simp (disch := omega) only [kB, kcx, kdm, kdn, kel, aop, resultsL, resultOf, Nat.reduceEqDiff, reduceCtorEq, eq1, apartOK, apart2, AObj.live, Int.reduceEq, Int.reduceLT, Int.reduceLE, Int.reduceAdd, Int.reduceSub, Int.reduceMul, Int.reduceToNat, cutCells, Nat.reduceAdd, Nat.reduceLeDiff, Nat.reduceLT, Nat.reduceMul, Nat.reduceSub, bA_len, fA_len, bA_one, setL_fA]
  refine WLoop.inv (rsubI a b w H.length (H.length + 2) (H.length + 3) H) ?_ 128 _ _ ⟨0, by omega, by omega, by rw [rowB, notF_zero]; rfl, by exact ex_env rfl⟩
  rintro z e H' ⟨i, hi, rfl, rfl, ⟨x, rfl⟩⟩
  by_cases hlt : i < 128
  · have c0 : (i : Int) < 128 := by omega
    have g1 := bA_get (f := notF b i) (k := i) hlt
    have g2 : notF b i i = b.testBit (127 - i) := by simp [notF, bF]
    rw [g2] at g1
    have un : ∀ v : Bool, True := fun _ => trivial
    simp (disch := omega) only [kB, kcx, kdm, kdn, kel, aop, resultsL, resultOf, Nat.reduceEqDiff, reduceCtorEq, eq1, apartOK, apart2, AObj.live, Int.reduceEq, Int.reduceLT, Int.reduceLE, Int.reduceAdd, Int.reduceSub, Int.reduceMul, Int.reduceToNat, cutCells, Nat.reduceAdd, Nat.reduceLeDiff, Nat.reduceLT, Nat.reduceMul, Nat.reduceSub, c0, wr_i64, g1, if_pos, bA_len, notF_step]
    exact ⟨128 - (i + 1), by omega, i + 1, by omega, rfl, rfl, by exact ex_env rfl⟩
  · obtain rfl : i = 128 := by omega
    have c0 : ¬ ((128 : Nat) : Int) < 128 := by omega
    simp (disch := omega) only [kB, kcx, kdm, kdn, kel, aop, resultsL, resultOf, Nat.reduceEqDiff, reduceCtorEq, eq1, apartOK, apart2, AObj.live, Int.reduceEq, Int.reduceLT, Int.reduceLE, Int.reduceAdd, Int.reduceSub, Int.reduceMul, Int.reduceToNat, cutCells, Nat.reduceAdd, Nat.reduceLeDiff, Nat.reduceLT, Nat.reduceMul, Nat.reduceSub, c0, if_pos, bA_len, bA_take]
    refine take_s ?_
    rw [notF_all hb]
    simp (disch := omega) only [kB, kcx, kdm, kdn, kel, aop, resultsL, resultOf, Nat.reduceEqDiff, reduceCtorEq, eq1, apartOK, apart2, AObj.live, Int.reduceEq, Int.reduceLT, Int.reduceLE, Int.reduceAdd, Int.reduceSub, Int.reduceMul, Int.reduceToNat, cutCells, Nat.reduceAdd, Nat.reduceLeDiff, Nat.reduceLT, Nat.reduceMul, Nat.reduceSub]
    have one : (.agg #[.int .u64 0, .int .u64 1] : Value) = bvA 1 := rfl
    rw [one]
    refine radd_s (w := 128) (by omega) (by decide) ?_
    have en : cutI ((2 ^ 128 - (b + 1) + 1) % 2 ^ 128) 128 = (2 ^ 128 - b) % 2 ^ 128 := by
      have : 2 ^ 128 - (b + 1) + 1 = 2 ^ 128 - b := by omega
      rw [this, cutI_cut]
      rfl
    rw [en]
    simp (disch := omega) only [kB, kcx, kdm, kdn, kel, aop, resultsL, resultOf, Nat.reduceEqDiff, reduceCtorEq, eq1, apartOK, apart2, AObj.live, Int.reduceEq, Int.reduceLT, Int.reduceLE, Int.reduceAdd, Int.reduceSub, Int.reduceMul, Int.reduceToNat, cutCells, Nat.reduceAdd, Nat.reduceLeDiff, Nat.reduceLT, Nat.reduceMul, Nat.reduceSub]
    refine radd_s ha (Nat.mod_lt _ (by decide)) ?_
    have e2 : (a + (2 ^ 128 - b) % 2 ^ 128) % 2 ^ 128 = (a + 2 ^ 128 - b) % 2 ^ 128 := by
      rw [Nat.add_mod_mod]
      congr 1
      omega
    rw [e2]
    simp (disch := omega) only [kB, kcx, kdm, kdn, kel, aop, resultsL, resultOf, Nat.reduceEqDiff, reduceCtorEq, eq1, apartOK, apart2, AObj.live, Int.reduceEq, Int.reduceLT, Int.reduceLE, Int.reduceAdd, Int.reduceSub, Int.reduceMul, Int.reduceToNat, cutCells, Nat.reduceAdd, Nat.reduceLeDiff, Nat.reduceLT, Nat.reduceMul, Nat.reduceSub]
    exact ⟨_, rfl, ⟨_, rfl⟩, .closed rfl, h⟩

end Go.Proofs.YtkhkmgcegicmoaaDoor.Ev

/- The document's functions over values: bits, what fits, order, masks, common bits. -/
namespace Go.Proofs.YtkhkmgcegicmoaaDoor.Ev
set_option maxRecDepth 100000
set_option linter.unusedSimpArgs false
set_option linter.unusedVariables false
variable {R : FRes → Heap → Prop} {H : Heap}

theorem rbit_s {a : Nat} {w i : Int} (ha : a < 2 ^ 128) (h : R (.ret (.bool (bitI a w i))) H) : WD T 40 [bvA a, .int .i64 w, .int .i64 i] H R := by
  refine WD.gc0 (WD.of follows t40 (by simp) ?_)
  rw [← fA_eq]
  rcases wcases w with hw | ⟨k, rfl, h1, h2⟩
  · rw [bitI, hw, if_neg (by simp)] at h
    simp (disch := omega) only [kB, kcx, kdm, kdn, kel, aop, resultsL, resultOf, Nat.reduceEqDiff, reduceCtorEq, eq1, apartOK, apart2, AObj.live, Int.reduceEq, Int.reduceLT, Int.reduceLE, Int.reduceAdd, Int.reduceSub, Int.reduceMul, Int.reduceToNat, cutCells, Nat.reduceAdd, Nat.reduceLeDiff, Nat.reduceLT, Nat.reduceMul, Nat.reduceSub]
    refine rwidth_s ?_
    simp (disch := omega) only [kB, kcx, kdm, kdn, kel, aop, resultsL, resultOf, Nat.reduceEqDiff, reduceCtorEq, eq1, apartOK, apart2, AObj.live, Int.reduceEq, Int.reduceLT, Int.reduceLE, Int.reduceAdd, Int.reduceSub, Int.reduceMul, Int.reduceToNat, cutCells, Nat.reduceAdd, Nat.reduceLeDiff, Nat.reduceLT, Nat.reduceMul, Nat.reduceSub, hw]
    exact ⟨_, rfl, ⟨_, rfl⟩, .closed rfl, h⟩
  · have hw := isw_nat h1 h2
    by_cases c1 : i < 0
    · rw [bitI, hw, if_neg (by omega)] at h
      simp (disch := omega) only [kB, kcx, kdm, kdn, kel, aop, resultsL, resultOf, Nat.reduceEqDiff, reduceCtorEq, eq1, apartOK, apart2, AObj.live, Int.reduceEq, Int.reduceLT, Int.reduceLE, Int.reduceAdd, Int.reduceSub, Int.reduceMul, Int.reduceToNat, cutCells, Nat.reduceAdd, Nat.reduceLeDiff, Nat.reduceLT, Nat.reduceMul, Nat.reduceSub]
      refine rwidth_s ?_
      simp (disch := omega) only [kB, kcx, kdm, kdn, kel, aop, resultsL, resultOf, Nat.reduceEqDiff, reduceCtorEq, eq1, apartOK, apart2, AObj.live, Int.reduceEq, Int.reduceLT, Int.reduceLE, Int.reduceAdd, Int.reduceSub, Int.reduceMul, Int.reduceToNat, cutCells, Nat.reduceAdd, Nat.reduceLeDiff, Nat.reduceLT, Nat.reduceMul, Nat.reduceSub, hw, c1]
      exact ⟨_, rfl, ⟨_, rfl⟩, .closed rfl, h⟩
    · by_cases c2 : (k : Int) ≤ i
      · rw [bitI, hw, if_neg (by omega)] at h
        simp (disch := omega) only [kB, kcx, kdm, kdn, kel, aop, resultsL, resultOf, Nat.reduceEqDiff, reduceCtorEq, eq1, apartOK, apart2, AObj.live, Int.reduceEq, Int.reduceLT, Int.reduceLE, Int.reduceAdd, Int.reduceSub, Int.reduceMul, Int.reduceToNat, cutCells, Nat.reduceAdd, Nat.reduceLeDiff, Nat.reduceLT, Nat.reduceMul, Nat.reduceSub]
        refine rwidth_s ?_
        simp (disch := omega) only [kB, kcx, kdm, kdn, kel, aop, resultsL, resultOf, Nat.reduceEqDiff, reduceCtorEq, eq1, apartOK, apart2, AObj.live, Int.reduceEq, Int.reduceLT, Int.reduceLE, Int.reduceAdd, Int.reduceSub, Int.reduceMul, Int.reduceToNat, cutCells, Nat.reduceAdd, Nat.reduceLeDiff, Nat.reduceLT, Nat.reduceMul, Nat.reduceSub, hw, c1, c2]
        exact ⟨_, rfl, ⟨_, rfl⟩, .closed rfl, h⟩
      · obtain ⟨m, rfl⟩ : ∃ m : Nat, i = m := ⟨i.toNat, by omega⟩
        rw [bitI, hw, if_pos ⟨rfl, by omega, by omega⟩, show ((k : Int) - 1 - (m : Int)).toNat = k - 1 - m by omega] at h
        simp (disch := omega) only [kB, kcx, kdm, kdn, kel, aop, resultsL, resultOf, Nat.reduceEqDiff, reduceCtorEq, eq1, apartOK, apart2, AObj.live, Int.reduceEq, Int.reduceLT, Int.reduceLE, Int.reduceAdd, Int.reduceSub, Int.reduceMul, Int.reduceToNat, cutCells, Nat.reduceAdd, Nat.reduceLeDiff, Nat.reduceLT, Nat.reduceMul, Nat.reduceSub]
        refine rwidth_s ?_
        simp (disch := omega) only [kB, kcx, kdm, kdn, kel, aop, resultsL, resultOf, Nat.reduceEqDiff, reduceCtorEq, eq1, apartOK, apart2, AObj.live, Int.reduceEq, Int.reduceLT, Int.reduceLE, Int.reduceAdd, Int.reduceSub, Int.reduceMul, Int.reduceToNat, cutCells, Nat.reduceAdd, Nat.reduceLeDiff, Nat.reduceLT, Nat.reduceMul, Nat.reduceSub, hw, c1, c2]
        refine lay_s ha ?_
        have e0 : (128 : Int) - (k : Int) = ((128 - k : Nat) : Int) := by omega
        have e1 : ((128 - k : Nat) : Int) + (m : Int) = ((128 - k + m : Nat) : Int) := by omega
        have c3 : ((128 - k + m : Nat) : Int) < 128 := by omega
        have g1 : (bA (bF a))[128 - k + m]? = some (.bool (a.testBit (k - 1 - m))) := by
          rw [bA_get (by omega), bF, show 127 - (128 - k + m) = k - 1 - m by omega]
        simp (disch := omega) only [kB, kcx, kdm, kdn, kel, aop, resultsL, resultOf, Nat.reduceEqDiff, reduceCtorEq, eq1, apartOK, apart2, AObj.live, Int.reduceEq, Int.reduceLT, Int.reduceLE, Int.reduceAdd, Int.reduceSub, Int.reduceMul, Int.reduceToNat, cutCells, Nat.reduceAdd, Nat.reduceLeDiff, Nat.reduceLT, Nat.reduceMul, Nat.reduceSub, bA_len, fA_len, bA_one, setL_fA, wr_i64, e0, e1, c3, g1, if_pos]
        exact ⟨_, rfl, ⟨_, rfl⟩, .closed rfl, h⟩

theorem rfits_s {a : Nat} {w : Int} (ha : a < 2 ^ 128) (h : R (.ret (.bool (fitsI a w))) H) : WD T 30 [bvA a, .int .i64 w] H R := by
  refine WD.gc0 (WD.of follows t30 (by simp) ?_)
  rcases wcases w with hw | ⟨k, rfl, h1, h2⟩
  · rw [fitsI, hw, Bool.false_and] at h
    simp (disch := omega) only [kB, kcx, kdm, kdn, kel, aop, resultsL, resultOf, Nat.reduceEqDiff, reduceCtorEq, eq1, apartOK, apart2, AObj.live, Int.reduceEq, Int.reduceLT, Int.reduceLE, Int.reduceAdd, Int.reduceSub, Int.reduceMul, Int.reduceToNat, cutCells, Nat.reduceAdd, Nat.reduceLeDiff, Nat.reduceLT, Nat.reduceMul, Nat.reduceSub]
    refine rwidth_s ?_
    simp (disch := omega) only [kB, kcx, kdm, kdn, kel, aop, resultsL, resultOf, Nat.reduceEqDiff, reduceCtorEq, eq1, apartOK, apart2, AObj.live, Int.reduceEq, Int.reduceLT, Int.reduceLE, Int.reduceAdd, Int.reduceSub, Int.reduceMul, Int.reduceToNat, cutCells, Nat.reduceAdd, Nat.reduceLeDiff, Nat.reduceLT, Nat.reduceMul, Nat.reduceSub, hw]
    exact ⟨_, rfl, ⟨_, rfl⟩, .closed rfl, h⟩
  · have hw := isw_nat h1 h2
    rw [fitsI, isw_nat h1 h2, Bool.true_and, Int.toNat_natCast] at h
    simp (disch := omega) only [kB, kcx, kdm, kdn, kel, aop, resultsL, resultOf, Nat.reduceEqDiff, reduceCtorEq, eq1, apartOK, apart2, AObj.live, Int.reduceEq, Int.reduceLT, Int.reduceLE, Int.reduceAdd, Int.reduceSub, Int.reduceMul, Int.reduceToNat, cutCells, Nat.reduceAdd, Nat.reduceLeDiff, Nat.reduceLT, Nat.reduceMul, Nat.reduceSub]
    refine rwidth_s ?_
    simp (disch := omega) only [kB, kcx, kdm, kdn, kel, aop, resultsL, resultOf, Nat.reduceEqDiff, reduceCtorEq, eq1, apartOK, apart2, AObj.live, Int.reduceEq, Int.reduceLT, Int.reduceLE, Int.reduceAdd, Int.reduceSub, Int.reduceMul, Int.reduceToNat, cutCells, Nat.reduceAdd, Nat.reduceLeDiff, Nat.reduceLT, Nat.reduceMul, Nat.reduceSub, hw]
    refine WV.of (fun c hc => ?_) ?_
    · simp only [List.mem_cons, List.not_mem_nil, or_false] at hc
      subst hc
      simp (disch := omega) only [kgd, kge, kgf, kgg, kgh, kgi, kgj, kgk, kgl, kgm, kgn, kgo, kgp, kfy, kgq, kgr, kgs, kgt, kgu, kgv, kgw, kfw, kfx, kgx, kgy, kgz, kha, khb, khc, kga, kgb, kgc, Nat.reduceAdd, khd]
      rfl
    refine rcut_s ha ?_
    rw [thaw_frz0, cutI, hw, if_pos rfl, Int.toNat_natCast]
    have e1 := eq_bv (v := a % 2 ^ k) (w := a)
    have e2 : decide (a % 2 ^ k = a) = decide (a < 2 ^ k) := by
      rw [Bool.eq_iff_iff]
      simp only [decide_eq_true_eq]
      constructor
      · intro q
        rw [← q]
        exact Nat.mod_lt _ (Nat.two_pow_pos _)
      · exact Nat.mod_eq_of_lt
    rw [e2] at e1
    simp (disch := omega) only [kB, kcx, kdm, kdn, kel, aop, resultsL, resultOf, Nat.reduceEqDiff, reduceCtorEq, eq1, apartOK, apart2, AObj.live, Int.reduceEq, Int.reduceLT, Int.reduceLE, Int.reduceAdd, Int.reduceSub, Int.reduceMul, Int.reduceToNat, cutCells, Nat.reduceAdd, Nat.reduceLeDiff, Nat.reduceLT, Nat.reduceMul, Nat.reduceSub, e1]
    exact ⟨_, rfl, ⟨_, rfl⟩, .closed rfl, h⟩

theorem rand_s {v w : Nat} (hv : v < 2 ^ 128) (hw : w < 2 ^ 128) (h : R (.ret (bvA (v &&& w))) H) : WD T 34 [bvA v, bvA w] H R := by
  refine WD.gc0 (WD.of follows t34 (by simp) ?_)
  have e1 := bin_and64 (hi_lt hv) (hi_lt hw)
  have e2 := bin_and64 (lo_lt v) (lo_lt w)
  rw [bvA, and_hi, and_lo] at h
  simp (disch := omega) only [kB, kcx, kdm, kdn, kel, aop, resultsL, resultOf, Nat.reduceEqDiff, reduceCtorEq, eq1, apartOK, apart2, AObj.live, Int.reduceEq, Int.reduceLT, Int.reduceLE, Int.reduceAdd, Int.reduceSub, Int.reduceMul, Int.reduceToNat, cutCells, Nat.reduceAdd, Nat.reduceLeDiff, Nat.reduceLT, Nat.reduceMul, Nat.reduceSub, e1, e2]
  exact ⟨_, rfl, ⟨_, rfl⟩, .closed rfl, h⟩
theorem ror_s {v w : Nat} (hv : v < 2 ^ 128) (hw : w < 2 ^ 128) (h : R (.ret (bvA (v ||| w))) H) : WD T 35 [bvA v, bvA w] H R := by
  refine WD.gc0 (WD.of follows t35 (by simp) ?_)
  have e1 := bin_or64 (hi_lt hv) (hi_lt hw)
  have e2 := bin_or64 (lo_lt v) (lo_lt w)
  rw [bvA, or_hi, or_lo] at h
  simp (disch := omega) only [kB, kcx, kdm, kdn, kel, aop, resultsL, resultOf, Nat.reduceEqDiff, reduceCtorEq, eq1, apartOK, apart2, AObj.live, Int.reduceEq, Int.reduceLT, Int.reduceLE, Int.reduceAdd, Int.reduceSub, Int.reduceMul, Int.reduceToNat, cutCells, Nat.reduceAdd, Nat.reduceLeDiff, Nat.reduceLT, Nat.reduceMul, Nat.reduceSub, e1, e2]
  exact ⟨_, rfl, ⟨_, rfl⟩, .closed rfl, h⟩
theorem rxor_s {v w : Nat} (hv : v < 2 ^ 128) (hw : w < 2 ^ 128) (h : R (.ret (bvA (v ^^^ w))) H) : WD T 36 [bvA v, bvA w] H R := by
  refine WD.gc0 (WD.of follows t36 (by simp) ?_)
  have e1 := bin_xor64 (hi_lt hv) (hi_lt hw)
  have e2 := bin_xor64 (lo_lt v) (lo_lt w)
  rw [bvA, xor_hi, xor_lo] at h
  simp (disch := omega) only [kB, kcx, kdm, kdn, kel, aop, resultsL, resultOf, Nat.reduceEqDiff, reduceCtorEq, eq1, apartOK, apart2, AObj.live, Int.reduceEq, Int.reduceLT, Int.reduceLE, Int.reduceAdd, Int.reduceSub, Int.reduceMul, Int.reduceToNat, cutCells, Nat.reduceAdd, Nat.reduceLeDiff, Nat.reduceLT, Nat.reduceMul, Nat.reduceSub, e1, e2]
  exact ⟨_, rfl, ⟨_, rfl⟩, .closed rfl, h⟩

/-! Masks. -/
def mskF (k i : Nat) : Nat → Bool := fun j => decide (128 - k ≤ j) && decide (j < 128 - k + i)
theorem mskF_zero {k : Nat} : fA = bA (mskF k 0) := bA_congr fun j _ => by simp [mskF]
theorem mskF_step {k i : Nat} : (bA (mskF k i)).set (128 - k + i) (.bool true) = bA (mskF k (i + 1)) := by
  rw [bA_set]
  refine bA_congr fun j _ => ?_
  by_cases h : j = 128 - k + i
  · have e1 : 128 - k ≤ j := by omega
    have e2 : j < 128 - k + (i + 1) := by omega
    rw [if_pos h, mskF, decide_eq_true e1, decide_eq_true e2]
    rfl
  · have e : (j < 128 - k + i) ↔ (j < 128 - k + (i + 1)) := by omega
    simp only [if_neg h, mskF, e]
theorem mskF_all {k n : Nat} (h : k ≤ 128) (hn : n ≤ k) : nb (mskF k n) 128 = maskN k n := by
  refine Nat.eq_of_testBit_eq fun j => ?_
  rw [nb_testBit, maskN, testBit_shl, onesN, Nat.testBit_two_pow_sub_one, mskF]
  by_cases h1 : j < 128
  · have e2 : (128 - k ≤ 128 - 1 - j ∧ 128 - 1 - j < 128 - k + n) ↔ (k - n ≤ j ∧ j - (k - n) < n) := by omega
    simp only [h1, decide_true, Bool.true_and]
    rw [Bool.eq_iff_iff]
    simpa using e2
  · simp [h1]

def rmskI (k n b4 b6 : Nat) (K : Heap) : Nat → Env → Heap → Prop := fun z e H' =>
  ∃ i : Nat, i ≤ n ∧ z = n - i ∧ H' = K ++ [rowU 0, rowB (mskF k i)] ∧
    (∃ x : Nat → Value, e = [.int .i64 (k : Int), .int .i64 (n : Int), x 2, x 3, .pointer (some ⟨b4, 0, none⟩), x 5, .pointer (some ⟨b6, 0, none⟩), .int .i64 (i : Int), x 8, x 9, x 10, x 11, x 12, x 13, x 14, x 15, x 16, x 17, x 18, x 19, x 20, x 21, x 22, x 23, x 24, x 25, x 26, x 27, x 28, x 29, x 30, x 31])

theorem rmask_s {w n : Int} (h : R (.ret (pairV (maskI w n))) H) : WD T 29 [.int .i64 w, .int .i64 n] H R := by
  refine WD.gc0 (WD.of follows t29 (by simp) ?_)
  rw [← fA_eq]
  rcases wcases w with hw | ⟨k, rfl, h1, h2⟩
  · rw [maskI, hw, if_neg (by decide)] at h
    simp (disch := omega) only [kB, kcx, kdm, kdn, kel, aop, resultsL, resultOf, Nat.reduceEqDiff, reduceCtorEq, eq1, apartOK, apart2, AObj.live, Int.reduceEq, Int.reduceLT, Int.reduceLE, Int.reduceAdd, Int.reduceSub, Int.reduceMul, Int.reduceToNat, cutCells, Nat.reduceAdd, Nat.reduceLeDiff, Nat.reduceLT, Nat.reduceMul, Nat.reduceSub]
    refine rwidth_s ?_
    simp (disch := omega) only [kB, kcx, kdm, kdn, kel, aop, resultsL, resultOf, Nat.reduceEqDiff, reduceCtorEq, eq1, apartOK, apart2, AObj.live, Int.reduceEq, Int.reduceLT, Int.reduceLE, Int.reduceAdd, Int.reduceSub, Int.reduceMul, Int.reduceToNat, cutCells, Nat.reduceAdd, Nat.reduceLeDiff, Nat.reduceLT, Nat.reduceMul, Nat.reduceSub, hw]
    exact ⟨_, rfl, ⟨_, rfl⟩, .tup2 (.closed rfl) (.closed rfl), h⟩
  · have hw := isw_nat h1 h2
    rw [maskI, hw, if_pos rfl] at h
    by_cases c1 : n < 0
    · rw [if_pos (.inl c1)] at h
      simp (disch := omega) only [kB, kcx, kdm, kdn, kel, aop, resultsL, resultOf, Nat.reduceEqDiff, reduceCtorEq, eq1, apartOK, apart2, AObj.live, Int.reduceEq, Int.reduceLT, Int.reduceLE, Int.reduceAdd, Int.reduceSub, Int.reduceMul, Int.reduceToNat, cutCells, Nat.reduceAdd, Nat.reduceLeDiff, Nat.reduceLT, Nat.reduceMul, Nat.reduceSub]
      refine rwidth_s ?_
      simp (disch := omega) only [kB, kcx, kdm, kdn, kel, aop, resultsL, resultOf, Nat.reduceEqDiff, reduceCtorEq, eq1, apartOK, apart2, AObj.live, Int.reduceEq, Int.reduceLT, Int.reduceLE, Int.reduceAdd, Int.reduceSub, Int.reduceMul, Int.reduceToNat, cutCells, Nat.reduceAdd, Nat.reduceLeDiff, Nat.reduceLT, Nat.reduceMul, Nat.reduceSub, hw, c1]
      exact ⟨_, rfl, ⟨_, rfl⟩, .tup2 (.closed rfl) (.closed rfl), h⟩
    · by_cases c2 : (k : Int) < n
      · rw [if_pos (.inr c2)] at h
        simp (disch := omega) only [kB, kcx, kdm, kdn, kel, aop, resultsL, resultOf, Nat.reduceEqDiff, reduceCtorEq, eq1, apartOK, apart2, AObj.live, Int.reduceEq, Int.reduceLT, Int.reduceLE, Int.reduceAdd, Int.reduceSub, Int.reduceMul, Int.reduceToNat, cutCells, Nat.reduceAdd, Nat.reduceLeDiff, Nat.reduceLT, Nat.reduceMul, Nat.reduceSub]
        refine rwidth_s ?_
        simp (disch := omega) only [kB, kcx, kdm, kdn, kel, aop, resultsL, resultOf, Nat.reduceEqDiff, reduceCtorEq, eq1, apartOK, apart2, AObj.live, Int.reduceEq, Int.reduceLT, Int.reduceLE, Int.reduceAdd, Int.reduceSub, Int.reduceMul, Int.reduceToNat, cutCells, Nat.reduceAdd, Nat.reduceLeDiff, Nat.reduceLT, Nat.reduceMul, Nat.reduceSub, hw, c1, c2]
        exact ⟨_, rfl, ⟨_, rfl⟩, .tup2 (.closed rfl) (.closed rfl), h⟩
      · obtain ⟨m, rfl⟩ : ∃ m : Nat, n = m := ⟨n.toNat, by omega⟩
        rw [if_neg (by omega), Int.toNat_natCast, Int.toNat_natCast] at h
        simp (disch := omega) only [kB, kcx, kdm, kdn, kel, aop, resultsL, resultOf, Nat.reduceEqDiff, reduceCtorEq, eq1, apartOK, apart2, AObj.live, Int.reduceEq, Int.reduceLT, Int.reduceLE, Int.reduceAdd, Int.reduceSub, Int.reduceMul, Int.reduceToNat, cutCells, Nat.reduceAdd, Nat.reduceLeDiff, Nat.reduceLT, Nat.reduceMul, Nat.reduceSub]
        refine rwidth_s ?_
        simp (disch := omega) only [kB, kcx, kdm, kdn, kel, aop, resultsL, resultOf, Nat.reduceEqDiff, reduceCtorEq, eq1, apartOK, apart2, AObj.live, Int.reduceEq, Int.reduceLT, Int.reduceLE, Int.reduceAdd, Int.reduceSub, Int.reduceMul, Int.reduceToNat, cutCells, Nat.reduceAdd, Nat.reduceLeDiff, Nat.reduceLT, Nat.reduceMul, Nat.reduceSub, hw, c1, c2]
        refine WLoop.inv (rmskI k m H.length (H.length + 1) H) ?_ m _ _ ⟨0, by omega, by omega, by rw [rowB, ← mskF_zero]; rfl, by exact ex_env rfl⟩
        rintro z e H' ⟨i, hi, rfl, rfl, ⟨x, rfl⟩⟩
        by_cases hlt : i < m
        · have c0 : (i : Int) < (m : Int) := by omega
          have e0 : (128 : Int) - (k : Int) = ((128 - k : Nat) : Int) := by omega
          have e1 : ((128 - k : Nat) : Int) + (i : Int) = ((128 - k + i : Nat) : Int) := by omega
          have c3 : ((128 - k + i : Nat) : Int) < 128 := by omega
          simp (disch := omega) only [kB, kcx, kdm, kdn, kel, aop, resultsL, resultOf, Nat.reduceEqDiff, reduceCtorEq, eq1, apartOK, apart2, AObj.live, Int.reduceEq, Int.reduceLT, Int.reduceLE, Int.reduceAdd, Int.reduceSub, Int.reduceMul, Int.reduceToNat, cutCells, Nat.reduceAdd, Nat.reduceLeDiff, Nat.reduceLT, Nat.reduceMul, Nat.reduceSub, c0, wr_i64, e0, e1, c3, if_pos, bA_len, mskF_step]
          exact ⟨m - (i + 1), by omega, i + 1, by omega, rfl, rfl, by exact ex_env rfl⟩
        · obtain rfl : i = m := by omega
          have c0 : ¬ (i : Int) < (i : Int) := by omega
          simp (disch := omega) only [kB, kcx, kdm, kdn, kel, aop, resultsL, resultOf, Nat.reduceEqDiff, reduceCtorEq, eq1, apartOK, apart2, AObj.live, Int.reduceEq, Int.reduceLT, Int.reduceLE, Int.reduceAdd, Int.reduceSub, Int.reduceMul, Int.reduceToNat, cutCells, Nat.reduceAdd, Nat.reduceLeDiff, Nat.reduceLT, Nat.reduceMul, Nat.reduceSub, c0, if_pos, bA_len, bA_take]
          refine take_s ?_
          rw [mskF_all h2 (by omega)]
          simp (disch := omega) only [kB, kcx, kdm, kdn, kel, aop, resultsL, resultOf, Nat.reduceEqDiff, reduceCtorEq, eq1, apartOK, apart2, AObj.live, Int.reduceEq, Int.reduceLT, Int.reduceLE, Int.reduceAdd, Int.reduceSub, Int.reduceMul, Int.reduceToNat, cutCells, Nat.reduceAdd, Nat.reduceLeDiff, Nat.reduceLT, Nat.reduceMul, Nat.reduceSub]
          exact ⟨_, rfl, ⟨_, rfl⟩, .tup2 (.closed rfl) (.closed rfl), h⟩

theorem rmost_s {w : Int} (h : R (.ret (pairV (maskI w w))) H) : WD T 28 [.int .i64 w] H R := by
  refine WD.gc0 (WD.of follows t28 (by simp) ?_)
  simp (disch := omega) only [kB, kcx, kdm, kdn, kel, aop, resultsL, resultOf, Nat.reduceEqDiff, reduceCtorEq, eq1, apartOK, apart2, AObj.live, Int.reduceEq, Int.reduceLT, Int.reduceLE, Int.reduceAdd, Int.reduceSub, Int.reduceMul, Int.reduceToNat, cutCells, Nat.reduceAdd, Nat.reduceLeDiff, Nat.reduceLT, Nat.reduceMul, Nat.reduceSub]
  refine rmask_s ?_
  simp (disch := omega) only [kB, kcx, kdm, kdn, kel, aop, resultsL, resultOf, Nat.reduceEqDiff, reduceCtorEq, eq1, apartOK, apart2, AObj.live, Int.reduceEq, Int.reduceLT, Int.reduceLE, Int.reduceAdd, Int.reduceSub, Int.reduceMul, Int.reduceToNat, cutCells, Nat.reduceAdd, Nat.reduceLeDiff, Nat.reduceLT, Nat.reduceMul, Nat.reduceSub]
  exact ⟨_, rfl, ⟨_, rfl⟩, .tup2 (.closed rfl) (.closed rfl), h⟩

end Go.Proofs.YtkhkmgcegicmoaaDoor.Ev

/- The document's order and common bits. -/
namespace Go.Proofs.YtkhkmgcegicmoaaDoor.Ev
set_option maxRecDepth 100000
set_option linter.unusedSimpArgs false
set_option linter.unusedVariables false
variable {R : FRes → Heap → Prop} {H : Heap}

theorem same_high {a b i : Nat} (ha : a < 2 ^ 128) (hb : b < 2 ^ 128) (hi : i < 128) (h : ∀ j, j < i → bF a j = bF b j) : a >>> (127 - i + 1) = b >>> (127 - i + 1) := by
  refine Nat.eq_of_testBit_eq fun k => ?_
  rw [Nat.testBit_shiftRight, Nat.testBit_shiftRight]
  by_cases h1 : 127 - i + 1 + k < 128
  · have := h (127 - (127 - i + 1 + k)) (by omega)
    simp only [bF] at this
    rwa [show 127 - (127 - (127 - i + 1 + k)) = 127 - i + 1 + k by omega] at this
  · rw [Nat.testBit_lt_two_pow (Nat.lt_of_lt_of_le ha (Nat.pow_le_pow_right (by decide) (by omega))), Nat.testBit_lt_two_pow (Nat.lt_of_lt_of_le hb (Nat.pow_le_pow_right (by decide) (by omega)))]
theorem same_all {a b : Nat} (ha : a < 2 ^ 128) (hb : b < 2 ^ 128) (h : ∀ j, j < 128 → bF a j = bF b j) : a = b := by
  rw [← nb_bF ha, ← nb_bF hb]
  exact nb_congr h

def rcmpI (a b b5 b6 : Nat) (K : Heap) : Nat → Env → Heap → Prop := fun z e H' =>
  ∃ i : Nat, i ≤ 128 ∧ z = 128 - i ∧ (∀ j, j < i → bF a j = bF b j) ∧ H' = K ++ [rowU a, rowU b, rowB (bF a), rowB (bF b)] ∧
    (∃ x : Nat → Value, e = [x 0, x 1, x 2, x 3, x 4, .pointer (some ⟨b5, 0, none⟩), .pointer (some ⟨b6, 0, none⟩), .int .i64 (i : Int), x 8, x 9, x 10, x 11, x 12, x 13, x 14, x 15, x 16, x 17, x 18, x 19, x 20, x 21, x 22, x 23, x 24, x 25])

theorem rcmp_s {a b : Nat} (ha : a < 2 ^ 128) (hb : b < 2 ^ 128) (h : R (.ret (.int .i64 (cmp3 a b))) H) : WD T 33 [bvA a, bvA b] H R := by
  refine WD.gc0 (WD.of follows t33 (by simp) ?_)
  rw [← fA_eq]
  simp (disch := omega) only [kB, kcx, kdm, kdn, kel, aop, resultsL, resultOf, Nat.reduceEqDiff, reduceCtorEq, eq1, apartOK, apart2, AObj.live, Int.reduceEq, Int.reduceLT, Int.reduceLE, Int.reduceAdd, Int.reduceSub, Int.reduceMul, Int.reduceToNat, cutCells, Nat.reduceAdd, Nat.reduceLeDiff, Nat.reduceLT, Nat.reduceMul, Nat.reduceSub]
  refine lay_s ha ?_
  simp (disch := omega) only [kB, kcx, kdm, kdn, kel, aop, resultsL, resultOf, Nat.reduceEqDiff, reduceCtorEq, eq1, apartOK, apart2, AObj.live, Int.reduceEq, Int.reduceLT, Int.reduceLE, Int.reduceAdd, Int.reduceSub, Int.reduceMul, Int.reduceToNat, cutCells, Nat.reduceAdd, Nat.reduceLeDiff, Nat.reduceLT, Nat.reduceMul, Nat.reduceSub, bA_len, fA_len, bA_one, setL_fA]
  refine lay_s hb ?_
  simp (disch := omega) only [kB, kcx, kdm, kdn, kel, aop, resultsL, resultOf, Nat.reduceEqDiff, reduceCtorEq, eq1, apartOK, apart2, AObj.live, Int.reduceEq, Int.reduceLT, Int.reduceLE, Int.reduceAdd, Int.reduceSub, Int.reduceMul, Int.reduceToNat, cutCells, Nat.reduceAdd, Nat.reduceLeDiff, Nat.reduceLT, Nat.reduceMul, Nat.reduceSub, bA_len, fA_len, bA_one, setL_fA]
  refine WLoop.inv (rcmpI a b (H.length + 2) (H.length + 3) H) ?_ 128 _ _ ⟨0, by omega, by omega, by omega, rfl, by exact ex_env rfl⟩
  rintro z e H' ⟨i, hi, rfl, hs, rfl, ⟨x, rfl⟩⟩
  by_cases hlt : i < 128
  · have c0 : (i : Int) < 128 := by omega
    have g1 : (bA (bF a))[i]? = some (.bool (a.testBit (127 - i))) := bA_get hlt
    have g2 : (bA (bF b))[i]? = some (.bool (b.testBit (127 - i))) := bA_get hlt
    have hh := same_high ha hb hlt hs
    cases hx : a.testBit (127 - i) <;> cases hy : b.testBit (127 - i) <;> rw [hx] at g1 <;> rw [hy] at g2
    · simp (disch := omega) only [kB, kcx, kdm, kdn, kel, aop, resultsL, resultOf, Nat.reduceEqDiff, reduceCtorEq, eq1, apartOK, apart2, AObj.live, Int.reduceEq, Int.reduceLT, Int.reduceLE, Int.reduceAdd, Int.reduceSub, Int.reduceMul, Int.reduceToNat, cutCells, Nat.reduceAdd, Nat.reduceLeDiff, Nat.reduceLT, Nat.reduceMul, Nat.reduceSub, c0, wr_i64, g1, g2, if_pos, bA_len, Bool.bne_true, Bool.bne_false, Bool.not_true, Bool.not_false, Bool.true_bne, Bool.false_bne, Bool.true_beq, Bool.false_beq]
      refine ⟨128 - (i + 1), by omega, i + 1, by omega, rfl, fun j hj => ?_, rfl, by exact ex_env rfl⟩
      by_cases q : j = i
      · subst q; simp only [bF, hx, hy]
      · exact hs j (by omega)
    · have hl := lt_of_bit hh hx hy
      rw [cmp3, if_pos hl] at h
      simp (disch := omega) only [kB, kcx, kdm, kdn, kel, aop, resultsL, resultOf, Nat.reduceEqDiff, reduceCtorEq, eq1, apartOK, apart2, AObj.live, Int.reduceEq, Int.reduceLT, Int.reduceLE, Int.reduceAdd, Int.reduceSub, Int.reduceMul, Int.reduceToNat, cutCells, Nat.reduceAdd, Nat.reduceLeDiff, Nat.reduceLT, Nat.reduceMul, Nat.reduceSub, c0, wr_i64, g1, g2, if_pos, bA_len, Bool.bne_true, Bool.bne_false, Bool.not_true, Bool.not_false, Bool.true_bne, Bool.false_bne, Bool.true_beq, Bool.false_beq]
      exact ⟨_, rfl, ⟨_, rfl⟩, .closed rfl, h⟩
    · have hl := lt_of_bit hh.symm hy hx
      rw [cmp3, if_neg (by omega), if_pos hl] at h
      simp (disch := omega) only [kB, kcx, kdm, kdn, kel, aop, resultsL, resultOf, Nat.reduceEqDiff, reduceCtorEq, eq1, apartOK, apart2, AObj.live, Int.reduceEq, Int.reduceLT, Int.reduceLE, Int.reduceAdd, Int.reduceSub, Int.reduceMul, Int.reduceToNat, cutCells, Nat.reduceAdd, Nat.reduceLeDiff, Nat.reduceLT, Nat.reduceMul, Nat.reduceSub, c0, wr_i64, g1, g2, if_pos, bA_len, Bool.bne_true, Bool.bne_false, Bool.not_true, Bool.not_false, Bool.true_bne, Bool.false_bne, Bool.true_beq, Bool.false_beq]
      exact ⟨_, rfl, ⟨_, rfl⟩, .closed rfl, h⟩
    · simp (disch := omega) only [kB, kcx, kdm, kdn, kel, aop, resultsL, resultOf, Nat.reduceEqDiff, reduceCtorEq, eq1, apartOK, apart2, AObj.live, Int.reduceEq, Int.reduceLT, Int.reduceLE, Int.reduceAdd, Int.reduceSub, Int.reduceMul, Int.reduceToNat, cutCells, Nat.reduceAdd, Nat.reduceLeDiff, Nat.reduceLT, Nat.reduceMul, Nat.reduceSub, c0, wr_i64, g1, g2, if_pos, bA_len, Bool.bne_true, Bool.bne_false, Bool.not_true, Bool.not_false, Bool.true_bne, Bool.false_bne, Bool.true_beq, Bool.false_beq]
      refine ⟨128 - (i + 1), by omega, i + 1, by omega, rfl, fun j hj => ?_, rfl, by exact ex_env rfl⟩
      by_cases q : j = i
      · subst q; simp only [bF, hx, hy]
      · exact hs j (by omega)
  · obtain rfl : i = 128 := by omega
    have c0 : ¬ ((128 : Nat) : Int) < 128 := by omega
    obtain rfl := same_all ha hb hs
    rw [cmp3, if_neg (by omega), if_neg (by omega)] at h
    simp (disch := omega) only [kB, kcx, kdm, kdn, kel, aop, resultsL, resultOf, Nat.reduceEqDiff, reduceCtorEq, eq1, apartOK, apart2, AObj.live, Int.reduceEq, Int.reduceLT, Int.reduceLE, Int.reduceAdd, Int.reduceSub, Int.reduceMul, Int.reduceToNat, cutCells, Nat.reduceAdd, Nat.reduceLeDiff, Nat.reduceLT, Nat.reduceMul, Nat.reduceSub, c0]
    exact ⟨_, rfl, ⟨_, rfl⟩, .closed rfl, h⟩

def rcmnI (a b b3 b4 : Nat) (w : Int) (K : Heap) : Nat → Env → Heap → Prop := fun z e H' =>
  ∃ i : Nat, i ≤ cmnI a b w ∧ z = cmnI a b w - i ∧ H' = K ++ [rowU a, rowU b] ∧
    (∃ x : Nat → Value, e = [x 0, x 1, .int .i64 w, .pointer (some ⟨b3, 0, none⟩), .pointer (some ⟨b4, 0, none⟩), x 5, x 6, .int .i64 (i : Int), x 8, x 9, x 10, x 11, x 12, x 13, x 14, x 15, x 16, x 17, x 18, x 19, x 20, x 21, x 22, x 23, x 24, x 25, x 26, x 27, x 28])

theorem bitI_nat {a k n : Nat} (h1 : 1 ≤ k) (h2 : k ≤ 128) (h3 : n < k) : bitI a (k : Int) (n : Int) = (a % 2 ^ k).testBit (k - 1 - n) := by
  rw [bitI, isw_nat h1 h2, if_pos ⟨rfl, by omega, by omega⟩, show ((k : Int) - 1 - (n : Int)).toNat = k - 1 - n by omega, Nat.testBit_mod_two_pow, decide_eq_true (by omega), Bool.true_and]

theorem rcommon_s {a b : Nat} {w : Int} (ha : a < 2 ^ 128) (hb : b < 2 ^ 128) (h : R (.ret (.int .i64 (cmnI a b w : Nat))) H) : WD T 41 [bvA a, bvA b, .int .i64 w] H R := by
  refine WD.gc0 (WD.of follows t41 (by simp) ?_)
  simp (disch := omega) only [kB, kcx, kdm, kdn, kel, aop, resultsL, resultOf, Nat.reduceEqDiff, reduceCtorEq, eq1, apartOK, apart2, AObj.live, Int.reduceEq, Int.reduceLT, Int.reduceLE, Int.reduceAdd, Int.reduceSub, Int.reduceMul, Int.reduceToNat, cutCells, Nat.reduceAdd, Nat.reduceLeDiff, Nat.reduceLT, Nat.reduceMul, Nat.reduceSub]
  refine WLoop.inv (rcmnI a b H.length (H.length + 1) w H) ?_ (cmnI a b w) _ _ ⟨0, by omega, by omega, rfl, by exact ex_env rfl⟩
  rintro z e H' ⟨i, hi, rfl, rfl, ⟨x, rfl⟩⟩
  rcases wcases w with hw | ⟨k, rfl, h1, h2⟩
  · rw [cmnI, hw, if_neg (by decide)] at h hi
    obtain rfl : i = 0 := by omega
    simp (disch := omega) only [kB, kcx, kdm, kdn, kel, aop, resultsL, resultOf, Nat.reduceEqDiff, reduceCtorEq, eq1, apartOK, apart2, AObj.live, Int.reduceEq, Int.reduceLT, Int.reduceLE, Int.reduceAdd, Int.reduceSub, Int.reduceMul, Int.reduceToNat, cutCells, Nat.reduceAdd, Nat.reduceLeDiff, Nat.reduceLT, Nat.reduceMul, Nat.reduceSub]
    refine rwidth_s ?_
    simp (disch := omega) only [kB, kcx, kdm, kdn, kel, aop, resultsL, resultOf, Nat.reduceEqDiff, reduceCtorEq, eq1, apartOK, apart2, AObj.live, Int.reduceEq, Int.reduceLT, Int.reduceLE, Int.reduceAdd, Int.reduceSub, Int.reduceMul, Int.reduceToNat, cutCells, Nat.reduceAdd, Nat.reduceLeDiff, Nat.reduceLT, Nat.reduceMul, Nat.reduceSub, hw]
    exact ⟨_, rfl, ⟨_, rfl⟩, .closed rfl, h⟩
  · have hw := isw_nat h1 h2
    have hc : cmnI a b (k : Int) = cmn k (a % 2 ^ k) (b % 2 ^ k) := by rw [cmnI, hw, if_pos rfl, Int.toNat_natCast]
    have hA : a % 2 ^ k < 2 ^ k := Nat.mod_lt _ (Nat.two_pow_pos _)
    have hB : b % 2 ^ k < 2 ^ k := Nat.mod_lt _ (Nat.two_pow_pos _)
    have hle := cmn_le (w := k) (a := a % 2 ^ k) (b := b % 2 ^ k)
    by_cases hk : i < k
    · have c0 : (i : Int) < (k : Int) := by omega
      simp (disch := omega) only [kB, kcx, kdm, kdn, kel, aop, resultsL, resultOf, Nat.reduceEqDiff, reduceCtorEq, eq1, apartOK, apart2, AObj.live, Int.reduceEq, Int.reduceLT, Int.reduceLE, Int.reduceAdd, Int.reduceSub, Int.reduceMul, Int.reduceToNat, cutCells, Nat.reduceAdd, Nat.reduceLeDiff, Nat.reduceLT, Nat.reduceMul, Nat.reduceSub]
      refine rwidth_s ?_
      simp (disch := omega) only [kB, kcx, kdm, kdn, kel, aop, resultsL, resultOf, Nat.reduceEqDiff, reduceCtorEq, eq1, apartOK, apart2, AObj.live, Int.reduceEq, Int.reduceLT, Int.reduceLE, Int.reduceAdd, Int.reduceSub, Int.reduceMul, Int.reduceToNat, cutCells, Nat.reduceAdd, Nat.reduceLeDiff, Nat.reduceLT, Nat.reduceMul, Nat.reduceSub, hw, c0]
      refine WV.of (fun c hc => ?_) ?_
      · simp only [List.mem_cons, List.not_mem_nil, or_false] at hc
        subst hc
        simp (disch := omega) only [kgd, kge, kgf, kgg, kgh, kgi, kgj, kgk, kgl, kgm, kgn, kgo, kgp, kfy, kgq, kgr, kgs, kgt, kgu, kgv, kgw, kfw, kfx, kgx, kgy, kgz, kha, khb, khc, kga, kgb, kgc, Nat.reduceAdd, khd]
        rfl
      refine rbit_s ha ?_
      rw [thaw_frz0, bitI_nat h1 h2 hk]
      simp (disch := omega) only [kB, kcx, kdm, kdn, kel, aop, resultsL, resultOf, Nat.reduceEqDiff, reduceCtorEq, eq1, apartOK, apart2, AObj.live, Int.reduceEq, Int.reduceLT, Int.reduceLE, Int.reduceAdd, Int.reduceSub, Int.reduceMul, Int.reduceToNat, cutCells, Nat.reduceAdd, Nat.reduceLeDiff, Nat.reduceLT, Nat.reduceMul, Nat.reduceSub]
      refine rbit_s hb ?_
      rw [bitI_nat h1 h2 hk]
      by_cases hlt : i < cmnI a b (k : Int)
      · have same := cmn_high hA hB (j := k - 1 - i) (by omega)
        rw [same]
        cases (b % 2 ^ k).testBit (k - 1 - i) <;>
          (simp (disch := omega) only [kB, kcx, kdm, kdn, kel, aop, resultsL, resultOf, Nat.reduceEqDiff, reduceCtorEq, eq1, apartOK, apart2, AObj.live, Int.reduceEq, Int.reduceLT, Int.reduceLE, Int.reduceAdd, Int.reduceSub, Int.reduceMul, Int.reduceToNat, cutCells, Nat.reduceAdd, Nat.reduceLeDiff, Nat.reduceLT, Nat.reduceMul, Nat.reduceSub, wr_i64]
           exact ⟨cmnI a b (k : Int) - (i + 1), by omega, i + 1, by omega, rfl, rfl, by exact ex_env rfl⟩)
      · obtain rfl : i = cmnI a b (k : Int) := by omega
        have dif := (cmn_side hA hB (by omega)).1
        rw [← hc] at dif
        rw [dif]
        cases (b % 2 ^ k).testBit (k - 1 - cmnI a b (k : Int)) <;>
          (simp (disch := omega) only [kB, kcx, kdm, kdn, kel, aop, resultsL, resultOf, Nat.reduceEqDiff, reduceCtorEq, eq1, apartOK, apart2, AObj.live, Int.reduceEq, Int.reduceLT, Int.reduceLE, Int.reduceAdd, Int.reduceSub, Int.reduceMul, Int.reduceToNat, cutCells, Nat.reduceAdd, Nat.reduceLeDiff, Nat.reduceLT, Nat.reduceMul, Nat.reduceSub, Bool.not_true, Bool.not_false]
           exact ⟨_, rfl, ⟨_, rfl⟩, .closed rfl, h⟩)
    · have c0 : ¬ (i : Int) < (k : Int) := by omega
      obtain rfl : i = cmnI a b (k : Int) := by omega
      simp (disch := omega) only [kB, kcx, kdm, kdn, kel, aop, resultsL, resultOf, Nat.reduceEqDiff, reduceCtorEq, eq1, apartOK, apart2, AObj.live, Int.reduceEq, Int.reduceLT, Int.reduceLE, Int.reduceAdd, Int.reduceSub, Int.reduceMul, Int.reduceToNat, cutCells, Nat.reduceAdd, Nat.reduceLeDiff, Nat.reduceLT, Nat.reduceMul, Nat.reduceSub]
      refine rwidth_s ?_
      simp (disch := omega) only [kB, kcx, kdm, kdn, kel, aop, resultsL, resultOf, Nat.reduceEqDiff, reduceCtorEq, eq1, apartOK, apart2, AObj.live, Int.reduceEq, Int.reduceLT, Int.reduceLE, Int.reduceAdd, Int.reduceSub, Int.reduceMul, Int.reduceToNat, cutCells, Nat.reduceAdd, Nat.reduceLeDiff, Nat.reduceLT, Nat.reduceMul, Nat.reduceSub, hw, c0]
      exact ⟨_, rfl, ⟨_, rfl⟩, .closed rfl, h⟩

end Go.Proofs.YtkhkmgcegicmoaaDoor.Ev

/- Bytes, both ways: the program's and the document's, for any value, text and width. -/
namespace Go.Proofs.YtkhkmgcegicmoaaDoor.Ev
set_option maxRecDepth 100000
set_option linter.unusedSimpArgs false
set_option linter.unusedVariables false
variable {R : FRes → Heap → Prop} {H : Heap}

def bytesI (a : Nat) (w : Int) : List UInt8 × Int := if isw w = true then (if a < 2 ^ w.toNat then (beL ((w.toNat + 7) / 8) a, 0) else ([], 11)) else ([], 10)
def fromN (l : List UInt8) : Nat := l.foldl (fun a b => a * 256 + b.toNat) 0
def fromI (l : List UInt8) (w : Int) : Nat × Int := if isw w = true then (if l.length = (w.toNat + 7) / 8 then (if fromN l < 2 ^ w.toNat then (fromN l, 0) else (0, 11)) else (0, 12)) else (0, 10)
abbrev txtV (p : List UInt8 × Int) : Value := .tuple #[.string (bs p.1), .int .i64 p.2]

theorem fromN_snoc (l : List UInt8) (b : UInt8) : fromN (l ++ [b]) = fromN l * 256 + b.toNat := by simp [fromN, List.foldl_append]
theorem fromN_take {l : List UInt8} {i : Nat} {b : UInt8} (h : l[i]? = some b) : fromN (l.take (i + 1)) = fromN (l.take i) * 256 + b.toNat := by
  obtain ⟨h1, h2⟩ := List.getElem?_eq_some_iff.1 h
  rw [← fromN_snoc]
  congr 1
  rw [List.take_succ_eq_append_getElem h1, h2]
theorem fromN_lt' : ∀ (l : List UInt8) (a m : Nat), a < 256 ^ m → l.foldl (fun a b => a * 256 + b.toNat) a < 256 ^ (m + l.length)
  | [], a, m, h => by simpa using h
  | b :: l, a, m, h => by
    have hb := b.toNat_lt
    have := fromN_lt' l (a * 256 + b.toNat) (m + 1) (by rw [Nat.pow_succ]; omega)
    rw [List.foldl_cons, List.length_cons, show m + (l.length + 1) = m + 1 + l.length by omega]
    exact this
theorem fromN_lt (l : List UInt8) : fromN l < 256 ^ l.length := by
  have := fromN_lt' l 0 0 (by decide)
  rw [Nat.zero_add] at this
  exact this

theorem bytes_g {a : Nat} {w : Int} (ha : a < 2 ^ 128) (h : R (.ret (txtV (bytesI a w))) H) : WD T 10 [bvA a, .int .i64 w] H R := by
  rcases wcases w with hw | ⟨k, rfl, h1, h2⟩
  · refine WD.gc0 (WD.of follows t10 (by simp) ?_)
    rw [bytesI, hw, if_neg (by decide)] at h
    simp (disch := omega) only [kB, kcx, kdm, kdn, kel, aop, resultsL, resultOf, Nat.reduceEqDiff, reduceCtorEq, eq1, apartOK, apart2, AObj.live, Int.reduceEq, Int.reduceLT, Int.reduceLE, Int.reduceAdd, Int.reduceSub, Int.reduceMul, Int.reduceToNat, cutCells, Nat.reduceAdd, Nat.reduceLeDiff, Nat.reduceLT, Nat.reduceMul, Nat.reduceSub]
    refine isw_s ?_
    simp (disch := omega) only [kB, kcx, kdm, kdn, kel, aop, resultsL, resultOf, Nat.reduceEqDiff, reduceCtorEq, eq1, apartOK, apart2, AObj.live, Int.reduceEq, Int.reduceLT, Int.reduceLE, Int.reduceAdd, Int.reduceSub, Int.reduceMul, Int.reduceToNat, cutCells, Nat.reduceAdd, Nat.reduceLeDiff, Nat.reduceLT, Nat.reduceMul, Nat.reduceSub, hw]
    exact ⟨_, rfl, ⟨_, rfl⟩, .tup2 (.closed rfl) (.closed rfl), h⟩
  · have hw := isw_nat h1 h2
    rw [bytesI, hw, if_pos rfl, Int.toNat_natCast] at h
    by_cases hf : a < 2 ^ k
    · rw [if_pos hf] at h
      exact bytes_s h1 h2 hf h
    · refine WD.gc0 (WD.of follows t10 (by simp) ?_)
      rw [if_neg hf] at h
      simp (disch := omega) only [kB, kcx, kdm, kdn, kel, aop, resultsL, resultOf, Nat.reduceEqDiff, reduceCtorEq, eq1, apartOK, apart2, AObj.live, Int.reduceEq, Int.reduceLT, Int.reduceLE, Int.reduceAdd, Int.reduceSub, Int.reduceMul, Int.reduceToNat, cutCells, Nat.reduceAdd, Nat.reduceLeDiff, Nat.reduceLT, Nat.reduceMul, Nat.reduceSub]
      refine isw_s ?_
      simp (disch := omega) only [kB, kcx, kdm, kdn, kel, aop, resultsL, resultOf, Nat.reduceEqDiff, reduceCtorEq, eq1, apartOK, apart2, AObj.live, Int.reduceEq, Int.reduceLT, Int.reduceLE, Int.reduceAdd, Int.reduceSub, Int.reduceMul, Int.reduceToNat, cutCells, Nat.reduceAdd, Nat.reduceLeDiff, Nat.reduceLT, Nat.reduceMul, Nat.reduceSub, hw]
      refine fits_s h1 h2 ha ?_
      rw [decide_eq_false hf]
      simp (disch := omega) only [kB, kcx, kdm, kdn, kel, aop, resultsL, resultOf, Nat.reduceEqDiff, reduceCtorEq, eq1, apartOK, apart2, AObj.live, Int.reduceEq, Int.reduceLT, Int.reduceLE, Int.reduceAdd, Int.reduceSub, Int.reduceMul, Int.reduceToNat, cutCells, Nat.reduceAdd, Nat.reduceLeDiff, Nat.reduceLT, Nat.reduceMul, Nat.reduceSub]
      exact ⟨_, rfl, ⟨_, rfl⟩, .tup2 (.closed rfl) (.closed rfl), h⟩

theorem shl_byte {acc x : Nat} (ha : acc < 2 ^ 120) (hx : x < 256) : shl acc 8 / W64 = (acc * 256 + x) / W64 ∧ (shl acc 8 % W64) ||| x = (acc * 256 + x) % W64 := by
  rw [shl_eq (m := 120) ha (by decide), show 2 ^ 8 = 256 from rfl, W64_eq]
  have e : acc * 256 % 18446744073709551616 = (acc % 72057594037927936) <<< 8 := by rw [Nat.shiftLeft_eq]; omega
  constructor
  · omega
  · rw [e, ← Nat.shiftLeft_add_eq_or_of_lt (by omega), Nat.shiftLeft_eq]
    omega

def frmI (l : List UInt8) (k b4 b6 : Nat) (K : Heap) : Nat → Env → Heap → Prop := fun z e H' =>
  ∃ i : Nat, i ≤ l.length ∧ z = l.length - i ∧ H' = K ++ [rowU 0, rowU (fromN (l.take i))] ∧
    (∃ x : Nat → Value, e = [.string (bs l), .int .i64 (k : Int), x 2, x 3, .pointer (some ⟨b4, 0, none⟩), x 5, .pointer (some ⟨b6, 0, none⟩), x 7, x 8, x 9, x 10, x 11, x 12, x 13, x 14, x 15, x 16, x 17, x 18, x 19, x 20, .int .i64 (l.length : Int), .int .i64 (i : Int), x 23, x 24, x 25, x 26, x 27, x 28, x 29, x 30, x 31, x 32, x 33, x 34, x 35, x 36, x 37, x 38, x 39, x 40, x 41])

theorem from_g {l : List UInt8} {w : Int} (h : R (.ret (pairV (fromI l w))) H) : WD T 11 [.string (bs l), .int .i64 w] H R := by
  refine WD.gc0 (WD.of follows t11 (by simp) ?_)
  rcases wcases w with hw | ⟨k, rfl, h1, h2⟩
  · rw [fromI, hw, if_neg (by decide)] at h
    simp (disch := omega) only [kB, kcx, kdm, kdn, kel, aop, resultsL, resultOf, Nat.reduceEqDiff, reduceCtorEq, eq1, apartOK, apart2, AObj.live, Int.reduceEq, Int.reduceLT, Int.reduceLE, Int.reduceAdd, Int.reduceSub, Int.reduceMul, Int.reduceToNat, cutCells, Nat.reduceAdd, Nat.reduceLeDiff, Nat.reduceLT, Nat.reduceMul, Nat.reduceSub]
    refine isw_s ?_
    simp (disch := omega) only [kB, kcx, kdm, kdn, kel, aop, resultsL, resultOf, Nat.reduceEqDiff, reduceCtorEq, eq1, apartOK, apart2, AObj.live, Int.reduceEq, Int.reduceLT, Int.reduceLE, Int.reduceAdd, Int.reduceSub, Int.reduceMul, Int.reduceToNat, cutCells, Nat.reduceAdd, Nat.reduceLeDiff, Nat.reduceLT, Nat.reduceMul, Nat.reduceSub, hw]
    exact ⟨_, rfl, ⟨_, rfl⟩, .tup2 (.closed rfl) (.closed rfl), h⟩
  · have hw := isw_nat h1 h2
    rw [fromI, hw, if_pos rfl, Int.toNat_natCast] at h
    have hq := bin_quo (k := .i64) (a := k + 7) (b := 8) (by decide)
    have e1 : (k : Int) + 7 = ((k + 7 : Nat) : Int) := by omega
    have e2 : (((8 : Nat) : Int)) = 8 := rfl
    rw [e2] at hq
    by_cases hl : l.length = (k + 7) / 8
    · have hl' : ((l.length : Nat) : Int) = (((k + 7) / 8 : Nat) : Int) := by omega
      rw [if_pos hl] at h
      simp (disch := omega) only [kB, kcx, kdm, kdn, kel, aop, resultsL, resultOf, Nat.reduceEqDiff, reduceCtorEq, eq1, apartOK, apart2, AObj.live, Int.reduceEq, Int.reduceLT, Int.reduceLE, Int.reduceAdd, Int.reduceSub, Int.reduceMul, Int.reduceToNat, cutCells, Nat.reduceAdd, Nat.reduceLeDiff, Nat.reduceLT, Nat.reduceMul, Nat.reduceSub]
      refine isw_s ?_
      simp (disch := omega) only [kB, kcx, kdm, kdn, kel, aop, resultsL, resultOf, Nat.reduceEqDiff, reduceCtorEq, eq1, apartOK, apart2, AObj.live, Int.reduceEq, Int.reduceLT, Int.reduceLE, Int.reduceAdd, Int.reduceSub, Int.reduceMul, Int.reduceToNat, cutCells, Nat.reduceAdd, Nat.reduceLeDiff, Nat.reduceLT, Nat.reduceMul, Nat.reduceSub, hw, wr_i64, e1, hq, hl']
      rw [← hl']
      refine WLoop.inv (frmI l k H.length (H.length + 1) H) ?_ l.length _ _ ⟨0, by omega, by omega, by rw [List.take_zero]; rfl, by exact ex_env rfl⟩
      rintro z e H' ⟨i, hi, rfl, rfl, ⟨x, rfl⟩⟩
      by_cases hlt : i < l.length
      · have c0 : (i : Int) < (l.length : Int) := by omega
        have hg : l[i]? = some l[i] := List.getElem?_eq_getElem hlt
        have hb := (l[i]).toNat_lt
        have hacc : fromN (l.take i) < 2 ^ 120 := by
          refine Nat.lt_of_lt_of_le (fromN_lt _) ?_
          rw [List.length_take, show 256 = 2 ^ 8 from rfl, ← Nat.pow_mul]
          exact Nat.pow_le_pow_right (by decide) (by omega)
        have hnext := fromN_take hg
        obtain ⟨s1, s2⟩ := shl_byte hacc hb
        have e5 := bin_or64 (a := shl (fromN (l.take i)) 8 % W64) (b := (l[i]).toNat) (lo_lt _) (by omega)
        rw [s2] at e5
        simp (disch := omega) only [kB, kcx, kdm, kdn, kel, aop, resultsL, resultOf, Nat.reduceEqDiff, reduceCtorEq, eq1, apartOK, apart2, AObj.live, Int.reduceEq, Int.reduceLT, Int.reduceLE, Int.reduceAdd, Int.reduceSub, Int.reduceMul, Int.reduceToNat, cutCells, Nat.reduceAdd, Nat.reduceLeDiff, Nat.reduceLT, Nat.reduceMul, Nat.reduceSub, c0]
        refine left_s (n := 8) (by omega) (by omega) ?_
        simp (disch := omega) only [kB, kcx, kdm, kdn, kel, aop, resultsL, resultOf, Nat.reduceEqDiff, reduceCtorEq, eq1, apartOK, apart2, AObj.live, Int.reduceEq, Int.reduceLT, Int.reduceLE, Int.reduceAdd, Int.reduceSub, Int.reduceMul, Int.reduceToNat, cutCells, Nat.reduceAdd, Nat.reduceLeDiff, Nat.reduceLT, Nat.reduceMul, Nat.reduceSub, hg, wr_i64, wr_u64, e5, s1]
        exact ⟨l.length - (i + 1), by omega, i + 1, by omega, rfl, by rw [hnext], by exact ex_env rfl⟩
      · obtain rfl : i = l.length := by omega
        have c0 : ¬ (l.length : Int) < (l.length : Int) := by omega
        have h128 : fromN l < 2 ^ 128 := by
          refine Nat.lt_of_lt_of_le (fromN_lt _) ?_
          rw [show 256 = 2 ^ 8 from rfl, ← Nat.pow_mul]
          exact Nat.pow_le_pow_right (by decide) (by omega)
        rw [List.take_length]
        simp (disch := omega) only [kB, kcx, kdm, kdn, kel, aop, resultsL, resultOf, Nat.reduceEqDiff, reduceCtorEq, eq1, apartOK, apart2, AObj.live, Int.reduceEq, Int.reduceLT, Int.reduceLE, Int.reduceAdd, Int.reduceSub, Int.reduceMul, Int.reduceToNat, cutCells, Nat.reduceAdd, Nat.reduceLeDiff, Nat.reduceLT, Nat.reduceMul, Nat.reduceSub, c0]
        refine fits_s h1 h2 h128 ?_
        by_cases hf : fromN l < 2 ^ k
        · rw [if_pos hf] at h
          rw [decide_eq_true hf]
          simp (disch := omega) only [kB, kcx, kdm, kdn, kel, aop, resultsL, resultOf, Nat.reduceEqDiff, reduceCtorEq, eq1, apartOK, apart2, AObj.live, Int.reduceEq, Int.reduceLT, Int.reduceLE, Int.reduceAdd, Int.reduceSub, Int.reduceMul, Int.reduceToNat, cutCells, Nat.reduceAdd, Nat.reduceLeDiff, Nat.reduceLT, Nat.reduceMul, Nat.reduceSub]
          exact ⟨_, rfl, ⟨_, rfl⟩, .tup2 (.closed rfl) (.closed rfl), h⟩
        · rw [if_neg hf] at h
          rw [decide_eq_false hf]
          simp (disch := omega) only [kB, kcx, kdm, kdn, kel, aop, resultsL, resultOf, Nat.reduceEqDiff, reduceCtorEq, eq1, apartOK, apart2, AObj.live, Int.reduceEq, Int.reduceLT, Int.reduceLE, Int.reduceAdd, Int.reduceSub, Int.reduceMul, Int.reduceToNat, cutCells, Nat.reduceAdd, Nat.reduceLeDiff, Nat.reduceLT, Nat.reduceMul, Nat.reduceSub]
          exact ⟨_, rfl, ⟨_, rfl⟩, .tup2 (.closed rfl) (.closed rfl), h⟩
    · have hl' : ¬ ((l.length : Nat) : Int) = (((k + 7) / 8 : Nat) : Int) := by omega
      rw [if_neg hl] at h
      simp (disch := omega) only [kB, kcx, kdm, kdn, kel, aop, resultsL, resultOf, Nat.reduceEqDiff, reduceCtorEq, eq1, apartOK, apart2, AObj.live, Int.reduceEq, Int.reduceLT, Int.reduceLE, Int.reduceAdd, Int.reduceSub, Int.reduceMul, Int.reduceToNat, cutCells, Nat.reduceAdd, Nat.reduceLeDiff, Nat.reduceLT, Nat.reduceMul, Nat.reduceSub]
      refine isw_s ?_
      simp (disch := omega) only [kB, kcx, kdm, kdn, kel, aop, resultsL, resultOf, Nat.reduceEqDiff, reduceCtorEq, eq1, apartOK, apart2, AObj.live, Int.reduceEq, Int.reduceLT, Int.reduceLE, Int.reduceAdd, Int.reduceSub, Int.reduceMul, Int.reduceToNat, cutCells, Nat.reduceAdd, Nat.reduceLeDiff, Nat.reduceLT, Nat.reduceMul, Nat.reduceSub, hw, wr_i64, e1, hq, hl']
      exact ⟨_, rfl, ⟨_, rfl⟩, .tup2 (.closed rfl) (.closed rfl), h⟩

/-! The document's. -/
theorem rlong_s {k : Nat} (hk : k ≤ 128) (h : R (.ret (.int .i64 (((k + 7) / 8 : Nat) : Int))) H) : WD T 46 [.int .i64 (k : Int)] H R := by
  have hq := bin_quo (k := .i64) (a := k + 7) (b := 8) (by decide)
  have e1 : (k : Int) + 7 = ((k + 7 : Nat) : Int) := by omega
  have e2 : (((8 : Nat) : Int)) = 8 := rfl
  rw [e2] at hq
  refine WD.of follows t46 (by simp) ?_
  simp (disch := omega) only [kB, kcx, kdm, kdn, kel, aop, resultsL, resultOf, Nat.reduceEqDiff, reduceCtorEq, eq1, apartOK, apart2, AObj.live, Int.reduceEq, Int.reduceLT, Int.reduceLE, Int.reduceAdd, Int.reduceSub, Int.reduceMul, Int.reduceToNat, cutCells, Nat.reduceAdd, Nat.reduceLeDiff, Nat.reduceLT, Nat.reduceMul, Nat.reduceSub, wr_i64, e1, hq]
  exact h

def morI (a n base b6 b7 : Nat) (K : Heap) : Nat → Env → Heap → Prop := fun z e H' =>
  ∃ i : Nat, i ≤ base ∧ z = base - i ∧ H' = K ++ [rowU a, rowU 0, rowU ((n + i * a) % 2 ^ 128)] ∧
    (∃ x : Nat → Value, e = [x 0, .int .i64 (base : Int), x 2, .pointer (some ⟨K.length, 0, none⟩), x 4, x 5, .pointer (some ⟨b6, 0, none⟩), .pointer (some ⟨b7, 0, none⟩), .int .i64 (i : Int), x 9, x 10, x 11, x 12, x 13, x 14, x 15, x 16, x 17, x 18, x 19, x 20])

theorem rmore_s {a n base : Nat} (ha : a < 2 ^ 128) (hb : base < 1000) (hn : n < 2 ^ 63) (h : R (.ret (bvA ((n + base * a) % 2 ^ 128))) H) : WD T 47 [bvA a, .int .i64 (base : Int), .int .i64 (n : Int)] H R := by
  refine WD.gc0 (WD.of follows t47 (by simp) ?_)
  have hn' : n < 9223372036854775808 := hn
  have r0 : (.row [.int .u64 0, .int .u64 (n : Int)] 0 true : AObj) = rowU ((n + 0 * a) % 2 ^ 128) := by
    rw [rowU, Nat.zero_mul, Nat.add_zero, W64_eq, Nat.mod_eq_of_lt (show n < 2 ^ 128 by omega), Nat.div_eq_of_lt (by omega), Nat.mod_eq_of_lt (by omega)]
    rfl
  simp (disch := omega) only [kB, kcx, kdm, kdn, kel, aop, resultsL, resultOf, Nat.reduceEqDiff, reduceCtorEq, eq1, apartOK, apart2, AObj.live, Int.reduceEq, Int.reduceLT, Int.reduceLE, Int.reduceAdd, Int.reduceSub, Int.reduceMul, Int.reduceToNat, cutCells, Nat.reduceAdd, Nat.reduceLeDiff, Nat.reduceLT, Nat.reduceMul, Nat.reduceSub, wr_u64]
  refine WLoop.inv (morI a n base (H.length + 1) (H.length + 2) H) ?_ base _ _ ⟨0, by omega, by omega, by rw [← r0]; rfl, by exact ex_env rfl⟩
  rintro z e H' ⟨i, hi, rfl, rfl, ⟨x, rfl⟩⟩
  by_cases hlt : i < base
  · have c0 : (i : Int) < (base : Int) := by omega
    simp (disch := omega) only [kB, kcx, kdm, kdn, kel, aop, resultsL, resultOf, Nat.reduceEqDiff, reduceCtorEq, eq1, apartOK, apart2, AObj.live, Int.reduceEq, Int.reduceLT, Int.reduceLE, Int.reduceAdd, Int.reduceSub, Int.reduceMul, Int.reduceToNat, cutCells, Nat.reduceAdd, Nat.reduceLeDiff, Nat.reduceLT, Nat.reduceMul, Nat.reduceSub, c0]
    refine radd_s (w := 128) (Nat.mod_lt _ (by decide)) ha ?_
    have en : cutI (((n + i * a) % 2 ^ 128 + a) % 2 ^ 128) 128 = (n + (i + 1) * a) % 2 ^ 128 := by
      rw [cutI_cut, Nat.add_mul, Nat.one_mul, ← Nat.add_assoc]
      show ((n + i * a) % 2 ^ 128 + a) % 2 ^ 128 = _
      rw [Nat.mod_add_mod]
    rw [en]
    simp (disch := omega) only [kB, kcx, kdm, kdn, kel, aop, resultsL, resultOf, Nat.reduceEqDiff, reduceCtorEq, eq1, apartOK, apart2, AObj.live, Int.reduceEq, Int.reduceLT, Int.reduceLE, Int.reduceAdd, Int.reduceSub, Int.reduceMul, Int.reduceToNat, cutCells, Nat.reduceAdd, Nat.reduceLeDiff, Nat.reduceLT, Nat.reduceMul, Nat.reduceSub, wr_i64]
    exact ⟨base - (i + 1), by omega, i + 1, by omega, rfl, rfl, by exact ex_env rfl⟩
  · obtain rfl : i = base := by omega
    have c0 : ¬ (i : Int) < (i : Int) := by omega
    simp (disch := omega) only [kB, kcx, kdm, kdn, kel, aop, resultsL, resultOf, Nat.reduceEqDiff, reduceCtorEq, eq1, apartOK, apart2, AObj.live, Int.reduceEq, Int.reduceLT, Int.reduceLE, Int.reduceAdd, Int.reduceSub, Int.reduceMul, Int.reduceToNat, cutCells, Nat.reduceAdd, Nat.reduceLeDiff, Nat.reduceLT, Nat.reduceMul, Nat.reduceSub, c0]
    exact ⟨_, rfl, ⟨_, rfl⟩, .closed rfl, h⟩

def rfrmI (l : List UInt8) (k b4 b6 : Nat) (K : Heap) : Nat → Env → Heap → Prop := fun z e H' =>
  ∃ i : Nat, i ≤ l.length ∧ z = l.length - i ∧ H' = K ++ [rowU 0, rowU (fromN (l.take i))] ∧
    (∃ x : Nat → Value, e = [.string (bs l), .int .i64 (k : Int), x 2, x 3, .pointer (some ⟨b4, 0, none⟩), x 5, .pointer (some ⟨b6, 0, none⟩), .int .i64 (i : Int), x 8, x 9, x 10, x 11, x 12, x 13, x 14, x 15, x 16, x 17, x 18, x 19, x 20, x 21, x 22, x 23, x 24, x 25, x 26, x 27, x 28, x 29, x 30, x 31, x 32, x 33, x 34, x 35, x 36])

theorem rfrom_s {l : List UInt8} {w : Int} (h : R (.ret (pairV (fromI l w))) H) : WD T 13 [.string (bs l), .int .i64 w] H R := by
  refine WD.gc0 (WD.of follows t13 (by simp) ?_)
  rcases wcases w with hw | ⟨k, rfl, h1, h2⟩
  · rw [fromI, hw, if_neg (by decide)] at h
    simp (disch := omega) only [kB, kcx, kdm, kdn, kel, aop, resultsL, resultOf, Nat.reduceEqDiff, reduceCtorEq, eq1, apartOK, apart2, AObj.live, Int.reduceEq, Int.reduceLT, Int.reduceLE, Int.reduceAdd, Int.reduceSub, Int.reduceMul, Int.reduceToNat, cutCells, Nat.reduceAdd, Nat.reduceLeDiff, Nat.reduceLT, Nat.reduceMul, Nat.reduceSub]
    refine rwidth_s ?_
    simp (disch := omega) only [kB, kcx, kdm, kdn, kel, aop, resultsL, resultOf, Nat.reduceEqDiff, reduceCtorEq, eq1, apartOK, apart2, AObj.live, Int.reduceEq, Int.reduceLT, Int.reduceLE, Int.reduceAdd, Int.reduceSub, Int.reduceMul, Int.reduceToNat, cutCells, Nat.reduceAdd, Nat.reduceLeDiff, Nat.reduceLT, Nat.reduceMul, Nat.reduceSub, hw]
    exact ⟨_, rfl, ⟨_, rfl⟩, .tup2 (.closed rfl) (.closed rfl), h⟩
  · have hw := isw_nat h1 h2
    have hF : ∀ a : Nat, fitsI a (k : Int) = decide (a < 2 ^ k) := fun a => by rw [fitsI, hw, Bool.true_and, Int.toNat_natCast]
    rw [fromI, hw, if_pos rfl, Int.toNat_natCast] at h
    by_cases hl : l.length = (k + 7) / 8
    · have hl' : ((l.length : Nat) : Int) = (((k + 7) / 8 : Nat) : Int) := by omega
      rw [if_pos hl] at h
      simp (disch := omega) only [kB, kcx, kdm, kdn, kel, aop, resultsL, resultOf, Nat.reduceEqDiff, reduceCtorEq, eq1, apartOK, apart2, AObj.live, Int.reduceEq, Int.reduceLT, Int.reduceLE, Int.reduceAdd, Int.reduceSub, Int.reduceMul, Int.reduceToNat, cutCells, Nat.reduceAdd, Nat.reduceLeDiff, Nat.reduceLT, Nat.reduceMul, Nat.reduceSub]
      refine rwidth_s ?_
      simp (disch := omega) only [kB, kcx, kdm, kdn, kel, aop, resultsL, resultOf, Nat.reduceEqDiff, reduceCtorEq, eq1, apartOK, apart2, AObj.live, Int.reduceEq, Int.reduceLT, Int.reduceLE, Int.reduceAdd, Int.reduceSub, Int.reduceMul, Int.reduceToNat, cutCells, Nat.reduceAdd, Nat.reduceLeDiff, Nat.reduceLT, Nat.reduceMul, Nat.reduceSub, hw]
      refine rlong_s h2 ?_
      simp (disch := omega) only [kB, kcx, kdm, kdn, kel, aop, resultsL, resultOf, Nat.reduceEqDiff, reduceCtorEq, eq1, apartOK, apart2, AObj.live, Int.reduceEq, Int.reduceLT, Int.reduceLE, Int.reduceAdd, Int.reduceSub, Int.reduceMul, Int.reduceToNat, cutCells, Nat.reduceAdd, Nat.reduceLeDiff, Nat.reduceLT, Nat.reduceMul, Nat.reduceSub, hl']
      refine WLoop.inv (rfrmI l k H.length (H.length + 1) H) ?_ l.length _ _ ⟨0, by omega, by omega, by rw [List.take_zero]; rfl, by exact ex_env rfl⟩
      rintro z e H' ⟨i, hi, rfl, rfl, ⟨x, rfl⟩⟩
      by_cases hlt : i < l.length
      · have c0 : (i : Int) < (l.length : Int) := by omega
        have hg : l[i]? = some l[i] := List.getElem?_eq_getElem hlt
        have hb := (l[i]).toNat_lt
        have hacc : fromN (l.take i) < 2 ^ 120 := by
          refine Nat.lt_of_lt_of_le (fromN_lt _) ?_
          rw [List.length_take, show 256 = 2 ^ 8 from rfl, ← Nat.pow_mul]
          exact Nat.pow_le_pow_right (by decide) (by omega)
        have hnext := fromN_take hg
        have e5 : ((l[i]).toNat + 256 * fromN (l.take i)) % 2 ^ 128 = fromN (l.take (i + 1)) := by
          rw [hnext, Nat.mod_eq_of_lt (by omega), Nat.mul_comm, Nat.add_comm]
        simp (disch := omega) only [kB, kcx, kdm, kdn, kel, aop, resultsL, resultOf, Nat.reduceEqDiff, reduceCtorEq, eq1, apartOK, apart2, AObj.live, Int.reduceEq, Int.reduceLT, Int.reduceLE, Int.reduceAdd, Int.reduceSub, Int.reduceMul, Int.reduceToNat, cutCells, Nat.reduceAdd, Nat.reduceLeDiff, Nat.reduceLT, Nat.reduceMul, Nat.reduceSub, c0, hg, wr_i64]
        refine rmore_s (base := 256) (n := (l[i]).toNat) (by omega) (by omega) (by omega) ?_
        rw [e5]
        simp (disch := omega) only [kB, kcx, kdm, kdn, kel, aop, resultsL, resultOf, Nat.reduceEqDiff, reduceCtorEq, eq1, apartOK, apart2, AObj.live, Int.reduceEq, Int.reduceLT, Int.reduceLE, Int.reduceAdd, Int.reduceSub, Int.reduceMul, Int.reduceToNat, cutCells, Nat.reduceAdd, Nat.reduceLeDiff, Nat.reduceLT, Nat.reduceMul, Nat.reduceSub, wr_i64]
        exact ⟨l.length - (i + 1), by omega, i + 1, by omega, rfl, rfl, by exact ex_env rfl⟩
      · obtain rfl : i = l.length := by omega
        have c0 : ¬ (l.length : Int) < (l.length : Int) := by omega
        have h128 : fromN l < 2 ^ 128 := by
          refine Nat.lt_of_lt_of_le (fromN_lt _) ?_
          rw [show 256 = 2 ^ 8 from rfl, ← Nat.pow_mul]
          exact Nat.pow_le_pow_right (by decide) (by omega)
        rw [List.take_length]
        simp (disch := omega) only [kB, kcx, kdm, kdn, kel, aop, resultsL, resultOf, Nat.reduceEqDiff, reduceCtorEq, eq1, apartOK, apart2, AObj.live, Int.reduceEq, Int.reduceLT, Int.reduceLE, Int.reduceAdd, Int.reduceSub, Int.reduceMul, Int.reduceToNat, cutCells, Nat.reduceAdd, Nat.reduceLeDiff, Nat.reduceLT, Nat.reduceMul, Nat.reduceSub, c0]
        refine rfits_s h128 ?_
        rw [hF]
        by_cases hf : fromN l < 2 ^ k
        · rw [if_pos hf] at h
          rw [decide_eq_true hf]
          simp (disch := omega) only [kB, kcx, kdm, kdn, kel, aop, resultsL, resultOf, Nat.reduceEqDiff, reduceCtorEq, eq1, apartOK, apart2, AObj.live, Int.reduceEq, Int.reduceLT, Int.reduceLE, Int.reduceAdd, Int.reduceSub, Int.reduceMul, Int.reduceToNat, cutCells, Nat.reduceAdd, Nat.reduceLeDiff, Nat.reduceLT, Nat.reduceMul, Nat.reduceSub]
          exact ⟨_, rfl, ⟨_, rfl⟩, .tup2 (.closed rfl) (.closed rfl), h⟩
        · rw [if_neg hf] at h
          rw [decide_eq_false hf]
          simp (disch := omega) only [kB, kcx, kdm, kdn, kel, aop, resultsL, resultOf, Nat.reduceEqDiff, reduceCtorEq, eq1, apartOK, apart2, AObj.live, Int.reduceEq, Int.reduceLT, Int.reduceLE, Int.reduceAdd, Int.reduceSub, Int.reduceMul, Int.reduceToNat, cutCells, Nat.reduceAdd, Nat.reduceLeDiff, Nat.reduceLT, Nat.reduceMul, Nat.reduceSub]
          exact ⟨_, rfl, ⟨_, rfl⟩, .tup2 (.closed rfl) (.closed rfl), h⟩
    · have hl' : ¬ ((l.length : Nat) : Int) = (((k + 7) / 8 : Nat) : Int) := by omega
      rw [if_neg hl] at h
      simp (disch := omega) only [kB, kcx, kdm, kdn, kel, aop, resultsL, resultOf, Nat.reduceEqDiff, reduceCtorEq, eq1, apartOK, apart2, AObj.live, Int.reduceEq, Int.reduceLT, Int.reduceLE, Int.reduceAdd, Int.reduceSub, Int.reduceMul, Int.reduceToNat, cutCells, Nat.reduceAdd, Nat.reduceLeDiff, Nat.reduceLT, Nat.reduceMul, Nat.reduceSub]
      refine rwidth_s ?_
      simp (disch := omega) only [kB, kcx, kdm, kdn, kel, aop, resultsL, resultOf, Nat.reduceEqDiff, reduceCtorEq, eq1, apartOK, apart2, AObj.live, Int.reduceEq, Int.reduceLT, Int.reduceLE, Int.reduceAdd, Int.reduceSub, Int.reduceMul, Int.reduceToNat, cutCells, Nat.reduceAdd, Nat.reduceLeDiff, Nat.reduceLT, Nat.reduceMul, Nat.reduceSub, hw]
      refine rlong_s h2 ?_
      simp (disch := omega) only [kB, kcx, kdm, kdn, kel, aop, resultsL, resultOf, Nat.reduceEqDiff, reduceCtorEq, eq1, apartOK, apart2, AObj.live, Int.reduceEq, Int.reduceLT, Int.reduceLE, Int.reduceAdd, Int.reduceSub, Int.reduceMul, Int.reduceToNat, cutCells, Nat.reduceAdd, Nat.reduceLeDiff, Nat.reduceLT, Nat.reduceMul, Nat.reduceSub, hl']
      exact ⟨_, rfl, ⟨_, rfl⟩, .tup2 (.closed rfl) (.closed rfl), h⟩

end Go.Proofs.YtkhkmgcegicmoaaDoor.Ev

/- The document's bytes of a value; the law ValueBytes. -/
namespace Go.Proofs.YtkhkmgcegicmoaaDoor.Ev
set_option maxRecDepth 100000
set_option linter.unusedSimpArgs false
set_option linter.unusedVariables false
variable {R : FRes → Heap → Prop} {H : Heap}

theorem bin_rem {k : IntKind} {a b : Nat} (hb : 0 < b) : binV .rem (.int k (a : Int)) (.int k (b : Int)) = some (.int k ((a % b : Nat) : Int)) := by
  have h0 : ¬ (b : Int) = 0 := by omega
  have : pr (Op.intDiv .rem k (a : Int) (b : Int)) = some (.int k ((a : Int).tmod (b : Int))) := by unfold Op.intDiv; rw [if_neg h0]; rfl
  simp only [binV, intBin, if_true, if_neg h0, this]
  rfl

/-- While the bytes are told, the highest first. -/
def rbyI (F : Heap) (n a : Nat) : Nat → Env → Heap → Prop := fun z e K =>
  z ≤ n ∧ KP F.length F K ∧ ∃ sv l, BL F.length K sv l ∧ l ++ beL z a = beL n a ∧ (∃ x : Nat → Value, e = [x 0, x 1, .pointer (some ⟨F.length - 1, 0, none⟩), x 3, x 4, x 5, x 6, sv, .int .i64 ((z : Int) - 1), x 9, x 10, x 11, x 12, x 13, x 14, x 15, x 16, x 17, x 18, x 19, x 20, x 21, x 22, x 23, x 24, x 25, x 26, x 27, x 28, x 29, x 30, x 31, x 32, x 33, x 34, x 35, x 36, x 37, x 38, x 39, x 40, x 41, x 42, x 43])

theorem byte_hi {a q : Nat} (ha : a < 2 ^ 128) (h : 8 ≤ q) (hq : q < 16) : ((a / W64) >>> (8 * (q % 8))) % 256 = (UInt8.ofNat (a >>> (8 * q))).toNat := by
  rw [UInt8.toNat_ofNat', W64, ← Nat.shiftRight_eq_div_pow, ← Nat.shiftRight_add, show 64 + 8 * (q % 8) = 8 * q by omega]
theorem byte_lo {a q : Nat} (h : q < 8) : ((a % W64) >>> (8 * (q % 8))) % 256 = (UInt8.ofNat (a >>> (8 * q))).toNat := by
  rw [UInt8.toNat_ofNat', Nat.mod_eq_of_lt h]
  refine Nat.eq_of_testBit_eq fun i => ?_
  rw [show 256 = 2 ^ 8 from rfl, W64, Nat.testBit_mod_two_pow, Nat.testBit_mod_two_pow, Nat.testBit_shiftRight, Nat.testBit_shiftRight, Nat.testBit_mod_two_pow]
  by_cases h1 : i < 8
  · have : 8 * q + i < 64 := by omega
    simp [h1, this]
  · simp [h1]

theorem rbytes_s {a : Nat} {w : Int} (ha : a < 2 ^ 128) (h : R (.ret (txtV (bytesI a w))) H) : WD T 12 [bvA a, .int .i64 w] H R := by
  refine WD.gc0 (WD.of follows t12 (by simp) ?_)
  rcases wcases w with hw | ⟨k, rfl, h1, h2⟩
  · rw [bytesI, hw, if_neg (by decide)] at h
    simp (disch := omega) only [kB, kcx, kdm, kdn, kel, aop, resultsL, resultOf, Nat.reduceEqDiff, reduceCtorEq, eq1, apartOK, apart2, AObj.live, Int.reduceEq, Int.reduceLT, Int.reduceLE, Int.reduceAdd, Int.reduceSub, Int.reduceMul, Int.reduceToNat, cutCells, Nat.reduceAdd, Nat.reduceLeDiff, Nat.reduceLT, Nat.reduceMul, Nat.reduceSub]
    refine rwidth_s ?_
    simp (disch := omega) only [kB, kcx, kdm, kdn, kel, aop, resultsL, resultOf, Nat.reduceEqDiff, reduceCtorEq, eq1, apartOK, apart2, AObj.live, Int.reduceEq, Int.reduceLT, Int.reduceLE, Int.reduceAdd, Int.reduceSub, Int.reduceMul, Int.reduceToNat, cutCells, Nat.reduceAdd, Nat.reduceLeDiff, Nat.reduceLT, Nat.reduceMul, Nat.reduceSub, hw]
    exact ⟨_, rfl, ⟨_, rfl⟩, .tup2 (.closed rfl) (.closed rfl), h⟩
  · have hw := isw_nat h1 h2
    have hF : fitsI a (k : Int) = decide (a < 2 ^ k) := by rw [fitsI, hw, Bool.true_and, Int.toNat_natCast]
    rw [bytesI, hw, if_pos rfl, Int.toNat_natCast] at h
    by_cases hf : a < 2 ^ k
    · rw [if_pos hf] at h
      simp (disch := omega) only [kB, kcx, kdm, kdn, kel, aop, resultsL, resultOf, Nat.reduceEqDiff, reduceCtorEq, eq1, apartOK, apart2, AObj.live, Int.reduceEq, Int.reduceLT, Int.reduceLE, Int.reduceAdd, Int.reduceSub, Int.reduceMul, Int.reduceToNat, cutCells, Nat.reduceAdd, Nat.reduceLeDiff, Nat.reduceLT, Nat.reduceMul, Nat.reduceSub]
      refine rwidth_s ?_
      simp (disch := omega) only [kB, kcx, kdm, kdn, kel, aop, resultsL, resultOf, Nat.reduceEqDiff, reduceCtorEq, eq1, apartOK, apart2, AObj.live, Int.reduceEq, Int.reduceLT, Int.reduceLE, Int.reduceAdd, Int.reduceSub, Int.reduceMul, Int.reduceToNat, cutCells, Nat.reduceAdd, Nat.reduceLeDiff, Nat.reduceLT, Nat.reduceMul, Nat.reduceSub, hw]
      refine rfits_s ha ?_
      rw [hF, decide_eq_true hf]
      simp (disch := omega) only [kB, kcx, kdm, kdn, kel, aop, resultsL, resultOf, Nat.reduceEqDiff, reduceCtorEq, eq1, apartOK, apart2, AObj.live, Int.reduceEq, Int.reduceLT, Int.reduceLE, Int.reduceAdd, Int.reduceSub, Int.reduceMul, Int.reduceToNat, cutCells, Nat.reduceAdd, Nat.reduceLeDiff, Nat.reduceLT, Nat.reduceMul, Nat.reduceSub]
      refine rlong_s h2 ?_
      obtain ⟨n, hn⟩ : ∃ n, n = (k + 7) / 8 := ⟨_, rfl⟩
      have hn16 : n ≤ 16 := by omega
      rw [← hn] at h ⊢
      simp (disch := omega) only [kB, kcx, kdm, kdn, kel, aop, resultsL, resultOf, Nat.reduceEqDiff, reduceCtorEq, eq1, apartOK, apart2, AObj.live, Int.reduceEq, Int.reduceLT, Int.reduceLE, Int.reduceAdd, Int.reduceSub, Int.reduceMul, Int.reduceToNat, cutCells, Nat.reduceAdd, Nat.reduceLeDiff, Nat.reduceLT, Nat.reduceMul, Nat.reduceSub, wr_i64]
      obtain ⟨F, hFF⟩ : ∃ F, F = H ++ [rowU a] := ⟨_, rfl⟩
      have lF : F.length = H.length + 1 := by rw [hFF]; simp
      have gF : hget F H.length = rowU a := by rw [hFF, hget_base0]; rfl
      refine WLoop.inv (rbyI F n a) ?_ n _ _ ⟨Nat.le_refl _, by rw [hFF]; exact KP.refl (Nat.le_refl _), _, [], BL.nil, rfl, by rw [lF]; exact ex_env rfl⟩
      rintro z e K ⟨hz, hK, sv, l, hB, hl, ⟨x, rfl⟩⟩
      have lK := hK.1
      have gK : hget K H.length = rowU a := by rw [hK.2 _ (by omega), gF]
      have e0 : F.length - 1 = H.length := by omega
      rw [e0]
      cases z with
      | zero =>
        have c0 : ¬ (0 : Int) ≤ ((0 : Nat) : Int) - 1 := by omega
        have hll : l = beL n a := by simpa [beL] using hl
        subst hll
        have hKH : KP H.length H K := ⟨by omega, fun c hc => by rw [hK.2 c (by omega), hFF, hget_old hc]⟩
        obtain ⟨g, hg⟩ := hKH.ext
        have hs := hB.src
        obtain ⟨ad, rfl⟩ := hB.lenV
        simp (disch := omega) only [kB, kcx, kdm, kdn, kel, aop, resultsL, resultOf, Nat.reduceEqDiff, reduceCtorEq, eq1, apartOK, apart2, AObj.live, Int.reduceEq, Int.reduceLT, Int.reduceLE, Int.reduceAdd, Int.reduceSub, Int.reduceMul, Int.reduceToNat, cutCells, Nat.reduceAdd, Nat.reduceLeDiff, Nat.reduceLT, Nat.reduceMul, Nat.reduceSub, c0, lenV, hs]
        exact ⟨_, rfl, ⟨g, hg⟩, .tup2 (.closed rfl) (.closed rfl), h⟩
      | succ q =>
        have c0 : (0 : Int) ≤ ((q + 1 : Nat) : Int) - 1 := by omega
        have e1 : ((q + 1 : Nat) : Int) - 1 = (q : Int) := by omega
        obtain ⟨sv', K', a1, a2, a3⟩ := hB.push (by omega) (UInt8.ofNat (a >>> (8 * q))) (by
          have := congrArg List.length hl
          rw [List.length_append, beL_len, beL_len] at this
          simp only [roomMax]
          omega)
        have hnext : (l ++ [UInt8.ofNat (a >>> (8 * q))]) ++ beL q a = beL n a := by rw [← hl, beL, List.append_assoc]; rfl
        have r1 := bin_rem (k := .i64) (a := q) (b := 8) (by decide)
        have r2 : (8 : Int) * ((q % 8 : Nat) : Int) = ((8 * (q % 8) : Nat) : Int) := by omega
        have r0 : (((8 : Nat) : Int)) = 8 := rfl
        rw [r0] at r1
        have hx := (UInt8.ofNat (a >>> (8 * q))).toNat_lt
        simp only [u8c] at a1
        have hq8 : q % 8 < 8 := Nat.mod_lt _ (by decide)
        by_cases hq : 8 ≤ q
        · have c1 : (8 : Int) ≤ (q : Int) := by omega
          have s1 := bin_shr64 (k' := .u64) (a := a / W64) (b := 8 * (q % 8)) (by omega)
          have s2 := bin_rem (k := .u64) (a := (a / W64) >>> (8 * (q % 8))) (b := 256) (by decide)
          have s3 : (((256 : Nat) : Int)) = 256 := rfl
          rw [s3, byte_hi ha hq (by omega)] at s2
          simp (disch := omega) only [kB, kcx, kdm, kdn, kel, aop, resultsL, resultOf, Nat.reduceEqDiff, reduceCtorEq, eq1, apartOK, apart2, AObj.live, Int.reduceEq, Int.reduceLT, Int.reduceLE, Int.reduceAdd, Int.reduceSub, Int.reduceMul, Int.reduceToNat, cutCells, Nat.reduceAdd, Nat.reduceLeDiff, Nat.reduceLT, Nat.reduceMul, Nat.reduceSub, c0, e1, c1, gK, wr_i64, wr_u64, wr_u8, r1, r2, s1, s2, a1]
          exact ⟨q, by omega, by omega, hK.trans a3, sv', _, a2, hnext, by rw [e0]; exact ex_env rfl⟩
        · have c1 : ¬ (8 : Int) ≤ (q : Int) := by omega
          have s1 := bin_shr64 (k' := .u64) (a := a % W64) (b := 8 * (q % 8)) (by omega)
          have s2 := bin_rem (k := .u64) (a := (a % W64) >>> (8 * (q % 8))) (b := 256) (by decide)
          have s3 : (((256 : Nat) : Int)) = 256 := rfl
          rw [s3, byte_lo (by omega)] at s2
          simp (disch := omega) only [kB, kcx, kdm, kdn, kel, aop, resultsL, resultOf, Nat.reduceEqDiff, reduceCtorEq, eq1, apartOK, apart2, AObj.live, Int.reduceEq, Int.reduceLT, Int.reduceLE, Int.reduceAdd, Int.reduceSub, Int.reduceMul, Int.reduceToNat, cutCells, Nat.reduceAdd, Nat.reduceLeDiff, Nat.reduceLT, Nat.reduceMul, Nat.reduceSub, c0, e1, c1, gK, wr_i64, wr_u64, wr_u8, r1, r2, s1, s2, a1]
          exact ⟨q, by omega, by omega, hK.trans a3, sv', _, a2, hnext, by rw [e0]; exact ex_env rfl⟩
    · rw [if_neg hf] at h
      simp (disch := omega) only [kB, kcx, kdm, kdn, kel, aop, resultsL, resultOf, Nat.reduceEqDiff, reduceCtorEq, eq1, apartOK, apart2, AObj.live, Int.reduceEq, Int.reduceLT, Int.reduceLE, Int.reduceAdd, Int.reduceSub, Int.reduceMul, Int.reduceToNat, cutCells, Nat.reduceAdd, Nat.reduceLeDiff, Nat.reduceLT, Nat.reduceMul, Nat.reduceSub]
      refine rwidth_s ?_
      simp (disch := omega) only [kB, kcx, kdm, kdn, kel, aop, resultsL, resultOf, Nat.reduceEqDiff, reduceCtorEq, eq1, apartOK, apart2, AObj.live, Int.reduceEq, Int.reduceLT, Int.reduceLE, Int.reduceAdd, Int.reduceSub, Int.reduceMul, Int.reduceToNat, cutCells, Nat.reduceAdd, Nat.reduceLeDiff, Nat.reduceLT, Nat.reduceMul, Nat.reduceSub, hw]
      refine rfits_s ha ?_
      rw [hF, decide_eq_false hf]
      simp (disch := omega) only [kB, kcx, kdm, kdn, kel, aop, resultsL, resultOf, Nat.reduceEqDiff, reduceCtorEq, eq1, apartOK, apart2, AObj.live, Int.reduceEq, Int.reduceLT, Int.reduceLE, Int.reduceAdd, Int.reduceSub, Int.reduceMul, Int.reduceToNat, cutCells, Nat.reduceAdd, Nat.reduceLeDiff, Nat.reduceLT, Nat.reduceMul, Nat.reduceSub]
      exact ⟨_, rfl, ⟨_, rfl⟩, .tup2 (.closed rfl) (.closed rfl), h⟩

end Go.Proofs.YtkhkmgcegicmoaaDoor.Ev

/- ValueBits: every two values, every width and number: the program answers as the document. -/
namespace Go.Proofs.YtkhkmgcegicmoaaDoor.Ev
set_option maxRecDepth 100000
set_option linter.unusedSimpArgs false
set_option linter.unusedVariables false
variable {R : FRes → Heap → Prop}

theorem eq_bvv {v : Nat} : eqL [(1, .int .u64 ((v / W64 : Nat) : Int), .int .u64 ((v / W64 : Nat) : Int)), (1, .int .u64 ((v % W64 : Nat) : Int), .int .u64 ((v % W64 : Nat) : Int))] = some true := by
  rw [eq_bv, decide_eq_true rfl]

set_option maxHeartbeats 20000000 in
theorem bits_w {a b : Nat} {w n : Int} (ha : a < W64 * W64) (hb : b < W64 * W64) : WD T 8 [bvA a, bvA b, .int .i64 w, .int .i64 n] H0 (fun r _ => r = .ret (.bool true)) := by
  have ha' : a < 2 ^ 128 := ha
  have hb' : b < 2 ^ 128 := hb
  generalize hH : H0 = H at *
  have hp : H0 <+: H := by rw [hH]; exact List.prefix_refl _
  clear hH
  refine WD.of follows t8 (by simp) ?_
  simp (disch := omega) only [kB, kcx, kdm, kdn, kel, aop, resultsL, resultOf, Nat.reduceEqDiff, reduceCtorEq, eq1, apartOK, apart2, AObj.live, Int.reduceEq, Int.reduceLT, Int.reduceLE, Int.reduceAdd, Int.reduceSub, Int.reduceMul, Int.reduceToNat, cutCells, Nat.reduceAdd, Nat.reduceLeDiff, Nat.reduceLT, Nat.reduceMul, Nat.reduceSub]
  refine awake_s (hp.trans (List.prefix_append _ _)) ?_
  simp (disch := omega) only [kB, kcx, kdm, kdn, kel, aop, resultsL, resultOf, Nat.reduceEqDiff, reduceCtorEq, eq1, apartOK, apart2, AObj.live, Int.reduceEq, Int.reduceLT, Int.reduceLE, Int.reduceAdd, Int.reduceSub, Int.reduceMul, Int.reduceToNat, cutCells, Nat.reduceAdd, Nat.reduceLeDiff, Nat.reduceLT, Nat.reduceMul, Nat.reduceSub]
  refine fits_g ha' ?_
  simp (disch := omega) only [kB, kcx, kdm, kdn, kel, aop, resultsL, resultOf, Nat.reduceEqDiff, reduceCtorEq, eq1, apartOK, apart2, AObj.live, Int.reduceEq, Int.reduceLT, Int.reduceLE, Int.reduceAdd, Int.reduceSub, Int.reduceMul, Int.reduceToNat, cutCells, Nat.reduceAdd, Nat.reduceLeDiff, Nat.reduceLT, Nat.reduceMul, Nat.reduceSub]
  refine most_g ?_
  simp (disch := omega) only [kB, kcx, kdm, kdn, kel, aop, resultsL, resultOf, Nat.reduceEqDiff, reduceCtorEq, eq1, apartOK, apart2, AObj.live, Int.reduceEq, Int.reduceLT, Int.reduceLE, Int.reduceAdd, Int.reduceSub, Int.reduceMul, Int.reduceToNat, cutCells, Nat.reduceAdd, Nat.reduceLeDiff, Nat.reduceLT, Nat.reduceMul, Nat.reduceSub]
  refine mask_g ?_
  simp (disch := omega) only [kB, kcx, kdm, kdn, kel, aop, resultsL, resultOf, Nat.reduceEqDiff, reduceCtorEq, eq1, apartOK, apart2, AObj.live, Int.reduceEq, Int.reduceLT, Int.reduceLE, Int.reduceAdd, Int.reduceSub, Int.reduceMul, Int.reduceToNat, cutCells, Nat.reduceAdd, Nat.reduceLeDiff, Nat.reduceLT, Nat.reduceMul, Nat.reduceSub]
  refine rmost_s ?_
  simp (disch := omega) only [kB, kcx, kdm, kdn, kel, aop, resultsL, resultOf, Nat.reduceEqDiff, reduceCtorEq, eq1, apartOK, apart2, AObj.live, Int.reduceEq, Int.reduceLT, Int.reduceLE, Int.reduceAdd, Int.reduceSub, Int.reduceMul, Int.reduceToNat, cutCells, Nat.reduceAdd, Nat.reduceLeDiff, Nat.reduceLT, Nat.reduceMul, Nat.reduceSub]
  refine rmask_s ?_
  simp (disch := omega) only [kB, kcx, kdm, kdn, kel, aop, resultsL, resultOf, Nat.reduceEqDiff, reduceCtorEq, eq1, apartOK, apart2, AObj.live, Int.reduceEq, Int.reduceLT, Int.reduceLE, Int.reduceAdd, Int.reduceSub, Int.reduceMul, Int.reduceToNat, cutCells, Nat.reduceAdd, Nat.reduceLeDiff, Nat.reduceLT, Nat.reduceMul, Nat.reduceSub]
  refine rfits_s ha' ?_
  generalize maskI w w = m1
  generalize maskI w n = m2
  have eb : ∀ x : Bool, ((x == x) != false) = true := fun x => by cases x <;> rfl
  simp (disch := omega) only [kB, kcx, kdm, kdn, kel, aop, resultsL, resultOf, Nat.reduceEqDiff, reduceCtorEq, eq1, apartOK, apart2, AObj.live, Int.reduceEq, Int.reduceLT, Int.reduceLE, Int.reduceAdd, Int.reduceSub, Int.reduceMul, Int.reduceToNat, cutCells, Nat.reduceAdd, Nat.reduceLeDiff, Nat.reduceLT, Nat.reduceMul, Nat.reduceSub, eb, eq_bvv, decide_true, Bool.bne_true, Bool.bne_false, Bool.not_true, Bool.not_false]
  refine cmp_s ?_
  simp (disch := omega) only [kB, kcx, kdm, kdn, kel, aop, resultsL, resultOf, Nat.reduceEqDiff, reduceCtorEq, eq1, apartOK, apart2, AObj.live, Int.reduceEq, Int.reduceLT, Int.reduceLE, Int.reduceAdd, Int.reduceSub, Int.reduceMul, Int.reduceToNat, cutCells, Nat.reduceAdd, Nat.reduceLeDiff, Nat.reduceLT, Nat.reduceMul, Nat.reduceSub, eb, eq_bvv, decide_true, Bool.bne_true, Bool.bne_false, Bool.not_true, Bool.not_false]
  refine and_s ha' hb' ?_
  simp (disch := omega) only [kB, kcx, kdm, kdn, kel, aop, resultsL, resultOf, Nat.reduceEqDiff, reduceCtorEq, eq1, apartOK, apart2, AObj.live, Int.reduceEq, Int.reduceLT, Int.reduceLE, Int.reduceAdd, Int.reduceSub, Int.reduceMul, Int.reduceToNat, cutCells, Nat.reduceAdd, Nat.reduceLeDiff, Nat.reduceLT, Nat.reduceMul, Nat.reduceSub, eb, eq_bvv, decide_true, Bool.bne_true, Bool.bne_false, Bool.not_true, Bool.not_false]
  refine bor_s ha' hb' ?_
  simp (disch := omega) only [kB, kcx, kdm, kdn, kel, aop, resultsL, resultOf, Nat.reduceEqDiff, reduceCtorEq, eq1, apartOK, apart2, AObj.live, Int.reduceEq, Int.reduceLT, Int.reduceLE, Int.reduceAdd, Int.reduceSub, Int.reduceMul, Int.reduceToNat, cutCells, Nat.reduceAdd, Nat.reduceLeDiff, Nat.reduceLT, Nat.reduceMul, Nat.reduceSub, eb, eq_bvv, decide_true, Bool.bne_true, Bool.bne_false, Bool.not_true, Bool.not_false]
  refine xor_s ha' hb' ?_
  simp (disch := omega) only [kB, kcx, kdm, kdn, kel, aop, resultsL, resultOf, Nat.reduceEqDiff, reduceCtorEq, eq1, apartOK, apart2, AObj.live, Int.reduceEq, Int.reduceLT, Int.reduceLE, Int.reduceAdd, Int.reduceSub, Int.reduceMul, Int.reduceToNat, cutCells, Nat.reduceAdd, Nat.reduceLeDiff, Nat.reduceLT, Nat.reduceMul, Nat.reduceSub, eb, eq_bvv, decide_true, Bool.bne_true, Bool.bne_false, Bool.not_true, Bool.not_false]
  refine rcmp_s ha' hb' ?_
  simp (disch := omega) only [kB, kcx, kdm, kdn, kel, aop, resultsL, resultOf, Nat.reduceEqDiff, reduceCtorEq, eq1, apartOK, apart2, AObj.live, Int.reduceEq, Int.reduceLT, Int.reduceLE, Int.reduceAdd, Int.reduceSub, Int.reduceMul, Int.reduceToNat, cutCells, Nat.reduceAdd, Nat.reduceLeDiff, Nat.reduceLT, Nat.reduceMul, Nat.reduceSub, eb, eq_bvv, decide_true, Bool.bne_true, Bool.bne_false, Bool.not_true, Bool.not_false]
  refine WV.of (fun c hc => ?_) ?_
  · simp only [List.mem_cons, List.not_mem_nil, or_false] at hc
    subst hc
    simp (disch := omega) only [kgd, kge, kgf, kgg, kgh, kgi, kgj, kgk, kgl, kgm, kgn, kgo, kgp, kfy, kgq, kgr, kgs, kgt, kgu, kgv, kgw, kfw, kfx, kgx, kgy, kgz, kha, khb, khc, kga, kgb, kgc, Nat.reduceAdd, khd]
    rfl
  refine rand_s ha' hb' ?_
  rw [thaw_frz0]
  simp (disch := omega) only [kB, kcx, kdm, kdn, kel, aop, resultsL, resultOf, Nat.reduceEqDiff, reduceCtorEq, eq1, apartOK, apart2, AObj.live, Int.reduceEq, Int.reduceLT, Int.reduceLE, Int.reduceAdd, Int.reduceSub, Int.reduceMul, Int.reduceToNat, cutCells, Nat.reduceAdd, Nat.reduceLeDiff, Nat.reduceLT, Nat.reduceMul, Nat.reduceSub, eb, eq_bvv, decide_true, Bool.bne_true, Bool.bne_false, Bool.not_true, Bool.not_false]
  refine WV.of (fun c hc => ?_) ?_
  · simp only [List.mem_cons, List.not_mem_nil, or_false] at hc
    subst hc
    simp (disch := omega) only [kgd, kge, kgf, kgg, kgh, kgi, kgj, kgk, kgl, kgm, kgn, kgo, kgp, kfy, kgq, kgr, kgs, kgt, kgu, kgv, kgw, kfw, kfx, kgx, kgy, kgz, kha, khb, khc, kga, kgb, kgc, Nat.reduceAdd, khd]
    rfl
  refine ror_s ha' hb' ?_
  rw [thaw_frz0]
  simp (disch := omega) only [kB, kcx, kdm, kdn, kel, aop, resultsL, resultOf, Nat.reduceEqDiff, reduceCtorEq, eq1, apartOK, apart2, AObj.live, Int.reduceEq, Int.reduceLT, Int.reduceLE, Int.reduceAdd, Int.reduceSub, Int.reduceMul, Int.reduceToNat, cutCells, Nat.reduceAdd, Nat.reduceLeDiff, Nat.reduceLT, Nat.reduceMul, Nat.reduceSub, eb, eq_bvv, decide_true, Bool.bne_true, Bool.bne_false, Bool.not_true, Bool.not_false]
  refine WV.of (fun c hc => ?_) ?_
  · simp only [List.mem_cons, List.not_mem_nil, or_false] at hc
    subst hc
    simp (disch := omega) only [kgd, kge, kgf, kgg, kgh, kgi, kgj, kgk, kgl, kgm, kgn, kgo, kgp, kfy, kgq, kgr, kgs, kgt, kgu, kgv, kgw, kfw, kfx, kgx, kgy, kgz, kha, khb, khc, kga, kgb, kgc, Nat.reduceAdd, khd]
    rfl
  refine rxor_s ha' hb' ?_
  rw [thaw_frz0]
  simp (disch := omega) only [kB, kcx, kdm, kdn, kel, aop, resultsL, resultOf, Nat.reduceEqDiff, reduceCtorEq, eq1, apartOK, apart2, AObj.live, Int.reduceEq, Int.reduceLT, Int.reduceLE, Int.reduceAdd, Int.reduceSub, Int.reduceMul, Int.reduceToNat, cutCells, Nat.reduceAdd, Nat.reduceLeDiff, Nat.reduceLT, Nat.reduceMul, Nat.reduceSub, eb, eq_bvv, decide_true, Bool.bne_true, Bool.bne_false, Bool.not_true, Bool.not_false]
  generalize a &&& b = v1
  generalize a ||| b = v2
  generalize a ^^^ b = v3
  generalize cmp3 a b = v4
  refine cut_g ha' ?_
  simp (disch := omega) only [kB, kcx, kdm, kdn, kel, aop, resultsL, resultOf, Nat.reduceEqDiff, reduceCtorEq, eq1, apartOK, apart2, AObj.live, Int.reduceEq, Int.reduceLT, Int.reduceLE, Int.reduceAdd, Int.reduceSub, Int.reduceMul, Int.reduceToNat, cutCells, Nat.reduceAdd, Nat.reduceLeDiff, Nat.reduceLT, Nat.reduceMul, Nat.reduceSub, eb, eq_bvv, decide_true, Bool.bne_true, Bool.bne_false, Bool.not_true, Bool.not_false]
  refine add_g ha' hb' ?_
  simp (disch := omega) only [kB, kcx, kdm, kdn, kel, aop, resultsL, resultOf, Nat.reduceEqDiff, reduceCtorEq, eq1, apartOK, apart2, AObj.live, Int.reduceEq, Int.reduceLT, Int.reduceLE, Int.reduceAdd, Int.reduceSub, Int.reduceMul, Int.reduceToNat, cutCells, Nat.reduceAdd, Nat.reduceLeDiff, Nat.reduceLT, Nat.reduceMul, Nat.reduceSub, eb, eq_bvv, decide_true, Bool.bne_true, Bool.bne_false, Bool.not_true, Bool.not_false]
  refine sub_g ha' hb' ?_
  simp (disch := omega) only [kB, kcx, kdm, kdn, kel, aop, resultsL, resultOf, Nat.reduceEqDiff, reduceCtorEq, eq1, apartOK, apart2, AObj.live, Int.reduceEq, Int.reduceLT, Int.reduceLE, Int.reduceAdd, Int.reduceSub, Int.reduceMul, Int.reduceToNat, cutCells, Nat.reduceAdd, Nat.reduceLeDiff, Nat.reduceLT, Nat.reduceMul, Nat.reduceSub, eb, eq_bvv, decide_true, Bool.bne_true, Bool.bne_false, Bool.not_true, Bool.not_false]
  refine bit_g ha' ?_
  simp (disch := omega) only [kB, kcx, kdm, kdn, kel, aop, resultsL, resultOf, Nat.reduceEqDiff, reduceCtorEq, eq1, apartOK, apart2, AObj.live, Int.reduceEq, Int.reduceLT, Int.reduceLE, Int.reduceAdd, Int.reduceSub, Int.reduceMul, Int.reduceToNat, cutCells, Nat.reduceAdd, Nat.reduceLeDiff, Nat.reduceLT, Nat.reduceMul, Nat.reduceSub, eb, eq_bvv, decide_true, Bool.bne_true, Bool.bne_false, Bool.not_true, Bool.not_false]
  refine common_g ha' hb' ?_
  simp (disch := omega) only [kB, kcx, kdm, kdn, kel, aop, resultsL, resultOf, Nat.reduceEqDiff, reduceCtorEq, eq1, apartOK, apart2, AObj.live, Int.reduceEq, Int.reduceLT, Int.reduceLE, Int.reduceAdd, Int.reduceSub, Int.reduceMul, Int.reduceToNat, cutCells, Nat.reduceAdd, Nat.reduceLeDiff, Nat.reduceLT, Nat.reduceMul, Nat.reduceSub, eb, eq_bvv, decide_true, Bool.bne_true, Bool.bne_false, Bool.not_true, Bool.not_false]
  refine WV.of (fun c hc => ?_) ?_
  · simp only [List.mem_cons, List.not_mem_nil, or_false] at hc
    subst hc
    simp (disch := omega) only [kgd, kge, kgf, kgg, kgh, kgi, kgj, kgk, kgl, kgm, kgn, kgo, kgp, kfy, kgq, kgr, kgs, kgt, kgu, kgv, kgw, kfw, kfx, kgx, kgy, kgz, kha, khb, khc, kga, kgb, kgc, Nat.reduceAdd, khd]
    rfl
  refine rcut_s ha' ?_
  rw [thaw_frz0]
  simp (disch := omega) only [kB, kcx, kdm, kdn, kel, aop, resultsL, resultOf, Nat.reduceEqDiff, reduceCtorEq, eq1, apartOK, apart2, AObj.live, Int.reduceEq, Int.reduceLT, Int.reduceLE, Int.reduceAdd, Int.reduceSub, Int.reduceMul, Int.reduceToNat, cutCells, Nat.reduceAdd, Nat.reduceLeDiff, Nat.reduceLT, Nat.reduceMul, Nat.reduceSub, eb, eq_bvv, decide_true, Bool.bne_true, Bool.bne_false, Bool.not_true, Bool.not_false]
  refine WV.of (fun c hc => ?_) ?_
  · simp only [List.mem_cons, List.not_mem_nil, or_false] at hc
    subst hc
    simp (disch := omega) only [kgd, kge, kgf, kgg, kgh, kgi, kgj, kgk, kgl, kgm, kgn, kgo, kgp, kfy, kgq, kgr, kgs, kgt, kgu, kgv, kgw, kfw, kfx, kgx, kgy, kgz, kha, khb, khc, kga, kgb, kgc, Nat.reduceAdd, khd]
    rfl
  refine radd_s ha' hb' ?_
  rw [thaw_frz0]
  simp (disch := omega) only [kB, kcx, kdm, kdn, kel, aop, resultsL, resultOf, Nat.reduceEqDiff, reduceCtorEq, eq1, apartOK, apart2, AObj.live, Int.reduceEq, Int.reduceLT, Int.reduceLE, Int.reduceAdd, Int.reduceSub, Int.reduceMul, Int.reduceToNat, cutCells, Nat.reduceAdd, Nat.reduceLeDiff, Nat.reduceLT, Nat.reduceMul, Nat.reduceSub, eb, eq_bvv, decide_true, Bool.bne_true, Bool.bne_false, Bool.not_true, Bool.not_false]
  refine WV.of (fun c hc => ?_) ?_
  · simp only [List.mem_cons, List.not_mem_nil, or_false] at hc
    subst hc
    simp (disch := omega) only [kgd, kge, kgf, kgg, kgh, kgi, kgj, kgk, kgl, kgm, kgn, kgo, kgp, kfy, kgq, kgr, kgs, kgt, kgu, kgv, kgw, kfw, kfx, kgx, kgy, kgz, kha, khb, khc, kga, kgb, kgc, Nat.reduceAdd, khd]
    rfl
  refine rsub_s ha' hb' ?_
  rw [thaw_frz0]
  simp (disch := omega) only [kB, kcx, kdm, kdn, kel, aop, resultsL, resultOf, Nat.reduceEqDiff, reduceCtorEq, eq1, apartOK, apart2, AObj.live, Int.reduceEq, Int.reduceLT, Int.reduceLE, Int.reduceAdd, Int.reduceSub, Int.reduceMul, Int.reduceToNat, cutCells, Nat.reduceAdd, Nat.reduceLeDiff, Nat.reduceLT, Nat.reduceMul, Nat.reduceSub, eb, eq_bvv, decide_true, Bool.bne_true, Bool.bne_false, Bool.not_true, Bool.not_false]
  refine rbit_s ha' ?_
  simp (disch := omega) only [kB, kcx, kdm, kdn, kel, aop, resultsL, resultOf, Nat.reduceEqDiff, reduceCtorEq, eq1, apartOK, apart2, AObj.live, Int.reduceEq, Int.reduceLT, Int.reduceLE, Int.reduceAdd, Int.reduceSub, Int.reduceMul, Int.reduceToNat, cutCells, Nat.reduceAdd, Nat.reduceLeDiff, Nat.reduceLT, Nat.reduceMul, Nat.reduceSub, eb, eq_bvv, decide_true, Bool.bne_true, Bool.bne_false, Bool.not_true, Bool.not_false]
  refine rcommon_s ha' hb' ?_
  simp (disch := omega) only [kB, kcx, kdm, kdn, kel, aop, resultsL, resultOf, Nat.reduceEqDiff, reduceCtorEq, eq1, apartOK, apart2, AObj.live, Int.reduceEq, Int.reduceLT, Int.reduceLE, Int.reduceAdd, Int.reduceSub, Int.reduceMul, Int.reduceToNat, cutCells, Nat.reduceAdd, Nat.reduceLeDiff, Nat.reduceLT, Nat.reduceMul, Nat.reduceSub, eb, eq_bvv, decide_true, Bool.bne_true, Bool.bne_false, Bool.not_true, Bool.not_false]

end Go.Proofs.YtkhkmgcegicmoaaDoor.Ev

/- Division and products of words; digits: plain laws. -/
namespace Go.Proofs.YtkhkmgcegicmoaaDoor.Ev
set_option maxRecDepth 100000
set_option linter.unusedSimpArgs false
set_option linter.unusedVariables false
variable {R : FRes → Heap → Prop} {H : Heap}

theorem mul64_s {x y : Nat} (hx : x < 18446744073709551616) (hy : y < 18446744073709551616)
    (h : R (.ret (.tuple #[.int .u64 ((x * y / 18446744073709551616 : Nat) : Int), .int .u64 ((x * y % 18446744073709551616 : Nat) : Int)])) H) :
    WD T 73 [.int .u64 (x : Int), .int .u64 (y : Int)] H R := by
  refine WD.of follows t73 (by simp) ?_
  have hm := mul_halves x y
  have h1 : x % 4294967296 * (y % 4294967296) ≤ 4294967295 * 4294967295 := Nat.mul_le_mul (by omega) (by omega)
  have h2 : x / 4294967296 * (y % 4294967296) ≤ 4294967295 * 4294967295 := Nat.mul_le_mul (by omega) (by omega)
  have h3 : x % 4294967296 * (y / 4294967296) ≤ 4294967295 * 4294967295 := Nat.mul_le_mul (by omega) (by omega)
  have h4 : x / 4294967296 * (y / 4294967296) ≤ 4294967295 * 4294967295 := Nat.mul_le_mul (by omega) (by omega)
  simp (maxSteps := 1000000) (disch := omega) only [kaa, kab, kac, kad, khm, khn, kho, khp, khq, khr, kae, kaf, kag, kah, kai, kaj, kak, kal, kam, kan, kao, khe, khf, khg, khh, khi, khj, khk, khl, kap, kaq, kar, kas, kat, kau, kav, kaw, kax, kay, kaz, kba, kbb, kbc, kbd, kbe, kbf, kbg, kbh, kbi, kbj, kbk, kbl, kbm, kbn, kbo, kbp, kbq, kbr, kbs, kbt, kbu, kbv, kbw, kbx, kby, kbz, kca, kcb, kcc, kcd, kch, kci, kcj, kck, kcl, kcm, aop, kcn, kco, kcp, kcq, kcr, kcs, kct, kcu, kcv, kcw, resultsL, resultOf, kcx, Nat.reduceEqDiff, kcy, kcz, kda, reduceCtorEq, kdb, kdc, kdd, kde, kdf, kdg, kdh, kdi, kdj, kdk, kdl, kdm, kdn, kdo, eq1, kdp, kdq, kdr, kds, kdt, kdu, kdv, kdw, kdx, kdy, kdz, kea, keb, kec, apartOK, apart2, AObj.live, ked, kee, kef, keg, keh, kei, kej, kek, kel, Int.reduceEq, Int.reduceLT, Int.reduceLE, Int.reduceAdd, Int.reduceSub, Int.reduceMul, Int.reduceToNat, kem, ken, keo, kep, keq, ker, kes, ket, keu, kev, kew, kex, key, kez, kfa, kfb, kfc, kfd, kfe, kff, kfg, kfh, kfi, kfj, kfk, kfl, cutCells, kfm, kfn, kfo, kfp, kfq, kfr, kfs, kft, kfu, kfv, kfw, kfx, kfy, Nat.reduceAdd, Nat.reduceLeDiff, Nat.reduceLT, Nat.reduceMul, Nat.reduceSub, kfz, kga, kgb, kgc, u64_low, u64_high, u64_add, u64_mul, u64_mulw]
  rw [hm]
  exact h

theorem wrap_u64_mod (n : Int) : IntKind.u64.wrap n = n % 18446744073709551616 := by
  simp [IntKind.wrap, IntKind.signed, IntKind.bits]

theorem wr_mulB (a : Nat) : IntKind.u64.wrap ((a : Int) * 4294967296) = ((a * 4294967296 % 18446744073709551616 : Nat) : Int) := by rw [wrap_u64_mod]; omega
theorem wr_Bmul (a : Nat) : IntKind.u64.wrap (4294967296 * (a : Int)) = ((a * 4294967296 % 18446744073709551616 : Nat) : Int) := by rw [wrap_u64_mod]; omega
theorem wr_addn (a b : Nat) : IntKind.u64.wrap ((a : Int) + (b : Int)) = (((a + b) % 18446744073709551616 : Nat) : Int) := by rw [wrap_u64_mod]; omega
theorem wr_muln (a b : Nat) : IntKind.u64.wrap ((a : Int) * (b : Int)) = (((a * b) % 18446744073709551616 : Nat) : Int) := by
  rw [wrap_u64_mod, ← Int.natCast_mul]
  generalize a * b = c
  omega
theorem wr_subn {a b : Nat} (hb : b < 18446744073709551616) : IntKind.u64.wrap ((a : Int) - (b : Int)) = (((a + 18446744073709551616 - b) % 18446744073709551616 : Nat) : Int) := by rw [wrap_u64_mod]; omega
theorem wr_nat {a : Nat} (hb : a < 18446744073709551616) : IntKind.u64.wrap (a : Int) = (a : Int) := by rw [wrap_u64_mod]; omega

/-- The words of a quotient. -/
theorem div_words0 {B hi lo y p yn U V q1 rh un un1 un0 q0 r2 : Nat} (hp : 0 < p) (e : y * p = yn * B) (hy : 0 < y)
    (hUV : U * (B * B) + V = (hi * (B * B) + lo) * p) (h1 : U = q1 * yn + rh) (hV : V = un1 * B + un0) (hun : un = rh * B + un1) (h2 : un = q0 * yn + r2) (hr : r2 < yn) (h0 : un0 < B) :
    q1 * B + q0 = (hi * (B * B) + lo) / y ∧ (r2 * B + un0) / p = (hi * (B * B) + lo) % y := by
  have key : (hi * (B * B) + lo) * p = (r2 * B + un0) + (y * p) * (q1 * B + q0) := by
    rw [← hUV, h1, hV, e]
    have h3 : rh * B + un1 = q0 * yn + r2 := by rw [← hun, h2]
    have h4 : (rh * B + un1) * B = (q0 * yn + r2) * B := by rw [h3]
    simp only [Nat.add_mul, Nat.mul_add, Nat.mul_assoc, Nat.mul_comm, Nat.mul_left_comm, Nat.add_assoc, Nat.add_comm, Nat.add_left_comm] at h4 ⊢
    omega
  have hlt : r2 * B + un0 < y * p := by
    rw [e]
    have : (r2 + 1) * B ≤ yn * B := Nat.mul_le_mul_right _ hr
    rw [Nat.add_mul, Nat.one_mul] at this
    omega
  constructor
  · rw [← Nat.mul_div_mul_right (hi * (B * B) + lo) y hp, key, Nat.add_mul_div_left _ _ (Nat.mul_pos hy hp), Nat.div_eq_of_lt hlt, Nat.zero_add]
  · have := Nat.mul_mod_mul_right p (hi * (B * B) + lo) y
    rw [key, Nat.add_mul_mod_self_left, Nat.mod_eq_of_lt hlt] at this
    rw [this, Nat.mul_div_cancel _ hp]
theorem div_words {hi lo y s yn U V q1 rh un un1 un0 q0 r2 : Nat} (e : y * 2 ^ s = yn * 4294967296) (hy : 0 < y)
    (hUV : U * 18446744073709551616 + V = (hi * 18446744073709551616 + lo) * 2 ^ s) (h1 : U = q1 * yn + rh) (hV : V = un1 * 4294967296 + un0) (hun : un = rh * 4294967296 + un1) (h2 : un = q0 * yn + r2) (hr : r2 < yn) (h0 : un0 < 4294967296) :
    q1 * 4294967296 + q0 = (hi * 18446744073709551616 + lo) / y ∧ (r2 * 4294967296 + un0) / 2 ^ s = (hi * 18446744073709551616 + lo) % y :=
  div_words0 (B := 4294967296) (Nat.two_pow_pos s) e hy hUV h1 hV hun h2 hr h0

theorem shl_words0 {hi lo P Q : Nat} : (hi * Q + lo / P) * (P * Q) + (lo % P) * Q = (hi * (P * Q) + lo) * Q := by
  have h := Nat.div_add_mod lo P
  generalize lo / P = d at *
  generalize lo % P = r at *
  subst h
  simp only [Nat.add_mul, Nat.mul_add, Nat.mul_assoc, Nat.mul_comm, Nat.mul_left_comm, Nat.add_assoc, Nat.add_comm, Nat.add_left_comm]
theorem shl_words {hi lo s : Nat} (hs : s ≤ 64) (hl : lo < 18446744073709551616) : (hi * 2 ^ s + lo >>> (64 - s)) * 18446744073709551616 + (lo <<< s) % 18446744073709551616 = (hi * 18446744073709551616 + lo) * 2 ^ s := by
  have e : 2 ^ (64 - s) * 2 ^ s = 18446744073709551616 := by rw [← Nat.pow_add, Nat.sub_add_cancel hs]
  have h := shl_words0 (hi := hi) (lo := lo) (P := 2 ^ (64 - s)) (Q := 2 ^ s)
  rw [← Nat.mul_mod_mul_right, e] at h
  rw [Nat.shiftRight_eq_div_pow, Nat.shiftLeft_eq]
  exact h

def dvI (y2 s yn U V un1 un0 q1 rh : Nat) (H : Heap) : Nat → Env → Heap → Prop := fun z e H' =>
  z = 0 ∧ H' = H ∧ (∃ x : Nat → Value, e = [x 0, x 1, .int .u64 (y2 : Int), x 3, x 4, x 5, x 6, x 7, .int .u64 (s : Int), .int .u64 (yn : Int), .int .u64 ((0 : Nat) : Int), .int .u64 (U : Int), x 12, .int .u64 (un1 : Int), .int .u64 (un0 : Int), .int .u64 (q1 : Int), .int .u64 (rh : Int), x 17, x 18, x 19, x 20, x 21, x 22, x 23, x 24, x 25, x 26, x 27, x 28, x 29, x 30, x 31, x 32, x 33, x 34, x 35, x 36, x 37, x 38, x 39, x 40, x 41, x 42, x 43, x 44, x 45, x 46, x 47, x 48, x 49, x 50, x 51, x 52, x 53, x 54, x 55, x 56, x 57, x 58, x 59, x 60, x 61, x 62, x 63, x 64, x 65, x 66, x 67, x 68, x 69, x 70, x 71, x 72, x 73, x 74, x 75, x 76, x 77, x 78, x 79, x 80, x 81, x 82, x 83, x 84, x 85, x 86, x 87, x 88, x 89, x 90, x 91, x 92, x 93, x 94, x 95, x 96, x 97, x 98, x 99, x 100, x 101, x 102, x 103, x 104, x 105, x 106, x 107, x 108, x 109, x 110, x 111, x 112, x 113, x 114, x 115, x 116, x 117, x 118, x 119, x 120, x 121, x 122, x 123, x 124, x 125, x 126, x 127, x 128, x 129, x 130, x 131, x 132, x 133, x 134])
def dvJ (y2 s yn un un0 q1 q0 rh : Nat) (H : Heap) : Nat → Env → Heap → Prop := fun z e H' =>
  z = 0 ∧ H' = H ∧ (∃ x : Nat → Value, e = [x 0, x 1, .int .u64 (y2 : Int), x 3, x 4, x 5, x 6, x 7, .int .u64 (s : Int), .int .u64 (yn : Int), .int .u64 ((0 : Nat) : Int), x 11, x 12, x 13, .int .u64 (un0 : Int), .int .u64 (q1 : Int), .int .u64 (rh : Int), .int .u64 (un : Int), .int .u64 (q0 : Int), x 19, x 20, x 21, x 22, x 23, x 24, x 25, x 26, x 27, x 28, x 29, x 30, x 31, x 32, x 33, x 34, x 35, x 36, x 37, x 38, x 39, x 40, x 41, x 42, x 43, x 44, x 45, x 46, x 47, x 48, x 49, x 50, x 51, x 52, x 53, x 54, x 55, x 56, x 57, x 58, x 59, x 60, x 61, x 62, x 63, x 64, x 65, x 66, x 67, x 68, x 69, x 70, x 71, x 72, x 73, x 74, x 75, x 76, x 77, x 78, x 79, x 80, x 81, x 82, x 83, x 84, x 85, x 86, x 87, x 88, x 89, x 90, x 91, x 92, x 93, x 94, x 95, x 96, x 97, x 98, x 99, x 100, x 101, x 102, x 103, x 104, x 105, x 106, x 107, x 108, x 109, x 110, x 111, x 112, x 113, x 114, x 115, x 116, x 117, x 118, x 119, x 120, x 121, x 122, x 123, x 124, x 125, x 126, x 127, x 128, x 129, x 130, x 131, x 132, x 133, x 134])

set_option maxHeartbeats 4000000 in
theorem div64_s {hi lo y s yn : Nat} (hs : s < 64) (e : y * 2 ^ s = yn * 4294967296) (hyn : yn < 4294967296) (hb : blen y + s = 64) (hy : 2 ≤ y) (hyl : y < 100) (hhi : hi < y) (hlo : lo < 18446744073709551616)
    (h : R (.ret (.tuple #[.int .u64 (((hi * 18446744073709551616 + lo) / y : Nat) : Int), .int .u64 (((hi * 18446744073709551616 + lo) % y : Nat) : Int)])) H) :
    WD T 67 [.int .u64 (hi : Int), .int .u64 (lo : Int), .int .u64 (y : Int)] H R := by
  refine WD.of follows t67 (by simp) ?_
  have c0 : ¬ (y : Int) = 0 := by omega
  have c1 : ¬ (y : Int) ≤ (hi : Int) := by omega
  by_cases hz : hi = 0
  · subst hz
    have d1 := bin_quo (k := .u64) (a := lo) (b := y) (by omega)
    have d2 := bin_rem (k := .u64) (a := lo) (b := y) (by omega)
    have c2 : ((0 : Nat) : Int) = 0 := rfl
    rw [Nat.zero_mul, Nat.zero_add] at h
    have hq : lo / y ≤ lo := Nat.div_le_self _ _
    have c1' : ¬ (y : Int) ≤ 0 := by omega
    have hw := wr_nat (a := lo / y) (Nat.lt_of_le_of_lt hq hlo)
    simp (disch := omega) only [kB, kcx, kdm, kdn, kel, aop, resultsL, resultOf, Nat.reduceEqDiff, reduceCtorEq, eq1, apartOK, apart2, AObj.live, Int.reduceEq, Int.reduceLT, Int.reduceLE, Int.reduceAdd, Int.reduceSub, Int.reduceMul, Int.reduceToNat, cutCells, Nat.reduceAdd, Nat.reduceLeDiff, Nat.reduceLT, Nat.reduceMul, Nat.reduceSub, c0, c1', c2, d1, d2, hw]
    exact h
  · have c2 : ¬ (hi : Int) = 0 := by omega
    have e1 : ((64 - blen y : Nat) : Int) = (s : Int) := by omega
    have hp : 0 < 2 ^ s := Nat.two_pow_pos s
    have hhis : hi * 2 ^ s < yn * 4294967296 := by rw [← e]; exact Nat.mul_lt_mul_of_pos_right hhi hp
    have f1 := bin_shl64 (k' := .u64) (a := y) (b := s) (by omega)
    rw [Nat.shiftLeft_eq, e, W64_eq, Nat.mod_eq_of_lt (by omega)] at f1
    have f2 := u64_high (yn * 4294967296)
    rw [Nat.mul_div_cancel _ (by decide)] at f2
    have f3 := u64_low (x := yn * 4294967296) (by omega)
    rw [Nat.mul_mod_left] at f3
    have f4 := bin_shl64 (k' := .u64) (a := hi) (b := s) (by omega)
    rw [Nat.shiftLeft_eq, W64_eq, Nat.mod_eq_of_lt (by omega)] at f4
    have e5 : (64 : Int) - (s : Int) = ((64 - s : Nat) : Int) := by omega
    have f6 := bin_shr64 (k' := .u64) (a := lo) (b := 64 - s) (by omega)
    have hlosh : lo >>> (64 - s) < 2 ^ s := by
      rw [Nat.shiftRight_eq_div_pow, Nat.div_lt_iff_lt_mul (Nat.two_pow_pos _), ← Nat.pow_add, show s + (64 - s) = 64 by omega]
      exact hlo
    have f7 := bin_or64 (a := hi * 2 ^ s) (b := lo >>> (64 - s)) (by omega) (Nat.lt_of_le_of_lt (Nat.shiftRight_le _ _) hlo)
    have eor : (hi * 2 ^ s) ||| (lo >>> (64 - s)) = hi * 2 ^ s + lo >>> (64 - s) := by
      rw [← Nat.shiftLeft_eq, ← Nat.shiftLeft_add_eq_or_of_lt hlosh]
    rw [eor] at f7
    have f8 := bin_shl64 (k' := .u64) (a := lo) (b := s) (by omega)
    rw [W64_eq] at f8
    have hw := shl_words (hi := hi) (lo := lo) (s := s) (by omega) hlo
    have hU : hi * 2 ^ s + lo >>> (64 - s) < yn * 4294967296 := by
      have : (hi + 1) * 2 ^ s ≤ y * 2 ^ s := Nat.mul_le_mul_right _ hhi
      rw [e, Nat.add_mul, Nat.one_mul] at this
      omega
    have hVl : (lo <<< s) % 18446744073709551616 < 18446744073709551616 := Nat.mod_lt _ (by decide)
    generalize hi * 2 ^ s + lo >>> (64 - s) = U at *
    generalize (lo <<< s) % 18446744073709551616 = V at *
    generalize hi * 2 ^ s = his at *
    generalize lo >>> (64 - s) = los at *
    have f9 := u64_high V
    have f10 := u64_low (x := V) hVl
    have hyn0 : 0 < yn := by omega
    have d1 := bin_quo (k := .u64) (a := U) (b := yn) hyn0
    have m1 := Nat.div_add_mod U yn
    have m2 := Nat.mod_lt U hyn0
    have hq1 : U / yn < 4294967296 := (Nat.div_lt_iff_lt_mul hyn0).2 (by rw [Nat.mul_comm]; exact hU)
    rw [Nat.mul_comm] at m1
    generalize hQ1 : U / yn = q1 at *
    generalize hRh : U % yn = rh at *
    have hp1 : q1 * yn ≤ U := by omega
    have g1 := wr_muln q1 yn
    rw [Nat.mod_eq_of_lt (show q1 * yn < 18446744073709551616 by omega)] at g1
    have g2 := wr_subn (a := U) (b := q1 * yn) (by omega)
    rw [show (U + 18446744073709551616 - q1 * yn) % 18446744073709551616 = rh by omega] at g2
    have g0 := wr_nat (a := q1) (by omega)
    have m3 := Nat.div_add_mod V 4294967296
    have m4 := Nat.mod_lt V (show 0 < 4294967296 by decide)
    have hu1 : V / 4294967296 < 4294967296 := by omega
    generalize hU1 : V / 4294967296 = un1 at *
    generalize hU0 : V % 4294967296 = un0 at *
    simp (disch := omega) only [kB, kcx, kdm, kdn, kel, aop, resultsL, resultOf, Nat.reduceEqDiff, reduceCtorEq, eq1, apartOK, apart2, AObj.live, Int.reduceEq, Int.reduceLT, Int.reduceLE, Int.reduceAdd, Int.reduceSub, Int.reduceMul, Int.reduceToNat, cutCells, Nat.reduceAdd, Nat.reduceLeDiff, Nat.reduceLT, Nat.reduceMul, Nat.reduceSub, c0, c1, c2]
    refine lz_s (by omega) ?_
    rw [e1]
    have hs64 := wr_nat (a := s) (by omega)
    have hs65 := wr_nat (a := 64 - s) (by omega)
    obtain ⟨Y, hY⟩ : ∃ Y, Y = yn * 4294967296 := ⟨_, rfl⟩
    rw [← hY] at f1 f2 f3
    simp (disch := omega) only [kB, kcx, kdm, kdn, kel, aop, resultsL, resultOf, Nat.reduceEqDiff, reduceCtorEq, eq1, apartOK, apart2, AObj.live, Int.reduceEq, Int.reduceLT, Int.reduceLE, Int.reduceAdd, Int.reduceSub, Int.reduceMul, Int.reduceToNat, cutCells, Nat.reduceAdd, Nat.reduceLeDiff, Nat.reduceLT, Nat.reduceMul, Nat.reduceSub, hs64, hs65, f1, f2, f3, f4, e5, f6, f7, f8, f9, f10, d1, g0, g1, g2]
    refine WLoop.inv (dvI Y s yn U V un1 un0 q1 rh H) ?_ 0 _ _ ⟨rfl, rfl, by exact ex_env rfl⟩
    rintro z ev H' ⟨rfl, rfl, ⟨x, rfl⟩⟩
    have c3 : ¬ (4294967296 : Int) ≤ (q1 : Int) := by omega
    have k8 := wr_muln q1 0
    rw [Nat.mul_zero, Nat.zero_mod] at k8
    have k9 := wr_Bmul rh
    obtain ⟨b1, hb1⟩ : ∃ x, x = rh * 4294967296 % 18446744073709551616 := ⟨_, rfl⟩
    rw [← hb1] at k9
    have k10 := wr_addn b1 un1
    obtain ⟨b2, hb2⟩ : ∃ x, x = (b1 + un1) % 18446744073709551616 := ⟨_, rfl⟩
    rw [← hb2] at k10
    have c4 : ¬ (b2 : Int) < ((0 : Nat) : Int) := by omega
    have k11 := wr_mulB U
    obtain ⟨a1, ha1⟩ : ∃ x, x = U * 4294967296 % 18446744073709551616 := ⟨_, rfl⟩
    rw [← ha1] at k11
    have k12 := wr_addn a1 un1
    obtain ⟨a2, ha2⟩ : ∃ x, x = (a1 + un1) % 18446744073709551616 := ⟨_, rfl⟩
    rw [← ha2] at k12
    have k13 := wr_muln q1 Y
    obtain ⟨a3, ha3⟩ : ∃ x, x = q1 * Y % 18446744073709551616 := ⟨_, rfl⟩
    rw [← ha3] at k13
    have k14 := wr_subn (a := a2) (b := a3) (by omega)
    obtain ⟨un, hun⟩ : ∃ un, un = rh * 4294967296 + un1 := ⟨_, rfl⟩
    have hp3 : q1 * Y = q1 * yn * 4294967296 := by rw [hY, Nat.mul_assoc]
    have hunl : un < yn * 4294967296 := by omega
    rw [show (a2 + 18446744073709551616 - a3) % 18446744073709551616 = un by omega] at k14
    have d2 := bin_quo (k := .u64) (a := un) (b := yn) hyn0
    have n1 := Nat.div_add_mod un yn
    have n2 := Nat.mod_lt un hyn0
    have hq0 : un / yn < 4294967296 := (Nat.div_lt_iff_lt_mul hyn0).2 (by rw [Nat.mul_comm]; exact hunl)
    rw [Nat.mul_comm] at n1
    obtain ⟨w1, w2⟩ := div_words (s := s) e (by omega) hw m1.symm (by omega) hun n1.symm n2 m4
    generalize hQ0 : un / yn = q0 at *
    generalize hR2 : un % yn = r2 at *
    have k15 := wr_muln q0 yn
    rw [Nat.mod_eq_of_lt (show q0 * yn < 18446744073709551616 by omega)] at k15
    have k16 := wr_subn (a := un) (b := q0 * yn) (by omega)
    rw [show (un + 18446744073709551616 - q0 * yn) % 18446744073709551616 = r2 by omega] at k16
    have k17 := wr_nat (a := q0) (by omega)
    simp (disch := omega) only [kB, kcx, kdm, kdn, kel, aop, resultsL, resultOf, Nat.reduceEqDiff, reduceCtorEq, eq1, apartOK, apart2, AObj.live, Int.reduceEq, Int.reduceLT, Int.reduceLE, Int.reduceAdd, Int.reduceSub, Int.reduceMul, Int.reduceToNat, cutCells, Nat.reduceAdd, Nat.reduceLeDiff, Nat.reduceLT, Nat.reduceMul, Nat.reduceSub, c3, k8, k9, k10, c4, k11, k12, k13, k14, d2, k15, k16, k17]
    refine WLoop.inv (dvJ Y s yn un un0 q1 q0 r2 H') ?_ 0 _ _ ⟨rfl, rfl, by exact ex_env rfl⟩
    rintro z ev H2 ⟨rfl, rfl, ⟨x, rfl⟩⟩
    have c5 : ¬ (4294967296 : Int) ≤ (q0 : Int) := by omega
    have j8 := wr_muln q0 0
    rw [Nat.mul_zero, Nat.zero_mod] at j8
    have j9 := wr_Bmul r2
    obtain ⟨b3, hb3⟩ : ∃ x, x = r2 * 4294967296 % 18446744073709551616 := ⟨_, rfl⟩
    rw [← hb3] at j9
    have j10 := wr_addn b3 un0
    obtain ⟨b4, hb4⟩ : ∃ x, x = (b3 + un0) % 18446744073709551616 := ⟨_, rfl⟩
    rw [← hb4] at j10
    have c6 : ¬ (b4 : Int) < ((0 : Nat) : Int) := by omega
    have j11 := wr_mulB q1
    rw [Nat.mod_eq_of_lt (show q1 * 4294967296 < 18446744073709551616 by omega)] at j11
    obtain ⟨b5, hb5⟩ : ∃ x, x = q1 * 4294967296 := ⟨_, rfl⟩
    rw [← hb5] at j11
    have j12 := wr_addn b5 q0
    rw [Nat.mod_eq_of_lt (show b5 + q0 < 18446744073709551616 by omega), hb5, w1] at j12
    rw [← hb5] at j12
    have j13 := wr_mulB un
    obtain ⟨a4, ha4⟩ : ∃ x, x = un * 4294967296 % 18446744073709551616 := ⟨_, rfl⟩
    rw [← ha4] at j13
    have j14 := wr_addn a4 un0
    obtain ⟨a5, ha5⟩ : ∃ x, x = (a4 + un0) % 18446744073709551616 := ⟨_, rfl⟩
    rw [← ha5] at j14
    have j15 := wr_muln q0 Y
    obtain ⟨a6, ha6⟩ : ∃ x, x = q0 * Y % 18446744073709551616 := ⟨_, rfl⟩
    rw [← ha6] at j15
    have j16 := wr_subn (a := a5) (b := a6) (by omega)
    have hp4 : q0 * Y = q0 * yn * 4294967296 := by rw [hY, Nat.mul_assoc]
    obtain ⟨fr, hfr⟩ : ∃ x, x = r2 * 4294967296 + un0 := ⟨_, rfl⟩
    rw [show (a5 + 18446744073709551616 - a6) % 18446744073709551616 = fr by omega] at j16
    have j17 := bin_shr64 (k' := .u64) (a := fr) (b := s) (by omega)
    rw [Nat.shiftRight_eq_div_pow, hfr, w2, ← hfr] at j17
    simp (disch := omega) only [kB, kcx, kdm, kdn, kel, aop, resultsL, resultOf, Nat.reduceEqDiff, reduceCtorEq, eq1, apartOK, apart2, AObj.live, Int.reduceEq, Int.reduceLT, Int.reduceLE, Int.reduceAdd, Int.reduceSub, Int.reduceMul, Int.reduceToNat, cutCells, Nat.reduceAdd, Nat.reduceLeDiff, Nat.reduceLT, Nat.reduceMul, Nat.reduceSub, c5, j8, j9, j10, c6, j11, j12, j13, j14, j15, j16, j17]
    exact h

end Go.Proofs.YtkhkmgcegicmoaaDoor.Ev

/- Digits: plain laws; the program's digits of a value. -/
namespace Go.Proofs.YtkhkmgcegicmoaaDoor.Ev
set_option maxRecDepth 100000
set_option linter.unusedSimpArgs false
set_option linter.unusedVariables false
variable {R : FRes → Heap → Prop} {H : Heap}

/-- The sign of a digit. -/
def sgN (n : Nat) : UInt8 := if n < 10 then UInt8.ofNat (48 + n) else UInt8.ofNat (87 + n)
/-- A value's digits, the lowest first. -/
def rd (b : Nat) : Nat → Nat → List Nat
  | 0, _ => []
  | k + 1, v => (v % b) :: (if v / b = 0 then [] else rd b k (v / b))
/-- A value's text in a base. -/
def dig (b v : Nat) : List UInt8 := ((rd b 128 v).reverse).map sgN
/-- What digits say, the lowest first. -/
def valR (b : Nat) : List Nat → Nat
  | [] => 0
  | d :: l => d + b * valR b l

theorem rd_val {b : Nat} (hb : 2 ≤ b) : ∀ (k v : Nat), v < 2 ^ k → valR b (rd b k v) = v
  | 0, v, h => by simp at h; subst h; rfl
  | k + 1, v, h => by
    have hd := Nat.div_add_mod v b
    rw [rd, valR]
    split
    · rename_i q
      rw [q, Nat.mul_zero] at hd
      rw [valR, Nat.mul_zero]
      omega
    · have : v / b < 2 ^ k := by
        rw [Nat.div_lt_iff_lt_mul (by omega)]
        rw [Nat.pow_succ] at h
        exact Nat.lt_of_lt_of_le h (Nat.mul_le_mul_left _ hb)
      rw [rd_val hb k _ this]
      omega
theorem rd_lt {b : Nat} (hb : 0 < b) : ∀ (k v : Nat), ∀ d ∈ rd b k v, d < b
  | 0, v, d, h => by simp [rd] at h
  | k + 1, v, d, h => by
    rw [rd] at h
    rcases List.mem_cons.1 h with rfl | h
    · exact Nat.mod_lt _ hb
    · split at h
      · simp at h
      · exact rd_lt hb k _ d h
theorem rd_len (b : Nat) : ∀ (k v : Nat), (rd b k v).length ≤ k
  | 0, v => by simp [rd]
  | k + 1, v => by
    rw [rd, List.length_cons]
    split
    · simp
    · have := rd_len b k (v / b)
      omega
theorem rd_ne (b k v : Nat) : rd b (k + 1) v ≠ [] := by simp [rd]
/-- The highest digit is none that says nothing, where there is another. -/
theorem rd_last {b : Nat} (hb : 2 ≤ b) : ∀ (k v : Nat), v < 2 ^ k → v ≠ 0 → ∃ l d, rd b k v = l ++ [d] ∧ d ≠ 0
  | 0, v, h, h0 => by simp at h; exact absurd h h0
  | k + 1, v, h, h0 => by
    rw [rd]
    split
    · rename_i q
      have hd := Nat.div_add_mod v b
      rw [q, Nat.mul_zero] at hd
      exact ⟨[], v % b, rfl, by omega⟩
    · rename_i q
      have : v / b < 2 ^ k := by
        rw [Nat.div_lt_iff_lt_mul (by omega)]
        rw [Nat.pow_succ] at h
        exact Nat.lt_of_lt_of_le h (Nat.mul_le_mul_left _ hb)
      obtain ⟨l, d, e, hd⟩ := rd_last hb k (v / b) this q
      exact ⟨v % b :: l, d, by rw [e]; rfl, hd⟩
theorem valR_pos {b : Nat} (hb : 2 ≤ b) : ∀ (l : List Nat) (d : Nat), d ≠ 0 → 0 < valR b (l ++ [d])
  | [], d, h => by simp [valR]; omega
  | x :: l, d, h => by
    have := valR_pos hb l d h
    rw [List.cons_append, valR]
    have : 0 < b * valR b (l ++ [d]) := Nat.mul_pos (by omega) this
    omega
/-- Digits that may be a text are those of what they say. -/
theorem rd_of {b : Nat} (hb : 2 ≤ b) : ∀ (k : Nat) (l : List Nat), l.length ≤ k → l ≠ [] → (∀ d ∈ l, d < b) → (∀ m d, l = m ++ [d] → m ≠ [] → d ≠ 0) → rd b k (valR b l) = l
  | 0, l, h, h0, _, _ => by simp at h; exact absurd h h0
  | k + 1, [], h, h0, _, _ => absurd rfl h0
  | k + 1, x :: l, h, h0, hl, hz => by
    have hx := hl x (by simp)
    rw [rd, valR, Nat.add_mul_mod_self_left, Nat.mod_eq_of_lt hx, Nat.add_mul_div_left _ _ (by omega), Nat.div_eq_of_lt hx, Nat.zero_add]
    congr 1
    by_cases hn : l = []
    · subst hn; rfl
    · obtain ⟨m, d, rfl⟩ : ∃ m d, l = m ++ [d] := ⟨l.dropLast, l.getLast hn, (List.dropLast_concat_getLast hn).symm⟩
      have hd : d ≠ 0 := hz (x :: m) d rfl (by simp)
      have hp := valR_pos hb m d hd
      rw [if_neg (by omega)]
      exact rd_of hb k _ (by simpa using h) hn (fun y hy => hl y (by simp [hy])) fun m2 d2 e h2 => hz (x :: m2) d2 (by rw [e]; rfl) (by simp)

theorem dig_len (b v : Nat) : (dig b v).length ≤ 128 := by
  rw [dig, List.length_map, List.length_reverse]
  exact rd_len _ _ _

theorem signs_at : ∀ n, n < 16 → signsL[n]? = some (((sgN n).toNat : Nat) : Int) := by decide +kernel
theorem signs_get {n : Nat} (h : n < 16) : (numV signsL)[n]? = some (u8c (sgN n)) := by
  rw [numV, List.getElem?_map, signs_at n h]
  rfl
theorem signs_len : (numV signsL).length = 16 := by
  rw [numV, List.length_map]
  decide +kernel

/-- The bases, and what a division needs of them. -/
def base3 (b : Nat) : Prop := b = 2 ∨ b = 10 ∨ b = 16
theorem base3_lt {b : Nat} (h : base3 b) : 2 ≤ b ∧ b ≤ 16 := by rcases h with rfl | rfl | rfl <;> omega
theorem divb_s {b hi lo : Nat} (hb : base3 b) (hhi : hi < b) (hlo : lo < 18446744073709551616)
    (h : R (.ret (.tuple #[.int .u64 (((hi * 18446744073709551616 + lo) / b : Nat) : Int), .int .u64 (((hi * 18446744073709551616 + lo) % b : Nat) : Int)])) H) :
    WD T 67 [.int .u64 (hi : Int), .int .u64 (lo : Int), .int .u64 (b : Int)] H R := by
  rcases hb with rfl | rfl | rfl
  · exact div64_s (s := 62) (yn := 2147483648) (by decide) (by decide) (by decide) (by decide) (by decide) (by decide) hhi hlo h
  · exact div64_s (s := 60) (yn := 2684354560) (by decide) (by decide) (by decide) (by decide) (by decide) (by decide) hhi hlo h
  · exact div64_s (s := 59) (yn := 2147483648) (by decide) (by decide) (by decide) (by decide) (by decide) (by decide) hhi hlo h

theorem div_two {u b : Nat} (hb : 0 < b) : (u / b) / W64 = (u / W64) / b ∧ (u / b) % W64 = ((u / W64) % b * 18446744073709551616 + u % W64) / b ∧ u % b = ((u / W64) % b * 18446744073709551616 + u % W64) % b := by
  have e1 := Nat.div_add_mod u W64
  have e2 := Nat.div_add_mod (u / W64) b
  rw [W64_eq] at *
  have hm : u % 18446744073709551616 < 18446744073709551616 := Nat.mod_lt _ (by decide)
  have hr := Nat.mod_lt (u / 18446744073709551616) hb
  generalize u / 18446744073709551616 = h at *
  generalize hlo : u % 18446744073709551616 = lo at *
  generalize h / b = q at *
  generalize h % b = r at *
  have eu : u = (r * 18446744073709551616 + lo) + b * (q * 18446744073709551616) := by
    rw [← e1, ← e2, Nat.mul_add, Nat.mul_comm _ (b * q), Nat.mul_assoc b q]
    omega
  have hlt : (r * 18446744073709551616 + lo) / b < 18446744073709551616 := by
    rw [Nat.div_lt_iff_lt_mul hb]
    have : (r + 1) * 18446744073709551616 ≤ b * 18446744073709551616 := Nat.mul_le_mul_right _ hr
    rw [Nat.mul_comm _ b]
    omega
  rw [eu, Nat.add_mul_div_left _ _ hb, Nat.add_mul_mod_self_left]
  generalize (r * 18446744073709551616 + lo) / b = t at *
  refine ⟨?_, ?_, rfl⟩
  · omega
  · omega

/-- A row of bytes that is filled from its end on. -/
def digC (k : Nat) (pre : List Nat) : List Value := List.replicate (128 - k) (.int .u8 0) ++ pre.reverse.map fun n => u8c (sgN n)
theorem digC_len {k : Nat} {pre : List Nat} (h : pre.length = k) (hk : k ≤ 128) : (digC k pre).length = 128 := by
  simp [digC, h]
  omega
theorem digC_set {k : Nat} {pre : List Nat} {x : Nat} (hk : k < 128) : (digC k pre).set (127 - k) (u8c (sgN x)) = digC (k + 1) (pre ++ [x]) := by
  have := set_zero (n := 128) (i := k) (z := Value.int .u8 0) (x := u8c (sgN x)) (L := pre.reverse.map fun n => u8c (sgN n)) hk
  rw [digC, digC, this]
  simp

def dgI (v b b2 b5 : Nat) (F : Heap) : Nat → Env → Heap → Prop := fun z e H' =>
  ∃ (k : Nat) (pre : List Nat) (u : Nat), k < 128 ∧ z = 128 - k ∧ pre.length = k ∧ rd b 128 v = pre ++ rd b (128 - k) u ∧ u < 2 ^ (128 - k) ∧ H' = F ++ [rowU u, .row (digC k pre) 0 true] ∧
    (∃ x : Nat → Value, e = [x 0, .int .u64 (b : Int), .pointer (some ⟨b2, 0, none⟩), x 3, x 4, .pointer (some ⟨b5, 0, none⟩), .int .i64 ((128 - k : Nat) : Int), x 7, x 8, x 9, x 10, x 11, x 12, x 13, x 14, x 15, x 16, x 17, x 18, x 19, x 20, x 21, x 22, x 23, x 24, x 25, x 26, x 27, x 28, x 29, x 30, x 31, x 32, x 33, x 34, x 35, x 36, x 37, x 38, x 39, x 40])

theorem z128_eq : digC 0 [] = [.int .u8 0, .int .u8 0, .int .u8 0, .int .u8 0, .int .u8 0, .int .u8 0, .int .u8 0, .int .u8 0, .int .u8 0, .int .u8 0, .int .u8 0, .int .u8 0, .int .u8 0, .int .u8 0, .int .u8 0, .int .u8 0, .int .u8 0, .int .u8 0, .int .u8 0, .int .u8 0, .int .u8 0, .int .u8 0, .int .u8 0, .int .u8 0, .int .u8 0, .int .u8 0, .int .u8 0, .int .u8 0, .int .u8 0, .int .u8 0, .int .u8 0, .int .u8 0, .int .u8 0, .int .u8 0, .int .u8 0, .int .u8 0, .int .u8 0, .int .u8 0, .int .u8 0, .int .u8 0, .int .u8 0, .int .u8 0, .int .u8 0, .int .u8 0, .int .u8 0, .int .u8 0, .int .u8 0, .int .u8 0, .int .u8 0, .int .u8 0, .int .u8 0, .int .u8 0, .int .u8 0, .int .u8 0, .int .u8 0, .int .u8 0, .int .u8 0, .int .u8 0, .int .u8 0, .int .u8 0, .int .u8 0, .int .u8 0, .int .u8 0, .int .u8 0, .int .u8 0, .int .u8 0, .int .u8 0, .int .u8 0, .int .u8 0, .int .u8 0, .int .u8 0, .int .u8 0, .int .u8 0, .int .u8 0, .int .u8 0, .int .u8 0, .int .u8 0, .int .u8 0, .int .u8 0, .int .u8 0, .int .u8 0, .int .u8 0, .int .u8 0, .int .u8 0, .int .u8 0, .int .u8 0, .int .u8 0, .int .u8 0, .int .u8 0, .int .u8 0, .int .u8 0, .int .u8 0, .int .u8 0, .int .u8 0, .int .u8 0, .int .u8 0, .int .u8 0, .int .u8 0, .int .u8 0, .int .u8 0, .int .u8 0, .int .u8 0, .int .u8 0, .int .u8 0, .int .u8 0, .int .u8 0, .int .u8 0, .int .u8 0, .int .u8 0, .int .u8 0, .int .u8 0, .int .u8 0, .int .u8 0, .int .u8 0, .int .u8 0, .int .u8 0, .int .u8 0, .int .u8 0, .int .u8 0, .int .u8 0, .int .u8 0, .int .u8 0, .int .u8 0, .int .u8 0, .int .u8 0, .int .u8 0, .int .u8 0, .int .u8 0] := rfl

set_option maxHeartbeats 4000000 in
theorem digits_s {v b : Nat} (hb : base3 b) (hv : v < 2 ^ 128) (hH : hget H 0 = .row (numV signsL) 0 false) (hlen : 0 < H.length) (h : R (.ret (.string (bs (dig b v)))) H) : WD T 49 [bvA v, .int .u64 (b : Int)] H R := by
  refine WD.gc0 (WD.of follows t49 (by simp) ?_)
  rw [← z128_eq]
  obtain ⟨hb2, hb16⟩ := base3_lt hb
  simp (disch := omega) only [kB, kcx, kdm, kdn, kel, aop, resultsL, resultOf, Nat.reduceEqDiff, reduceCtorEq, eq1, apartOK, apart2, AObj.live, Int.reduceEq, Int.reduceLT, Int.reduceLE, Int.reduceAdd, Int.reduceSub, Int.reduceMul, Int.reduceToNat, cutCells, Nat.reduceAdd, Nat.reduceLeDiff, Nat.reduceLT, Nat.reduceMul, Nat.reduceSub]
  refine WLoop.inv (dgI v b H.length (H.length + 1) H) ?_ 128 _ _ ⟨0, [], v, by omega, rfl, rfl, rfl, hv, rfl, by exact ex_env rfl⟩
  rintro z e H' ⟨k, pre, u, hk, rfl, hpre, hrd, hu, rfl, ⟨x, rfl⟩⟩
  have hu128 : u < 2 ^ 128 := Nat.lt_of_lt_of_le hu (Nat.pow_le_pow_right (by decide) (by omega))
  have hh := hi_lt hu128
  have hl := lo_lt u
  obtain ⟨w1, w2, w3⟩ := div_two (u := u) (b := b) (by omega)
  have d1 := bin_quo (k := .u64) (a := u / W64) (b := b) (by omega)
  have d2 := bin_rem (k := .u64) (a := u / W64) (b := b) (by omega)
  have hq := Nat.div_le_self (u / W64) b
  simp (disch := omega) only [kB, kcx, kdm, kdn, kel, aop, resultsL, resultOf, Nat.reduceEqDiff, reduceCtorEq, eq1, apartOK, apart2, AObj.live, Int.reduceEq, Int.reduceLT, Int.reduceLE, Int.reduceAdd, Int.reduceSub, Int.reduceMul, Int.reduceToNat, cutCells, Nat.reduceAdd, Nat.reduceLeDiff, Nat.reduceLT, Nat.reduceMul, Nat.reduceSub, d1, d2, wr_u64]
  refine divb_s hb (Nat.mod_lt _ (by omega)) hl ?_
  rw [← w1, ← w2, ← w3]
  have hx : u % b < 16 := Nat.lt_of_lt_of_le (Nat.mod_lt _ (by omega)) hb16
  have g1 := signs_get hx
  unfold u8c at g1
  have e1 : ((128 - k : Nat) : Int) - 1 = ((127 - k : Nat) : Int) := by omega
  have c1 : ((127 - k : Nat) : Int) < 128 := by omega
  have c2 : ((u % b : Nat) : Int) < 16 := by omega
  have dl := digC_len hpre (by omega)
  have ds := digC_set (pre := pre) (x := u % b) hk
  unfold u8c at ds
  have ez := eq_bv0 (v := u / b)
  have e128 : 128 - k = (127 - k) + 1 := by omega
  have hnext : rd b (128 - k) u = (u % b) :: (if u / b = 0 then [] else rd b (127 - k) (u / b)) := by rw [e128, rd]
  rw [hnext] at hrd
  have hub : u / b < 2 ^ (127 - k) := by
    rw [e128, Nat.pow_succ] at hu
    rw [Nat.div_lt_iff_lt_mul (by omega)]
    exact Nat.lt_of_lt_of_le hu (Nat.mul_le_mul_left _ hb2)
  have hwr := wr_nat (a := (u / W64) / b) (Nat.lt_of_le_of_lt hq hh)
  rw [← w1] at hwr
  by_cases hz : u / b = 0
  · rw [decide_eq_true hz] at ez
    rw [if_pos hz] at hrd
    have hc : ¬ (128 = 127 - k ∧ ¬ 127 - k = 0) := by omega
    have hsrc : (srcCells (H ++ [.row [.int .u64 ((u / b / W64 : Nat) : Int), .int .u64 ((u / b % W64 : Nat) : Int)] 0 true, .row (digC (k + 1) (pre ++ [u % b])) 0 true]) 1 (128 - (127 - k)) (.slice (some ⟨H.length + 1, 127 - k, none⟩) (128 - (127 - k)) (128 - (127 - k)))).bind bytesOf = some (dig b v) := by
      have e0 : hget (H ++ [.row [.int .u64 ((u / b / W64 : Nat) : Int), .int .u64 ((u / b % W64 : Nat) : Int)] 0 true, .row (digC (k + 1) (pre ++ [u % b])) 0 true]) (H.length + 1) = .row (digC (k + 1) (pre ++ [u % b])) 0 true := by rw [hget_base]; rfl
      have el := digC_len (k := k + 1) (pre := pre ++ [u % b]) (by simp [hpre]) (by omega)
      simp only [srcCells, e0]
      rw [if_pos (by rw [el]; omega), digC, List.drop_append_of_le_length (by simp), show 127 - k = 128 - (k + 1) by omega, List.drop_of_length_le (by simp), List.nil_append, List.take_of_length_le (by simp [hpre]; omega)]
      have e5 : (pre ++ [u % b]).reverse.map (fun n => u8c (sgN n)) = (dig b v).map u8c := by
        rw [dig, hrd, List.map_map]
        rfl
      rw [e5]
      exact bytes_u8 _
    simp (disch := omega) only [kB, kcx, kdm, kdn, kel, aop, resultsL, resultOf, Nat.reduceEqDiff, reduceCtorEq, eq1, apartOK, apart2, AObj.live, Int.reduceEq, Int.reduceLT, Int.reduceLE, Int.reduceAdd, Int.reduceSub, Int.reduceMul, Int.reduceToNat, cutCells, Nat.reduceAdd, Nat.reduceLeDiff, Nat.reduceLT, Nat.reduceMul, Nat.reduceSub, hwr, hH, g1, signs_len, e1, c1, c2, dl, ds, ez, wr_i64, if_pos, if_neg hc, lenV, hsrc]
    exact ⟨_, rfl, ⟨_, rfl⟩, .closed rfl, h⟩
  · rw [decide_eq_false hz] at ez
    rw [if_neg hz] at hrd
    have hk1 : k + 1 < 128 := by
      by_cases q : k = 127
      · subst q; exact absurd (Nat.lt_one_iff.1 (show u / b < 1 from hub)) hz
      · omega
    simp (disch := omega) only [kB, kcx, kdm, kdn, kel, aop, resultsL, resultOf, Nat.reduceEqDiff, reduceCtorEq, eq1, apartOK, apart2, AObj.live, Int.reduceEq, Int.reduceLT, Int.reduceLE, Int.reduceAdd, Int.reduceSub, Int.reduceMul, Int.reduceToNat, cutCells, Nat.reduceAdd, Nat.reduceLeDiff, Nat.reduceLT, Nat.reduceMul, Nat.reduceSub, hwr, hH, g1, signs_len, e1, c1, c2, dl, ds, ez, wr_i64, if_pos]
    refine ⟨128 - (k + 1), by omega, k + 1, pre ++ [u % b], u / b, hk1, rfl, by simp [hpre], by rw [hrd, List.append_assoc]; rw [show 128 - (k + 1) = 127 - k by omega]; rfl, by rw [show 128 - (k + 1) = 127 - k by omega]; exact hub, rfl, ?_⟩
    rw [show 128 - (k + 1) = 127 - k by omega]
    exact ex_env rfl

end Go.Proofs.YtkhkmgcegicmoaaDoor.Ev
