/- Parts of the proof: D3, D4, D5, D6, D7, D8, D9, D10, E1, F1, F2, F3, F4, F5. Conditions: none. -/
import Derived.Test.YtkhkmgcegicmoaaDoorTxt3
/- What a number's text says: the program's number. -/
namespace Go.Proofs.YtkhkmgcegicmoaaDoor.Ev
set_option maxRecDepth 100000
set_option linter.unusedSimpArgs false
set_option linter.unusedVariables false
variable {R : FRes → Heap → Prop} {H : Heap}

/-- What a sign is worth; 99: it is no digit. -/
def worthN (c : Nat) : Nat := if 48 ≤ c ∧ c ≤ 57 then c - 48 else if 97 ≤ c ∧ c ≤ 102 then c - 87 else 99
def numF (b : Nat) : Nat → List UInt8 → Option Nat
  | a, [] => some a
  | a, c :: l => if worthN c.toNat < b then numF b (a * b + worthN c.toNat) l else none
/-- What a number's text says in a base. -/
def numI (b : Nat) (l : List UInt8) : Option Nat := if l = [] ∨ (1 < l.length ∧ l.head? = some 48) then none else numF b 0 l
def numT : Option Nat → Value
  | some v => .tuple #[bvA (v % 2 ^ 128), .bool (decide (v < 2 ^ 128)), .bool true]
  | none => .tuple #[bvA 0, .bool false, .bool false]

theorem worth_s {c : Nat} (hc : c < 2147483648) (h : R (.ret (.int .u64 ((worthN c : Nat) : Int))) H) : WD T 72 [.int .i32 (c : Int)] H R := by
  refine WD.of follows t72 (by simp) ?_
  unfold worthN at h
  by_cases h1 : 48 ≤ c
  · by_cases h2 : c ≤ 57
    · have h1' : (48 : Int) ≤ (c : Int) := by omega
      have h2' : (c : Int) ≤ 57 := by omega
      have e : (c : Int) - 48 = ((c - 48 : Nat) : Int) := by omega
      rw [if_pos ⟨h1, h2⟩] at h
      simp (disch := omega) only [kB, kcx, kdm, kdn, kel, aop, resultsL, resultOf, Nat.reduceEqDiff, reduceCtorEq, eq1, apartOK, apart2, AObj.live, Int.reduceEq, Int.reduceLT, Int.reduceLE, Int.reduceAdd, Int.reduceSub, Int.reduceMul, Int.reduceToNat, cutCells, Nat.reduceAdd, Nat.reduceLeDiff, Nat.reduceLT, Nat.reduceMul, Nat.reduceSub, h1', h2', e, wr_i32, wr_u64]
      exact h
    · have h1' : (48 : Int) ≤ (c : Int) := by omega
      have h2' : ¬ (c : Int) ≤ 57 := by omega
      rw [if_neg (by omega)] at h
      by_cases h3 : 97 ≤ c
      · have h3' : (97 : Int) ≤ (c : Int) := by omega
        by_cases h4 : c ≤ 102
        · have h4' : (c : Int) ≤ 102 := by omega
          have e : (c : Int) - 97 = ((c - 97 : Nat) : Int) := by omega
          have e2 : ((c - 97 : Nat) : Int) + 10 = ((c - 87 : Nat) : Int) := by omega
          rw [if_pos ⟨h3, h4⟩] at h
          simp (disch := omega) only [kB, kcx, kdm, kdn, kel, aop, resultsL, resultOf, Nat.reduceEqDiff, reduceCtorEq, eq1, apartOK, apart2, AObj.live, Int.reduceEq, Int.reduceLT, Int.reduceLE, Int.reduceAdd, Int.reduceSub, Int.reduceMul, Int.reduceToNat, cutCells, Nat.reduceAdd, Nat.reduceLeDiff, Nat.reduceLT, Nat.reduceMul, Nat.reduceSub, h1', h2', h3', h4', e, e2, wr_i32, wr_u64]
          exact h
        · have h4' : ¬ (c : Int) ≤ 102 := by omega
          rw [if_neg (by omega)] at h
          simp (disch := omega) only [kB, kcx, kdm, kdn, kel, aop, resultsL, resultOf, Nat.reduceEqDiff, reduceCtorEq, eq1, apartOK, apart2, AObj.live, Int.reduceEq, Int.reduceLT, Int.reduceLE, Int.reduceAdd, Int.reduceSub, Int.reduceMul, Int.reduceToNat, cutCells, Nat.reduceAdd, Nat.reduceLeDiff, Nat.reduceLT, Nat.reduceMul, Nat.reduceSub, h1', h2', h3', h4']
          exact h
      · have h3' : ¬ (97 : Int) ≤ (c : Int) := by omega
        rw [if_neg (by omega)] at h
        simp (disch := omega) only [kB, kcx, kdm, kdn, kel, aop, resultsL, resultOf, Nat.reduceEqDiff, reduceCtorEq, eq1, apartOK, apart2, AObj.live, Int.reduceEq, Int.reduceLT, Int.reduceLE, Int.reduceAdd, Int.reduceSub, Int.reduceMul, Int.reduceToNat, cutCells, Nat.reduceAdd, Nat.reduceLeDiff, Nat.reduceLT, Nat.reduceMul, Nat.reduceSub, h1', h2', h3']
        exact h
  · have h1' : ¬ (48 : Int) ≤ (c : Int) := by omega
    have h3' : ¬ (97 : Int) ≤ (c : Int) := by omega
    rw [if_neg (by omega), if_neg (by omega)] at h
    simp (disch := omega) only [kB, kcx, kdm, kdn, kel, aop, resultsL, resultOf, Nat.reduceEqDiff, reduceCtorEq, eq1, apartOK, apart2, AObj.live, Int.reduceEq, Int.reduceLT, Int.reduceLE, Int.reduceAdd, Int.reduceSub, Int.reduceMul, Int.reduceToNat, cutCells, Nat.reduceAdd, Nat.reduceLeDiff, Nat.reduceLT, Nat.reduceMul, Nat.reduceSub, h1', h3']
    exact h

theorem num_arith {m b d : Nat} (hm : m < 2 ^ 128) (hb : b ≤ 16) (hd : d < b) :
    ((m / W64 * b / 18446744073709551616 = 0 ∧ (m / W64 * b % 18446744073709551616 + m % W64 * b / 18446744073709551616 + (m % W64 * b % 18446744073709551616 + d) / 18446744073709551616) / 18446744073709551616 = 0) ↔ m * b + d < 2 ^ 128) ∧
    (m / W64 * b % 18446744073709551616 + m % W64 * b / 18446744073709551616 + (m % W64 * b % 18446744073709551616 + d) / 18446744073709551616) % 18446744073709551616 = ((m * b + d) % 2 ^ 128) / W64 ∧
    (m % W64 * b % 18446744073709551616 + d) % 18446744073709551616 = ((m * b + d) % 2 ^ 128) % W64 := by
  have h1 := hi_lt hm
  have h2 := lo_lt m
  have e := Nat.div_add_mod m W64
  rw [W64_eq] at *
  generalize m / 18446744073709551616 = A at *
  generalize m % 18446744073709551616 = B at *
  have e2 : m * b = A * b * 18446744073709551616 + B * b := by rw [← e, Nat.add_mul, Nat.mul_comm 18446744073709551616 A, Nat.mul_right_comm]
  have h3 : A * b ≤ 18446744073709551615 * 16 := Nat.mul_le_mul (by omega) (by omega)
  have h4 : B * b ≤ 18446744073709551615 * 16 := Nat.mul_le_mul (by omega) (by omega)
  rw [e2]
  generalize A * b = p at *
  generalize B * b = q at *
  have e3 : (2 : Nat) ^ 128 = 340282366920938463463374607431768211456 := rfl
  rw [e3]
  omega

/-- A rune is small. -/
theorem decode_lt (s : ByteArray) (i : Nat) : (Utf8.decode s i).1 < 2147483648 := by
  have h0 := (s.get! (i + 0)).toNat_lt
  have h1 := (s.get! (i + 1)).toNat_lt
  have h2 := (s.get! (i + 2)).toNat_lt
  have h3 := (s.get! (i + 3)).toNat_lt
  have hr : Utf8.runeError < 2147483648 := by decide
  unfold Utf8.decode
  dsimp only
  (repeat' split) <;> first | exact hr | (dsimp only; omega)

def nmI (l : List UInt8) (b b4 b30 : Nat) (F : Heap) : Nat → Env → Heap → Prop := fun z e H' =>
  ∃ (pos a : Nat), pos ≤ l.length ∧ z = l.length - pos ∧ numF b 0 l = numF b a (l.drop pos) ∧ H' = F ++ [rowU (a % 2 ^ 128), .iter (bs l) pos] ∧
    (∃ x : Nat → Value, e = [x 0, .int .u64 (b : Int), x 2, x 3, .pointer (some ⟨b4, 0, none⟩), .bool (decide (a < 2 ^ 128)), x 6, x 7, x 8, x 9, x 10, x 11, x 12, x 13, x 14, x 15, x 16, x 17, x 18, x 19, x 20, x 21, x 22, x 23, x 24, x 25, x 26, x 27, x 28, x 29, .pointer (some ⟨b30, 0, none⟩), x 31, x 32, x 33, x 34, x 35, x 36, x 37, x 38, x 39, x 40, x 41, x 42, x 43, x 44, x 45, x 46, x 47, x 48, x 49, x 50, x 51, x 52, x 53, x 54, x 55, x 56, x 57, x 58, x 59, x 60, x 61, x 62, x 63, x 64, x 65, x 66, x 67, x 68, x 69, x 70, x 71, x 72, x 73, x 74, x 75, x 76, x 77, x 78, x 79, x 80])

abbrev QN (R : FRes → Heap → Prop) (H : Heap) : Post := retK [.cellN 4 2, .tmp 5, .tmp 6] (fun r H1 => ∃ v, r = .ret v ∧ (∃ g, H1 = H ++ g) ∧ Scoped H.length v ∧ R (.ret v) H)

set_option maxHeartbeats 4000000 in
theorem num_rest {l : List UInt8} {b : Nat} (hb : base3 b) {e : Env} (he : (∃ x : Nat → Value, e = [.string (bs l), .int .u64 (b : Int), x 2, x 3, .pointer (some ⟨H.length, 0, none⟩), x 5, x 6, x 7, x 8, x 9, x 10, x 11, x 12, x 13, x 14, x 15, x 16, x 17, x 18, x 19, x 20, x 21, x 22, x 23, x 24, x 25, x 26, x 27, x 28, x 29, x 30, x 31, x 32, x 33, x 34, x 35, x 36, x 37, x 38, x 39, x 40, x 41, x 42, x 43, x 44, x 45, x 46, x 47, x 48, x 49, x 50, x 51, x 52, x 53, x 54, x 55, x 56, x 57, x 58, x 59, x 60, x 61, x 62, x 63, x 64, x 65, x 66, x 67, x 68, x 69, x 70, x 71, x 72, x 73, x 74, x 75, x 76, x 77, x 78, x 79, x 80])) (h : R (.ret (numT (numF b 0 l))) H) :
    WC T (g52.body.at [1, 1]) e (H ++ [.row [.int .u64 0, .int .u64 0] 0 true]) (QN R H) := by
  obtain ⟨hb2, hb16⟩ := base3_lt hb
  obtain ⟨y, rfl⟩ := he
  simp only [AFunc.body, g52, ACode.at]
  simp (disch := omega) only [kB, kcx, kdm, kdn, kel, aop, resultsL, resultOf, Nat.reduceEqDiff, reduceCtorEq, eq1, apartOK, apart2, AObj.live, Int.reduceEq, Int.reduceLT, Int.reduceLE, Int.reduceAdd, Int.reduceSub, Int.reduceMul, Int.reduceToNat, cutCells, Nat.reduceAdd, Nat.reduceLeDiff, Nat.reduceLT, Nat.reduceMul, Nat.reduceSub]
  refine WLoop.inv (nmI l b H.length (H.length + 1) H) ?_ l.length _ _ ⟨0, 0, Nat.zero_le _, rfl, rfl, rfl, by exact ex_env rfl⟩
  rintro z e H' ⟨pos, a, hpos, rfl, hf, rfl, ⟨x, rfl⟩⟩
  by_cases hlt : pos < l.length
  · have hbl : l[pos]? = some l[pos] := by simp [hlt]
    have hdrop : l.drop pos = l[pos] :: l.drop (pos + 1) := List.drop_eq_getElem_cons hlt
    rw [hdrop, numF] at hf
    by_cases hlow : l[pos].toNat < 128
    · have hdc := decode_low hbl hlow
      have e0 : (((l[pos].toNat, 1) : Nat × Nat).1 : Int) = (l[pos].toNat : Int) := rfl
      simp (disch := omega) only [kB, kcx, kdm, kdn, kel, aop, resultsL, resultOf, Nat.reduceEqDiff, reduceCtorEq, eq1, apartOK, apart2, AObj.live, Int.reduceEq, Int.reduceLT, Int.reduceLE, Int.reduceAdd, Int.reduceSub, Int.reduceMul, Int.reduceToNat, cutCells, Nat.reduceAdd, Nat.reduceLeDiff, Nat.reduceLT, Nat.reduceMul, Nat.reduceSub, hlt, hdc]
      refine worth_s (by omega) ?_
      by_cases hd : worthN l[pos].toNat < b
      · rw [if_pos hd] at hf
        have c1 : ¬ (b : Int) ≤ (worthN l[pos].toNat : Int) := by omega
        have hm : a % 2 ^ 128 < 2 ^ 128 := Nat.mod_lt _ (by decide)
        obtain ⟨ar1, ar2, ar3⟩ := num_arith hm hb16 hd
        have hA := hi_lt hm
        have hB := lo_lt (a % 2 ^ 128)
        have hnext : (a % 2 ^ 128 * b + worthN l[pos].toNat) % 2 ^ 128 = (a * b + worthN l[pos].toNat) % 2 ^ 128 := by
          rw [Nat.add_mod, Nat.mod_mul_mod, ← Nat.add_mod]
        have hq : a % 2 ^ 128 / W64 * b ≤ 18446744073709551615 * 16 := Nat.mul_le_mul (by omega) hb16
        have hq2 : a % 2 ^ 128 % W64 * b ≤ 18446744073709551615 * 16 := Nat.mul_le_mul (by omega) hb16
        rw [hnext] at ar2 ar3
        generalize hd2 : worthN l[pos].toNat = d at *
        have hmono : ¬ a < 2 ^ 128 → ¬ a * b + d < 2 ^ 128 := fun q => by
          have : a * 1 ≤ a * b := Nat.mul_le_mul_left _ (by omega)
          omega
        have hcarry : (a % 2 ^ 128 % W64 * b % 18446744073709551616 + d) / 18446744073709551616 ≤ 1 := by omega
        simp (disch := omega) only [kB, kcx, kdm, kdn, kel, aop, resultsL, resultOf, Nat.reduceEqDiff, reduceCtorEq, eq1, apartOK, apart2, AObj.live, Int.reduceEq, Int.reduceLT, Int.reduceLE, Int.reduceAdd, Int.reduceSub, Int.reduceMul, Int.reduceToNat, cutCells, Nat.reduceAdd, Nat.reduceLeDiff, Nat.reduceLT, Nat.reduceMul, Nat.reduceSub, c1]
        refine mul64_s hB (by omega) ?_
        simp (disch := omega) only [kB, kcx, kdm, kdn, kel, aop, resultsL, resultOf, Nat.reduceEqDiff, reduceCtorEq, eq1, apartOK, apart2, AObj.live, Int.reduceEq, Int.reduceLT, Int.reduceLE, Int.reduceAdd, Int.reduceSub, Int.reduceMul, Int.reduceToNat, cutCells, Nat.reduceAdd, Nat.reduceLeDiff, Nat.reduceLT, Nat.reduceMul, Nat.reduceSub]
        refine mul64_s hA (by omega) ?_
        simp (disch := omega) only [kB, kcx, kdm, kdn, kel, aop, resultsL, resultOf, Nat.reduceEqDiff, reduceCtorEq, eq1, apartOK, apart2, AObj.live, Int.reduceEq, Int.reduceLT, Int.reduceLE, Int.reduceAdd, Int.reduceSub, Int.reduceMul, Int.reduceToNat, cutCells, Nat.reduceAdd, Nat.reduceLeDiff, Nat.reduceLT, Nat.reduceMul, Nat.reduceSub]
        refine add64_s0 ?_
        simp (disch := omega) only [kB, kcx, kdm, kdn, kel, aop, resultsL, resultOf, Nat.reduceEqDiff, reduceCtorEq, eq1, apartOK, apart2, AObj.live, Int.reduceEq, Int.reduceLT, Int.reduceLE, Int.reduceAdd, Int.reduceSub, Int.reduceMul, Int.reduceToNat, cutCells, Nat.reduceAdd, Nat.reduceLeDiff, Nat.reduceLT, Nat.reduceMul, Nat.reduceSub]
        refine add64_s hcarry ?_
        have stepR : (.row [.int .u64 (((a % 2 ^ 128 / W64 * b % 18446744073709551616 + a % 2 ^ 128 % W64 * b / 18446744073709551616 + (a % 2 ^ 128 % W64 * b % 18446744073709551616 + d) / 18446744073709551616) % 18446744073709551616 : Nat) : Int), .int .u64 (((a % 2 ^ 128 % W64 * b % 18446744073709551616 + d) % 18446744073709551616 : Nat) : Int)] 0 true : AObj) = rowU ((a * b + d) % 2 ^ 128) := by rw [rowU, ← ar2, ← ar3]
        by_cases hfa : a < 2 ^ 128
        · have f0 := decide_eq_true hfa
          have ha : a % 2 ^ 128 = a := Nat.mod_eq_of_lt hfa
          by_cases ho : a % 2 ^ 128 / W64 * b / 18446744073709551616 = 0
          · have ho' : ((a % 2 ^ 128 / W64 * b / 18446744073709551616 : Nat) : Int) = 0 := by omega
            by_cases hy : (a % 2 ^ 128 / W64 * b % 18446744073709551616 + a % 2 ^ 128 % W64 * b / 18446744073709551616 + (a % 2 ^ 128 % W64 * b % 18446744073709551616 + d) / 18446744073709551616) / 18446744073709551616 = 0
            · have hy' : (((a % 2 ^ 128 / W64 * b % 18446744073709551616 + a % 2 ^ 128 % W64 * b / 18446744073709551616 + (a % 2 ^ 128 % W64 * b % 18446744073709551616 + d) / 18446744073709551616) / 18446744073709551616 : Nat) : Int) = 0 := by omega
              have hlt2 : a * b + d < 2 ^ 128 := by have q := ar1.1 ⟨ho, hy⟩; rwa [ha] at q
              simp (disch := omega) only [kB, kcx, kdm, kdn, kel, aop, resultsL, resultOf, Nat.reduceEqDiff, reduceCtorEq, eq1, apartOK, apart2, AObj.live, Int.reduceEq, Int.reduceLT, Int.reduceLE, Int.reduceAdd, Int.reduceSub, Int.reduceMul, Int.reduceToNat, cutCells, Nat.reduceAdd, Nat.reduceLeDiff, Nat.reduceLT, Nat.reduceMul, Nat.reduceSub, f0, ho', hy']
              refine ⟨l.length - (pos + 1), by omega, pos + 1, a * b + d, by omega, rfl, hf, by rw [stepR], ?_⟩
              rw [decide_eq_true hlt2]
              exact ex_env rfl
            · have hy' : ¬ (((a % 2 ^ 128 / W64 * b % 18446744073709551616 + a % 2 ^ 128 % W64 * b / 18446744073709551616 + (a % 2 ^ 128 % W64 * b % 18446744073709551616 + d) / 18446744073709551616) / 18446744073709551616 : Nat) : Int) = 0 := by omega
              have hge : ¬ a * b + d < 2 ^ 128 := fun q => hy (ar1.2 (by rw [ha]; exact q)).2
              simp (disch := omega) only [kB, kcx, kdm, kdn, kel, aop, resultsL, resultOf, Nat.reduceEqDiff, reduceCtorEq, eq1, apartOK, apart2, AObj.live, Int.reduceEq, Int.reduceLT, Int.reduceLE, Int.reduceAdd, Int.reduceSub, Int.reduceMul, Int.reduceToNat, cutCells, Nat.reduceAdd, Nat.reduceLeDiff, Nat.reduceLT, Nat.reduceMul, Nat.reduceSub, f0, ho', hy']
              refine ⟨l.length - (pos + 1), by omega, pos + 1, a * b + d, by omega, rfl, hf, by rw [stepR], ?_⟩
              rw [decide_eq_false hge]
              exact ex_env rfl
          · have ho' : ¬ ((a % 2 ^ 128 / W64 * b / 18446744073709551616 : Nat) : Int) = 0 := by omega
            have hge : ¬ a * b + d < 2 ^ 128 := fun q => ho (ar1.2 (by rw [ha]; exact q)).1
            simp (disch := omega) only [kB, kcx, kdm, kdn, kel, aop, resultsL, resultOf, Nat.reduceEqDiff, reduceCtorEq, eq1, apartOK, apart2, AObj.live, Int.reduceEq, Int.reduceLT, Int.reduceLE, Int.reduceAdd, Int.reduceSub, Int.reduceMul, Int.reduceToNat, cutCells, Nat.reduceAdd, Nat.reduceLeDiff, Nat.reduceLT, Nat.reduceMul, Nat.reduceSub, f0, ho']
            refine ⟨l.length - (pos + 1), by omega, pos + 1, a * b + d, by omega, rfl, hf, by rw [stepR], ?_⟩
            rw [decide_eq_false hge]
            exact ex_env rfl
        · have f0 := decide_eq_false hfa
          simp (disch := omega) only [kB, kcx, kdm, kdn, kel, aop, resultsL, resultOf, Nat.reduceEqDiff, reduceCtorEq, eq1, apartOK, apart2, AObj.live, Int.reduceEq, Int.reduceLT, Int.reduceLE, Int.reduceAdd, Int.reduceSub, Int.reduceMul, Int.reduceToNat, cutCells, Nat.reduceAdd, Nat.reduceLeDiff, Nat.reduceLT, Nat.reduceMul, Nat.reduceSub, f0]
          refine ⟨l.length - (pos + 1), by omega, pos + 1, a * b + d, by omega, rfl, hf, by rw [stepR], ?_⟩
          rw [decide_eq_false (hmono hfa)]
          exact ex_env rfl
      · rw [if_neg hd] at hf
        rw [hf, numT, bvA_zero] at h
        have c1 : (b : Int) ≤ (worthN l[pos].toNat : Int) := by omega
        simp (disch := omega) only [kB, kcx, kdm, kdn, kel, aop, resultsL, resultOf, Nat.reduceEqDiff, reduceCtorEq, eq1, apartOK, apart2, AObj.live, Int.reduceEq, Int.reduceLT, Int.reduceLE, Int.reduceAdd, Int.reduceSub, Int.reduceMul, Int.reduceToNat, cutCells, Nat.reduceAdd, Nat.reduceLeDiff, Nat.reduceLT, Nat.reduceMul, Nat.reduceSub, c1]
        exact ⟨_, rfl, ⟨_, rfl⟩, .tup3 (.closed rfl) (.closed rfl) (.closed rfl), h⟩
    · obtain ⟨hh1, -, -⟩ := decode_high hbl (by omega)
      have hw : ∀ c, 128 ≤ c → worthN c = 99 := fun c hc => by unfold worthN; rw [if_neg (by omega), if_neg (by omega)]
      have hr := decode_lt (bs l) pos
      rw [hw _ (by omega), if_neg (by omega)] at hf
      rw [hf, numT, bvA_zero] at h
      have c1 : (b : Int) ≤ ((99 : Nat) : Int) := by omega
      simp (disch := omega) only [kB, kcx, kdm, kdn, kel, aop, resultsL, resultOf, Nat.reduceEqDiff, reduceCtorEq, eq1, apartOK, apart2, AObj.live, Int.reduceEq, Int.reduceLT, Int.reduceLE, Int.reduceAdd, Int.reduceSub, Int.reduceMul, Int.reduceToNat, cutCells, Nat.reduceAdd, Nat.reduceLeDiff, Nat.reduceLT, Nat.reduceMul, Nat.reduceSub, hlt]
      refine worth_s hr ?_
      rw [hw _ hh1]
      simp (disch := omega) only [kB, kcx, kdm, kdn, kel, aop, resultsL, resultOf, Nat.reduceEqDiff, reduceCtorEq, eq1, apartOK, apart2, AObj.live, Int.reduceEq, Int.reduceLT, Int.reduceLE, Int.reduceAdd, Int.reduceSub, Int.reduceMul, Int.reduceToNat, cutCells, Nat.reduceAdd, Nat.reduceLeDiff, Nat.reduceLT, Nat.reduceMul, Nat.reduceSub, c1]
      exact ⟨_, rfl, ⟨_, rfl⟩, .tup3 (.closed rfl) (.closed rfl) (.closed rfl), h⟩
  · have hpl : pos = l.length := by omega
    subst hpl
    rw [List.drop_length, numF] at hf
    rw [hf, numT] at h
    simp (disch := omega) only [kB, kcx, kdm, kdn, kel, aop, resultsL, resultOf, Nat.reduceEqDiff, reduceCtorEq, eq1, apartOK, apart2, AObj.live, Int.reduceEq, Int.reduceLT, Int.reduceLE, Int.reduceAdd, Int.reduceSub, Int.reduceMul, Int.reduceToNat, cutCells, Nat.reduceAdd, Nat.reduceLeDiff, Nat.reduceLT, Nat.reduceMul, Nat.reduceSub, hlt]
    exact ⟨_, rfl, ⟨_, rfl⟩, .tup3 (.closed rfl) (.closed rfl) (.closed rfl), h⟩

set_option maxHeartbeats 4000000 in
theorem number_s {l : List UInt8} {b : Nat} (hb : base3 b) (h : R (.ret (numT (numI b l))) H) : WD T 52 [.string (bs l), .int .u64 (b : Int)] H R := by
  refine WD.gc0 (WD.of follows t52 (by simp) ?_)
  by_cases hn : l = []
  · have hI : numI b l = none := by rw [numI, if_pos (.inl hn)]
    rw [hI, numT, bvA_zero] at h
    have hd : decide (l = []) = true := decide_eq_true hn
    simp (disch := omega) only [kB, kcx, kdm, kdn, kel, aop, resultsL, resultOf, Nat.reduceEqDiff, reduceCtorEq, eq1, apartOK, apart2, AObj.live, Int.reduceEq, Int.reduceLT, Int.reduceLE, Int.reduceAdd, Int.reduceSub, Int.reduceMul, Int.reduceToNat, cutCells, Nat.reduceAdd, Nat.reduceLeDiff, Nat.reduceLT, Nat.reduceMul, Nat.reduceSub, hn, hd]
    exact ⟨_, rfl, ⟨_, rfl⟩, .tup3 (.closed rfl) (.closed rfl) (.closed rfl), h⟩
  · obtain ⟨c0, l0, hl0⟩ : ∃ c l0, l = c :: l0 := by cases l with
      | nil => exact absurd rfl hn
      | cons c l0 => exact ⟨c, l0, rfl⟩
    have hg0 : l[0]? = some c0 := by rw [hl0]; rfl
    have hhead : l.head? = some c0 := by rw [hl0]; rfl
    have c48 : c0 = 48 ↔ ((c0.toNat : Nat) : Int) = 48 := by
      constructor
      · rintro rfl; rfl
      · intro q
        refine UInt8.toNat_inj.1 ?_
        show c0.toNat = 48
        omega
    by_cases hlz : 1 < l.length ∧ c0 = 48
    · have hI : numI b l = none := by rw [numI, if_pos (.inr ⟨hlz.1, by rw [hhead, hlz.2]⟩)]
      rw [hI, numT, bvA_zero] at h
      have h1 : (1 : Int) < (l.length : Int) := by omega
      have h2 := c48.1 hlz.2
      simp (disch := omega) only [kB, kcx, kdm, kdn, kel, aop, resultsL, resultOf, Nat.reduceEqDiff, reduceCtorEq, eq1, apartOK, apart2, AObj.live, Int.reduceEq, Int.reduceLT, Int.reduceLE, Int.reduceAdd, Int.reduceSub, Int.reduceMul, Int.reduceToNat, cutCells, Nat.reduceAdd, Nat.reduceLeDiff, Nat.reduceLT, Nat.reduceMul, Nat.reduceSub, hn, h1, hg0, h2]
      exact ⟨_, rfl, ⟨_, rfl⟩, .tup3 (.closed rfl) (.closed rfl) (.closed rfl), h⟩
    · have hI : numI b l = numF b 0 l := by
        rw [numI, if_neg]
        rintro (q | ⟨q1, q2⟩)
        · exact hn q
        · rw [hhead] at q2
          exact hlz ⟨q1, Option.some.inj q2⟩
      rw [hI] at h
      obtain ⟨Z, hZ⟩ : ∃ Z, Z = WC T (g52.body.at [1, 1]) := ⟨_, rfl⟩
      have hrest : ∀ e, (∃ x : Nat → Value, e = [.string (bs l), .int .u64 (b : Int), x 2, x 3, .pointer (some ⟨H.length, 0, none⟩), x 5, x 6, x 7, x 8, x 9, x 10, x 11, x 12, x 13, x 14, x 15, x 16, x 17, x 18, x 19, x 20, x 21, x 22, x 23, x 24, x 25, x 26, x 27, x 28, x 29, x 30, x 31, x 32, x 33, x 34, x 35, x 36, x 37, x 38, x 39, x 40, x 41, x 42, x 43, x 44, x 45, x 46, x 47, x 48, x 49, x 50, x 51, x 52, x 53, x 54, x 55, x 56, x 57, x 58, x 59, x 60, x 61, x 62, x 63, x 64, x 65, x 66, x 67, x 68, x 69, x 70, x 71, x 72, x 73, x 74, x 75, x 76, x 77, x 78, x 79, x 80]) → Z e (H ++ [.row [.int .u64 0, .int .u64 0] 0 true]) (QN R H) := fun e he => by rw [hZ]; exact num_rest hb he h
      have hZ' := hZ.symm
      clear hZ
      simp only [AFunc.body, g52, ACode.at] at hZ'
      by_cases h1 : 1 < l.length
      · have h1' : (1 : Int) < (l.length : Int) := by omega
        have h2' : ¬ ((c0.toNat : Nat) : Int) = 48 := fun q => hlz ⟨h1, c48.2 q⟩
        simp (disch := omega) only [kB, kcx, kdm, kdn, kel, aop, resultsL, resultOf, Nat.reduceEqDiff, reduceCtorEq, eq1, apartOK, apart2, AObj.live, Int.reduceEq, Int.reduceLT, Int.reduceLE, Int.reduceAdd, Int.reduceSub, Int.reduceMul, Int.reduceToNat, cutCells, Nat.reduceAdd, Nat.reduceLeDiff, Nat.reduceLT, Nat.reduceMul, Nat.reduceSub, hZ', hn, h1', hg0, h2']
        exact hrest _ (by exact ex_env rfl)
      · have h1' : ¬ (1 : Int) < (l.length : Int) := by omega
        simp (disch := omega) only [kB, kcx, kdm, kdn, kel, aop, resultsL, resultOf, Nat.reduceEqDiff, reduceCtorEq, eq1, apartOK, apart2, AObj.live, Int.reduceEq, Int.reduceLT, Int.reduceLE, Int.reduceAdd, Int.reduceSub, Int.reduceMul, Int.reduceToNat, cutCells, Nat.reduceAdd, Nat.reduceLeDiff, Nat.reduceLT, Nat.reduceMul, Nat.reduceSub, hZ', hn, h1']
        exact hrest _ (by exact ex_env rfl)

end Go.Proofs.YtkhkmgcegicmoaaDoor.Ev

/- Where a sign stands; a text cut at a sign, and the library's iterator over its parts. -/
namespace Go.Proofs.YtkhkmgcegicmoaaDoor.Ev
set_option maxRecDepth 100000
set_option linter.unusedSimpArgs false
set_option linter.unusedVariables false
variable {R : FRes → Heap → Prop} {H : Heap}

/-- The first place of a byte. -/
def ixL (c : UInt8) : List UInt8 → Option Nat
  | [] => none
  | b :: l => if b = c then some 0 else (ixL c l).map (· + 1)
def ixI (c : UInt8) (l : List UInt8) : Int := match ixL c l with
  | some i => (i : Int)
  | none => -1
theorem ixL_some {c : UInt8} : ∀ {l : List UInt8} {i : Nat}, ixL c l = some i → l[i]? = some c ∧ ∀ j : Nat, j < i → l[j]? ≠ some c
  | [], i, h => by simp [ixL] at h
  | b :: l, i, h => by
    rw [ixL] at h
    split at h
    · rename_i q; cases h; exact ⟨by simp [q], fun j hj => by omega⟩
    · rename_i q
      rw [Option.map_eq_some_iff] at h
      obtain ⟨k, h1, rfl⟩ := h
      obtain ⟨h2, h3⟩ := ixL_some h1
      refine ⟨by simpa using h2, fun j hj => ?_⟩
      cases j with
      | zero => simpa using q
      | succ j => simpa using h3 j (by omega)
theorem ixL_none {c : UInt8} : ∀ {l : List UInt8}, ixL c l = none → ∀ j : Nat, l[j]? ≠ some c
  | [], h, j => by simp
  | b :: l, h, j => by
    rw [ixL] at h
    split at h
    · cases h
    · rename_i q
      cases j with
      | zero => simpa using q
      | succ j => simpa using ixL_none (by simpa using h) j
theorem firstIdx_ix (c : UInt8) (l : List UInt8) : firstIdx (bs l) c = ixI c l := by
  have hget : ∀ i, ((bs l)[i]! == c) = decide (l[i]? = some c) ∨ ¬ i < l.length := fun i => by
    by_cases hi : i < l.length
    · left
      have e : (bs l)[i]! = l[i] := by
        rw [getElem!_pos (bs l) i (by rw [bs_size]; exact hi)]
        rfl
      rw [e, List.getElem?_eq_getElem hi]
      rw [Bool.eq_iff_iff]
      simp
    · exact .inr hi
  unfold firstIdx ixI
  rw [bs_size]
  cases h : ixL c l with
  | none =>
    have h0 := ixL_none h
    have : (List.range l.length).find? (fun i => (bs l)[i]! == c) = none := by
      rw [List.find?_eq_none]
      intro x hx
      rcases hget x with q | q
      · rw [q]; simpa using h0 x
      · exact absurd (List.mem_range.1 hx) q
    rw [this]
  | some i =>
    obtain ⟨h1, h2⟩ := ixL_some h
    have hi : i < l.length := (List.getElem?_eq_some_iff.1 h1).1
    have : (List.range l.length).find? (fun i => (bs l)[i]! == c) = some i := by
      rw [List.find?_range_eq_some]
      refine ⟨?_, by simpa using hi, fun j hj => ?_⟩
      · rcases hget i with q | q
        · rw [q]; simpa using h1
        · exact absurd hi q
      · rcases hget j with q | q
        · rw [q]; simpa using h2 j hj
        · exact absurd (by omega) q
    rw [this]

/-- The parts of a text between signs. -/
def splitC (c : UInt8) : List UInt8 → List (List UInt8)
  | [] => [[]]
  | b :: l => if b = c then [] :: splitC c l else (b :: (splitC c l).headD []) :: (splitC c l).tail
theorem split_none {c : UInt8} : ∀ {l : List UInt8}, ixL c l = none → splitC c l = [l]
  | [], _ => rfl
  | b :: l, h => by
    rw [ixL] at h
    split at h
    · cases h
    · rename_i q
      rw [splitC, if_neg q, split_none (by simpa using h)]
      rfl
theorem split_some {c : UInt8} : ∀ {l : List UInt8} {i : Nat}, ixL c l = some i → splitC c l = l.take i :: splitC c (l.drop (i + 1))
  | [], i, h => by simp [ixL] at h
  | b :: l, i, h => by
    rw [ixL] at h
    split at h
    · rename_i q; cases h; rw [splitC, if_pos q]; rfl
    · rename_i q
      rw [Option.map_eq_some_iff] at h
      obtain ⟨k, h1, rfl⟩ := h
      rw [splitC, if_neg q, split_some h1]
      rfl

theorem index_s {l : List UInt8} {c : UInt8} (h : R (.ret (.int .i64 (ixI c l))) H) : WD T 88 [.string (bs l), .string (bs [c])] H R := by
  refine WD.of follows t88 (by simp) ?_
  simp (disch := omega) only [kB, kcx, kdm, kdn, kel, aop, resultsL, resultOf, Nat.reduceEqDiff, reduceCtorEq, eq1, apartOK, apart2, AObj.live, Int.reduceEq, Int.reduceLT, Int.reduceLE, Int.reduceAdd, Int.reduceSub, Int.reduceMul, Int.reduceToNat, cutCells, Nat.reduceAdd, Nat.reduceLeDiff, Nat.reduceLT, Nat.reduceMul, Nat.reduceSub]
  refine WD.of follows t90 (by simp) ?_
  have c10 : ¬ ((1 : Nat) : Int) = 0 := by decide
  have c11 : ((1 : Nat) : Int) = 1 := rfl
  by_cases he : [c] = l
  · subst he
    have e : ixI c [c] = 0 := by simp [ixI, ixL]
    rw [e] at h
    simp (disch := omega) only [kB, kcx, kdm, kdn, kel, aop, resultsL, resultOf, Nat.reduceEqDiff, reduceCtorEq, eq1, apartOK, apart2, AObj.live, Int.reduceEq, Int.reduceLT, Int.reduceLE, Int.reduceAdd, Int.reduceSub, Int.reduceMul, Int.reduceToNat, cutCells, Nat.reduceAdd, Nat.reduceLeDiff, Nat.reduceLT, Nat.reduceMul, Nat.reduceSub, c10, c11]
    exact h
  · simp (disch := omega) only [kB, kcx, kdm, kdn, kel, aop, resultsL, resultOf, Nat.reduceEqDiff, reduceCtorEq, eq1, apartOK, apart2, AObj.live, Int.reduceEq, Int.reduceLT, Int.reduceLE, Int.reduceAdd, Int.reduceSub, Int.reduceMul, Int.reduceToNat, cutCells, Nat.reduceAdd, Nat.reduceLeDiff, Nat.reduceLT, Nat.reduceMul, Nat.reduceSub, he, c10, c11]
    refine WD.of follows t91 (by simp) ?_
    simp (disch := omega) only [kB, kcx, kdm, kdn, kel, aop, resultsL, resultOf, Nat.reduceEqDiff, reduceCtorEq, eq1, apartOK, apart2, AObj.live, Int.reduceEq, Int.reduceLT, Int.reduceLE, Int.reduceAdd, Int.reduceSub, Int.reduceMul, Int.reduceToNat, cutCells, Nat.reduceAdd, Nat.reduceLeDiff, Nat.reduceLT, Nat.reduceMul, Nat.reduceSub]
    refine WD.ext table_ok (show Tab 95 = some (.ext ixb) from rfl) (v := .int .i64 (ixI c l)) ?_ ?_
    · simp only [ixb]
      rw [← firstIdx_ix]
      congr 3
      simp
    · simp (disch := omega) only [kB, kcx, kdm, kdn, kel, aop, resultsL, resultOf, Nat.reduceEqDiff, reduceCtorEq, eq1, apartOK, apart2, AObj.live, Int.reduceEq, Int.reduceLT, Int.reduceLE, Int.reduceAdd, Int.reduceSub, Int.reduceMul, Int.reduceToNat, cutCells, Nat.reduceAdd, Nat.reduceLeDiff, Nat.reduceLT, Nat.reduceMul, Nat.reduceSub]
      exact h

/-- What a round must leave. -/
def bodyS (N : Nat) (Q : Post) (e : Env) (I' : Heap → Prop) (p : Nat) (o : AObj) : Post := fun r _ K2 =>
  match r with
  | .norm => I' K2 ∧ N < K2.length ∧ hget K2 p = o
  | .ret => Q .ret e (K2.set N .dead) ∧ N < K2.length
  | .exit id => Q (.exit id) e (K2.set N .dead) ∧ N < K2.length
  | .pan _ => False

set_option maxHeartbeats 2000000 in
theorem split_range {c : UInt8} {l : List UInt8} {p1 p2 p3 : Nat} (g1 : hget H p1 = .row [.string (bs [c])] 0 true) (g2 : hget H p2 = .row [.string (bs l)] 0 true) (g3 : hget H p3 = .row [.int .i64 0] 0 true)
    (hlen : l.length ≤ 4611686018427387904) {ps : List Nat} (hps : ps.length = 1) {cz bd : ACode} {ev : Env} {Q : Post} (I : Nat → Heap → Prop)
    (hI0 : ∀ o, I 0 (H ++ [o])) (hset : ∀ i K o, I i K → I i (K.set H.length o)) (hset2 : ∀ i K t, I i K → I i (K.set p2 (.row [.string (bs t)] 0 true)))
    (hp : ∀ i K, I i K → hget K p1 = .row [.string (bs [c])] 0 true ∧ hget K p3 = .row [.int .i64 0] 0 true)
    (hbody : ∀ i K p, (splitC c l)[i]? = some p → H.length < K.length → I i K → WC T cz (putL ev ps [.string (bs p)]) K (asK T bd (bodyS H.length Q ev (I (i + 1)) p2 (hget K p2))))
    (hQ : ∀ K, I (splitC c l).length K → H.length < K.length → Q .norm ev K) :
    WRange T (.func (.func 86) #[] #[.pointer (some ⟨p1, 0, none⟩), .pointer (some ⟨p2, 0, none⟩), .pointer (some ⟨p3, 0, none⟩)]) ps cz bd ev H Q := by
  have l1 := hget_lt g1 rfl
  have l2 := hget_lt g2 rfl
  have l3 := hget_lt g3 rfl
  refine WRange.of t86 ?_
  obtain ⟨lp, hlp⟩ : ∃ lp, lp = AObj.loop T.P T.G .ready none ev ps cz bd := ⟨_, rfl⟩
  rw [← hlp]
  refine WD.of follows t86 (by simp) ?_
  have round : ∀ (i : Nat) (K : Heap) (p s : List UInt8) (Rr : FRes → Heap → Prop), (splitC c l)[i]? = some p → H.length < K.length → I i K → hget K H.length = lp → hget K p2 = .row [.string (bs s)] 0 true →
      (∀ K2, I (i + 1) K2 → H.length < K2.length → hget K2 H.length = lp → hget K2 p2 = .row [.string (bs s)] 0 true → Rr (.ret (.bool true)) K2) →
      (∀ K2, rangeK H.length ev Q (.ret (.tuple #[])) K2 → Rr (.ret (.bool false)) K2) → WY T H.length [.string (bs p)] K Rr := by
    intro i K p s Rr hpi hK hI hKl hKs ht hf
    subst hlp
    refine WY.of follows hKl (by simp [hps]) ?_
    have hh := hbody i (K.set H.length .dead) p hpi (by simpa using hK) (hset _ _ _ hI)
    rw [hget_ne (show H.length ≠ p2 by omega), hKs] at hh
    refine WC.mono hh ?_
    intro r e2 K2 hK2
    cases r with
    | ret => exact hK2
    | exit id => exact hK2
    | pan v => exact hK2
    | norm =>
    rw [asK_norm] at hK2 ⊢
    refine WC.mono hK2 ?_
    intro r e3 K3 hK3
    cases r with
    | pan v => exact hK3
    | norm =>
      obtain ⟨hI3, l3', hs3⟩ := hK3
      rw [endK_norm]
      exact ht _ (hset _ _ _ hI3) (by simpa using l3') (hget_set' l3') (by rw [hget_ne (show H.length ≠ p2 by omega)]; exact hs3)
    | ret =>
      obtain ⟨hq, l3'⟩ := hK3
      rw [endK_ret]
      refine hf _ (rangeK_of (st := .done) (pe := some none) (by simp) ?_ (hget_set' l3'))
      simpa [List.set_set] using hq
    | exit id =>
      obtain ⟨hq, l3'⟩ := hK3
      rw [endK_exit]
      refine hf _ (rangeK_of (st := .done) (pe := some (some id)) (by simp) ?_ (hget_set' l3'))
      simpa [List.set_set] using hq
  have fin : ∀ K2, I (splitC c l).length K2 → H.length < K2.length → hget K2 H.length = lp → rangeK H.length ev Q (.ret (.tuple #[])) K2 := by
    intro K2 hI hK hKl
    subst hlp
    refine rangeK_of (st := .ready) (pe := none) (by simp) ?_ hKl
    exact hQ _ (hset _ _ _ hI) (by simpa using hK)
  have a1 : hget (H ++ [lp]) p1 = .row [.string (bs [c])] 0 true := by rw [hget_old l1]; exact g1
  simp (disch := omega) only [kB, kcx, kdm, kdn, kel, aop, resultsL, resultOf, Nat.reduceEqDiff, reduceCtorEq, eq1, apartOK, apart2, AObj.live, Int.reduceEq, Int.reduceLT, Int.reduceLE, Int.reduceAdd, Int.reduceSub, Int.reduceMul, Int.reduceToNat, cutCells, Nat.reduceAdd, Nat.reduceLeDiff, Nat.reduceLT, Nat.reduceMul, Nat.reduceSub, a1]
  refine WLoop.inv (fun z e K => ∃ (i : Nat) (s : List UInt8), z = s.length ∧ s.length ≤ l.length ∧ (splitC c l).drop i = splitC c s ∧ I i K ∧ H.length < K.length ∧ hget K H.length = lp ∧ hget K p2 = .row [.string (bs s)] 0 true ∧
    (∃ x : Nat → Value, e = [.func (.yield H.length) #[] #[], .pointer (some ⟨p1, 0, none⟩), .pointer (some ⟨p2, 0, none⟩), .pointer (some ⟨p3, 0, none⟩), x 4, x 5, x 6, x 7, x 8, x 9, x 10, x 11, x 12, x 13, x 14, x 15, x 16, x 17, x 18, x 19, x 20, x 21, x 22, x 23, x 24, x 25, x 26, x 27, x 28, x 29, x 30, x 31, x 32, x 33, x 34, x 35, x 36, x 37, x 38, x 39, x 40, x 41, x 42, x 43, x 44, x 45, x 46, x 47, x 48, x 49, x 50, x 51])) ?_ l.length _ _ ⟨0, l, rfl, Nat.le_refl _, rfl, hI0 lp, by simp, hget_last _ _, by rw [hget_old l2]; exact g2, by exact ex_env rfl⟩
  rintro z e K ⟨i, s, rfl, hsl, hdrop, hI, hK, hKl, hKs, ⟨x, rfl⟩⟩
  obtain ⟨b1, b3⟩ := hp i K hI
  have q1 := hget_lt b1 rfl
  have q2 := hget_lt hKs rfl
  have q3 := hget_lt b3 rfl
  cases hix : ixL c s with
  | none =>
    have e0 : ixI c s = -1 := by rw [ixI, hix]
    rw [split_none hix] at hdrop
    have hi : i < (splitC c l).length := by
      rcases Nat.lt_or_ge i (splitC c l).length with q | q
      · exact q
      · rw [List.drop_eq_nil_of_le q] at hdrop; cases hdrop
    have hgi : (splitC c l)[i]? = some s := by
      have := congrArg List.head? hdrop
      simpa [List.head?_drop] using this
    have hlast : (splitC c l).length = i + 1 := by
      have := congrArg List.length hdrop
      simp at this
      omega
    have cm : (-1 : Int) < 0 := by decide
    simp (disch := omega) only [kB, kcx, kdm, kdn, kel, aop, resultsL, resultOf, Nat.reduceEqDiff, reduceCtorEq, eq1, apartOK, apart2, AObj.live, Int.reduceEq, Int.reduceLT, Int.reduceLE, Int.reduceAdd, Int.reduceSub, Int.reduceMul, Int.reduceToNat, cutCells, Nat.reduceAdd, Nat.reduceLeDiff, Nat.reduceLT, Nat.reduceMul, Nat.reduceSub, b1, b3, hKs]
    refine index_s ?_
    rw [e0]
    simp (disch := omega) only [kB, kcx, kdm, kdn, kel, aop, resultsL, resultOf, Nat.reduceEqDiff, reduceCtorEq, eq1, apartOK, apart2, AObj.live, Int.reduceEq, Int.reduceLT, Int.reduceLE, Int.reduceAdd, Int.reduceSub, Int.reduceMul, Int.reduceToNat, cutCells, Nat.reduceAdd, Nat.reduceLeDiff, Nat.reduceLT, Nat.reduceMul, Nat.reduceSub, cm, b1, b3, hKs]
    refine round i K s s _ hgi hK hI hKl hKs (fun K2 h1 h2 h3 h4 => ?_) (fun K2 h1 => ?_)
    · simp (disch := omega) only [kB, kcx, kdm, kdn, kel, aop, resultsL, resultOf, Nat.reduceEqDiff, reduceCtorEq, eq1, apartOK, apart2, AObj.live, Int.reduceEq, Int.reduceLT, Int.reduceLE, Int.reduceAdd, Int.reduceSub, Int.reduceMul, Int.reduceToNat, cutCells, Nat.reduceAdd, Nat.reduceLeDiff, Nat.reduceLT, Nat.reduceMul, Nat.reduceSub]
      exact fin K2 (by rw [hlast]; exact h1) h2 h3
    · simp (disch := omega) only [kB, kcx, kdm, kdn, kel, aop, resultsL, resultOf, Nat.reduceEqDiff, reduceCtorEq, eq1, apartOK, apart2, AObj.live, Int.reduceEq, Int.reduceLT, Int.reduceLE, Int.reduceAdd, Int.reduceSub, Int.reduceMul, Int.reduceToNat, cutCells, Nat.reduceAdd, Nat.reduceLeDiff, Nat.reduceLT, Nat.reduceMul, Nat.reduceSub]
      exact h1
  | some j =>
    have e0 : ixI c s = (j : Int) := by rw [ixI, hix]
    obtain ⟨hj1, hj2⟩ := ixL_some hix
    have hj : j < s.length := (List.getElem?_eq_some_iff.1 hj1).1
    rw [split_some hix] at hdrop
    have hgi : (splitC c l)[i]? = some (s.take j) := by
      have := congrArg List.head? hdrop
      simpa [List.head?_drop] using this
    have hnext : (splitC c l).drop (i + 1) = splitC c (s.drop (j + 1)) := by
      have := congrArg List.tail hdrop
      simpa [List.tail_drop] using this
    have cj : ¬ (j : Int) < 0 := by omega
    have ej : (j : Int) + 0 = (j : Int) := by omega
    have ej1 : (j : Int) + ((1 : Nat) : Int) = ((j + 1 : Nat) : Int) := by omega
    simp (disch := omega) only [kB, kcx, kdm, kdn, kel, aop, resultsL, resultOf, Nat.reduceEqDiff, reduceCtorEq, eq1, apartOK, apart2, AObj.live, Int.reduceEq, Int.reduceLT, Int.reduceLE, Int.reduceAdd, Int.reduceSub, Int.reduceMul, Int.reduceToNat, cutCells, Nat.reduceAdd, Nat.reduceLeDiff, Nat.reduceLT, Nat.reduceMul, Nat.reduceSub, b1, b3, hKs]
    refine index_s ?_
    rw [e0]
    simp (disch := omega) only [kB, kcx, kdm, kdn, kel, aop, resultsL, resultOf, Nat.reduceEqDiff, reduceCtorEq, eq1, apartOK, apart2, AObj.live, Int.reduceEq, Int.reduceLT, Int.reduceLE, Int.reduceAdd, Int.reduceSub, Int.reduceMul, Int.reduceToNat, cutCells, Nat.reduceAdd, Nat.reduceLeDiff, Nat.reduceLT, Nat.reduceMul, Nat.reduceSub, cj, b1, b3, hKs, ej, wr_i64]
    refine round i K (s.take j) s _ hgi hK hI hKl hKs (fun K2 h1 h2 h3 h4 => ?_) (fun K2 h1 => ?_)
    · obtain ⟨d1, d3⟩ := hp _ K2 h1
      have r2 := hget_lt h4 rfl
      simp (disch := omega) only [kB, kcx, kdm, kdn, kel, aop, resultsL, resultOf, Nat.reduceEqDiff, reduceCtorEq, eq1, apartOK, apart2, AObj.live, Int.reduceEq, Int.reduceLT, Int.reduceLE, Int.reduceAdd, Int.reduceSub, Int.reduceMul, Int.reduceToNat, cutCells, Nat.reduceAdd, Nat.reduceLeDiff, Nat.reduceLT, Nat.reduceMul, Nat.reduceSub, h4, d1, ej1, wr_i64]
      exact ⟨(s.drop (j + 1)).length, by simp; omega, i + 1, s.drop (j + 1), rfl, by simp; omega, hnext, hset2 _ _ _ h1, h2, by rw [hget_ne (show p2 ≠ H.length by omega)]; exact h3, rfl, by exact ex_env rfl⟩
    · simp (disch := omega) only [kB, kcx, kdm, kdn, kel, aop, resultsL, resultOf, Nat.reduceEqDiff, reduceCtorEq, eq1, apartOK, apart2, AObj.live, Int.reduceEq, Int.reduceLT, Int.reduceLE, Int.reduceAdd, Int.reduceSub, Int.reduceMul, Int.reduceToNat, cutCells, Nat.reduceAdd, Nat.reduceLeDiff, Nat.reduceLT, Nat.reduceMul, Nat.reduceSub]
      exact h1

end Go.Proofs.YtkhkmgcegicmoaaDoor.Ev

/- Numbers between signs, as bytes: the program's pieces. -/
namespace Go.Proofs.YtkhkmgcegicmoaaDoor.Ev
set_option maxRecDepth 100000
set_option linter.unusedSimpArgs false
set_option linter.unusedVariables false
variable {R : FRes → Heap → Prop} {H : Heap}

theorem numF_lt {b : Nat} (hb : 0 < b) : ∀ (l : List UInt8) (a v : Nat), numF b a l = some v → v + 1 ≤ (a + 1) * b ^ l.length
  | [], a, v, h => by rw [numF] at h; cases h; simp
  | c :: l, a, v, h => by
    rw [numF] at h
    split at h
    · rename_i hd
      have := numF_lt hb l _ v h
      rw [List.length_cons, Nat.pow_succ]
      refine Nat.le_trans this ?_
      rw [Nat.mul_comm (b ^ l.length) b, ← Nat.mul_assoc]
      refine Nat.mul_le_mul_right _ ?_
      rw [Nat.add_mul]
      omega
    · cases h
theorem numI_lt {b : Nat} (hb : 0 < b) {l : List UInt8} {v : Nat} (h : numI b l = some v) : v < b ^ l.length := by
  rw [numI] at h
  split at h
  · cases h
  · have := numF_lt hb l 0 v h
    omega

/-- The text of a part that is read. -/
def pcQ (b : Nat) (p : List UInt8) : List UInt8 := if b = 16 then 49 :: p else p
/-- A part as a byte. -/
def pc (b : Nat) (p : List UInt8) : Option UInt8 :=
  if b = 16 ∧ p.length ≠ 2 then none else
  match numI b (pcQ b p) with
  | some v => if (pcQ b p).length ≤ 3 ∧ ¬ (b = 10 ∧ 255 < v) then some (UInt8.ofNat v) else none
  | none => none
/-- The bytes of a text's parts. -/
def pcsO (b : Nat) (c : UInt8) (most : Nat) (l : List UInt8) : Option (List UInt8) :=
  match (splitC c l).mapM (pc b) with
  | some out => if out.length = most then some out else none
  | none => none

/-- The body of a range. -/
def rngBody : ACode → ACode
  | .range _ _ _ bd => bd
  | c => c

theorem bodyS_norm (N : Nat) (Q : Post) (e : Env) (I' : Heap → Prop) (p : Nat) (o : AObj) (e2 : Env) (K2 : Heap) : bodyS N Q e I' p o .norm e2 K2 = (I' K2 ∧ N < K2.length ∧ hget K2 p = o) := rfl
theorem bodyS_ret (N : Nat) (Q : Post) (e : Env) (I' : Heap → Prop) (p : Nat) (o : AObj) (e2 : Env) (K2 : Heap) : bodyS N Q e I' p o .ret e2 K2 = (Q .ret e (K2.set N .dead) ∧ N < K2.length) := rfl

theorem set_same {H : Heap} {b : Nat} {o : AObj} (h : hget H b = o) : H.set b o = H := by
  refine List.ext_getElem? fun i => ?_
  by_cases hi : b = i
  · subst hi
    by_cases hb : b < H.length
    · rw [List.getElem?_set_self hb, ← h]
      simp [hget, hb]
    · rw [List.getElem?_eq_none (by simpa using hb), List.getElem?_eq_none (by simpa using hb)]
  · rw [List.getElem?_set_ne hi]

set_option maxHeartbeats 2000000 in
theorem pcs_tail {b most n0 : Nat} (hb : b = 10 ∨ b = 16) {q : List UInt8} {K : Heap} {sv : Value} {out : List UInt8} {Q : Post} (hm : out.length < 100) (hn : n0 + 9 ≤ K.length)
    (h6 : hget K n0 = .row [.int .u64 (b : Int)] 0 true) (h7 : hget K (n0 + 1) = .row [.int .i64 (most : Int)] 0 true) (h8 : hget K (n0 + 2) = .row [.string (bs [])] 0 true) (h9 : hget K (n0 + 3) = .row [.bool false] 0 true)
    (h10 : hget K (n0 + 4) = .row [sv] 0 true) (hB : BL (n0 + 9) K sv out)
    {e : Env} (he : (∃ x : Nat → Value, e = [x 0, x 1, x 2, x 3, x 4, x 5, .pointer (some ⟨n0, 0, none⟩), .pointer (some ⟨n0 + 1, 0, none⟩), .pointer (some ⟨n0 + 2, 0, none⟩), .pointer (some ⟨n0 + 3, 0, none⟩), .pointer (some ⟨n0 + 4, 0, none⟩), .string (bs q), x 12, x 13, x 14, x 15, x 16, x 17, x 18, x 19, x 20, x 21, x 22, x 23, x 24, x 25, x 26, x 27, x 28, x 29, x 30, x 31, x 32, x 33, x 34, x 35, x 36, x 37, x 38, x 39, x 40, x 41, x 42, x 43, x 44, x 45, x 46, x 47, x 48, x 49, x 50, x 51, x 52, x 53, x 54, x 55, x 56, x 57, x 58, x 59, x 60, x 61, x 62, x 63, x 64, x 65, x 66]))
    (hF : (∀ v, numI b q = some v → q.length ≤ 3 → ¬ (b = 10 ∧ 255 < v) → out.length = most) → ∀ e' K', KP (n0 + 9) K K' → Q .ret e' K')
    (hS : ∀ v, numI b q = some v → q.length ≤ 3 → ¬ (b = 10 ∧ 255 < v) → out.length ≠ most → ∀ e' K' sv', n0 + 9 ≤ K'.length → (∀ c, c < n0 + 9 → c ≠ n0 + 4 → hget K' c = hget K c) → hget K' (n0 + 4) = .row [sv'] 0 true → BL (n0 + 9) K' sv' (out ++ [UInt8.ofNat v]) → Q .norm e' K') :
    WC T ((rngBody (g53.body.at [1, 1, 0, 1, 0])).at [0, 1]) e K Q := by
  obtain ⟨x, rfl⟩ := he
  have hb3 : base3 b := by rcases hb with rfl | rfl <;> simp [base3]
  simp only [AFunc.body, g53, ACode.at, rngBody]
  simp (disch := omega) only [kB, kcx, kdm, kdn, kel, aop, resultsL, resultOf, Nat.reduceEqDiff, reduceCtorEq, eq1, apartOK, apart2, AObj.live, Int.reduceEq, Int.reduceLT, Int.reduceLE, Int.reduceAdd, Int.reduceSub, Int.reduceMul, Int.reduceToNat, cutCells, Nat.reduceAdd, Nat.reduceLeDiff, Nat.reduceLT, Nat.reduceMul, Nat.reduceSub, h6]
  refine number_s hb3 ?_
  have s8 := set_same h8
  have s9 := set_same h9
  have lB : out.length + 1 ≤ roomMax := by simp only [roomMax]; omega
  cases hv : numI b q with
  | none =>
    rw [numT]
    have hF' := hF (fun v h => by rw [hv] at h; cases h)
    simp (disch := omega) only [kB, kcx, kdm, kdn, kel, aop, resultsL, resultOf, Nat.reduceEqDiff, reduceCtorEq, eq1, apartOK, apart2, AObj.live, Int.reduceEq, Int.reduceLT, Int.reduceLE, Int.reduceAdd, Int.reduceSub, Int.reduceMul, Int.reduceToNat, cutCells, Nat.reduceAdd, Nat.reduceLeDiff, Nat.reduceLT, Nat.reduceMul, Nat.reduceSub, h8, h9, s8, s9]
    exact hF' _ _ (KP.app (by omega))
  | some v =>
    rw [numT]
    by_cases hq : q.length ≤ 3
    · have hq' : ¬ (3 : Int) < (q.length : Int) := by omega
      have hv3 : v < 4096 := by
        have h1 := numI_lt (by rcases hb with rfl | rfl <;> omega) hv
        refine Nat.lt_of_lt_of_le h1 ?_
        refine Nat.le_trans (Nat.pow_le_pow_right (by rcases hb with rfl | rfl <;> omega) hq) ?_
        rcases hb with rfl | rfl <;> decide
      have e1 : v % 2 ^ 128 = v := Nat.mod_eq_of_lt (by omega)
      have e2 : v % W64 = v := by rw [W64_eq]; omega
      rw [e1]
      have good : ¬ (b = 10 ∧ 255 < v) → out.length ≠ most → ∃ sv' K', appendV (K ++ [.row [.int .u64 ((v / W64 : Nat) : Int), .int .u64 (v : Int)] 0 true, .row [.int .u8 ((UInt8.ofNat v).toNat : Int)] 1 true]) 1 1 sv (.slice (some ⟨K.length + 1, 0, none⟩) 1 1) = .val sv' K' ∧ BL (n0 + 9) K' sv' (out ++ [UInt8.ofNat v]) ∧ KP (n0 + 9) K K' := by
        intro _ _
        obtain ⟨sv', K', a1, a2, a3⟩ := (hB.app (G := [.row [.int .u64 ((v / W64 : Nat) : Int), .int .u64 (v : Int)] 0 true])).push (by simp; omega) (UInt8.ofNat v) lB
        refine ⟨sv', K', ?_, a2, (KP.app (by omega)).trans a3⟩
        rw [← a1]
        simp [u8c]
      obtain ⟨ad, rfl⟩ := hB.lenV
      have w8 : IntKind.u8.wrap ((v : Nat) : Int) = ((UInt8.ofNat v).toNat : Int) := by
        have := wrap_byte v
        rwa [e2] at this
      have hmost : ((out.length : Nat) : Int) = (most : Int) ↔ out.length = most := by omega
      rcases hb with rfl | rfl
      · have c10 : ((10 : Nat) : Int) = 10 := rfl
        by_cases h255 : 255 < v
        · have h255' : (255 : Int) < (v : Int) := by omega
          have hF' := hF (fun w h _ h3 => by rw [hv] at h; cases h; exact absurd ⟨rfl, h255⟩ h3)
          simp (disch := omega) only [kB, kcx, kdm, kdn, kel, aop, resultsL, resultOf, Nat.reduceEqDiff, reduceCtorEq, eq1, apartOK, apart2, AObj.live, Int.reduceEq, Int.reduceLT, Int.reduceLE, Int.reduceAdd, Int.reduceSub, Int.reduceMul, Int.reduceToNat, cutCells, Nat.reduceAdd, Nat.reduceLeDiff, Nat.reduceLT, Nat.reduceMul, Nat.reduceSub, h6, h8, h9, s8, s9, hq', c10, e2, h255']
          exact hF' _ _ (KP.app (by omega))
        · have h255' : ¬ (255 : Int) < (v : Int) := by omega
          by_cases hmo : out.length = most
          · have hmo' := hmost.2 hmo
            have hF' := hF (fun w h _ h3 => hmo)
            simp (disch := omega) only [kB, kcx, kdm, kdn, kel, aop, resultsL, resultOf, Nat.reduceEqDiff, reduceCtorEq, eq1, apartOK, apart2, AObj.live, Int.reduceEq, Int.reduceLT, Int.reduceLE, Int.reduceAdd, Int.reduceSub, Int.reduceMul, Int.reduceToNat, cutCells, Nat.reduceAdd, Nat.reduceLeDiff, Nat.reduceLT, Nat.reduceMul, Nat.reduceSub, h6, h7, h8, h9, h10, s8, s9, hq', c10, e2, h255', hmo']
            exact hF' _ _ (KP.app (by omega))
          · have hmo' : ¬ ((out.length : Nat) : Int) = (most : Int) := fun h => hmo (hmost.1 h)
            obtain ⟨sv', K', a1, a2, a3⟩ := good (fun h => h255 h.2) hmo
            have hS' := hS v hv hq (fun h => h255 h.2) hmo
            obtain ⟨ad', rfl⟩ := a2.lenV
            rw [show (out ++ [UInt8.ofNat v]).length = out.length + 1 by simp] at a1 a2
            have k10 : hget K' (n0 + 4) = .row [.slice ad out.length out.length] 0 true := by rw [a3.2 _ (by omega), h10]
            have lk10 := hget_lt k10 rfl
            simp (disch := omega) only [kB, kcx, kdm, kdn, kel, aop, resultsL, resultOf, Nat.reduceEqDiff, reduceCtorEq, eq1, apartOK, apart2, AObj.live, Int.reduceEq, Int.reduceLT, Int.reduceLE, Int.reduceAdd, Int.reduceSub, Int.reduceMul, Int.reduceToNat, cutCells, Nat.reduceAdd, Nat.reduceLeDiff, Nat.reduceLT, Nat.reduceMul, Nat.reduceSub, h6, h7, h8, h9, h10, hq', c10, e2, h255', hmo', w8, a1, k10]
            exact hS' _ _ _ (by simpa using a3.1) (fun c h1 h2 => by rw [hget_ne (Ne.symm h2)]; exact a3.2 c h1) (hget_set' lk10) (a2.same fun c h1 h2 => hget_ne (show n0 + 4 ≠ c by omega))
      · have c16 : ¬ ((16 : Nat) : Int) = 10 := by decide
        by_cases hmo : out.length = most
        · have hmo' := hmost.2 hmo
          have hF' := hF (fun w h _ h3 => hmo)
          simp (disch := omega) only [kB, kcx, kdm, kdn, kel, aop, resultsL, resultOf, Nat.reduceEqDiff, reduceCtorEq, eq1, apartOK, apart2, AObj.live, Int.reduceEq, Int.reduceLT, Int.reduceLE, Int.reduceAdd, Int.reduceSub, Int.reduceMul, Int.reduceToNat, cutCells, Nat.reduceAdd, Nat.reduceLeDiff, Nat.reduceLT, Nat.reduceMul, Nat.reduceSub, h6, h7, h8, h9, h10, s8, s9, hq', c16, e2, hmo']
          exact hF' _ _ (KP.app (by omega))
        · have hmo' : ¬ ((out.length : Nat) : Int) = (most : Int) := fun h => hmo (hmost.1 h)
          obtain ⟨sv', K', a1, a2, a3⟩ := good (fun h => by simp at h) hmo
          have hS' := hS v hv hq (fun h => by simp at h) hmo
          obtain ⟨ad', rfl⟩ := a2.lenV
          rw [show (out ++ [UInt8.ofNat v]).length = out.length + 1 by simp] at a1 a2
          have k10 : hget K' (n0 + 4) = .row [.slice ad out.length out.length] 0 true := by rw [a3.2 _ (by omega), h10]
          have lk10 := hget_lt k10 rfl
          simp (disch := omega) only [kB, kcx, kdm, kdn, kel, aop, resultsL, resultOf, Nat.reduceEqDiff, reduceCtorEq, eq1, apartOK, apart2, AObj.live, Int.reduceEq, Int.reduceLT, Int.reduceLE, Int.reduceAdd, Int.reduceSub, Int.reduceMul, Int.reduceToNat, cutCells, Nat.reduceAdd, Nat.reduceLeDiff, Nat.reduceLT, Nat.reduceMul, Nat.reduceSub, h6, h7, h8, h9, h10, hq', c16, e2, hmo', w8, a1, k10]
          exact hS' _ _ _ (by simpa using a3.1) (fun c h1 h2 => by rw [hget_ne (Ne.symm h2)]; exact a3.2 c h1) (hget_set' lk10) (a2.same fun c h1 h2 => hget_ne (show n0 + 4 ≠ c by omega))
    · have hq' : (3 : Int) < (q.length : Int) := by omega
      have hF' := hF (fun v h h3 => absurd h3 hq)
      simp (disch := omega) only [kB, kcx, kdm, kdn, kel, aop, resultsL, resultOf, Nat.reduceEqDiff, reduceCtorEq, eq1, apartOK, apart2, AObj.live, Int.reduceEq, Int.reduceLT, Int.reduceLE, Int.reduceAdd, Int.reduceSub, Int.reduceMul, Int.reduceToNat, cutCells, Nat.reduceAdd, Nat.reduceLeDiff, Nat.reduceLT, Nat.reduceMul, Nat.reduceSub, h8, h9, s8, s9, hq']
      exact hF' _ _ (KP.app (by omega))

end Go.Proofs.YtkhkmgcegicmoaaDoor.Ev

/- Numbers between signs: pieces. -/
namespace Go.Proofs.YtkhkmgcegicmoaaDoor.Ev
set_option maxRecDepth 100000
set_option linter.unusedSimpArgs false
set_option linter.unusedVariables false
variable {R : FRes → Heap → Prop} {H : Heap}

theorem split_s {l : List UInt8} {c : UInt8} (h : R (.ret (.func (.func 86) #[] #[.pointer (some ⟨H.length + 1, 0, none⟩), .pointer (some ⟨H.length, 0, none⟩), .pointer (some ⟨H.length + 2, 0, none⟩)])) (H ++ [.row [.string (bs l)] 0 true, .row [.string (bs [c])] 0 true, .row [.int .i64 0] 0 true])) :
    WD T 74 [.string (bs l), .string (bs [c])] H R := by
  refine WD.of follows t74 (by simp) ?_
  simp (disch := omega) only [kB, kcx, kdm, kdn, kel, aop, resultsL, resultOf, Nat.reduceEqDiff, reduceCtorEq, eq1, apartOK, apart2, AObj.live, Int.reduceEq, Int.reduceLT, Int.reduceLE, Int.reduceAdd, Int.reduceSub, Int.reduceMul, Int.reduceToNat, cutCells, Nat.reduceAdd, Nat.reduceLeDiff, Nat.reduceLT, Nat.reduceMul, Nat.reduceSub]
  refine WD.of follows t83 (by simp) ?_
  simp (disch := omega) only [kB, kcx, kdm, kdn, kel, aop, resultsL, resultOf, Nat.reduceEqDiff, reduceCtorEq, eq1, apartOK, apart2, AObj.live, Int.reduceEq, Int.reduceLT, Int.reduceLE, Int.reduceAdd, Int.reduceSub, Int.reduceMul, Int.reduceToNat, cutCells, Nat.reduceAdd, Nat.reduceLeDiff, Nat.reduceLT, Nat.reduceMul, Nat.reduceSub]
  exact h

/-- While the parts are read. -/
structure PI (H : Heap) (b : Nat) (c : UInt8) (most : Nat) (l : List UInt8) (i : Nat) (K : Heap) : Prop where
  len : H.length + 8 ≤ K.length
  old : ∀ d, d < H.length → hget K d = hget H d
  h6 : hget K H.length = .row [.int .u64 (b : Int)] 0 true
  h7 : hget K (H.length + 1) = .row [.int .i64 (most : Int)] 0 true
  h8 : hget K (H.length + 2) = .row [.string (bs [])] 0 true
  h9 : hget K (H.length + 3) = .row [.bool false] 0 true
  sep : hget K (H.length + 6) = .row [.string (bs [c])] 0 true
  nul : hget K (H.length + 7) = .row [.int .i64 0] 0 true
  out : ∃ sv out, hget K (H.length + 4) = .row [sv] 0 true ∧ BL (H.length + 9) K sv out ∧ out.length = i ∧ i ≤ most ∧ ((splitC c l).take i).mapM (pc b) = some out

theorem PI.set {H K : Heap} {b most : Nat} {c : UInt8} {l : List UInt8} {i d : Nat} {o : AObj} (h : PI H b c most l i K) (hd : d = H.length + 5 ∨ d = H.length + 8) : PI H b c most l i (K.set d o) := by
  obtain ⟨a1, a2, a3, a4, a5, a6, a7, a8, sv, out, a9, a10, a11, a12, a13⟩ := h
  have ne : ∀ x, x ≠ d → hget (K.set d o) x = hget K x := fun x hx => hget_ne (Ne.symm hx)
  exact ⟨by simpa using a1, fun x hx => by rw [ne _ (by omega)]; exact a2 x hx, by rw [ne _ (by omega)]; exact a3, by rw [ne _ (by omega)]; exact a4, by rw [ne _ (by omega)]; exact a5, by rw [ne _ (by omega)]; exact a6, by rw [ne _ (by omega)]; exact a7, by rw [ne _ (by omega)]; exact a8,
    sv, out, by rw [ne _ (by omega)]; exact a9, a10.same fun x h1 h2 => ne _ (by omega), a11, a12, a13⟩

theorem mapM_take {α β : Type} {f : α → Option β} : ∀ {l : List α} {i : Nat} {xs : List β} {a : α} {y : β}, (l.take i).mapM f = some xs → l[i]? = some a → f a = some y → (l.take (i + 1)).mapM f = some (xs ++ [y])
  | [], i, xs, a, y, h1, h2, h3 => by simp at h2
  | x :: l, 0, xs, a, y, h1, h2, h3 => by
    simp at h1 h2
    subst h1; subst h2
    simp [h3]
  | x :: l, i + 1, xs, a, y, h1, h2, h3 => by
    simp only [List.take_succ_cons, List.mapM_cons, Option.bind_eq_bind, Option.bind_eq_some_iff, Option.pure_def, Option.some.injEq] at h1 ⊢
    obtain ⟨z, hz, zs, hzs, rfl⟩ := h1
    exact ⟨z, hz, zs ++ [y], mapM_take hzs (by simpa using h2) h3, rfl⟩
theorem mapM_none {α β : Type} {f : α → Option β} : ∀ {l : List α} {i : Nat} {a : α}, l[i]? = some a → f a = none → l.mapM f = none
  | [], i, a, h2, h3 => by simp at h2
  | x :: l, 0, a, h2, h3 => by
    simp at h2
    subst h2
    simp [h3]
  | x :: l, i + 1, a, h2, h3 => by
    have := mapM_none (l := l) (i := i) (by simpa using h2) h3
    simp only [List.mapM_cons, this]
    cases f x <;> rfl
theorem mapM_len {α β : Type} {f : α → Option β} : ∀ {l : List α} {xs : List β}, l.mapM f = some xs → xs.length = l.length
  | [], xs, h => by simp at h; subst h; rfl
  | x :: l, xs, h => by
    simp only [List.mapM_cons, Option.bind_eq_bind, Option.bind_eq_some_iff, Option.pure_def, Option.some.injEq] at h
    obtain ⟨z, hz, zs, hzs, rfl⟩ := h
    simp [mapM_len hzs]

theorem wrange_gen {v : Value} {ps : List Nat} {cz bd : ACode} {ev : Env} {K : Heap} {Q : Post} (h : ∀ Q' ev', Q' = Q → ev' = ev → WRange T v ps cz bd ev' K Q') : WRange T v ps cz bd ev K Q := h _ _ rfl rfl

set_option maxHeartbeats 4000000 in
theorem pieces_s {b most : Nat} {c : UInt8} {l : List UInt8} (hb : b = 10 ∨ b = 16) (hm : most < 100) (hl : l.length ≤ 4611686018427387904)
    (h1 : ∀ out, pcsO b c most l = some out → R (.ret (.tuple #[.string (bs out), .bool true])) H)
    (h2 : pcsO b c most l = none → ∀ t, R (.ret (.tuple #[.string (bs t), .bool false])) H) : WD T 53 [.string (bs l), .string (bs [c]), .int .u64 (b : Int), .int .i64 (most : Int)] H R := by
  refine WD.gc0 (WD.of follows t53 (by simp) ?_)
  simp (disch := omega) only [kB, kcx, kdm, kdn, kel, aop, resultsL, resultOf, Nat.reduceEqDiff, reduceCtorEq, eq1, apartOK, apart2, AObj.live, Int.reduceEq, Int.reduceLT, Int.reduceLE, Int.reduceAdd, Int.reduceSub, Int.reduceMul, Int.reduceToNat, cutCells, Nat.reduceAdd, Nat.reduceLeDiff, Nat.reduceLT, Nat.reduceMul, Nat.reduceSub]
  refine split_s ?_
  simp (disch := omega) only [kB, kcx, kdm, kdn, kel, aop, resultsL, resultOf, Nat.reduceEqDiff, reduceCtorEq, eq1, apartOK, apart2, AObj.live, Int.reduceEq, Int.reduceLT, Int.reduceLE, Int.reduceAdd, Int.reduceSub, Int.reduceMul, Int.reduceToNat, cutCells, Nat.reduceAdd, Nat.reduceLeDiff, Nat.reduceLT, Nat.reduceMul, Nat.reduceSub]
  obtain ⟨HH, hHH⟩ : ∃ HH, HH = H ++ [.row [.int .u64 (b : Int)] 0 true, .row [.int .i64 (most : Int)] 0 true, .row [.string (bs [])] 0 true, .row [.bool false] 0 true, .row [.slice none 0 0] 0 true, .row [.string (bs l)] 0 true, .row [.string (bs [c])] 0 true, .row [.int .i64 0] 0 true] := ⟨_, rfl⟩
  have lHH : HH.length = H.length + 8 := by rw [hHH]; simp
  rw [← hHH]
  refine wrange_gen fun Q ev hQ hev => ?_
  have hret : pcsO b c most l = none → ∀ K', H.length + 9 ≤ K'.length → (∀ d, d < H.length → hget K' d = hget H d) → hget K' (H.length + 2) = .row [.string (bs [])] 0 true → hget K' (H.length + 3) = .row [.bool false] 0 true → Q .ret ev (K'.set HH.length .dead) := by
    intro hno K' k1 k2 k8 k9
    obtain ⟨K2, hK2⟩ : ∃ K2, K2 = K'.set HH.length .dead := ⟨_, rfl⟩
    have l2 : H.length + 9 ≤ K2.length := by rw [hK2]; simpa using k1
    have g8 : hget K2 (H.length + 2) = .row [.string (bs [])] 0 true := by rw [hK2, hget_ne (by omega)]; exact k8
    have g9 : hget K2 (H.length + 3) = .row [.bool false] 0 true := by rw [hK2, hget_ne (by omega)]; exact k9
    have hKP : KP H.length H K2 := ⟨by omega, fun d hd => by rw [hK2, hget_ne (by omega)]; exact k2 d hd⟩
    rw [← hK2]
    subst hQ
    subst hev
    simp (disch := omega) only [kB, kcx, kdm, kdn, kel, aop, resultsL, resultOf, Nat.reduceEqDiff, reduceCtorEq, eq1, apartOK, apart2, AObj.live, Int.reduceEq, Int.reduceLT, Int.reduceLE, Int.reduceAdd, Int.reduceSub, Int.reduceMul, Int.reduceToNat, cutCells, Nat.reduceAdd, Nat.reduceLeDiff, Nat.reduceLT, Nat.reduceMul, Nat.reduceSub, g8, g9]
    exact ⟨_, rfl, hKP.ext, .tup2 (.closed rfl) (.closed rfl), h2 hno _⟩
  refine split_range (H := HH) (c := c) (l := l) (p1 := H.length + 6) (p2 := H.length + 5) (p3 := H.length + 7) (by rw [hHH, hget_base]; rfl) (by rw [hHH, hget_base]; rfl) (by rw [hHH, hget_base]; rfl) hl rfl (PI H b c most l) ?_ ?_ ?_ ?_ ?_ ?_
  · intro o
    subst hHH
    have g : ∀ k, k < 8 → hget (H ++ [.row [.int .u64 (b : Int)] 0 true, .row [.int .i64 (most : Int)] 0 true, .row [.string (bs [])] 0 true, .row [.bool false] 0 true, .row [.slice none 0 0] 0 true, .row [.string (bs l)] 0 true, .row [.string (bs [c])] 0 true, .row [.int .i64 0] 0 true] ++ [o]) (H.length + k) = hget [.row [.int .u64 (b : Int)] 0 true, .row [.int .i64 (most : Int)] 0 true, .row [.string (bs [])] 0 true, .row [.bool false] 0 true, .row [.slice none 0 0] 0 true, .row [.string (bs l)] 0 true, .row [.string (bs [c])] 0 true, .row [.int .i64 0] 0 true] k := fun k hk => by
      rw [hget_old (by simp; omega), hget_base]
    exact ⟨by simp, fun d hd => by rw [hget_old (by simp; omega), hget_old hd], g 0 (by omega), g 1 (by omega), g 2 (by omega), g 3 (by omega), g 6 (by omega), g 7 (by omega), _, [], g 4 (by omega), BL.nil, rfl, Nat.zero_le _, by simp⟩
  · intro i K o hI
    exact hI.set (.inr lHH)
  · intro i K t hI
    exact hI.set (.inl rfl)
  · intro i K hI
    exact ⟨hI.sep, hI.nul⟩
  · intro i K p hpi hK hI
    obtain ⟨a1, a2, a3, a4, a5, a6, a7, a8, sv, out, a9, a10, a11, a12, a13⟩ := hI
    have hil : i < (splitC c l).length := (List.getElem?_eq_some_iff.1 hpi).1
    have hmost : i = most → pcsO b c most l = none := by
      intro q
      unfold pcsO
      split
      · rename_i o ho
        have := mapM_len ho
        rw [if_neg (by omega)]
      · rfl
    have hbad : pc b p = none → pcsO b c most l = none := fun q => by unfold pcsO; rw [mapM_none hpi q]
    have fail : ∀ K', pcsO b c most l = none → KP (H.length + 9) K K' → Q .ret ev (K'.set HH.length .dead) ∧ HH.length < K'.length := fun K' hno hk =>
      ⟨hret hno K' hk.1 (fun d hd => by rw [hk.2 d (by omega)]; exact a2 d hd) (by rw [hk.2 _ (by omega)]; exact a5) (by rw [hk.2 _ (by omega)]; exact a6), by have := hk.1; omega⟩
    have hK9 : H.length + 9 ≤ K.length := by omega
    obtain ⟨Z, hZ⟩ : ∃ Z, Z = WC T ((rngBody (g53.body.at [1, 1, 0, 1, 0])).at [0, 1]) := ⟨_, rfl⟩
    have htail : ∀ (q : List UInt8) e Q2, q = pcQ b p → ¬ (b = 16 ∧ p.length ≠ 2) → (∃ x : Nat → Value, e = [x 0, x 1, x 2, x 3, x 4, x 5, .pointer (some ⟨H.length, 0, none⟩), .pointer (some ⟨H.length + 1, 0, none⟩), .pointer (some ⟨H.length + 2, 0, none⟩), .pointer (some ⟨H.length + 3, 0, none⟩), .pointer (some ⟨H.length + 4, 0, none⟩), .string (bs q), x 12, x 13, x 14, x 15, x 16, x 17, x 18, x 19, x 20, x 21, x 22, x 23, x 24, x 25, x 26, x 27, x 28, x 29, x 30, x 31, x 32, x 33, x 34, x 35, x 36, x 37, x 38, x 39, x 40, x 41, x 42, x 43, x 44, x 45, x 46, x 47, x 48, x 49, x 50, x 51, x 52, x 53, x 54, x 55, x 56, x 57, x 58, x 59, x 60, x 61, x 62, x 63, x 64, x 65, x 66]) →
        (∀ e' K', pcsO b c most l = none → KP (H.length + 9) K K' → Q2 .ret e' K') → (∀ e' K', PI H b c most l (i + 1) K' → HH.length < K'.length → hget K' (H.length + 5) = hget K (H.length + 5) → Q2 .norm e' K') → Z e K Q2 := by
      intro q e Q2 hq hnb he hF hS
      subst hq
      rw [hZ]
      refine pcs_tail (n0 := H.length) (most := most) hb (by omega) hK9 a3 a4 a5 a6 a9 a10 he (fun hq => ?_) (fun v hv q1 q2 q3 e' K' sv' k1 k2 k3 k4 => ?_)
      · refine fun e' K' hk => hF e' K' ?_ hk
        by_cases hp : pc b p = none
        · exact hbad hp
        · refine hmost ?_
          rw [← a11]
          unfold pc at hp
          rw [if_neg hnb] at hp
          split at hp
          · rename_i v hv
            by_cases hc : (pcQ b p).length ≤ 3 ∧ ¬ (b = 10 ∧ 255 < v)
            · exact hq v hv hc.1 hc.2
            · rw [if_neg hc] at hp; exact absurd rfl hp
          · exact absurd rfl hp
      · have hpc : pc b p = some (UInt8.ofNat v) := by
          unfold pc
          rw [if_neg hnb, hv]
          exact if_pos ⟨q1, q2⟩
        refine hS e' K' ⟨by omega, fun d hd => by rw [k2 d (by omega) (by omega)]; exact a2 d hd, by rw [k2 _ (by omega) (by omega)]; exact a3, by rw [k2 _ (by omega) (by omega)]; exact a4, by rw [k2 _ (by omega) (by omega)]; exact a5, by rw [k2 _ (by omega) (by omega)]; exact a6, by rw [k2 _ (by omega) (by omega)]; exact a7, by rw [k2 _ (by omega) (by omega)]; exact a8,
          sv', _, k3, k4, by simp [a11], by omega, mapM_take a13 hpi hpc⟩ (by omega) (k2 _ (by omega) (by omega))
    have hZ' := hZ.symm
    clear hZ
    simp only [AFunc.body, g53, ACode.at, rngBody] at hZ'
    have s8 := set_same a5
    have s9 := set_same a6
    rcases hb with rfl | rfl
    · have c10 : ¬ ((10 : Nat) : Int) = 16 := by decide
      rw [hev]
      simp (disch := omega) only [kB, kcx, kdm, kdn, kel, aop, resultsL, resultOf, Nat.reduceEqDiff, reduceCtorEq, eq1, apartOK, apart2, AObj.live, Int.reduceEq, Int.reduceLT, Int.reduceLE, Int.reduceAdd, Int.reduceSub, Int.reduceMul, Int.reduceToNat, cutCells, Nat.reduceAdd, Nat.reduceLeDiff, Nat.reduceLT, Nat.reduceMul, Nat.reduceSub, hZ', a3, c10]
      rw [← hev]
      refine htail p _ _ (by rw [pcQ, if_neg (by decide)]) (by simp) (by exact ex_env rfl) (fun e' K' h3 h4 => ?_) (fun e' K' h3 h4 h5 => ?_)
      · simp (disch := omega) only [kB, kcx, kdm, kdn, kel, aop, resultsL, resultOf, Nat.reduceEqDiff, reduceCtorEq, eq1, apartOK, apart2, AObj.live, Int.reduceEq, Int.reduceLT, Int.reduceLE, Int.reduceAdd, Int.reduceSub, Int.reduceMul, Int.reduceToNat, cutCells, Nat.reduceAdd, Nat.reduceLeDiff, Nat.reduceLT, Nat.reduceMul, Nat.reduceSub, bodyS_ret]
        exact fail K' h3 h4
      · simp (disch := omega) only [kB, kcx, kdm, kdn, kel, aop, resultsL, resultOf, Nat.reduceEqDiff, reduceCtorEq, eq1, apartOK, apart2, AObj.live, Int.reduceEq, Int.reduceLT, Int.reduceLE, Int.reduceAdd, Int.reduceSub, Int.reduceMul, Int.reduceToNat, cutCells, Nat.reduceAdd, Nat.reduceLeDiff, Nat.reduceLT, Nat.reduceMul, Nat.reduceSub, bodyS_norm]
        exact ⟨h3, h4, h5⟩
    · have c16 : (((16 : Nat) : Int) = 16) = True := eq_true rfl
      by_cases hp2 : p.length = 2
      · have hp2' : ((p.length : Nat) : Int) = 2 := by omega
        have hadd := bin_str_add (l := [49]) (m := p) (by simp; omega)
        rw [hev]
        simp (disch := omega) only [kB, kcx, kdm, kdn, kel, aop, resultsL, resultOf, Nat.reduceEqDiff, reduceCtorEq, eq1, apartOK, apart2, AObj.live, Int.reduceEq, Int.reduceLT, Int.reduceLE, Int.reduceAdd, Int.reduceSub, Int.reduceMul, Int.reduceToNat, cutCells, Nat.reduceAdd, Nat.reduceLeDiff, Nat.reduceLT, Nat.reduceMul, Nat.reduceSub, hZ', a3, c16, hp2', hadd]
        rw [← hev]
        refine htail (49 :: p) _ _ (by rw [pcQ, if_pos rfl]) (by simp [hp2]) (by exact ex_env rfl) (fun e' K' h3 h4 => ?_) (fun e' K' h3 h4 h5 => ?_)
        · simp (disch := omega) only [kB, kcx, kdm, kdn, kel, aop, resultsL, resultOf, Nat.reduceEqDiff, reduceCtorEq, eq1, apartOK, apart2, AObj.live, Int.reduceEq, Int.reduceLT, Int.reduceLE, Int.reduceAdd, Int.reduceSub, Int.reduceMul, Int.reduceToNat, cutCells, Nat.reduceAdd, Nat.reduceLeDiff, Nat.reduceLT, Nat.reduceMul, Nat.reduceSub, bodyS_ret]
          exact fail K' h3 h4
        · simp (disch := omega) only [kB, kcx, kdm, kdn, kel, aop, resultsL, resultOf, Nat.reduceEqDiff, reduceCtorEq, eq1, apartOK, apart2, AObj.live, Int.reduceEq, Int.reduceLT, Int.reduceLE, Int.reduceAdd, Int.reduceSub, Int.reduceMul, Int.reduceToNat, cutCells, Nat.reduceAdd, Nat.reduceLeDiff, Nat.reduceLT, Nat.reduceMul, Nat.reduceSub, bodyS_norm]
          exact ⟨h3, h4, h5⟩
      · have hp2' : ¬ ((p.length : Nat) : Int) = 2 := by omega
        have hno := hbad (by unfold pc; rw [if_pos ⟨rfl, hp2⟩])
        rw [hev]
        simp (disch := omega) only [kB, kcx, kdm, kdn, kel, aop, resultsL, resultOf, Nat.reduceEqDiff, reduceCtorEq, eq1, apartOK, apart2, AObj.live, Int.reduceEq, Int.reduceLT, Int.reduceLE, Int.reduceAdd, Int.reduceSub, Int.reduceMul, Int.reduceToNat, cutCells, Nat.reduceAdd, Nat.reduceLeDiff, Nat.reduceLT, Nat.reduceMul, Nat.reduceSub, hZ', a3, a5, a6, s8, s9, c16, hp2', bodyS_ret]
        rw [← hev]
        exact fail K hno (KP.refl hK9)
  · intro K hI hK
    obtain ⟨a1, a2, a3, a4, a5, a6, a7, a8, sv, out, a9, a10, a11, a12, a13⟩ := hI
    rw [List.take_length] at a13
    have hs := a10.src
    obtain ⟨ad, rfl⟩ := a10.lenV
    have l9 : H.length + 9 ≤ K.length := by omega
    have hKP : KP H.length H K := ⟨by omega, a2⟩
    have hO : pcsO b c most l = if out.length = most then some out else none := by unfold pcsO; rw [a13]
    by_cases hmo : out.length = most
    · have hmo' : ((out.length : Nat) : Int) = (most : Int) := by omega
      rw [if_pos hmo] at hO
      have hfin := h1 out hO
      subst hQ
      subst hev
      simp (disch := omega) only [kB, kcx, kdm, kdn, kel, aop, resultsL, resultOf, Nat.reduceEqDiff, reduceCtorEq, eq1, apartOK, apart2, AObj.live, Int.reduceEq, Int.reduceLT, Int.reduceLE, Int.reduceAdd, Int.reduceSub, Int.reduceMul, Int.reduceToNat, cutCells, Nat.reduceAdd, Nat.reduceLeDiff, Nat.reduceLT, Nat.reduceMul, Nat.reduceSub, a4, a5, a6, a9, hmo', lenV, hs, hget_ne]
      exact ⟨_, rfl, ((hKP.set (by omega)).set (by omega)).ext, .tup2 (.closed rfl) (.closed rfl), hfin⟩
    · have hmo' : ¬ ((out.length : Nat) : Int) = (most : Int) := by omega
      rw [if_neg hmo] at hO
      have hfin := h2 hO
      subst hQ
      subst hev
      simp (disch := omega) only [kB, kcx, kdm, kdn, kel, aop, resultsL, resultOf, Nat.reduceEqDiff, reduceCtorEq, eq1, apartOK, apart2, AObj.live, Int.reduceEq, Int.reduceLT, Int.reduceLE, Int.reduceAdd, Int.reduceSub, Int.reduceMul, Int.reduceToNat, cutCells, Nat.reduceAdd, Nat.reduceLeDiff, Nat.reduceLT, Nat.reduceMul, Nat.reduceSub, a4, a5, a6, a9, hmo', lenV, hs, hget_ne]
      exact ⟨_, rfl, ((hKP.set (by omega)).set (by omega)).ext, .tup2 (.closed rfl) (.closed rfl), hfin _⟩

end Go.Proofs.YtkhkmgcegicmoaaDoor.Ev

/- Small functions of texts: which forms a width has, what a text begins with, texts that are joined. -/
namespace Go.Proofs.YtkhkmgcegicmoaaDoor.Ev
set_option maxRecDepth 100000
set_option linter.unusedSimpArgs false
set_option linter.unusedVariables false
variable {R : FRes → Heap → Prop} {H : Heap}

/-- Has a width such a form? -/
def hasI (w form : Int) : Bool := if form = 4 then decide (w = 32) else if form = 5 then isw w && (decide (16 ≤ w) && decide (w % 8 = 0)) else isw w

theorem has_s {w form : Int} (h : R (.ret (.bool (hasI w form))) H) : WD T 48 [.int .i64 w, .int .i64 form] H R := by
  refine WD.gc0 (WD.of follows t48 (by simp) ?_)
  unfold hasI at h
  by_cases h4 : form = 4
  · rw [if_pos h4] at h
    by_cases h32 : w = 32
    · rw [decide_eq_true h32] at h
      simp (disch := omega) only [kB, kcx, kdm, kdn, kel, aop, resultsL, resultOf, Nat.reduceEqDiff, reduceCtorEq, eq1, apartOK, apart2, AObj.live, Int.reduceEq, Int.reduceLT, Int.reduceLE, Int.reduceAdd, Int.reduceSub, Int.reduceMul, Int.reduceToNat, cutCells, Nat.reduceAdd, Nat.reduceLeDiff, Nat.reduceLT, Nat.reduceMul, Nat.reduceSub, h4, h32]
      exact ⟨_, rfl, ⟨[], (List.append_nil _).symm⟩, .closed rfl, h⟩
    · rw [decide_eq_false h32] at h
      simp (disch := omega) only [kB, kcx, kdm, kdn, kel, aop, resultsL, resultOf, Nat.reduceEqDiff, reduceCtorEq, eq1, apartOK, apart2, AObj.live, Int.reduceEq, Int.reduceLT, Int.reduceLE, Int.reduceAdd, Int.reduceSub, Int.reduceMul, Int.reduceToNat, cutCells, Nat.reduceAdd, Nat.reduceLeDiff, Nat.reduceLT, Nat.reduceMul, Nat.reduceSub, h4, h32]
      exact ⟨_, rfl, ⟨[], (List.append_nil _).symm⟩, .closed rfl, h⟩
  · rw [if_neg h4] at h
    by_cases h5 : form = 5
    · rw [if_pos h5] at h
      have c54 : ¬ (5 : Int) = 4 := by decide
      rcases wcases w with hw | ⟨k, rfl, h1, h2⟩
      · rw [hw, Bool.false_and] at h
        simp (disch := omega) only [kB, kcx, kdm, kdn, kel, aop, resultsL, resultOf, Nat.reduceEqDiff, reduceCtorEq, eq1, apartOK, apart2, AObj.live, Int.reduceEq, Int.reduceLT, Int.reduceLE, Int.reduceAdd, Int.reduceSub, Int.reduceMul, Int.reduceToNat, cutCells, Nat.reduceAdd, Nat.reduceLeDiff, Nat.reduceLT, Nat.reduceMul, Nat.reduceSub, h4, h5, c54]
        refine isw_s ?_
        simp (disch := omega) only [kB, kcx, kdm, kdn, kel, aop, resultsL, resultOf, Nat.reduceEqDiff, reduceCtorEq, eq1, apartOK, apart2, AObj.live, Int.reduceEq, Int.reduceLT, Int.reduceLE, Int.reduceAdd, Int.reduceSub, Int.reduceMul, Int.reduceToNat, cutCells, Nat.reduceAdd, Nat.reduceLeDiff, Nat.reduceLT, Nat.reduceMul, Nat.reduceSub, hw]
        exact ⟨_, rfl, ⟨[], (List.append_nil _).symm⟩, .closed rfl, h⟩
      · have hw := isw_nat h1 h2
        rw [hw, Bool.true_and] at h
        by_cases h16 : (16 : Int) ≤ (k : Int)
        · rw [decide_eq_true h16, Bool.true_and] at h
          have hr := bin_rem (k := .i64) (a := k) (b := 8) (by decide)
          have r0 : (((8 : Nat) : Int)) = 8 := rfl
          rw [r0] at hr
          have e : (((k : Int) % 8) = 0) ↔ (((k % 8 : Nat) : Int) = 0) := by omega
          by_cases h8 : ((k % 8 : Nat) : Int) = 0
          · rw [decide_eq_true (e.2 h8)] at h
            simp (disch := omega) only [kB, kcx, kdm, kdn, kel, aop, resultsL, resultOf, Nat.reduceEqDiff, reduceCtorEq, eq1, apartOK, apart2, AObj.live, Int.reduceEq, Int.reduceLT, Int.reduceLE, Int.reduceAdd, Int.reduceSub, Int.reduceMul, Int.reduceToNat, cutCells, Nat.reduceAdd, Nat.reduceLeDiff, Nat.reduceLT, Nat.reduceMul, Nat.reduceSub, h4, h5, c54]
            refine isw_s ?_
            simp (disch := omega) only [kB, kcx, kdm, kdn, kel, aop, resultsL, resultOf, Nat.reduceEqDiff, reduceCtorEq, eq1, apartOK, apart2, AObj.live, Int.reduceEq, Int.reduceLT, Int.reduceLE, Int.reduceAdd, Int.reduceSub, Int.reduceMul, Int.reduceToNat, cutCells, Nat.reduceAdd, Nat.reduceLeDiff, Nat.reduceLT, Nat.reduceMul, Nat.reduceSub, hw, h16, hr, h8]
            exact ⟨_, rfl, ⟨[], (List.append_nil _).symm⟩, .closed rfl, h⟩
          · rw [decide_eq_false (fun q => h8 (e.1 q))] at h
            simp (disch := omega) only [kB, kcx, kdm, kdn, kel, aop, resultsL, resultOf, Nat.reduceEqDiff, reduceCtorEq, eq1, apartOK, apart2, AObj.live, Int.reduceEq, Int.reduceLT, Int.reduceLE, Int.reduceAdd, Int.reduceSub, Int.reduceMul, Int.reduceToNat, cutCells, Nat.reduceAdd, Nat.reduceLeDiff, Nat.reduceLT, Nat.reduceMul, Nat.reduceSub, h4, h5, c54]
            refine isw_s ?_
            simp (disch := omega) only [kB, kcx, kdm, kdn, kel, aop, resultsL, resultOf, Nat.reduceEqDiff, reduceCtorEq, eq1, apartOK, apart2, AObj.live, Int.reduceEq, Int.reduceLT, Int.reduceLE, Int.reduceAdd, Int.reduceSub, Int.reduceMul, Int.reduceToNat, cutCells, Nat.reduceAdd, Nat.reduceLeDiff, Nat.reduceLT, Nat.reduceMul, Nat.reduceSub, hw, h16, hr, h8]
            exact ⟨_, rfl, ⟨[], (List.append_nil _).symm⟩, .closed rfl, h⟩
        · rw [decide_eq_false h16, Bool.false_and] at h
          simp (disch := omega) only [kB, kcx, kdm, kdn, kel, aop, resultsL, resultOf, Nat.reduceEqDiff, reduceCtorEq, eq1, apartOK, apart2, AObj.live, Int.reduceEq, Int.reduceLT, Int.reduceLE, Int.reduceAdd, Int.reduceSub, Int.reduceMul, Int.reduceToNat, cutCells, Nat.reduceAdd, Nat.reduceLeDiff, Nat.reduceLT, Nat.reduceMul, Nat.reduceSub, h4, h5, c54]
          refine isw_s ?_
          simp (disch := omega) only [kB, kcx, kdm, kdn, kel, aop, resultsL, resultOf, Nat.reduceEqDiff, reduceCtorEq, eq1, apartOK, apart2, AObj.live, Int.reduceEq, Int.reduceLT, Int.reduceLE, Int.reduceAdd, Int.reduceSub, Int.reduceMul, Int.reduceToNat, cutCells, Nat.reduceAdd, Nat.reduceLeDiff, Nat.reduceLT, Nat.reduceMul, Nat.reduceSub, hw, h16]
          exact ⟨_, rfl, ⟨[], (List.append_nil _).symm⟩, .closed rfl, h⟩
    · rw [if_neg h5] at h
      simp (disch := omega) only [kB, kcx, kdm, kdn, kel, aop, resultsL, resultOf, Nat.reduceEqDiff, reduceCtorEq, eq1, apartOK, apart2, AObj.live, Int.reduceEq, Int.reduceLT, Int.reduceLE, Int.reduceAdd, Int.reduceSub, Int.reduceMul, Int.reduceToNat, cutCells, Nat.reduceAdd, Nat.reduceLeDiff, Nat.reduceLT, Nat.reduceMul, Nat.reduceSub, h4, h5]
      refine isw_s ?_
      simp (disch := omega) only [kB, kcx, kdm, kdn, kel, aop, resultsL, resultOf, Nat.reduceEqDiff, reduceCtorEq, eq1, apartOK, apart2, AObj.live, Int.reduceEq, Int.reduceLT, Int.reduceLE, Int.reduceAdd, Int.reduceSub, Int.reduceMul, Int.reduceToNat, cutCells, Nat.reduceAdd, Nat.reduceLeDiff, Nat.reduceLT, Nat.reduceMul, Nat.reduceSub]
      exact ⟨_, rfl, ⟨[], (List.append_nil _).symm⟩, .closed rfl, h⟩

theorem prefix_take {p l : List UInt8} : p.isPrefixOf l = true ↔ (p.length ≤ l.length ∧ l.take p.length = p) := by
  rw [List.isPrefixOf_iff_prefix]
  constructor
  · intro h
    exact ⟨h.length_le, (List.prefix_iff_eq_take.1 h).symm⟩
  · rintro ⟨_, h⟩
    exact List.prefix_iff_eq_take.2 h.symm

theorem hasPrefix_s {l p : List UInt8} (h : R (.ret (.bool (p.isPrefixOf l))) H) : WD T 82 [.string (bs l), .string (bs p)] H R := by
  refine WD.of follows t82 (by simp) ?_
  by_cases h1 : p.length ≤ l.length
  · have h1' : (p.length : Int) ≤ (l.length : Int) := by omega
    by_cases h2 : l.take p.length = p
    · rw [prefix_take.2 ⟨h1, h2⟩] at h
      simp (disch := omega) only [kB, kcx, kdm, kdn, kel, aop, resultsL, resultOf, Nat.reduceEqDiff, reduceCtorEq, eq1, apartOK, apart2, AObj.live, Int.reduceEq, Int.reduceLT, Int.reduceLE, Int.reduceAdd, Int.reduceSub, Int.reduceMul, Int.reduceToNat, cutCells, Nat.reduceAdd, Nat.reduceLeDiff, Nat.reduceLT, Nat.reduceMul, Nat.reduceSub, h1', h2]
      exact h
    · have e : p.isPrefixOf l = false := by
        cases q : p.isPrefixOf l with
        | false => rfl
        | true => exact absurd (prefix_take.1 q).2 h2
      rw [e] at h
      simp (disch := omega) only [kB, kcx, kdm, kdn, kel, aop, resultsL, resultOf, Nat.reduceEqDiff, reduceCtorEq, eq1, apartOK, apart2, AObj.live, Int.reduceEq, Int.reduceLT, Int.reduceLE, Int.reduceAdd, Int.reduceSub, Int.reduceMul, Int.reduceToNat, cutCells, Nat.reduceAdd, Nat.reduceLeDiff, Nat.reduceLT, Nat.reduceMul, Nat.reduceSub, h1', h2]
      exact h
  · have h1' : ¬ (p.length : Int) ≤ (l.length : Int) := by omega
    have e : p.isPrefixOf l = false := by
      cases q : p.isPrefixOf l with
      | false => rfl
      | true => exact absurd (prefix_take.1 q).1 h1
    rw [e] at h
    simp (disch := omega) only [kB, kcx, kdm, kdn, kel, aop, resultsL, resultOf, Nat.reduceEqDiff, reduceCtorEq, eq1, apartOK, apart2, AObj.live, Int.reduceEq, Int.reduceLT, Int.reduceLE, Int.reduceAdd, Int.reduceSub, Int.reduceMul, Int.reduceToNat, cutCells, Nat.reduceAdd, Nat.reduceLeDiff, Nat.reduceLT, Nat.reduceMul, Nat.reduceSub, h1']
    exact h

theorem cutPrefix_s {l p : List UInt8} (h : R (.ret (.tuple #[.string (bs (if p.isPrefixOf l = true then l.drop p.length else l)), .bool (p.isPrefixOf l)])) H) : WD T 51 [.string (bs l), .string (bs p)] H R := by
  refine WD.of follows t51 (by simp) ?_
  simp (disch := omega) only [kB, kcx, kdm, kdn, kel, aop, resultsL, resultOf, Nat.reduceEqDiff, reduceCtorEq, eq1, apartOK, apart2, AObj.live, Int.reduceEq, Int.reduceLT, Int.reduceLE, Int.reduceAdd, Int.reduceSub, Int.reduceMul, Int.reduceToNat, cutCells, Nat.reduceAdd, Nat.reduceLeDiff, Nat.reduceLT, Nat.reduceMul, Nat.reduceSub]
  refine WD.of follows t71 (by simp) ?_
  simp (disch := omega) only [kB, kcx, kdm, kdn, kel, aop, resultsL, resultOf, Nat.reduceEqDiff, reduceCtorEq, eq1, apartOK, apart2, AObj.live, Int.reduceEq, Int.reduceLT, Int.reduceLE, Int.reduceAdd, Int.reduceSub, Int.reduceMul, Int.reduceToNat, cutCells, Nat.reduceAdd, Nat.reduceLeDiff, Nat.reduceLT, Nat.reduceMul, Nat.reduceSub]
  refine hasPrefix_s ?_
  cases hp : p.isPrefixOf l with
  | true =>
    have hl := (prefix_take.1 hp).1
    rw [hp, if_pos rfl] at h
    simp (disch := omega) only [kB, kcx, kdm, kdn, kel, aop, resultsL, resultOf, Nat.reduceEqDiff, reduceCtorEq, eq1, apartOK, apart2, AObj.live, Int.reduceEq, Int.reduceLT, Int.reduceLE, Int.reduceAdd, Int.reduceSub, Int.reduceMul, Int.reduceToNat, cutCells, Nat.reduceAdd, Nat.reduceLeDiff, Nat.reduceLT, Nat.reduceMul, Nat.reduceSub]
    exact h
  | false =>
    rw [hp, if_neg (by decide)] at h
    simp (disch := omega) only [kB, kcx, kdm, kdn, kel, aop, resultsL, resultOf, Nat.reduceEqDiff, reduceCtorEq, eq1, apartOK, apart2, AObj.live, Int.reduceEq, Int.reduceLT, Int.reduceLE, Int.reduceAdd, Int.reduceSub, Int.reduceMul, Int.reduceToNat, cutCells, Nat.reduceAdd, Nat.reduceLeDiff, Nat.reduceLT, Nat.reduceMul, Nat.reduceSub]
    exact h

theorem bin_shr8 (a : Nat) : binV .shr (.int .u8 (a : Int)) (.int .u64 4) = some (.int .u8 ((a / 16 : Nat) : Int)) := by
  have : pr (Op.shift .shr .u8 (a : Int) .u64 4) = some (.int .u8 ((a : Int).fdiv (2 ^ 4))) := rfl
  have h4 : ¬ (4 : Int) < 0 := by decide
  simp only [binV, intBin, if_neg h4, this]
  congr 2
  rw [show ((2 : Int) ^ 4) = ((16 : Nat) : Int) from rfl, Int.fdiv_eq_ediv_of_nonneg _ (by omega)]
  rfl
theorem bin_and8 {a : Nat} (h : a < 256) : binV .and (.int .u8 (a : Int)) (.int .u8 15) = some (.int .u8 ((a % 16 : Nat) : Int)) := by
  have e : (BitVec.ofInt 8 (a : Int) &&& BitVec.ofInt 8 15).toNat = a % 16 := by
    rw [BitVec.toNat_and]
    have e1 : (BitVec.ofInt 8 (a : Int)).toNat = a := by
      simp [BitVec.ofInt_natCast]
      omega
    have e2 : (BitVec.ofInt 8 15).toNat = 2 ^ 4 - 1 := by decide
    rw [e1, e2, Nat.and_two_pow_sub_one_eq_mod]
  have : pr (Op.intBits .and .u8 (a : Int) 15) = some (.int .u8 (IntKind.u8.wrap ((BitVec.ofInt 8 (a : Int) &&& BitVec.ofInt 8 15).toNat : Int))) := rfl
  simp only [binV, intBin, if_true, this, e]
  rw [wr_u8 (by omega) (by omega)]
theorem bvA_small {n : Nat} (h : n < 18446744073709551616) : (.agg #[.int .u64 0, .int .u64 (n : Int)] : Value) = bvA n := by
  rw [bvA, W64_eq, Nat.div_eq_of_lt h, Nat.mod_eq_of_lt h]
  rfl

/-! Texts that are joined. -/
def cS (ls : List (List UInt8)) : List (List Value) := ls.map fun t => [.string (bs t)]
theorem cS_flat : ∀ ls : List (List UInt8), (cS ls).flatten = ls.map fun t => .string (bs t)
  | [] => rfl
  | t :: ls => by
    have := cS_flat ls
    simp only [cS, List.map_cons, List.flatten_cons] at this ⊢
    rw [this]
    rfl
theorem txts_map : ∀ ls : List (List UInt8), txts (ls.map fun t => .string (bs t)) = some (ls.map bs)
  | [] => rfl
  | t :: ls => by
    rw [List.map_cons, txts, txts_map ls]
    rfl
theorem join_s {n0 : Nat} {sv : Value} {ls : List (List UInt8)} {sep : List UInt8} (hB : SLs 1 n0 H sv (cS ls)) (hn : ls.length ≤ 1000) (hj : (Lib.join ls sep).length ≤ 140737488355328) (h : R (.ret (.string (bs (Lib.join ls sep)))) H) :
    WD T 50 [sv, .string (bs sep)] H R := by
  refine WD.lib table_ok (show Tab 50 = some (.lib joinL) from rfl) (v := .string (bs (Lib.join ls sep))) ?_ h
  rcases hB with ⟨h1, rfl⟩ | ⟨h1, k, k0, rfl, k2, k3⟩
  · have : ls = [] := by simpa [cS] using h1
    subst this
    rfl
  · have hk := hget_some k2 rfl
    rw [cS_flat] at hk
    have hl : (cS ls).length = ls.length := List.length_map ..
    have e2 : (ls.map bs).map (fun x => x.data.toList) = ls := by
      rw [List.map_map]
      exact List.map_id' _
    simp only [joinL, hk, hl]
    rw [if_pos (by simp), List.drop_zero, List.take_of_length_le (by simp), txts_map]
    simp only [e2]
    rw [if_pos ⟨by omega, hj⟩]
    rfl

end Go.Proofs.YtkhkmgcegicmoaaDoor.Ev

/- A value's text: the program's Text. -/
namespace Go.Proofs.YtkhkmgcegicmoaaDoor.Ev
set_option maxRecDepth 100000
set_option linter.unusedSimpArgs false
set_option linter.unusedVariables false
variable {R : FRes → Heap → Prop} {H : Heap}

/-- A byte's text among dots, or colons. -/
def partT (form : Int) (c : UInt8) : List UInt8 := if form = 4 then dig 10 c.toNat else [sgN (c.toNat / 16), sgN (c.toNat % 16)]
/-- The sign between. -/
def sepT (form : Int) : List UInt8 := if form = 4 then [46] else [58]
def txtI (a k : Nat) (form : Int) : List UInt8 :=
  if form = 1 then dig 10 a else if form = 2 then 48 :: 120 :: dig 16 a else if form = 3 then 48 :: 98 :: dig 2 a
  else Lib.join ((beL ((k + 7) / 8) a).map (partT form)) (sepT form)
def textI (a : Nat) (w form : Int) : List UInt8 × Int :=
  if form < 1 ∨ 5 < form then ([], 1) else if hasI w form = true then (if fitsI a w = true then (txtI a w.toNat form, 0) else ([], 11)) else ([], 10)

theorem joinTail_len (sep : List UInt8) (m : Nat) : ∀ r : List (List UInt8), (∀ x ∈ r, x.length ≤ m) → (Lib.joinTail sep r).length ≤ r.length * (m + sep.length)
  | [], _ => by simp [Lib.joinTail]
  | x :: r, h => by
    have ih := joinTail_len sep m r fun y hy => h y (by simp [hy])
    have hx := h x (by simp)
    simp only [Lib.joinTail, List.map_cons, List.flatten_cons, List.length_append, List.length_cons] at ih ⊢
    rw [Nat.add_mul, Nat.one_mul]
    omega
theorem join_len (sep : List UInt8) (m : Nat) (r : List (List UInt8)) (h : ∀ x ∈ r, x.length ≤ m) : (Lib.join r sep).length ≤ r.length * (m + sep.length) := by
  cases r with
  | nil => simp [Lib.join_nil]
  | cons x r =>
    rw [Lib.join_cons, List.length_append, List.length_cons, Nat.add_mul, Nat.one_mul]
    have h1 := joinTail_len sep m r fun y hy => h y (by simp [hy])
    have h2 := h x (by simp)
    omega
theorem partT_len (form : Int) (c : UInt8) : (partT form c).length ≤ 128 := by
  unfold partT
  split
  · exact dig_len _ _
  · simp
theorem hasI_isw {w form : Int} (h : hasI w form = true) : isw w = true := by
  unfold hasI at h
  split at h
  · have : w = 32 := by simpa using h
    subst this
    rfl
  · split at h
    · simp only [Bool.and_eq_true] at h
      exact h.1
    · exact h

/-- While the bytes are told. -/
def txI (H : Heap) (a : Nat) (form : Int) (l : List UInt8) : Nat → Env → Heap → Prop := fun z e K =>
  ∃ i : Nat, i ≤ l.length ∧ z = l.length - i ∧ H.length + 1 ≤ K.length ∧ (∀ d, d < H.length → hget K d = hget H d) ∧ ∃ sv, SLs 1 (H.length + 1) K sv (cS ((l.take i).map (partT form))) ∧
    (∃ x : Nat → Value, e = [x 0, x 1, .int .i64 form, x 3, x 4, x 5, x 6, x 7, .string (bs l), x 9, sv, x 11, x 12, x 13, x 14, x 15, x 16, x 17, x 18, x 19, x 20, x 21, x 22, x 23, x 24, x 25, x 26, x 27, x 28, x 29, x 30, x 31, x 32, x 33, x 34, x 35, x 36, x 37, x 38, x 39, x 40, x 41, x 42, x 43, x 44, x 45, x 46, x 47, x 48, x 49, x 50, .int .i64 (l.length : Int), .int .i64 (i : Int), x 53, x 54, x 55, x 56, x 57, x 58, x 59, x 60, x 61, x 62, x 63, x 64, x 65, x 66, x 67, x 68, x 69, x 70, x 71, x 72, x 73, x 74, x 75, x 76, x 77, x 78, x 79, x 80, x 81, x 82, x 83, x 84, x 85, x 86, x 87, x 88, x 89])

abbrev QT (R : FRes → Heap → Prop) (H : Heap) : Post := retK [.tmp 6, .tmp 7] (fun r H1 => ∃ v, r = .ret v ∧ (∃ g, H1 = H ++ g) ∧ Scoped H.length v ∧ R (.ret v) H)

theorem SLs_push {n0 : Nat} {K : Heap} {sv : Value} {ls : List (List UInt8)} (h : SLs 1 n0 K sv (cS ls)) (hn : n0 ≤ K.length) (t : List UInt8) (hl : ls.length < 1000) :
    ∃ sv' K', appendV (K ++ [.row [.string (bs t)] 1 true]) 1 16 sv (.slice (some ⟨K.length, 0, none⟩) 1 1) = .val sv' K' ∧ SLs 1 n0 K' sv' (cS (ls ++ [t])) ∧ KP n0 K K' := by
  have hc : (cS ls).length = ls.length := List.length_map ..
  obtain ⟨sv', K', h1, h2, h3, h4, h5⟩ := app_sl (K := K ++ [.row [.string (bs t)] 1 true]) (bytes := 16) (bx := K.length) (xs := [.string (bs t)]) (u2 := 1) (w2 := true) (SLs.app h) (by simp; omega) (by rw [hget_last]) rfl rfl (by rw [hc]; simp only [roomMax]; omega)
  refine ⟨sv', K', h1, ?_, by rw [h3]; simp; omega, fun c hc => ?_⟩
  · have e : cS (ls ++ [t]) = cS ls ++ [[.string (bs t)]] := by simp [cS]
    rw [e]
    exact h2
  · rw [h5 c (by simp; omega) (fun q => by have := (SLs.lt h q).2; omega), hget_old (by omega)]

set_option maxHeartbeats 4000000 in
theorem text_tail {form : Int} {l : List UInt8} (hform : form = 4 ∨ form = 5) (hl : l.length ≤ 16) (hH : hget H 0 = .row (numV signsL) 0 false) (hlen : 0 < H.length)
    {e : Env} {K : Heap} (he : (∃ x : Nat → Value, e = [x 0, x 1, .int .i64 form, x 3, x 4, x 5, x 6, x 7, .string (bs l), x 9, .slice none 0 0, x 11, x 12, x 13, x 14, x 15, x 16, x 17, x 18, x 19, x 20, x 21, x 22, x 23, x 24, x 25, x 26, x 27, x 28, x 29, x 30, x 31, x 32, x 33, x 34, x 35, x 36, x 37, x 38, x 39, x 40, x 41, x 42, x 43, x 44, x 45, x 46, x 47, x 48, x 49, x 50, x 51, x 52, x 53, x 54, x 55, x 56, x 57, x 58, x 59, x 60, x 61, x 62, x 63, x 64, x 65, x 66, x 67, x 68, x 69, x 70, x 71, x 72, x 73, x 74, x 75, x 76, x 77, x 78, x 79, x 80, x 81, x 82, x 83, x 84, x 85, x 86, x 87, x 88, x 89])) (hK : H.length + 1 ≤ K.length) (hold : ∀ d, d < H.length → hget K d = hget H d)
    (h : R (.ret (.tuple #[.string (bs (Lib.join (l.map (partT form)) (sepT form))), .int .i64 0])) H) :
    WC T (g14.body.at [1, 1, 1, 1, 1]) e K (QT R H) := by
  obtain ⟨y, rfl⟩ := he
  simp only [AFunc.body, g14, ACode.at]
  simp (disch := omega) only [kB, kcx, kdm, kdn, kel, aop, resultsL, resultOf, Nat.reduceEqDiff, reduceCtorEq, eq1, apartOK, apart2, AObj.live, Int.reduceEq, Int.reduceLT, Int.reduceLE, Int.reduceAdd, Int.reduceSub, Int.reduceMul, Int.reduceToNat, cutCells, Nat.reduceAdd, Nat.reduceLeDiff, Nat.reduceLT, Nat.reduceMul, Nat.reduceSub]
  refine WLoop.inv (txI H 0 form l) ?_ l.length _ _ ⟨0, Nat.zero_le _, by omega, hK, hold, _, .inl ⟨rfl, rfl⟩, by exact ex_env rfl⟩
  clear hK hold
  rintro z e K ⟨i, hi, rfl, hK, hold, sv, hB, ⟨x, rfl⟩⟩
  have k0 : hget K 0 = .row (numV signsL) 0 false := by rw [hold 0 hlen]; exact hH
  have kl : 0 < K.length := by omega
  by_cases hlt : i < l.length
  · have c0 : (i : Int) < (l.length : Int) := by omega
    have hg : l[i]? = some l[i] := List.getElem?_eq_getElem hlt
    have hb := (l[i]).toNat_lt
    obtain ⟨sv', K', a1, a2, a3⟩ := SLs_push hB hK (partT form l[i]) (by simp; omega)
    have hnext : (l.take i).map (partT form) ++ [partT form l[i]] = (l.take (i + 1)).map (partT form) := by
      rw [List.take_succ_eq_append_getElem hlt, List.map_append]
      rfl
    rw [hnext] at a2
    have fin : ∀ d, d < H.length → hget K' d = hget H d := fun d hd => by rw [a3.2 d (by omega)]; exact hold d hd
    rcases hform with rfl | rfl
    · rw [partT, if_pos rfl] at a1
      have b0 := bvA_small (n := (l[i]).toNat) (by omega)
      simp (disch := omega) only [kB, kcx, kdm, kdn, kel, aop, resultsL, resultOf, Nat.reduceEqDiff, reduceCtorEq, eq1, apartOK, apart2, AObj.live, Int.reduceEq, Int.reduceLT, Int.reduceLE, Int.reduceAdd, Int.reduceSub, Int.reduceMul, Int.reduceToNat, cutCells, Nat.reduceAdd, Nat.reduceLeDiff, Nat.reduceLT, Nat.reduceMul, Nat.reduceSub, c0, hg, wr_u64]
      rw [b0]
      refine digits_s (b := 10) (by simp [base3]) (by omega) k0 kl ?_
      simp (disch := omega) only [kB, kcx, kdm, kdn, kel, aop, resultsL, resultOf, Nat.reduceEqDiff, reduceCtorEq, eq1, apartOK, apart2, AObj.live, Int.reduceEq, Int.reduceLT, Int.reduceLE, Int.reduceAdd, Int.reduceSub, Int.reduceMul, Int.reduceToNat, cutCells, Nat.reduceAdd, Nat.reduceLeDiff, Nat.reduceLT, Nat.reduceMul, Nat.reduceSub, a1, wr_i64]
      exact ⟨l.length - (i + 1), by omega, i + 1, by omega, rfl, a3.1, fin, sv', a2, by exact ex_env rfl⟩
    · have c54 : ¬ (5 : Int) = 4 := by decide
      rw [partT, if_neg (by decide)] at a1
      have g1 := signs_get (n := (l[i]).toNat / 16) (by omega)
      have g2 := signs_get (n := (l[i]).toNat % 16) (by omega)
      unfold u8c at g1 g2
      have c1 : (((l[i]).toNat / 16 : Nat) : Int) < 16 := by omega
      have c2 : (((l[i]).toNat % 16 : Nat) : Int) < 16 := by omega
      have b1 := bin_shr8 (l[i]).toNat
      have b2 := bin_and8 hb
      obtain ⟨x1, hx1⟩ : ∃ x, x = sgN ((l[i]).toNat / 16) := ⟨_, rfl⟩
      obtain ⟨x2, hx2⟩ : ∃ x, x = sgN ((l[i]).toNat % 16) := ⟨_, rfl⟩
      rw [← hx1] at g1 a1
      rw [← hx2] at g2 a1
      obtain ⟨n1, hn1⟩ : ∃ n, n = (l[i]).toNat / 16 := ⟨_, rfl⟩
      obtain ⟨n2, hn2⟩ : ∃ n, n = (l[i]).toNat % 16 := ⟨_, rfl⟩
      rw [← hn1] at g1 c1 b1
      rw [← hn2] at g2 c2 b2
      have hsrc : (srcCells (K ++ [.row [.int .u8 (x1.toNat : Int), .int .u8 (x2.toNat : Int)] 1 true]) 1 2 (.slice (some ⟨K.length, 0, none⟩) 2 2)).bind bytesOf = some [x1, x2] := by
        have e0 : hget (K ++ [.row [.int .u8 (x1.toNat : Int), .int .u8 (x2.toNat : Int)] 1 true]) K.length = .row [.int .u8 (x1.toNat : Int), .int .u8 (x2.toNat : Int)] 1 true := hget_last _ _
        simp only [srcCells, e0]
        exact bytes_u8 [x1, x2]
      obtain ⟨sv2, K2, d1, d2, d3⟩ := SLs_push (hB.app (G := [.row [.int .u8 (x1.toNat : Int), .int .u8 (x2.toNat : Int)] 1 true])) (by simp; omega) [x1, x2] (by simp; omega)
      have d1' : appendV (K ++ [.row [.int .u8 (x1.toNat : Int), .int .u8 (x2.toNat : Int)] 1 true, .row [.string ⟨[x1, x2].toArray⟩] 1 true]) 1 16 sv (.slice (some ⟨K.length + 1, 0, none⟩) 1 1) = .val sv2 K2 := by
        rw [← d1]
        simp [bs]
      have fin2 : ∀ d, d < H.length → hget K2 d = hget H d := fun d hd => by rw [d3.2 d (by omega), hget_old (by omega)]; exact hold d hd
      have e5 : [x1, x2] = partT 5 l[i] := by rw [partT, if_neg (by decide), hx1, hx2]
      rw [e5, hnext] at d2
      simp (disch := omega) only [kB, kcx, kdm, kdn, kel, aop, resultsL, resultOf, Nat.reduceEqDiff, reduceCtorEq, eq1, apartOK, apart2, AObj.live, Int.reduceEq, Int.reduceLT, Int.reduceLE, Int.reduceAdd, Int.reduceSub, Int.reduceMul, Int.reduceToNat, cutCells, Nat.reduceAdd, Nat.reduceLeDiff, Nat.reduceLT, Nat.reduceMul, Nat.reduceSub, c0, c54, hg, b1, b2, c1, c2, k0, g1, g2, signs_len, if_pos, lenV, hsrc, d1', wr_i64]
      exact ⟨l.length - (i + 1), by omega, i + 1, by omega, rfl, by have := d3.1; omega, fin2, sv2, d2, by exact ex_env rfl⟩
  · obtain rfl : i = l.length := by omega
    have c0 : ¬ (l.length : Int) < (l.length : Int) := by omega
    rw [List.take_length] at hB
    have hKP : KP H.length H K := ⟨by omega, hold⟩
    have hjl : (Lib.join (l.map (partT form)) (sepT form)).length ≤ 140737488355328 := by
      have := join_len (sepT form) 128 (l.map (partT form)) (fun x hx => by
        obtain ⟨c, _, rfl⟩ := List.mem_map.1 hx
        exact partT_len _ _)
      have hs : (sepT form).length = 1 := by unfold sepT; split <;> rfl
      rw [hs, List.length_map] at this
      omega
    have hll : (l.map (partT form)).length ≤ 1000 := by simp; omega
    rcases hform with rfl | rfl
    · rw [sepT, if_pos rfl] at h hjl
      simp (disch := omega) only [kB, kcx, kdm, kdn, kel, aop, resultsL, resultOf, Nat.reduceEqDiff, reduceCtorEq, eq1, apartOK, apart2, AObj.live, Int.reduceEq, Int.reduceLT, Int.reduceLE, Int.reduceAdd, Int.reduceSub, Int.reduceMul, Int.reduceToNat, cutCells, Nat.reduceAdd, Nat.reduceLeDiff, Nat.reduceLT, Nat.reduceMul, Nat.reduceSub, c0]
      refine join_s hB hll hjl ?_
      simp (disch := omega) only [kB, kcx, kdm, kdn, kel, aop, resultsL, resultOf, Nat.reduceEqDiff, reduceCtorEq, eq1, apartOK, apart2, AObj.live, Int.reduceEq, Int.reduceLT, Int.reduceLE, Int.reduceAdd, Int.reduceSub, Int.reduceMul, Int.reduceToNat, cutCells, Nat.reduceAdd, Nat.reduceLeDiff, Nat.reduceLT, Nat.reduceMul, Nat.reduceSub]
      exact ⟨_, rfl, hKP.ext, .tup2 (.closed rfl) (.closed rfl), h⟩
    · have c54 : ¬ (5 : Int) = 4 := by decide
      rw [sepT, if_neg (by decide)] at h hjl
      simp (disch := omega) only [kB, kcx, kdm, kdn, kel, aop, resultsL, resultOf, Nat.reduceEqDiff, reduceCtorEq, eq1, apartOK, apart2, AObj.live, Int.reduceEq, Int.reduceLT, Int.reduceLE, Int.reduceAdd, Int.reduceSub, Int.reduceMul, Int.reduceToNat, cutCells, Nat.reduceAdd, Nat.reduceLeDiff, Nat.reduceLT, Nat.reduceMul, Nat.reduceSub, c0, c54]
      refine join_s hB hll hjl ?_
      simp (disch := omega) only [kB, kcx, kdm, kdn, kel, aop, resultsL, resultOf, Nat.reduceEqDiff, reduceCtorEq, eq1, apartOK, apart2, AObj.live, Int.reduceEq, Int.reduceLT, Int.reduceLE, Int.reduceAdd, Int.reduceSub, Int.reduceMul, Int.reduceToNat, cutCells, Nat.reduceAdd, Nat.reduceLeDiff, Nat.reduceLT, Nat.reduceMul, Nat.reduceSub]
      exact ⟨_, rfl, hKP.ext, .tup2 (.closed rfl) (.closed rfl), h⟩

end Go.Proofs.YtkhkmgcegicmoaaDoor.Ev

/- A value's text, whole; a text read. -/
namespace Go.Proofs.YtkhkmgcegicmoaaDoor.Ev
set_option maxRecDepth 100000
set_option linter.unusedSimpArgs false
set_option linter.unusedVariables false
variable {R : FRes → Heap → Prop} {H : Heap}

set_option maxHeartbeats 4000000 in
theorem text_s {a : Nat} {w form : Int} (ha : a < 2 ^ 128) (hH : hget H 0 = .row (numV signsL) 0 false) (hlen : 0 < H.length) (h : R (.ret (txtV (textI a w form))) H) : WD T 14 [bvA a, .int .i64 w, .int .i64 form] H R := by
  refine WD.gc0 (WD.of follows t14 (by simp) ?_)
  have fin : ∀ K, H.length + 1 ≤ K.length → (∀ d, d < H.length → hget K d = hget H d) → KP H.length H K := fun K h1 h2 => ⟨by omega, h2⟩
  by_cases f1 : form < 1
  · rw [textI, if_pos (.inl f1)] at h
    simp (disch := omega) only [kB, kcx, kdm, kdn, kel, aop, resultsL, resultOf, Nat.reduceEqDiff, reduceCtorEq, eq1, apartOK, apart2, AObj.live, Int.reduceEq, Int.reduceLT, Int.reduceLE, Int.reduceAdd, Int.reduceSub, Int.reduceMul, Int.reduceToNat, cutCells, Nat.reduceAdd, Nat.reduceLeDiff, Nat.reduceLT, Nat.reduceMul, Nat.reduceSub, f1]
    exact ⟨_, rfl, ⟨_, rfl⟩, .tup2 (.closed rfl) (.closed rfl), h⟩
  by_cases f5 : 5 < form
  · rw [textI, if_pos (.inr f5)] at h
    simp (disch := omega) only [kB, kcx, kdm, kdn, kel, aop, resultsL, resultOf, Nat.reduceEqDiff, reduceCtorEq, eq1, apartOK, apart2, AObj.live, Int.reduceEq, Int.reduceLT, Int.reduceLE, Int.reduceAdd, Int.reduceSub, Int.reduceMul, Int.reduceToNat, cutCells, Nat.reduceAdd, Nat.reduceLeDiff, Nat.reduceLT, Nat.reduceMul, Nat.reduceSub, f1, f5]
    exact ⟨_, rfl, ⟨_, rfl⟩, .tup2 (.closed rfl) (.closed rfl), h⟩
  rw [textI, if_neg (by omega)] at h
  simp (disch := omega) only [kB, kcx, kdm, kdn, kel, aop, resultsL, resultOf, Nat.reduceEqDiff, reduceCtorEq, eq1, apartOK, apart2, AObj.live, Int.reduceEq, Int.reduceLT, Int.reduceLE, Int.reduceAdd, Int.reduceSub, Int.reduceMul, Int.reduceToNat, cutCells, Nat.reduceAdd, Nat.reduceLeDiff, Nat.reduceLT, Nat.reduceMul, Nat.reduceSub, f1, f5]
  refine has_s ?_
  cases hh : hasI w form with
  | false =>
    rw [hh, if_neg (by decide)] at h
    simp (disch := omega) only [kB, kcx, kdm, kdn, kel, aop, resultsL, resultOf, Nat.reduceEqDiff, reduceCtorEq, eq1, apartOK, apart2, AObj.live, Int.reduceEq, Int.reduceLT, Int.reduceLE, Int.reduceAdd, Int.reduceSub, Int.reduceMul, Int.reduceToNat, cutCells, Nat.reduceAdd, Nat.reduceLeDiff, Nat.reduceLT, Nat.reduceMul, Nat.reduceSub]
    exact ⟨_, rfl, ⟨_, rfl⟩, .tup2 (.closed rfl) (.closed rfl), h⟩
  | true =>
    have hw := hasI_isw hh
    rcases wcases w with hw' | ⟨k, rfl, h1, h2⟩
    · rw [hw] at hw'; cases hw'
    rw [hh, if_pos rfl] at h
    simp (disch := omega) only [kB, kcx, kdm, kdn, kel, aop, resultsL, resultOf, Nat.reduceEqDiff, reduceCtorEq, eq1, apartOK, apart2, AObj.live, Int.reduceEq, Int.reduceLT, Int.reduceLE, Int.reduceAdd, Int.reduceSub, Int.reduceMul, Int.reduceToNat, cutCells, Nat.reduceAdd, Nat.reduceLeDiff, Nat.reduceLT, Nat.reduceMul, Nat.reduceSub]
    refine fits_g ha ?_
    cases hf : fitsI a (k : Int) with
    | false =>
      rw [hf, if_neg (by decide)] at h
      simp (disch := omega) only [kB, kcx, kdm, kdn, kel, aop, resultsL, resultOf, Nat.reduceEqDiff, reduceCtorEq, eq1, apartOK, apart2, AObj.live, Int.reduceEq, Int.reduceLT, Int.reduceLE, Int.reduceAdd, Int.reduceSub, Int.reduceMul, Int.reduceToNat, cutCells, Nat.reduceAdd, Nat.reduceLeDiff, Nat.reduceLT, Nat.reduceMul, Nat.reduceSub]
      exact ⟨_, rfl, ⟨_, rfl⟩, .tup2 (.closed rfl) (.closed rfl), h⟩
    | true =>
      rw [hf, if_pos rfl, Int.toNat_natCast] at h
      have ha2 : a < 2 ^ k := by
        rw [fitsI, hw, Bool.true_and, Int.toNat_natCast] at hf
        simpa using hf
      have k0 : hget (H ++ [rowU a]) 0 = .row (numV signsL) 0 false := by rw [hget_old hlen]; exact hH
      have hcat : ∀ (p : List UInt8) b, p.length = 2 → p.length + (dig b a).length ≤ 4611686018427387904 := fun p b hp => by have := dig_len b a; omega
      by_cases g1 : form = 1
      · subst g1
        rw [txtI, if_pos rfl] at h
        simp (disch := omega) only [kB, kcx, kdm, kdn, kel, aop, resultsL, resultOf, Nat.reduceEqDiff, reduceCtorEq, eq1, apartOK, apart2, AObj.live, Int.reduceEq, Int.reduceLT, Int.reduceLE, Int.reduceAdd, Int.reduceSub, Int.reduceMul, Int.reduceToNat, cutCells, Nat.reduceAdd, Nat.reduceLeDiff, Nat.reduceLT, Nat.reduceMul, Nat.reduceSub]
        refine digits_s (b := 10) (by simp [base3]) ha k0 (by simp) ?_
        simp (disch := omega) only [kB, kcx, kdm, kdn, kel, aop, resultsL, resultOf, Nat.reduceEqDiff, reduceCtorEq, eq1, apartOK, apart2, AObj.live, Int.reduceEq, Int.reduceLT, Int.reduceLE, Int.reduceAdd, Int.reduceSub, Int.reduceMul, Int.reduceToNat, cutCells, Nat.reduceAdd, Nat.reduceLeDiff, Nat.reduceLT, Nat.reduceMul, Nat.reduceSub]
        exact ⟨_, rfl, ⟨_, rfl⟩, .tup2 (.closed rfl) (.closed rfl), h⟩
      by_cases g2 : form = 2
      · subst g2
        rw [txtI, if_neg (by decide), if_pos rfl] at h
        have hadd := bin_str_add (hcat [48, 120] 16 rfl)
        simp (disch := omega) only [kB, kcx, kdm, kdn, kel, aop, resultsL, resultOf, Nat.reduceEqDiff, reduceCtorEq, eq1, apartOK, apart2, AObj.live, Int.reduceEq, Int.reduceLT, Int.reduceLE, Int.reduceAdd, Int.reduceSub, Int.reduceMul, Int.reduceToNat, cutCells, Nat.reduceAdd, Nat.reduceLeDiff, Nat.reduceLT, Nat.reduceMul, Nat.reduceSub]
        refine digits_s (b := 16) (by simp [base3]) ha k0 (by simp) ?_
        simp (disch := omega) only [kB, kcx, kdm, kdn, kel, aop, resultsL, resultOf, Nat.reduceEqDiff, reduceCtorEq, eq1, apartOK, apart2, AObj.live, Int.reduceEq, Int.reduceLT, Int.reduceLE, Int.reduceAdd, Int.reduceSub, Int.reduceMul, Int.reduceToNat, cutCells, Nat.reduceAdd, Nat.reduceLeDiff, Nat.reduceLT, Nat.reduceMul, Nat.reduceSub, hadd]
        exact ⟨_, rfl, ⟨_, rfl⟩, .tup2 (.closed rfl) (.closed rfl), h⟩
      by_cases g3 : form = 3
      · subst g3
        rw [txtI, if_neg (by decide), if_neg (by decide), if_pos rfl] at h
        have hadd := bin_str_add (hcat [48, 98] 2 rfl)
        simp (disch := omega) only [kB, kcx, kdm, kdn, kel, aop, resultsL, resultOf, Nat.reduceEqDiff, reduceCtorEq, eq1, apartOK, apart2, AObj.live, Int.reduceEq, Int.reduceLT, Int.reduceLE, Int.reduceAdd, Int.reduceSub, Int.reduceMul, Int.reduceToNat, cutCells, Nat.reduceAdd, Nat.reduceLeDiff, Nat.reduceLT, Nat.reduceMul, Nat.reduceSub]
        refine digits_s (b := 2) (by simp [base3]) ha k0 (by simp) ?_
        simp (disch := omega) only [kB, kcx, kdm, kdn, kel, aop, resultsL, resultOf, Nat.reduceEqDiff, reduceCtorEq, eq1, apartOK, apart2, AObj.live, Int.reduceEq, Int.reduceLT, Int.reduceLE, Int.reduceAdd, Int.reduceSub, Int.reduceMul, Int.reduceToNat, cutCells, Nat.reduceAdd, Nat.reduceLeDiff, Nat.reduceLT, Nat.reduceMul, Nat.reduceSub, hadd]
        exact ⟨_, rfl, ⟨_, rfl⟩, .tup2 (.closed rfl) (.closed rfl), h⟩
      rw [txtI, if_neg g1, if_neg g2, if_neg g3] at h
      obtain ⟨Z, hZ⟩ : ∃ Z, Z = WC T (g14.body.at [1, 1, 1, 1, 1]) := ⟨_, rfl⟩
      have hrest : ∀ e K, (∃ x : Nat → Value, e = [x 0, x 1, .int .i64 form, x 3, x 4, x 5, x 6, x 7, .string (bs (beL ((k + 7) / 8) a)), x 9, .slice none 0 0, x 11, x 12, x 13, x 14, x 15, x 16, x 17, x 18, x 19, x 20, x 21, x 22, x 23, x 24, x 25, x 26, x 27, x 28, x 29, x 30, x 31, x 32, x 33, x 34, x 35, x 36, x 37, x 38, x 39, x 40, x 41, x 42, x 43, x 44, x 45, x 46, x 47, x 48, x 49, x 50, x 51, x 52, x 53, x 54, x 55, x 56, x 57, x 58, x 59, x 60, x 61, x 62, x 63, x 64, x 65, x 66, x 67, x 68, x 69, x 70, x 71, x 72, x 73, x 74, x 75, x 76, x 77, x 78, x 79, x 80, x 81, x 82, x 83, x 84, x 85, x 86, x 87, x 88, x 89]) → H.length + 1 ≤ K.length → (∀ d, d < H.length → hget K d = hget H d) → Z e K (QT R H) := fun e K he q1 q2 => by
        rw [hZ]
        exact text_tail (by omega) (by rw [beL_len]; omega) hH hlen he q1 q2 h
      have hZ' := hZ.symm
      clear hZ
      simp only [AFunc.body, g14, ACode.at] at hZ'
      simp (disch := omega) only [kB, kcx, kdm, kdn, kel, aop, resultsL, resultOf, Nat.reduceEqDiff, reduceCtorEq, eq1, apartOK, apart2, AObj.live, Int.reduceEq, Int.reduceLT, Int.reduceLE, Int.reduceAdd, Int.reduceSub, Int.reduceMul, Int.reduceToNat, cutCells, Nat.reduceAdd, Nat.reduceLeDiff, Nat.reduceLT, Nat.reduceMul, Nat.reduceSub, hZ', g1, g2, g3]
      refine bytes_s h1 h2 ha2 ?_
      simp (disch := omega) only [kB, kcx, kdm, kdn, kel, aop, resultsL, resultOf, Nat.reduceEqDiff, reduceCtorEq, eq1, apartOK, apart2, AObj.live, Int.reduceEq, Int.reduceLT, Int.reduceLE, Int.reduceAdd, Int.reduceSub, Int.reduceMul, Int.reduceToNat, cutCells, Nat.reduceAdd, Nat.reduceLeDiff, Nat.reduceLT, Nat.reduceMul, Nat.reduceSub, hZ']
      exact hrest _ _ (by exact ex_env rfl) (by simp) (fun d hd => hget_old hd)

/-! A text read. -/
/-- The text behind its head, and the base that the head says. -/
def headT (l : List UInt8) : List UInt8 × Nat := if [48, 120].isPrefixOf l = true then (l.drop 2, 16) else if [48, 98].isPrefixOf l = true then (l.drop 2, 2) else (l, 10)
def parseI (l : List UInt8) (w : Int) : Nat × Int :=
  if isw w = true then
    match numI (headT l).2 (headT l).1 with
    | some v => if v < 2 ^ w.toNat then (v, 0) else (0, 11)
    | none =>
      match (if hasI w 4 = true then pcsO 10 46 4 l else none) with
      | some out => fromI out w
      | none =>
        match (if hasI w 5 = true then pcsO 16 58 (w.toNat / 8) l else none) with
        | some out => fromI out w
        | none => (0, 12)
  else (0, 10)

end Go.Proofs.YtkhkmgcegicmoaaDoor.Ev

/- A text read: the program's Parse. -/
namespace Go.Proofs.YtkhkmgcegicmoaaDoor.Ev
set_option maxRecDepth 100000
set_option linter.unusedSimpArgs false
set_option linter.unusedVariables false
variable {R : FRes → Heap → Prop} {H : Heap}

abbrev QP (R : FRes → Heap → Prop) (H : Heap) : Post := retK [.cellN 4 2, .tmp 5] (fun r H1 => ∃ v, r = .ret v ∧ (∃ g, H1 = H ++ g) ∧ Scoped H.length v ∧ R (.ret v) H)
abbrev zRow : AObj := .row [.int .u64 0, .int .u64 0] 0 true

def colI (l : List UInt8) (w : Int) : Nat × Int := match (if hasI w 5 = true then pcsO 16 58 (w.toNat / 8) l else none) with
  | some out => fromI out w
  | none => (0, 12)
def dotI (l : List UInt8) (w : Int) : Nat × Int := match (if hasI w 4 = true then pcsO 10 46 4 l else none) with
  | some out => fromI out w
  | none => colI l w

theorem par_col {l : List UInt8} {k : Nat} (hk : k ≤ 128) (hl : l.length ≤ 4611686018427387904) {e : Env} (he : (∃ x : Nat → Value, e = [.string (bs l), .int .i64 (k : Int), x 2, x 3, .pointer (some ⟨H.length, 0, none⟩), x 5, x 6, x 7, x 8, x 9, x 10, x 11, x 12, x 13, x 14, x 15, x 16, x 17, x 18, x 19, x 20, x 21, x 22, x 23, x 24, x 25, x 26, x 27, x 28, x 29, x 30, x 31, x 32, x 33, x 34, x 35, x 36, x 37, x 38, x 39, x 40, x 41, x 42, x 43, x 44, x 45, x 46, x 47, x 48, x 49, x 50, x 51, x 52, x 53, x 54, x 55, x 56, x 57, x 58, x 59, x 60, x 61, x 62, x 63, x 64, x 65, x 66, x 67, x 68, x 69, x 70, x 71, x 72, x 73, x 74, x 75, x 76, x 77, x 78, x 79, x 80, x 81, x 82, x 83, x 84, x 85, x 86, x 87])) {g : Heap}
    (h : R (.ret (pairV (colI l (k : Int)))) H) : WC T (g15.body.at [1, 1, 1, 1, 1, 1, 1, 1]) e (H ++ zRow :: g) (QP R H) := by
  obtain ⟨y, rfl⟩ := he
  have e0 : H ++ zRow :: g = (H ++ [zRow]) ++ g := by simp
  have hK : ∀ o, (H ++ zRow :: g).set H.length o = H ++ o :: g := fun o => by simp
  have hg : hget (H ++ zRow :: g) H.length = zRow := by rw [e0, hget_old (by simp), hget_last]
  have hg2 : ∀ o, hget (H ++ o :: g) H.length = o := fun o => by rw [show H ++ o :: g = (H ++ [o]) ++ g by simp, hget_old (by simp), hget_last]
  obtain ⟨K, hKK⟩ : ∃ K, K = H ++ zRow :: g := ⟨_, rfl⟩
  rw [← hKK] at hK hg ⊢
  unfold colI at h
  simp only [AFunc.body, g15, ACode.at]
  have hq := bin_quo (k := .i64) (a := k) (b := 8) (by decide)
  have q0 : (((8 : Nat) : Int)) = 8 := rfl
  rw [q0] at hq
  simp (disch := omega) only [kB, kcx, kdm, kdn, kel, aop, resultsL, resultOf, Nat.reduceEqDiff, reduceCtorEq, eq1, apartOK, apart2, AObj.live, Int.reduceEq, Int.reduceLT, Int.reduceLE, Int.reduceAdd, Int.reduceSub, Int.reduceMul, Int.reduceToNat, cutCells, Nat.reduceAdd, Nat.reduceLeDiff, Nat.reduceLT, Nat.reduceMul, Nat.reduceSub]
  refine has_s ?_
  cases hh : hasI (k : Int) 5 with
  | false =>
    rw [hh, if_neg (by decide)] at h
    have hz : R (.ret (.tuple #[bvA 0, .int .i64 12])) H := h
    rw [bvA_zero] at hz
    simp (disch := omega) only [kB, kcx, kdm, kdn, kel, aop, resultsL, resultOf, Nat.reduceEqDiff, reduceCtorEq, eq1, apartOK, apart2, AObj.live, Int.reduceEq, Int.reduceLT, Int.reduceLE, Int.reduceAdd, Int.reduceSub, Int.reduceMul, Int.reduceToNat, cutCells, Nat.reduceAdd, Nat.reduceLeDiff, Nat.reduceLT, Nat.reduceMul, Nat.reduceSub, hg, hK, hg2]
    exact ⟨_, rfl, ⟨_, rfl⟩, .tup2 (.closed rfl) (.closed rfl), hz⟩
  | true =>
    rw [hh, if_pos rfl, Int.toNat_natCast] at h
    simp (disch := omega) only [kB, kcx, kdm, kdn, kel, aop, resultsL, resultOf, Nat.reduceEqDiff, reduceCtorEq, eq1, apartOK, apart2, AObj.live, Int.reduceEq, Int.reduceLT, Int.reduceLE, Int.reduceAdd, Int.reduceSub, Int.reduceMul, Int.reduceToNat, cutCells, Nat.reduceAdd, Nat.reduceLeDiff, Nat.reduceLT, Nat.reduceMul, Nat.reduceSub, hq, wr_i64]
    refine pieces_s (b := 16) (most := k / 8) (.inr rfl) (by omega) hl (fun out ho => ?_) (fun ho t => ?_)
    · rw [ho] at h
      simp (disch := omega) only [kB, kcx, kdm, kdn, kel, aop, resultsL, resultOf, Nat.reduceEqDiff, reduceCtorEq, eq1, apartOK, apart2, AObj.live, Int.reduceEq, Int.reduceLT, Int.reduceLE, Int.reduceAdd, Int.reduceSub, Int.reduceMul, Int.reduceToNat, cutCells, Nat.reduceAdd, Nat.reduceLeDiff, Nat.reduceLT, Nat.reduceMul, Nat.reduceSub]
      refine from_g ?_
      simp (disch := omega) only [kB, kcx, kdm, kdn, kel, aop, resultsL, resultOf, Nat.reduceEqDiff, reduceCtorEq, eq1, apartOK, apart2, AObj.live, Int.reduceEq, Int.reduceLT, Int.reduceLE, Int.reduceAdd, Int.reduceSub, Int.reduceMul, Int.reduceToNat, cutCells, Nat.reduceAdd, Nat.reduceLeDiff, Nat.reduceLT, Nat.reduceMul, Nat.reduceSub, hg, hK, hg2]
      exact ⟨_, rfl, ⟨_, rfl⟩, .tup2 (.closed rfl) (.closed rfl), h⟩
    · rw [ho] at h
      have hz : R (.ret (.tuple #[bvA 0, .int .i64 12])) H := h
      rw [bvA_zero] at hz
      simp (disch := omega) only [kB, kcx, kdm, kdn, kel, aop, resultsL, resultOf, Nat.reduceEqDiff, reduceCtorEq, eq1, apartOK, apart2, AObj.live, Int.reduceEq, Int.reduceLT, Int.reduceLE, Int.reduceAdd, Int.reduceSub, Int.reduceMul, Int.reduceToNat, cutCells, Nat.reduceAdd, Nat.reduceLeDiff, Nat.reduceLT, Nat.reduceMul, Nat.reduceSub, hg, hK, hg2]
      exact ⟨_, rfl, ⟨_, rfl⟩, .tup2 (.closed rfl) (.closed rfl), hz⟩

theorem par_dot {l : List UInt8} {k : Nat} (hk : k ≤ 128) (hl : l.length ≤ 4611686018427387904) {e : Env} (he : (∃ x : Nat → Value, e = [.string (bs l), .int .i64 (k : Int), x 2, x 3, .pointer (some ⟨H.length, 0, none⟩), x 5, x 6, x 7, x 8, x 9, x 10, x 11, x 12, x 13, x 14, x 15, x 16, x 17, x 18, x 19, x 20, x 21, x 22, x 23, x 24, x 25, x 26, x 27, x 28, x 29, x 30, x 31, x 32, x 33, x 34, x 35, x 36, x 37, x 38, x 39, x 40, x 41, x 42, x 43, x 44, x 45, x 46, x 47, x 48, x 49, x 50, x 51, x 52, x 53, x 54, x 55, x 56, x 57, x 58, x 59, x 60, x 61, x 62, x 63, x 64, x 65, x 66, x 67, x 68, x 69, x 70, x 71, x 72, x 73, x 74, x 75, x 76, x 77, x 78, x 79, x 80, x 81, x 82, x 83, x 84, x 85, x 86, x 87])) {g : Heap}
    (h : R (.ret (pairV (dotI l (k : Int)))) H) : WC T (g15.body.at [1, 1, 1, 1, 1, 1, 1]) e (H ++ zRow :: g) (QP R H) := by
  obtain ⟨y, rfl⟩ := he
  have e0 : H ++ zRow :: g = (H ++ [zRow]) ++ g := by simp
  have hK : ∀ o, (H ++ zRow :: g).set H.length o = H ++ o :: g := fun o => by simp
  have hg : hget (H ++ zRow :: g) H.length = zRow := by rw [e0, hget_old (by simp), hget_last]
  have hg2 : ∀ o, hget (H ++ o :: g) H.length = o := fun o => by rw [show H ++ o :: g = (H ++ [o]) ++ g by simp, hget_old (by simp), hget_last]
  obtain ⟨Z, hZ⟩ : ∃ Z, Z = WC T (g15.body.at [1, 1, 1, 1, 1, 1, 1, 1]) := ⟨_, rfl⟩
  have hrest : ∀ e, R (.ret (pairV (colI l (k : Int)))) H → (∃ x : Nat → Value, e = [.string (bs l), .int .i64 (k : Int), x 2, x 3, .pointer (some ⟨H.length, 0, none⟩), x 5, x 6, x 7, x 8, x 9, x 10, x 11, x 12, x 13, x 14, x 15, x 16, x 17, x 18, x 19, x 20, x 21, x 22, x 23, x 24, x 25, x 26, x 27, x 28, x 29, x 30, x 31, x 32, x 33, x 34, x 35, x 36, x 37, x 38, x 39, x 40, x 41, x 42, x 43, x 44, x 45, x 46, x 47, x 48, x 49, x 50, x 51, x 52, x 53, x 54, x 55, x 56, x 57, x 58, x 59, x 60, x 61, x 62, x 63, x 64, x 65, x 66, x 67, x 68, x 69, x 70, x 71, x 72, x 73, x 74, x 75, x 76, x 77, x 78, x 79, x 80, x 81, x 82, x 83, x 84, x 85, x 86, x 87]) → Z e (H ++ zRow :: g) (QP R H) := fun e hR he => by rw [hZ]; exact par_col hk hl he hR
  obtain ⟨K, hKK⟩ : ∃ K, K = H ++ zRow :: g := ⟨_, rfl⟩
  rw [← hKK] at hK hg hrest ⊢
  have hZ' := hZ.symm
  clear hZ
  simp only [AFunc.body, g15, ACode.at] at hZ' ⊢
  unfold dotI at h
  simp (disch := omega) only [kB, kcx, kdm, kdn, kel, aop, resultsL, resultOf, Nat.reduceEqDiff, reduceCtorEq, eq1, apartOK, apart2, AObj.live, Int.reduceEq, Int.reduceLT, Int.reduceLE, Int.reduceAdd, Int.reduceSub, Int.reduceMul, Int.reduceToNat, cutCells, Nat.reduceAdd, Nat.reduceLeDiff, Nat.reduceLT, Nat.reduceMul, Nat.reduceSub, hZ']
  refine has_s ?_
  cases hh : hasI (k : Int) 4 with
  | false =>
    rw [hh, if_neg (by decide)] at h
    simp (disch := omega) only [kB, kcx, kdm, kdn, kel, aop, resultsL, resultOf, Nat.reduceEqDiff, reduceCtorEq, eq1, apartOK, apart2, AObj.live, Int.reduceEq, Int.reduceLT, Int.reduceLE, Int.reduceAdd, Int.reduceSub, Int.reduceMul, Int.reduceToNat, cutCells, Nat.reduceAdd, Nat.reduceLeDiff, Nat.reduceLT, Nat.reduceMul, Nat.reduceSub, hZ']
    exact hrest _ h (by exact ex_env rfl)
  | true =>
    rw [hh, if_pos rfl] at h
    simp (disch := omega) only [kB, kcx, kdm, kdn, kel, aop, resultsL, resultOf, Nat.reduceEqDiff, reduceCtorEq, eq1, apartOK, apart2, AObj.live, Int.reduceEq, Int.reduceLT, Int.reduceLE, Int.reduceAdd, Int.reduceSub, Int.reduceMul, Int.reduceToNat, cutCells, Nat.reduceAdd, Nat.reduceLeDiff, Nat.reduceLT, Nat.reduceMul, Nat.reduceSub, hZ']
    refine pieces_s (b := 10) (most := 4) (.inl rfl) (by omega) hl (fun out ho => ?_) (fun ho t => ?_)
    · rw [ho] at h
      simp (disch := omega) only [kB, kcx, kdm, kdn, kel, aop, resultsL, resultOf, Nat.reduceEqDiff, reduceCtorEq, eq1, apartOK, apart2, AObj.live, Int.reduceEq, Int.reduceLT, Int.reduceLE, Int.reduceAdd, Int.reduceSub, Int.reduceMul, Int.reduceToNat, cutCells, Nat.reduceAdd, Nat.reduceLeDiff, Nat.reduceLT, Nat.reduceMul, Nat.reduceSub, hZ']
      refine from_g ?_
      simp (disch := omega) only [kB, kcx, kdm, kdn, kel, aop, resultsL, resultOf, Nat.reduceEqDiff, reduceCtorEq, eq1, apartOK, apart2, AObj.live, Int.reduceEq, Int.reduceLT, Int.reduceLE, Int.reduceAdd, Int.reduceSub, Int.reduceMul, Int.reduceToNat, cutCells, Nat.reduceAdd, Nat.reduceLeDiff, Nat.reduceLT, Nat.reduceMul, Nat.reduceSub, hZ', hg, hK, hg2]
      exact ⟨_, rfl, ⟨_, rfl⟩, .tup2 (.closed rfl) (.closed rfl), h⟩
    · rw [ho] at h
      simp (disch := omega) only [kB, kcx, kdm, kdn, kel, aop, resultsL, resultOf, Nat.reduceEqDiff, reduceCtorEq, eq1, apartOK, apart2, AObj.live, Int.reduceEq, Int.reduceLT, Int.reduceLE, Int.reduceAdd, Int.reduceSub, Int.reduceMul, Int.reduceToNat, cutCells, Nat.reduceAdd, Nat.reduceLeDiff, Nat.reduceLT, Nat.reduceMul, Nat.reduceSub, hZ']
      exact hrest _ h (by exact ex_env rfl)

def numP (l t : List UInt8) (b : Nat) (w : Int) : Nat × Int := match numI b t with
  | some v => if v < 2 ^ w.toNat then (v, 0) else (0, 11)
  | none => dotI l w

set_option maxHeartbeats 2000000 in
theorem par_num {l t : List UInt8} {k b : Nat} (h1 : 1 ≤ k) (hk : k ≤ 128) (hb : base3 b) (hl : l.length ≤ 4611686018427387904) {e : Env} (he : (∃ x : Nat → Value, e = [.string (bs l), .int .i64 (k : Int), x 2, x 3, .pointer (some ⟨H.length, 0, none⟩), x 5, .string (bs t), .int .u64 (b : Int), x 8, x 9, x 10, x 11, x 12, x 13, x 14, x 15, x 16, x 17, x 18, x 19, x 20, x 21, x 22, x 23, x 24, x 25, x 26, x 27, x 28, x 29, x 30, x 31, x 32, x 33, x 34, x 35, x 36, x 37, x 38, x 39, x 40, x 41, x 42, x 43, x 44, x 45, x 46, x 47, x 48, x 49, x 50, x 51, x 52, x 53, x 54, x 55, x 56, x 57, x 58, x 59, x 60, x 61, x 62, x 63, x 64, x 65, x 66, x 67, x 68, x 69, x 70, x 71, x 72, x 73, x 74, x 75, x 76, x 77, x 78, x 79, x 80, x 81, x 82, x 83, x 84, x 85, x 86, x 87]))
    (h : R (.ret (pairV (numP l t b (k : Int)))) H) : WC T (g15.body.at [1, 1, 1, 1]) e (H ++ [zRow]) (QP R H) := by
  obtain ⟨y, rfl⟩ := he
  obtain ⟨Z, hZ⟩ : ∃ Z, Z = WC T (g15.body.at [1, 1, 1, 1, 1, 1, 1]) := ⟨_, rfl⟩
  have hrest : ∀ e g, R (.ret (pairV (dotI l (k : Int)))) H → (∃ x : Nat → Value, e = [.string (bs l), .int .i64 (k : Int), x 2, x 3, .pointer (some ⟨H.length, 0, none⟩), x 5, x 6, x 7, x 8, x 9, x 10, x 11, x 12, x 13, x 14, x 15, x 16, x 17, x 18, x 19, x 20, x 21, x 22, x 23, x 24, x 25, x 26, x 27, x 28, x 29, x 30, x 31, x 32, x 33, x 34, x 35, x 36, x 37, x 38, x 39, x 40, x 41, x 42, x 43, x 44, x 45, x 46, x 47, x 48, x 49, x 50, x 51, x 52, x 53, x 54, x 55, x 56, x 57, x 58, x 59, x 60, x 61, x 62, x 63, x 64, x 65, x 66, x 67, x 68, x 69, x 70, x 71, x 72, x 73, x 74, x 75, x 76, x 77, x 78, x 79, x 80, x 81, x 82, x 83, x 84, x 85, x 86, x 87]) → Z e (H ++ zRow :: g) (QP R H) := fun e g hR he => by rw [hZ]; exact par_dot hk hl he hR
  have hZ' := hZ.symm
  clear hZ
  simp only [AFunc.body, g15, ACode.at] at hZ' ⊢
  unfold numP at h
  simp (disch := omega) only [kB, kcx, kdm, kdn, kel, aop, resultsL, resultOf, Nat.reduceEqDiff, reduceCtorEq, eq1, apartOK, apart2, AObj.live, Int.reduceEq, Int.reduceLT, Int.reduceLE, Int.reduceAdd, Int.reduceSub, Int.reduceMul, Int.reduceToNat, cutCells, Nat.reduceAdd, Nat.reduceLeDiff, Nat.reduceLT, Nat.reduceMul, Nat.reduceSub, hZ']
  refine number_s hb ?_
  cases hn : numI b t with
  | none =>
    rw [hn] at h
    rw [numT]
    simp (disch := omega) only [kB, kcx, kdm, kdn, kel, aop, resultsL, resultOf, Nat.reduceEqDiff, reduceCtorEq, eq1, apartOK, apart2, AObj.live, Int.reduceEq, Int.reduceLT, Int.reduceLE, Int.reduceAdd, Int.reduceSub, Int.reduceMul, Int.reduceToNat, cutCells, Nat.reduceAdd, Nat.reduceLeDiff, Nat.reduceLT, Nat.reduceMul, Nat.reduceSub, hZ']
    exact hrest _ _ h (by exact ex_env rfl)
  | some v =>
    rw [hn] at h
    simp only [Int.toNat_natCast] at h
    rw [numT]
    by_cases hv : v < 2 ^ 128
    · have ev : v % 2 ^ 128 = v := Nat.mod_eq_of_lt hv
      rw [ev, decide_eq_true hv]
      simp (disch := omega) only [kB, kcx, kdm, kdn, kel, aop, resultsL, resultOf, Nat.reduceEqDiff, reduceCtorEq, eq1, apartOK, apart2, AObj.live, Int.reduceEq, Int.reduceLT, Int.reduceLE, Int.reduceAdd, Int.reduceSub, Int.reduceMul, Int.reduceToNat, cutCells, Nat.reduceAdd, Nat.reduceLeDiff, Nat.reduceLT, Nat.reduceMul, Nat.reduceSub, hZ']
      refine fits_s h1 hk hv ?_
      by_cases hf : v < 2 ^ k
      · rw [if_pos hf] at h
        rw [decide_eq_true hf]
        simp (disch := omega) only [kB, kcx, kdm, kdn, kel, aop, resultsL, resultOf, Nat.reduceEqDiff, reduceCtorEq, eq1, apartOK, apart2, AObj.live, Int.reduceEq, Int.reduceLT, Int.reduceLE, Int.reduceAdd, Int.reduceSub, Int.reduceMul, Int.reduceToNat, cutCells, Nat.reduceAdd, Nat.reduceLeDiff, Nat.reduceLT, Nat.reduceMul, Nat.reduceSub, hZ']
        exact ⟨_, rfl, ⟨_, rfl⟩, .tup2 (.closed rfl) (.closed rfl), h⟩
      · rw [if_neg hf] at h
        rw [decide_eq_false hf]
        simp (disch := omega) only [kB, kcx, kdm, kdn, kel, aop, resultsL, resultOf, Nat.reduceEqDiff, reduceCtorEq, eq1, apartOK, apart2, AObj.live, Int.reduceEq, Int.reduceLT, Int.reduceLE, Int.reduceAdd, Int.reduceSub, Int.reduceMul, Int.reduceToNat, cutCells, Nat.reduceAdd, Nat.reduceLeDiff, Nat.reduceLT, Nat.reduceMul, Nat.reduceSub, hZ']
        exact ⟨_, rfl, ⟨_, rfl⟩, .tup2 (.closed rfl) (.closed rfl), h⟩
    · have hf : ¬ v < 2 ^ k := fun q => hv (Nat.lt_of_lt_of_le q (Nat.pow_le_pow_right (by decide) hk))
      rw [if_neg hf] at h
      rw [decide_eq_false hv]
      simp (disch := omega) only [kB, kcx, kdm, kdn, kel, aop, resultsL, resultOf, Nat.reduceEqDiff, reduceCtorEq, eq1, apartOK, apart2, AObj.live, Int.reduceEq, Int.reduceLT, Int.reduceLE, Int.reduceAdd, Int.reduceSub, Int.reduceMul, Int.reduceToNat, cutCells, Nat.reduceAdd, Nat.reduceLeDiff, Nat.reduceLT, Nat.reduceMul, Nat.reduceSub, hZ']
      exact ⟨_, rfl, ⟨_, rfl⟩, .tup2 (.closed rfl) (.closed rfl), h⟩

theorem parseI_eq (l : List UInt8) (w : Int) : parseI l w = if isw w = true then numP l (headT l).1 (headT l).2 w else (0, 10) := rfl

theorem parse_s {l : List UInt8} {w : Int} (hl : l.length ≤ 4611686018427387904) (h : R (.ret (pairV (parseI l w))) H) : WD T 15 [.string (bs l), .int .i64 w] H R := by
  refine WD.gc0 (WD.of follows t15 (by simp) ?_)
  rw [parseI_eq] at h
  rcases wcases w with hw | ⟨k, rfl, h1, h2⟩
  · rw [hw, if_neg (by decide)] at h
    simp (disch := omega) only [kB, kcx, kdm, kdn, kel, aop, resultsL, resultOf, Nat.reduceEqDiff, reduceCtorEq, eq1, apartOK, apart2, AObj.live, Int.reduceEq, Int.reduceLT, Int.reduceLE, Int.reduceAdd, Int.reduceSub, Int.reduceMul, Int.reduceToNat, cutCells, Nat.reduceAdd, Nat.reduceLeDiff, Nat.reduceLT, Nat.reduceMul, Nat.reduceSub]
    refine isw_s ?_
    simp (disch := omega) only [kB, kcx, kdm, kdn, kel, aop, resultsL, resultOf, Nat.reduceEqDiff, reduceCtorEq, eq1, apartOK, apart2, AObj.live, Int.reduceEq, Int.reduceLT, Int.reduceLE, Int.reduceAdd, Int.reduceSub, Int.reduceMul, Int.reduceToNat, cutCells, Nat.reduceAdd, Nat.reduceLeDiff, Nat.reduceLT, Nat.reduceMul, Nat.reduceSub, hw]
    exact ⟨_, rfl, ⟨_, rfl⟩, .tup2 (.closed rfl) (.closed rfl), h⟩
  · have hw := isw_nat h1 h2
    rw [hw, if_pos rfl] at h
    unfold headT at h
    obtain ⟨Z, hZ⟩ : ∃ Z, Z = WC T (g15.body.at [1, 1, 1, 1]) := ⟨_, rfl⟩
    have hrest : ∀ e t b, base3 b → R (.ret (pairV (numP l t b (k : Int)))) H → (∃ x : Nat → Value, e = [.string (bs l), .int .i64 (k : Int), x 2, x 3, .pointer (some ⟨H.length, 0, none⟩), x 5, .string (bs t), .int .u64 (b : Int), x 8, x 9, x 10, x 11, x 12, x 13, x 14, x 15, x 16, x 17, x 18, x 19, x 20, x 21, x 22, x 23, x 24, x 25, x 26, x 27, x 28, x 29, x 30, x 31, x 32, x 33, x 34, x 35, x 36, x 37, x 38, x 39, x 40, x 41, x 42, x 43, x 44, x 45, x 46, x 47, x 48, x 49, x 50, x 51, x 52, x 53, x 54, x 55, x 56, x 57, x 58, x 59, x 60, x 61, x 62, x 63, x 64, x 65, x 66, x 67, x 68, x 69, x 70, x 71, x 72, x 73, x 74, x 75, x 76, x 77, x 78, x 79, x 80, x 81, x 82, x 83, x 84, x 85, x 86, x 87]) → Z e (H ++ [zRow]) (QP R H) := fun e t b hb hR he => by rw [hZ]; exact par_num h1 h2 hb hl he hR
    have hZ' := hZ.symm
    clear hZ
    simp only [AFunc.body, g15, ACode.at] at hZ'
    simp (disch := omega) only [kB, kcx, kdm, kdn, kel, aop, resultsL, resultOf, Nat.reduceEqDiff, reduceCtorEq, eq1, apartOK, apart2, AObj.live, Int.reduceEq, Int.reduceLT, Int.reduceLE, Int.reduceAdd, Int.reduceSub, Int.reduceMul, Int.reduceToNat, cutCells, Nat.reduceAdd, Nat.reduceLeDiff, Nat.reduceLT, Nat.reduceMul, Nat.reduceSub, hZ']
    refine isw_s ?_
    simp (disch := omega) only [kB, kcx, kdm, kdn, kel, aop, resultsL, resultOf, Nat.reduceEqDiff, reduceCtorEq, eq1, apartOK, apart2, AObj.live, Int.reduceEq, Int.reduceLT, Int.reduceLE, Int.reduceAdd, Int.reduceSub, Int.reduceMul, Int.reduceToNat, cutCells, Nat.reduceAdd, Nat.reduceLeDiff, Nat.reduceLT, Nat.reduceMul, Nat.reduceSub, hZ', hw]
    refine cutPrefix_s ?_
    cases p1 : [48, 120].isPrefixOf l with
    | true =>
      simp only [p1, if_true] at h
      simp (disch := omega) only [kB, kcx, kdm, kdn, kel, aop, resultsL, resultOf, Nat.reduceEqDiff, reduceCtorEq, eq1, apartOK, apart2, AObj.live, Int.reduceEq, Int.reduceLT, Int.reduceLE, Int.reduceAdd, Int.reduceSub, Int.reduceMul, Int.reduceToNat, cutCells, Nat.reduceAdd, Nat.reduceLeDiff, Nat.reduceLT, Nat.reduceMul, Nat.reduceSub, hZ']
      exact hrest _ _ 16 (by simp [base3]) h (by exact ex_env rfl)
    | false =>
      simp only [p1, if_false, Bool.false_eq_true] at h
      simp (disch := omega) only [kB, kcx, kdm, kdn, kel, aop, resultsL, resultOf, Nat.reduceEqDiff, reduceCtorEq, eq1, apartOK, apart2, AObj.live, Int.reduceEq, Int.reduceLT, Int.reduceLE, Int.reduceAdd, Int.reduceSub, Int.reduceMul, Int.reduceToNat, cutCells, Nat.reduceAdd, Nat.reduceLeDiff, Nat.reduceLT, Nat.reduceMul, Nat.reduceSub, hZ']
      refine cutPrefix_s ?_
      cases p2 : [48, 98].isPrefixOf l with
      | true =>
        simp only [p2, if_true] at h
        simp (disch := omega) only [kB, kcx, kdm, kdn, kel, aop, resultsL, resultOf, Nat.reduceEqDiff, reduceCtorEq, eq1, apartOK, apart2, AObj.live, Int.reduceEq, Int.reduceLT, Int.reduceLE, Int.reduceAdd, Int.reduceSub, Int.reduceMul, Int.reduceToNat, cutCells, Nat.reduceAdd, Nat.reduceLeDiff, Nat.reduceLT, Nat.reduceMul, Nat.reduceSub, hZ']
        exact hrest _ _ 2 (by simp [base3]) h (by exact ex_env rfl)
      | false =>
        simp only [p2, if_false, Bool.false_eq_true] at h
        simp (disch := omega) only [kB, kcx, kdm, kdn, kel, aop, resultsL, resultOf, Nat.reduceEqDiff, reduceCtorEq, eq1, apartOK, apart2, AObj.live, Int.reduceEq, Int.reduceLT, Int.reduceLE, Int.reduceAdd, Int.reduceSub, Int.reduceMul, Int.reduceToNat, cutCells, Nat.reduceAdd, Nat.reduceLeDiff, Nat.reduceLT, Nat.reduceMul, Nat.reduceSub, hZ']
        exact hrest _ _ 10 (by simp [base3]) h (by exact ex_env rfl)

end Go.Proofs.YtkhkmgcegicmoaaDoor.Ev

/- Texts and what they say: plain laws, both ways. -/
namespace Go.Proofs.YtkhkmgcegicmoaaDoor.Ev
set_option maxRecDepth 100000
set_option linter.unusedSimpArgs false
set_option linter.unusedVariables false

theorem worth_sg : ∀ d, d < 16 → worthN (sgN d).toNat = d := by decide +kernel
theorem sg_worth {c : UInt8} (h : worthN c.toNat < 16) : sgN (worthN c.toNat) = c := by
  have : ∀ n, n < 256 → worthN n < 16 → (sgN (worthN n)).toNat = n := by decide +kernel
  exact UInt8.toNat_inj.1 (this c.toNat c.toNat_lt h)
theorem sg_dec : ∀ d, d < 10 → 48 ≤ (sgN d).toNat ∧ (sgN d).toNat ≤ 57 := by decide +kernel
theorem sg_zero : ∀ d, d < 16 → sgN d = 48 → d = 0 := by decide +kernel
theorem sg_hex : ∀ d, d < 16 → sgN d ≠ 46 ∧ sgN d ≠ 58 ∧ sgN d ≠ 120 := by decide +kernel

theorem numF_map {b : Nat} (hb : b ≤ 16) : ∀ (l : List Nat) (a : Nat), (∀ d ∈ l, d < b) → numF b a (l.map sgN) = some (l.foldl (fun a d => a * b + d) a)
  | [], a, _ => rfl
  | d :: l, a, h => by
    have hd := h d (by simp)
    rw [List.map_cons, numF, worth_sg d (by omega), if_pos hd, numF_map hb l _ fun y hy => h y (by simp [hy])]
    rfl
theorem foldl_rev (b : Nat) : ∀ l : List Nat, l.reverse.foldl (fun a d => a * b + d) 0 = valR b l
  | [] => rfl
  | d :: l => by
    rw [List.reverse_cons, List.foldl_append, foldl_rev b l, valR]
    simp [Nat.mul_comm, Nat.add_comm]

theorem dig_num {b v : Nat} (hb : base3 b) (hv : v < 2 ^ 128) : numI b (dig b v) = some v := by
  obtain ⟨h2, h16⟩ := base3_lt hb
  have hne : dig b v ≠ [] := by
    unfold dig
    simp [rd_ne b 127 v]
  have hall := rd_lt (b := b) (by omega) 128 v
  rw [numI, if_neg]
  · rw [dig, numF_map h16 _ _ (fun d hd => hall d (by simpa using hd)), foldl_rev, rd_val h2 128 v hv]
  · rintro (q | ⟨q1, q2⟩)
    · exact hne q
    · by_cases h0 : v = 0
      · subst h0
        have : (dig b 0).length = 1 := by
          unfold dig
          rw [List.length_map, List.length_reverse, show (128 : Nat) = 127 + 1 from rfl, rd, if_pos (Nat.zero_div _)]
          rfl
        omega
      · obtain ⟨l, d, e, hd⟩ := rd_last h2 128 v hv h0
        have hd16 : d < b := hall d (by rw [e]; simp)
        rw [dig, e, List.reverse_append] at q2
        simp at q2
        exact hd (sg_zero d (by omega) q2)

theorem numF_digits {b : Nat} : ∀ (l : List UInt8) (a v : Nat), numF b a l = some v → (∀ c ∈ l, worthN c.toNat < b) ∧ v = (l.map fun c => worthN c.toNat).foldl (fun a d => a * b + d) a
  | [], a, v, h => by rw [numF] at h; cases h; exact ⟨fun c hc => by simp at hc, rfl⟩
  | c :: l, a, v, h => by
    rw [numF] at h
    split at h
    · rename_i hd
      obtain ⟨h1, h2⟩ := numF_digits l _ v h
      refine ⟨fun x hx => ?_, by rw [h2]; rfl⟩
      rcases List.mem_cons.1 hx with rfl | hx
      · exact hd
      · exact h1 x hx
    · cases h
theorem valR_ge {b : Nat} (hb : 2 ≤ b) : ∀ (l : List Nat) (d : Nat), d ≠ 0 → 2 ^ l.length ≤ valR b (l ++ [d])
  | [], d, h => by simp [valR]; omega
  | x :: l, d, h => by
    have := valR_ge hb l d h
    rw [List.cons_append, valR, List.length_cons, Nat.pow_succ]
    have h2 : 2 * valR b (l ++ [d]) ≤ b * valR b (l ++ [d]) := Nat.mul_le_mul_right _ hb
    omega

theorem num_dig {b v : Nat} {l : List UInt8} (hb : base3 b) (h : numI b l = some v) (hv : v < 2 ^ 128) : l = dig b v := by
  obtain ⟨h2, h16⟩ := base3_lt hb
  rw [numI] at h
  split at h
  · cases h
  · rename_i hno
    obtain ⟨hall, hval⟩ := numF_digits l 0 v h
    have hds : (l.map fun c => worthN c.toNat) = ((l.map fun c => worthN c.toNat).reverse).reverse := (List.reverse_reverse _).symm
    rw [hds, foldl_rev] at hval
    obtain ⟨ds, hdsd⟩ : ∃ ds, ds = (l.map fun c => worthN c.toNat).reverse := ⟨_, rfl⟩
    rw [← hdsd] at hval
    have hl : l ≠ [] := fun q => hno (.inl q)
    have hne : ds ≠ [] := by rw [hdsd]; simpa using hl
    have hlt : ∀ d ∈ ds, d < b := by
      intro d hd
      rw [hdsd, List.mem_reverse, List.mem_map] at hd
      obtain ⟨c, hc, rfl⟩ := hd
      exact hall c hc
    have hz : ∀ m d, ds = m ++ [d] → m ≠ [] → d ≠ 0 := by
      intro m d e hm h0
      subst h0
      refine hno (.inr ?_)
      have e2 : l.map (fun c => worthN c.toNat) = 0 :: m.reverse := by
        have := congrArg List.reverse (hdsd.symm.trans e)
        simpa using this
      cases l with
      | nil => exact absurd rfl hl
      | cons c l' =>
        simp only [List.map_cons, List.cons.injEq] at e2
        have hc : worthN c.toNat < 16 := by rw [e2.1]; omega
        have h48 : c = 48 := by
          have := sg_worth hc
          rw [e2.1] at this
          exact this.symm
        have hlen : l'.length = m.length := by
          have := congrArg List.length e2.2
          simpa using this
        have : 0 < m.length := List.length_pos_iff.2 hm
        exact ⟨by simp; omega, by rw [h48]; rfl⟩
    have hlen : ds.length ≤ 128 := by
      obtain ⟨m, d, e⟩ : ∃ m d, ds = m ++ [d] := ⟨ds.dropLast, ds.getLast hne, (List.dropLast_concat_getLast hne).symm⟩
      by_cases hm : m = []
      · rw [e, hm]; simp
      · have := valR_ge h2 m d (hz m d e hm)
        rw [← e, ← hval] at this
        have h3 : 2 ^ m.length < 2 ^ 128 := Nat.lt_of_le_of_lt this hv
        have := (Nat.pow_lt_pow_iff_right (by decide : 1 < 2)).1 h3
        rw [e]
        simp
        omega
    have := rd_of h2 128 ds hlen hne hlt hz
    rw [← hval] at this
    rw [dig, this, hdsd, List.reverse_reverse, List.map_map]
    have : l.map (sgN ∘ fun c => worthN c.toNat) = l.map id := List.map_congr_left fun c hc => sg_worth (by have := hall c hc; omega)
    rw [this, List.map_id]

theorem numF_bad {b : Nat} (hb : b ≤ 16) {c : UInt8} (hc : worthN c.toNat = 99) : ∀ (l : List UInt8) (a : Nat), c ∈ l → numF b a l = none
  | [], a, h => by cases h
  | x :: l, a, h => by
    rw [numF]
    rcases List.mem_cons.1 h with rfl | h
    · rw [hc, if_neg (by omega)]
    · split
      · exact numF_bad hb hc l _ h
      · rfl
theorem numI_bad {b : Nat} (hb : b ≤ 16) {c : UInt8} (hc : worthN c.toNat = 99) {l : List UInt8} (h : c ∈ l) : numI b l = none := by
  rw [numI]
  split
  · rfl
  · exact numF_bad hb hc l 0 h

/-! Parts. -/
theorem split_join (c : UInt8) : ∀ ls : List (List UInt8), ls ≠ [] → (∀ l ∈ ls, c ∉ l) → splitC c (Lib.join ls [c]) = ls := by
  have one : ∀ (x l : List UInt8), c ∉ x → splitC c (x ++ c :: l) = x :: splitC c l := by
    intro x
    induction x with
    | nil => intro l _; simp [splitC]
    | cons b x ih =>
      intro l h
      have hb : b ≠ c := fun q => h (by simp [q])
      rw [List.cons_append, splitC, if_neg hb, ih l (fun q => h (by simp [q]))]
      rfl
  have last : ∀ (x : List UInt8), c ∉ x → splitC c x = [x] := by
    intro x
    induction x with
    | nil => intro _; rfl
    | cons b x ih =>
      intro h
      have hb : b ≠ c := fun q => h (by simp [q])
      rw [splitC, if_neg hb, ih (fun q => h (by simp [q]))]
      rfl
  intro ls
  induction ls with
  | nil => intro h; exact absurd rfl h
  | cons x r ih =>
    intro _ h
    have hx := h x (by simp)
    cases r with
    | nil => rw [Lib.join_one]; exact last x hx
    | cons y r =>
      have e : Lib.join (x :: y :: r) [c] = x ++ c :: Lib.join (y :: r) [c] := by
        rw [Lib.join_cons, Lib.join_cons]
        simp [Lib.joinTail]
      rw [e, one x _ hx, ih (by simp) fun l hl => h l (by simp [hl])]
theorem join_split (c : UInt8) : ∀ l : List UInt8, Lib.join (splitC c l) [c] = l ∧ splitC c l ≠ []
  | [] => ⟨Lib.join_one _ _, by simp [splitC]⟩
  | b :: l => by
    obtain ⟨h1, h2⟩ := join_split c l
    rw [splitC]
    cases hs : splitC c l with
    | nil => exact absurd hs h2
    | cons p ps =>
      rw [hs] at h1
      split
      · rename_i q
        subst q
        refine ⟨?_, by simp⟩
        rw [Lib.join_cons]
        rw [Lib.join_cons] at h1
        simp only [Lib.joinTail, List.map_cons, List.flatten_cons, List.nil_append] at h1 ⊢
        rw [List.append_assoc, h1]
        rfl
      · refine ⟨?_, by simp⟩
        rw [Lib.join_cons] at h1
        simp only [List.headD_cons, List.tail_cons]
        rw [Lib.join_cons, List.cons_append, h1]

theorem pc10 : ∀ n, n < 256 → pc 10 (dig 10 n) = some (UInt8.ofNat n) ∧ 46 ∉ dig 10 n := by decide +kernel
theorem pc16 : ∀ n, n < 256 → pc 16 [sgN (n / 16), sgN (n % 16)] = some (UInt8.ofNat n) ∧ 58 ∉ [sgN (n / 16), sgN (n % 16)] := by decide +kernel

theorem mapM_map {α β : Type} {f : α → Option β} {g : β → α} : ∀ l : List β, (∀ y ∈ l, f (g y) = some y) → (l.map g).mapM f = some l
  | [], _ => rfl
  | y :: l, h => by
    rw [List.map_cons, List.mapM_cons, h y (by simp), mapM_map l fun z hz => h z (by simp [hz])]
    rfl
theorem mapM_back {α β : Type} {f : α → Option β} {g : β → α} (h : ∀ x y, f x = some y → x = g y) : ∀ (l : List α) (xs : List β), l.mapM f = some xs → l = xs.map g
  | [], xs, e => by simp at e; subst e; rfl
  | x :: l, xs, e => by
    simp only [List.mapM_cons, Option.bind_eq_bind, Option.bind_eq_some_iff, Option.pure_def, Option.some.injEq] at e
    obtain ⟨y, hy, ys, hys, rfl⟩ := e
    rw [List.map_cons, ← h x y hy, ← mapM_back h l ys hys]

theorem pcs_dots {out : List UInt8} (h : out ≠ []) : pcsO 10 46 out.length (Lib.join (out.map (partT 4)) [46]) = some out := by
  have e : out.map (partT 4) = out.map fun c => dig 10 c.toNat := List.map_congr_left fun c _ => by rw [partT, if_pos rfl]
  unfold pcsO
  rw [e, split_join 46 _ (by simpa using h) (fun l hl => by
    obtain ⟨c, _, rfl⟩ := List.mem_map.1 hl
    exact (pc10 _ c.toNat_lt).2), mapM_map out fun c _ => by rw [(pc10 _ c.toNat_lt).1]; simp]
  exact if_pos rfl
theorem pcs_cols {out : List UInt8} (h : out ≠ []) : pcsO 16 58 out.length (Lib.join (out.map (partT 5)) [58]) = some out := by
  have e : out.map (partT 5) = out.map fun c => [sgN (c.toNat / 16), sgN (c.toNat % 16)] := List.map_congr_left fun c _ => by rw [partT, if_neg (by decide)]
  unfold pcsO
  rw [e, split_join 58 _ (by simpa using h) (fun l hl => by
    obtain ⟨c, _, rfl⟩ := List.mem_map.1 hl
    exact (pc16 _ c.toNat_lt).2), mapM_map out fun c _ => by rw [(pc16 _ c.toNat_lt).1]; simp]
  exact if_pos rfl

theorem pc10_back (p : List UInt8) (y : UInt8) (h : pc 10 p = some y) : p = dig 10 y.toNat := by
  unfold pc at h
  rw [if_neg (by simp)] at h
  split at h
  · rename_i v hv
    split at h
    · rename_i hc
      cases h
      rw [pcQ, if_neg (by decide)] at hv
      have hv2 : v < 256 := by have := hc.2; omega
      have := num_dig (b := 10) (by simp [base3]) hv (by omega)
      rw [this, UInt8.toNat_ofNat', Nat.mod_eq_of_lt hv2]
    · cases h
  · cases h
theorem pc16_back (p : List UInt8) (y : UInt8) (h : pc 16 p = some y) : p = [sgN (y.toNat / 16), sgN (y.toNat % 16)] := by
  unfold pc at h
  by_cases hl : p.length = 2
  · rw [if_neg (by simp [hl])] at h
    match p, hl with
    | [c1, c2], _ =>
    split at h
    · rename_i v hv
      split at h
      · cases h
        rw [pcQ, if_pos rfl, numI, if_neg (by simp)] at hv
        obtain ⟨h1, h2⟩ := numF_digits _ _ _ hv
        have w1 := h1 c1 (by simp)
        have w2 := h1 c2 (by simp)
        have e49 : worthN (49 : UInt8).toNat = 1 := by decide
        simp only [List.map_cons, List.map_nil, List.foldl_cons, List.foldl_nil, e49] at h2
        have e1 : (UInt8.ofNat v).toNat / 16 = worthN c1.toNat := by rw [UInt8.toNat_ofNat']; omega
        have e2 : (UInt8.ofNat v).toNat % 16 = worthN c2.toNat := by rw [UInt8.toNat_ofNat']; omega
        rw [e1, e2, sg_worth w1, sg_worth w2]
      · cases h
    · cases h
  · rw [if_pos ⟨rfl, hl⟩] at h
    cases h

theorem dots_back {l out : List UInt8} {m : Nat} (h : pcsO 10 46 m l = some out) : l = Lib.join (out.map (partT 4)) [46] ∧ out.length = m := by
  unfold pcsO at h
  split at h
  · rename_i o ho
    split at h
    · rename_i hm
      cases h
      have := mapM_back (g := partT 4) (fun x y q => by rw [partT, if_pos rfl]; exact pc10_back x y q) _ _ ho
      exact ⟨by rw [← this]; exact (join_split 46 l).1.symm, hm⟩
    · cases h
  · cases h
theorem cols_back {l out : List UInt8} {m : Nat} (h : pcsO 16 58 m l = some out) : l = Lib.join (out.map (partT 5)) [58] ∧ out.length = m := by
  unfold pcsO at h
  split at h
  · rename_i o ho
    split at h
    · rename_i hm
      cases h
      have := mapM_back (g := partT 5) (fun x y q => by rw [partT, if_neg (by decide)]; exact pc16_back x y q) _ _ ho
      exact ⟨by rw [← this]; exact (join_split 58 l).1.symm, hm⟩
    · cases h
  · cases h

/-! Bytes. -/
theorem fold_from (l : List UInt8) : ∀ a : Nat, l.foldl (fun a b => a * 256 + b.toNat) a = a * 256 ^ l.length + fromN l := by
  induction l with
  | nil => intro a; simp [fromN]
  | cons b l ih =>
    intro a
    have p : 256 ^ (l.length + 1) = 256 ^ l.length * 256 := Nat.pow_succ _ _
    rw [fromN, List.foldl_cons, ih, List.foldl_cons, ih, List.length_cons, p, Nat.zero_mul, Nat.zero_add, Nat.add_mul, Nat.mul_assoc, Nat.mul_comm 256 (256 ^ l.length)]
    omega
theorem fromN_cons (b : UInt8) (l : List UInt8) : fromN (b :: l) = b.toNat * 256 ^ l.length + fromN l := by
  rw [fromN, List.foldl_cons, fold_from, Nat.zero_mul, Nat.zero_add]
theorem fromN_beL : ∀ (n x : Nat), fromN (beL n x) = x % 256 ^ n
  | 0, x => by simp [beL, fromN, Nat.mod_one]
  | n + 1, x => by
    have p : 256 ^ (n + 1) = 256 ^ n * 256 := Nat.pow_succ _ _
    have e : x % (256 ^ n * 256) = x % 256 ^ n + 256 ^ n * (x / 256 ^ n % 256) := Nat.mod_mul
    rw [beL, fromN_cons, beL_len, fromN_beL n x, UInt8.toNat_ofNat', Nat.shiftRight_eq_div_pow, Nat.pow_mul, p, e, Nat.mul_comm (256 ^ n), Nat.add_comm]
theorem beL_fromN : ∀ l : List UInt8, beL l.length (fromN l) = l
  | [] => rfl
  | b :: l => by
    have h1 := fromN_lt l
    have h2 := b.toNat_lt
    have hp : 0 < 256 ^ l.length := Nat.pow_pos (by decide)
    have hb : fromN (b :: l) / 256 ^ l.length = b.toNat := by
      rw [fromN_cons, Nat.mul_comm, Nat.mul_add_div hp, Nat.div_eq_of_lt h1, Nat.add_zero]
    have hm : fromN (b :: l) % 256 ^ l.length = fromN l := by
      rw [fromN_cons, Nat.mul_comm, Nat.mul_add_mod, Nat.mod_eq_of_lt h1]
    have hl : beL l.length (fromN (b :: l)) = l := by
      have := beL_mod l.length l.length (fromN (b :: l)) (Nat.le_refl _)
      rw [Nat.pow_mul, show (2 : Nat) ^ 8 = 256 from rfl, hm] at this
      rw [← this]
      exact beL_fromN l
    rw [List.length_cons, beL, hl, Nat.shiftRight_eq_div_pow, Nat.pow_mul, show (2 : Nat) ^ 8 = 256 from rfl, hb]
    simp

/-! Both ways. -/
theorem fitsI_nat {x k : Nat} (h1 : 1 ≤ k) (h2 : k ≤ 128) : fitsI x (k : Int) = decide (x < 2 ^ k) := by rw [fitsI, isw_nat h1 h2, Bool.true_and, Int.toNat_natCast]
theorem lt_256 {x k : Nat} (hx : x < 2 ^ k) : x < 256 ^ ((k + 7) / 8) := by
  rw [show 256 = 2 ^ 8 from rfl, ← Nat.pow_mul]
  exact Nat.lt_of_lt_of_le hx (Nat.pow_le_pow_right (by decide) (by omega))
theorem from_bytes {x k : Nat} (h1 : 1 ≤ k) (h2 : k ≤ 128) (hx : x < 2 ^ k) : fromI (beL ((k + 7) / 8) x) (k : Int) = (x, 0) := by
  rw [fromI, isw_nat h1 h2, if_pos rfl, Int.toNat_natCast, if_pos (beL_len _ _), fromN_beL, Nat.mod_eq_of_lt (lt_256 hx), if_pos hx]
theorem from_back {k got : Nat} {out : List UInt8} (h1 : 1 ≤ k) (h2 : k ≤ 128) (h : fromI out (k : Int) = (got, 0)) : got < 2 ^ k ∧ out.length = (k + 7) / 8 ∧ beL ((k + 7) / 8) got = out := by
  rw [fromI, isw_nat h1 h2, if_pos rfl, Int.toNat_natCast] at h
  split at h
  · rename_i hl
    split at h
    · rename_i hf
      cases h
      exact ⟨hf, hl, by rw [← hl]; exact beL_fromN out⟩
    · cases h
  · cases h

theorem dig_dec {x : Nat} : ∀ c ∈ dig 10 x, 48 ≤ c.toNat ∧ c.toNat ≤ 57 := by
  intro c hc
  rw [dig, List.mem_map] at hc
  obtain ⟨d, hd, rfl⟩ := hc
  exact sg_dec d (rd_lt (by decide) 128 x d (by simpa using hd))
theorem headT_plain {l : List UInt8} (h : ∀ c ∈ l, c ≠ 120 ∧ c ≠ 98) : headT l = (l, 10) := by
  unfold headT
  have e1 : [48, 120].isPrefixOf l = false := by
    cases q : [48, 120].isPrefixOf l with
    | false => rfl
    | true =>
      obtain ⟨t, rfl⟩ := List.isPrefixOf_iff_prefix.1 q
      exact absurd rfl (h 120 (by simp)).1
  have e2 : [48, 98].isPrefixOf l = false := by
    cases q : [48, 98].isPrefixOf l with
    | false => rfl
    | true =>
      obtain ⟨t, rfl⟩ := List.isPrefixOf_iff_prefix.1 q
      exact absurd rfl (h 98 (by simp)).2
  rw [e1, e2]
  rfl

theorem mem_join {c : UInt8} : ∀ {ls : List (List UInt8)} {s : UInt8}, c ∈ Lib.join ls [s] → c = s ∨ ∃ l ∈ ls, c ∈ l
  | [], s, h => by simp [Lib.join_nil] at h
  | x :: r, s, h => by
    rw [Lib.join_cons, List.mem_append] at h
    rcases h with h | h
    · exact .inr ⟨x, by simp, h⟩
    · unfold Lib.joinTail at h
      rw [List.mem_flatten] at h
      obtain ⟨l, hl, hc⟩ := h
      obtain ⟨y, hy, rfl⟩ := List.mem_map.1 hl
      rcases List.mem_append.1 hc with q | q
      · exact .inl (by simpa using q)
      · exact .inr ⟨y, by simp [hy], q⟩
theorem join_two (c : UInt8) (x y : List UInt8) (r : List (List UInt8)) : Lib.join (x :: y :: r) [c] = x ++ c :: Lib.join (y :: r) [c] := by
  rw [Lib.join_cons, Lib.join_cons]
  simp [Lib.joinTail]

/-- A value's text is read as it was. -/
theorem text_parse {x k : Nat} {form : Int} (h1 : 1 ≤ k) (h2 : k ≤ 128) (hx : x < 2 ^ k) (f1 : 1 ≤ form) (f5 : form ≤ 5) (hh : hasI (k : Int) form = true) : parseI (txtI x k form) (k : Int) = (x, 0) := by
  have hx2 : x < 2 ^ 128 := Nat.lt_of_lt_of_le hx (Nat.pow_le_pow_right (by decide) h2)
  rw [parseI_eq, isw_nat h1 h2, if_pos rfl]
  have ok : ∀ l t b, base3 b → t = dig b x → numP l t b (k : Int) = (x, 0) := by
    intro l t b hb ht
    rw [numP, ht, dig_num hb hx2]
    simp only [Int.toNat_natCast]
    exact if_pos hx
  by_cases g1 : form = 1
  · rw [txtI, if_pos g1, headT_plain (fun c hc => by
      have := dig_dec c hc
      constructor <;> (rintro rfl; revert this; decide))]
    exact ok _ _ 10 (by simp [base3]) rfl
  by_cases g2 : form = 2
  · rw [txtI, if_neg g1, if_pos g2]
    exact ok _ _ 16 (by simp [base3]) rfl
  by_cases g3 : form = 3
  · rw [txtI, if_neg g1, if_neg g2, if_pos g3]
    exact ok _ _ 2 (by simp [base3]) rfl
  rw [txtI, if_neg g1, if_neg g2, if_neg g3]
  have hbl := beL_len ((k + 7) / 8) x
  have hfb := from_bytes h1 h2 hx
  generalize hB : beL ((k + 7) / 8) x = B at *
  by_cases g4 : form = 4
  · subst g4
    have hk : k = 32 := by
      rw [hasI, if_pos rfl] at hh
      have := of_decide_eq_true hh
      omega
    subst hk
    rw [sepT, if_pos rfl]
    have hch : ∀ c ∈ Lib.join (B.map (partT 4)) [46], c = 46 ∨ (48 ≤ c.toNat ∧ c.toNat ≤ 57) := by
      intro c hc
      rcases mem_join hc with q | ⟨l, hl, q⟩
      · exact .inl q
      · obtain ⟨y, _, rfl⟩ := List.mem_map.1 hl
        rw [partT, if_pos rfl] at q
        exact .inr (dig_dec c q)
    have h46 : (46 : UInt8) ∈ Lib.join (B.map (partT 4)) [46] := by
      match B, hbl with
      | b1 :: b2 :: r, _ => rw [List.map_cons, List.map_cons, join_two]; simp
    rw [headT_plain (fun c hc => by rcases hch c hc with rfl | q <;> constructor <;> first | decide | (rintro rfl; revert q; decide)), numP, numI_bad (show 10 ≤ 16 by decide) (c := 46) (by decide) h46]
    have hp := pcs_dots (out := B) (by intro q; rw [q] at hbl; simp at hbl)
    rw [hbl] at hp
    simp only [dotI]
    rw [if_pos (show hasI ((32 : Nat) : Int) 4 = true from rfl)]
    have e4 : (32 + 7) / 8 = 4 := rfl
    rw [e4] at hp
    rw [hp]
    exact hfb
  · have g5 : form = 5 := by omega
    subst g5
    rw [hasI, if_neg (by decide), if_pos rfl, isw_nat h1 h2, Bool.true_and, Bool.and_eq_true, decide_eq_true_eq, decide_eq_true_eq] at hh
    obtain ⟨hk16, hk8⟩ := hh
    have hn : (k + 7) / 8 = k / 8 := by omega
    rw [sepT, if_neg (by decide)]
    obtain ⟨b1, b2, r, hBr⟩ : ∃ b1 b2 r, B = b1 :: b2 :: r := by
      match B, hbl with
      | [], q => simp at q; omega
      | [b1], q => simp at q; omega
      | b1 :: b2 :: r, _ => exact ⟨b1, b2, r, rfl⟩
    have hS : Lib.join (B.map (partT 5)) [58] = sgN (b1.toNat / 16) :: sgN (b1.toNat % 16) :: 58 :: Lib.join ((b2 :: r).map (partT 5)) [58] := by
      rw [hBr, List.map_cons, List.map_cons, join_two, partT, if_neg (by decide)]
      rfl
    have h58 : (58 : UInt8) ∈ (headT (Lib.join (B.map (partT 5)) [58])).1 := by
      unfold headT
      rw [hS]
      split
      · simp
      · split <;> simp
    have hb16 : (headT (Lib.join (B.map (partT 5)) [58])).2 ≤ 16 := by
      unfold headT
      split
      · show 16 ≤ 16; decide
      · split
        · show 2 ≤ 16; decide
        · show 10 ≤ 16; decide
    rw [numP, numI_bad hb16 (c := 58) (by decide) h58]
    have hp := pcs_cols (out := B) (by rw [hBr]; simp)
    rw [hbl, hn] at hp
    have hcol : colI (Lib.join (B.map (partT 5)) [58]) (k : Int) = (x, 0) := by
      rw [colI, if_pos (show hasI (k : Int) 5 = true by
        rw [hasI, if_neg (by decide), if_pos rfl, isw_nat h1 h2, Bool.true_and, Bool.and_eq_true, decide_eq_true_eq, decide_eq_true_eq]
        exact ⟨hk16, hk8⟩), Int.toNat_natCast, hp]
      exact hfb
    simp only [dotI]
    have hno : (if hasI (k : Int) 4 = true then pcsO 10 46 4 (Lib.join (B.map (partT 5)) [58]) else none) = none := by
      split
      · cases hq : pcsO 10 46 4 (Lib.join (B.map (partT 5)) [58]) with
        | none => rfl
        | some o =>
          exfalso
          obtain ⟨q1, q2⟩ := dots_back hq
          match o, q2 with
          | o1 :: o2 :: r2, _ =>
            have : (46 : UInt8) ∈ Lib.join (B.map (partT 5)) [58] := by rw [q1, List.map_cons, List.map_cons, join_two]; simp
            rcases mem_join this with q | ⟨l, hl, q⟩
            · revert q; decide
            · obtain ⟨y, _, rfl⟩ := List.mem_map.1 hl
              have hy := y.toNat_lt
              rw [partT, if_neg (by decide)] at q
              have s1 := sg_hex (y.toNat / 16) (by omega)
              have s2 := sg_hex (y.toNat % 16) (by omega)
              simp only [List.mem_cons, List.not_mem_nil, or_false] at q
              rcases q with q | q
              · exact s1.1 q.symm
              · exact s2.1 q.symm
      · rfl
    rw [hno]
    exact hcol

/-- A text that is read is its value's in some form. -/
theorem parse_text {k got : Nat} {l : List UInt8} (h1 : 1 ≤ k) (h2 : k ≤ 128) (h : parseI l (k : Int) = (got, 0)) : got < 2 ^ k ∧ ∃ form : Int, 1 ≤ form ∧ form ≤ 5 ∧ hasI (k : Int) form = true ∧ txtI got k form = l := by
  rw [parseI_eq, isw_nat h1 h2, if_pos rfl] at h
  have small : ∀ form : Int, form ≤ 3 → hasI (k : Int) form = true := fun form hf => by rw [hasI, if_neg (by omega), if_neg (by omega)]; exact isw_nat h1 h2
  have num : ∀ t b, base3 b → (∃ v, numI b t = some v) → numP l t b (k : Int) = (got, 0) → got < 2 ^ k ∧ t = dig b got := by
    intro t b hb ⟨v, hv⟩ hp
    rw [numP, hv] at hp
    simp only [Int.toNat_natCast] at hp
    split at hp
    · rename_i hf
      cases hp
      exact ⟨hf, num_dig hb hv (Nat.lt_of_lt_of_le hf (Nat.pow_le_pow_right (by decide) h2))⟩
    · cases hp
  have rest : dotI l (k : Int) = (got, 0) → got < 2 ^ k ∧ ∃ form : Int, 1 ≤ form ∧ form ≤ 5 ∧ hasI (k : Int) form = true ∧ txtI got k form = l := by
    intro hd
    unfold dotI at hd
    split at hd
    · rename_i out ho
      split at ho
      · rename_i h4
        obtain ⟨e1, e2⟩ := dots_back ho
        obtain ⟨f1, f2, f3⟩ := from_back h1 h2 hd
        exact ⟨f1, 4, by decide, by decide, h4, by rw [txtI, if_neg (by decide), if_neg (by decide), if_neg (by decide), f3, sepT, if_pos rfl]; exact e1.symm⟩
      · cases ho
    · unfold colI at hd
      split at hd
      · rename_i out ho
        split at ho
        · rename_i h5
          obtain ⟨e1, e2⟩ := cols_back ho
          obtain ⟨f1, f2, f3⟩ := from_back h1 h2 hd
          exact ⟨f1, 5, by decide, by decide, h5, by rw [txtI, if_neg (by decide), if_neg (by decide), if_neg (by decide), f3, sepT, if_neg (by decide)]; exact e1.symm⟩
        · cases ho
      · cases hd
  have step : ∀ t b, base3 b → numP l t b (k : Int) = (got, 0) → (got < 2 ^ k ∧ t = dig b got) ∨ dotI l (k : Int) = (got, 0) := by
    intro t b hb hp
    cases hv : numI b t with
    | some v => exact .inl (num t b hb ⟨v, hv⟩ hp)
    | none => rw [numP, hv] at hp; exact .inr hp
  unfold headT at h
  by_cases p1 : [48, 120].isPrefixOf l = true
  · rw [if_pos p1] at h
    rcases step _ 16 (by simp [base3]) h with ⟨q1, q2⟩ | q
    · obtain ⟨t, rfl⟩ := List.isPrefixOf_iff_prefix.1 p1
      exact ⟨q1, 2, by decide, by decide, small 2 (by decide), by rw [txtI, if_neg (by decide), if_pos rfl, ← q2]; rfl⟩
    · exact rest q
  · rw [if_neg p1] at h
    by_cases p2 : [48, 98].isPrefixOf l = true
    · rw [if_pos p2] at h
      rcases step _ 2 (by simp [base3]) h with ⟨q1, q2⟩ | q
      · obtain ⟨t, rfl⟩ := List.isPrefixOf_iff_prefix.1 p2
        exact ⟨q1, 3, by decide, by decide, small 3 (by decide), by rw [txtI, if_neg (by decide), if_neg (by decide), if_pos rfl, ← q2]; rfl⟩
      · exact rest q
    · rw [if_neg p2] at h
      rcases step _ 10 (by simp [base3]) h with ⟨q1, q2⟩ | q
      · exact ⟨q1, 1, by decide, by decide, small 1 (by decide), by rw [txtI, if_pos rfl, ← q2]⟩
      · exact rest q

end Go.Proofs.YtkhkmgcegicmoaaDoor.Ev

/- The document's digits: a sign, a division, a value in a base. -/
namespace Go.Proofs.YtkhkmgcegicmoaaDoor.Ev
set_option maxRecDepth 100000
set_option linter.unusedSimpArgs false
set_option linter.unusedVariables false
variable {R : FRes → Heap → Prop} {H : Heap}

theorem rhas_s {w form : Int} (f1 : 1 ≤ form) (f5 : form ≤ 5) (h : R (.ret (.bool (hasI w form))) H) : WD T 54 [.int .i64 w, .int .i64 form] H R := by
  refine WD.gc0 (WD.of follows t54 (by simp) ?_)
  have hf : form = 1 ∨ form = 2 ∨ form = 3 ∨ form = 4 ∨ form = 5 := by omega
  unfold hasI at h
  rcases hf with rfl | rfl | rfl | rfl | rfl
  · rw [if_neg (by decide), if_neg (by decide)] at h
    simp (disch := omega) only [kB, kcx, kdm, kdn, kel, aop, resultsL, resultOf, Nat.reduceEqDiff, reduceCtorEq, eq1, apartOK, apart2, AObj.live, Int.reduceEq, Int.reduceLT, Int.reduceLE, Int.reduceAdd, Int.reduceSub, Int.reduceMul, Int.reduceToNat, cutCells, Nat.reduceAdd, Nat.reduceLeDiff, Nat.reduceLT, Nat.reduceMul, Nat.reduceSub]
    refine rwidth_s ?_
    simp (disch := omega) only [kB, kcx, kdm, kdn, kel, aop, resultsL, resultOf, Nat.reduceEqDiff, reduceCtorEq, eq1, apartOK, apart2, AObj.live, Int.reduceEq, Int.reduceLT, Int.reduceLE, Int.reduceAdd, Int.reduceSub, Int.reduceMul, Int.reduceToNat, cutCells, Nat.reduceAdd, Nat.reduceLeDiff, Nat.reduceLT, Nat.reduceMul, Nat.reduceSub]
    exact ⟨_, rfl, ⟨[], (List.append_nil _).symm⟩, .closed rfl, h⟩
  · rw [if_neg (by decide), if_neg (by decide)] at h
    simp (disch := omega) only [kB, kcx, kdm, kdn, kel, aop, resultsL, resultOf, Nat.reduceEqDiff, reduceCtorEq, eq1, apartOK, apart2, AObj.live, Int.reduceEq, Int.reduceLT, Int.reduceLE, Int.reduceAdd, Int.reduceSub, Int.reduceMul, Int.reduceToNat, cutCells, Nat.reduceAdd, Nat.reduceLeDiff, Nat.reduceLT, Nat.reduceMul, Nat.reduceSub]
    refine rwidth_s ?_
    simp (disch := omega) only [kB, kcx, kdm, kdn, kel, aop, resultsL, resultOf, Nat.reduceEqDiff, reduceCtorEq, eq1, apartOK, apart2, AObj.live, Int.reduceEq, Int.reduceLT, Int.reduceLE, Int.reduceAdd, Int.reduceSub, Int.reduceMul, Int.reduceToNat, cutCells, Nat.reduceAdd, Nat.reduceLeDiff, Nat.reduceLT, Nat.reduceMul, Nat.reduceSub]
    exact ⟨_, rfl, ⟨[], (List.append_nil _).symm⟩, .closed rfl, h⟩
  · rw [if_neg (by decide), if_neg (by decide)] at h
    simp (disch := omega) only [kB, kcx, kdm, kdn, kel, aop, resultsL, resultOf, Nat.reduceEqDiff, reduceCtorEq, eq1, apartOK, apart2, AObj.live, Int.reduceEq, Int.reduceLT, Int.reduceLE, Int.reduceAdd, Int.reduceSub, Int.reduceMul, Int.reduceToNat, cutCells, Nat.reduceAdd, Nat.reduceLeDiff, Nat.reduceLT, Nat.reduceMul, Nat.reduceSub]
    refine rwidth_s ?_
    simp (disch := omega) only [kB, kcx, kdm, kdn, kel, aop, resultsL, resultOf, Nat.reduceEqDiff, reduceCtorEq, eq1, apartOK, apart2, AObj.live, Int.reduceEq, Int.reduceLT, Int.reduceLE, Int.reduceAdd, Int.reduceSub, Int.reduceMul, Int.reduceToNat, cutCells, Nat.reduceAdd, Nat.reduceLeDiff, Nat.reduceLT, Nat.reduceMul, Nat.reduceSub]
    exact ⟨_, rfl, ⟨[], (List.append_nil _).symm⟩, .closed rfl, h⟩
  · rw [if_pos rfl] at h
    by_cases h32 : w = 32
    · rw [decide_eq_true h32] at h
      simp (disch := omega) only [kB, kcx, kdm, kdn, kel, aop, resultsL, resultOf, Nat.reduceEqDiff, reduceCtorEq, eq1, apartOK, apart2, AObj.live, Int.reduceEq, Int.reduceLT, Int.reduceLE, Int.reduceAdd, Int.reduceSub, Int.reduceMul, Int.reduceToNat, cutCells, Nat.reduceAdd, Nat.reduceLeDiff, Nat.reduceLT, Nat.reduceMul, Nat.reduceSub, h32]
      exact ⟨_, rfl, ⟨[], (List.append_nil _).symm⟩, .closed rfl, h⟩
    · rw [decide_eq_false h32] at h
      simp (disch := omega) only [kB, kcx, kdm, kdn, kel, aop, resultsL, resultOf, Nat.reduceEqDiff, reduceCtorEq, eq1, apartOK, apart2, AObj.live, Int.reduceEq, Int.reduceLT, Int.reduceLE, Int.reduceAdd, Int.reduceSub, Int.reduceMul, Int.reduceToNat, cutCells, Nat.reduceAdd, Nat.reduceLeDiff, Nat.reduceLT, Nat.reduceMul, Nat.reduceSub, h32]
      exact ⟨_, rfl, ⟨[], (List.append_nil _).symm⟩, .closed rfl, h⟩
  · rw [if_neg (by decide), if_pos rfl] at h
    rcases wcases w with hw | ⟨k, rfl, h1, h2⟩
    · rw [hw, Bool.false_and] at h
      simp (disch := omega) only [kB, kcx, kdm, kdn, kel, aop, resultsL, resultOf, Nat.reduceEqDiff, reduceCtorEq, eq1, apartOK, apart2, AObj.live, Int.reduceEq, Int.reduceLT, Int.reduceLE, Int.reduceAdd, Int.reduceSub, Int.reduceMul, Int.reduceToNat, cutCells, Nat.reduceAdd, Nat.reduceLeDiff, Nat.reduceLT, Nat.reduceMul, Nat.reduceSub]
      refine rwidth_s ?_
      simp (disch := omega) only [kB, kcx, kdm, kdn, kel, aop, resultsL, resultOf, Nat.reduceEqDiff, reduceCtorEq, eq1, apartOK, apart2, AObj.live, Int.reduceEq, Int.reduceLT, Int.reduceLE, Int.reduceAdd, Int.reduceSub, Int.reduceMul, Int.reduceToNat, cutCells, Nat.reduceAdd, Nat.reduceLeDiff, Nat.reduceLT, Nat.reduceMul, Nat.reduceSub, hw]
      exact ⟨_, rfl, ⟨[], (List.append_nil _).symm⟩, .closed rfl, h⟩
    · have hw := isw_nat h1 h2
      rw [hw, Bool.true_and] at h
      have hr := bin_rem (k := .i64) (a := k) (b := 8) (by decide)
      have r0 : (((8 : Nat) : Int)) = 8 := rfl
      rw [r0] at hr
      by_cases h8 : ((k % 8 : Nat) : Int) = 0
      · by_cases h9 : (8 : Int) < (k : Int)
        · rw [decide_eq_true (show (16 : Int) ≤ (k : Int) by omega), decide_eq_true (show (k : Int) % 8 = 0 by omega)] at h
          simp (disch := omega) only [kB, kcx, kdm, kdn, kel, aop, resultsL, resultOf, Nat.reduceEqDiff, reduceCtorEq, eq1, apartOK, apart2, AObj.live, Int.reduceEq, Int.reduceLT, Int.reduceLE, Int.reduceAdd, Int.reduceSub, Int.reduceMul, Int.reduceToNat, cutCells, Nat.reduceAdd, Nat.reduceLeDiff, Nat.reduceLT, Nat.reduceMul, Nat.reduceSub]
          refine rwidth_s ?_
          simp (disch := omega) only [kB, kcx, kdm, kdn, kel, aop, resultsL, resultOf, Nat.reduceEqDiff, reduceCtorEq, eq1, apartOK, apart2, AObj.live, Int.reduceEq, Int.reduceLT, Int.reduceLE, Int.reduceAdd, Int.reduceSub, Int.reduceMul, Int.reduceToNat, cutCells, Nat.reduceAdd, Nat.reduceLeDiff, Nat.reduceLT, Nat.reduceMul, Nat.reduceSub, hw, hr, h8, h9]
          exact ⟨_, rfl, ⟨[], (List.append_nil _).symm⟩, .closed rfl, h⟩
        · rw [decide_eq_false (show ¬ (16 : Int) ≤ (k : Int) by omega), Bool.false_and] at h
          simp (disch := omega) only [kB, kcx, kdm, kdn, kel, aop, resultsL, resultOf, Nat.reduceEqDiff, reduceCtorEq, eq1, apartOK, apart2, AObj.live, Int.reduceEq, Int.reduceLT, Int.reduceLE, Int.reduceAdd, Int.reduceSub, Int.reduceMul, Int.reduceToNat, cutCells, Nat.reduceAdd, Nat.reduceLeDiff, Nat.reduceLT, Nat.reduceMul, Nat.reduceSub]
          refine rwidth_s ?_
          simp (disch := omega) only [kB, kcx, kdm, kdn, kel, aop, resultsL, resultOf, Nat.reduceEqDiff, reduceCtorEq, eq1, apartOK, apart2, AObj.live, Int.reduceEq, Int.reduceLT, Int.reduceLE, Int.reduceAdd, Int.reduceSub, Int.reduceMul, Int.reduceToNat, cutCells, Nat.reduceAdd, Nat.reduceLeDiff, Nat.reduceLT, Nat.reduceMul, Nat.reduceSub, hw, hr, h8, h9]
          exact ⟨_, rfl, ⟨[], (List.append_nil _).symm⟩, .closed rfl, h⟩
      · rw [decide_eq_false (show ¬ (k : Int) % 8 = 0 by omega), Bool.and_false] at h
        simp (disch := omega) only [kB, kcx, kdm, kdn, kel, aop, resultsL, resultOf, Nat.reduceEqDiff, reduceCtorEq, eq1, apartOK, apart2, AObj.live, Int.reduceEq, Int.reduceLT, Int.reduceLE, Int.reduceAdd, Int.reduceSub, Int.reduceMul, Int.reduceToNat, cutCells, Nat.reduceAdd, Nat.reduceLeDiff, Nat.reduceLT, Nat.reduceMul, Nat.reduceSub]
        refine rwidth_s ?_
        simp (disch := omega) only [kB, kcx, kdm, kdn, kel, aop, resultsL, resultOf, Nat.reduceEqDiff, reduceCtorEq, eq1, apartOK, apart2, AObj.live, Int.reduceEq, Int.reduceLT, Int.reduceLE, Int.reduceAdd, Int.reduceSub, Int.reduceMul, Int.reduceToNat, cutCells, Nat.reduceAdd, Nat.reduceLeDiff, Nat.reduceLT, Nat.reduceMul, Nat.reduceSub, hw, hr, h8]
        exact ⟨_, rfl, ⟨[], (List.append_nil _).symm⟩, .closed rfl, h⟩

theorem rsign_s {n : Nat} (hn : n < 16) (h : R (.ret (u8c (sgN n))) H) : WD T 56 [.int .i64 (n : Int)] H R := by
  refine WD.of follows t56 (by simp) ?_
  have e : (u8c (sgN n)) = .int .u8 (((if n < 10 then 48 + n else 87 + n : Nat)) : Int) := by
    have : ∀ n, n < 16 → (sgN n).toNat = if n < 10 then 48 + n else 87 + n := by decide +kernel
    rw [u8c, this n hn]
  rw [e] at h
  by_cases h10 : n < 10
  · have h10' : (n : Int) < 10 := by omega
    have e1 : (48 : Int) + (n : Int) = ((48 + n : Nat) : Int) := by omega
    rw [if_pos h10] at h
    simp (disch := omega) only [kB, kcx, kdm, kdn, kel, aop, resultsL, resultOf, Nat.reduceEqDiff, reduceCtorEq, eq1, apartOK, apart2, AObj.live, Int.reduceEq, Int.reduceLT, Int.reduceLE, Int.reduceAdd, Int.reduceSub, Int.reduceMul, Int.reduceToNat, cutCells, Nat.reduceAdd, Nat.reduceLeDiff, Nat.reduceLT, Nat.reduceMul, Nat.reduceSub, h10', e1, wr_i64, wr_u8]
    exact h
  · have h10' : ¬ (n : Int) < 10 := by omega
    have e1 : (97 : Int) + (n : Int) = ((97 + n : Nat) : Int) := by omega
    have e2 : ((97 + n : Nat) : Int) - 10 = ((87 + n : Nat) : Int) := by omega
    rw [if_neg h10] at h
    simp (disch := omega) only [kB, kcx, kdm, kdn, kel, aop, resultsL, resultOf, Nat.reduceEqDiff, reduceCtorEq, eq1, apartOK, apart2, AObj.live, Int.reduceEq, Int.reduceLT, Int.reduceLE, Int.reduceAdd, Int.reduceSub, Int.reduceMul, Int.reduceToNat, cutCells, Nat.reduceAdd, Nat.reduceLeDiff, Nat.reduceLT, Nat.reduceMul, Nat.reduceSub, h10', e1, e2, wr_i64, wr_u8]
    exact h

def divV (a b b4 b6 b7 : Nat) (K : Heap) : Nat → Env → Heap → Prop := fun z e H' =>
  ∃ (i r : Nat) (g : Nat → Bool), i ≤ 128 ∧ z = 128 - i ∧ (∀ j, i ≤ j → g j = false) ∧ nb g i * b + r = nb (bF a) i ∧ r < b ∧ H' = K ++ [rowU a, rowU 0, rowB (bF a), rowB g] ∧
    (∃ x : Nat → Value, e = [x 0, .int .i64 (b : Int), x 2, x 3, .pointer (some ⟨b4, 0, none⟩), x 5, .pointer (some ⟨b6, 0, none⟩), .pointer (some ⟨b7, 0, none⟩), .int .i64 (r : Int), .int .i64 (i : Int), x 10, x 11, x 12, x 13, x 14, x 15, x 16, x 17, x 18, x 19, x 20, x 21, x 22, x 23, x 24, x 25, x 26, x 27, x 28, x 29, x 30, x 31, x 32, x 33])

set_option maxHeartbeats 2000000 in
theorem rdivided_s {a b : Nat} (ha : a < 2 ^ 128) (hb : 2 ≤ b) (hb2 : b ≤ 16) (h : R (.ret (.tuple #[bvA (a / b), .int .i64 ((a % b : Nat) : Int)])) H) : WD T 75 [bvA a, .int .i64 (b : Int)] H R := by
  refine WD.gc0 (WD.of follows t75 (by simp) ?_)
  rw [← fA_eq]
  simp (disch := omega) only [kB, kcx, kdm, kdn, kel, aop, resultsL, resultOf, Nat.reduceEqDiff, reduceCtorEq, eq1, apartOK, apart2, AObj.live, Int.reduceEq, Int.reduceLT, Int.reduceLE, Int.reduceAdd, Int.reduceSub, Int.reduceMul, Int.reduceToNat, cutCells, Nat.reduceAdd, Nat.reduceLeDiff, Nat.reduceLT, Nat.reduceMul, Nat.reduceSub]
  refine lay_s ha ?_
  simp (disch := omega) only [kB, kcx, kdm, kdn, kel, aop, resultsL, resultOf, Nat.reduceEqDiff, reduceCtorEq, eq1, apartOK, apart2, AObj.live, Int.reduceEq, Int.reduceLT, Int.reduceLE, Int.reduceAdd, Int.reduceSub, Int.reduceMul, Int.reduceToNat, cutCells, Nat.reduceAdd, Nat.reduceLeDiff, Nat.reduceLT, Nat.reduceMul, Nat.reduceSub, bA_len, fA_len, bA_one, setL_fA]
  refine WLoop.inv (divV a b (H.length + 1) (H.length + 2) (H.length + 3) H) ?_ 128 _ _ ⟨0, 0, fun _ => false, by omega, by omega, fun _ _ => rfl, by simp [nb], by omega, rfl, by exact ex_env rfl⟩
  rintro z e H' ⟨i, r, g, hi, rfl, hg, hsum, hr, rfl, ⟨x, rfl⟩⟩
  by_cases hlt : i < 128
  · have c0 : (i : Int) < 128 := by omega
    have m1 : (r : Int) * 2 = ((2 * r : Nat) : Int) := by omega
    have g1 : (bA (bF a))[i]? = some (.bool (bF a i)) := bA_get hlt
    have gt : (bA g).set i (.bool true) = bA (fun j => if j = i then true else g j) := bA_set g i true
    have hsame : ∀ v : Bool, nb (fun j => if j = i then v else g j) i = nb g i := fun v => nb_congr fun j hj => if_neg (by omega)
    have s1 : nb (bF a) (i + 1) = 2 * nb (bF a) i + (if bF a i = true then 1 else 0) := rfl
    have s2 : ∀ f : Nat → Bool, nb f (i + 1) = 2 * nb f i + (if f i = true then 1 else 0) := fun f => rfl
    have step : ∀ (t : Nat), t = (if bF a i = true then 1 else 0) → 2 * r + t = 2 * r + t → (2 * r + t < b → nb g (i + 1) * b + (2 * r + t) = nb (bF a) (i + 1)) ∧ (b ≤ 2 * r + t → nb (fun j => if j = i then true else g j) (i + 1) * b + (2 * r + t - b) = nb (bF a) (i + 1)) := by
      intro t ht _
      constructor
      · intro _
        rw [s2 g, hg i (Nat.le_refl _), s1, ← ht, ← hsum, if_neg (by decide), Nat.add_zero, Nat.mul_add, ← Nat.mul_assoc]
        omega
      · intro hge
        rw [s2, hsame, s1, ← ht, ← hsum, if_pos rfl, if_pos rfl, Nat.add_mul, Nat.one_mul, Nat.mul_add, ← Nat.mul_assoc]
        omega
    cases hx : bF a i with
    | true =>
      rw [hx] at g1
      have m2 : ((2 * r : Nat) : Int) + 1 = ((2 * r + 1 : Nat) : Int) := by omega
      obtain ⟨q1, q2⟩ := step 1 (by rw [hx]; rfl) rfl
      by_cases hge : b ≤ 2 * r + 1
      · have c1 : (b : Int) ≤ ((2 * r + 1 : Nat) : Int) := by omega
        have m3 : ((2 * r + 1 : Nat) : Int) - (b : Int) = ((2 * r + 1 - b : Nat) : Int) := by omega
        simp (disch := omega) only [kB, kcx, kdm, kdn, kel, aop, resultsL, resultOf, Nat.reduceEqDiff, reduceCtorEq, eq1, apartOK, apart2, AObj.live, Int.reduceEq, Int.reduceLT, Int.reduceLE, Int.reduceAdd, Int.reduceSub, Int.reduceMul, Int.reduceToNat, cutCells, Nat.reduceAdd, Nat.reduceLeDiff, Nat.reduceLT, Nat.reduceMul, Nat.reduceSub, c0, wr_i64, m1, m2, m3, c1, g1, gt, if_pos, bA_len]
        exact ⟨128 - (i + 1), by omega, i + 1, 2 * r + 1 - b, _, by omega, rfl, fun j hj => by rw [if_neg (by omega)]; exact hg j (by omega), q2 hge, by omega, rfl, by exact ex_env rfl⟩
      · have c1 : ¬ (b : Int) ≤ ((2 * r + 1 : Nat) : Int) := by omega
        simp (disch := omega) only [kB, kcx, kdm, kdn, kel, aop, resultsL, resultOf, Nat.reduceEqDiff, reduceCtorEq, eq1, apartOK, apart2, AObj.live, Int.reduceEq, Int.reduceLT, Int.reduceLE, Int.reduceAdd, Int.reduceSub, Int.reduceMul, Int.reduceToNat, cutCells, Nat.reduceAdd, Nat.reduceLeDiff, Nat.reduceLT, Nat.reduceMul, Nat.reduceSub, c0, wr_i64, m1, m2, c1, g1, if_pos, bA_len]
        exact ⟨128 - (i + 1), by omega, i + 1, 2 * r + 1, g, by omega, rfl, fun j hj => hg j (by omega), q1 (by omega), by omega, rfl, by exact ex_env rfl⟩
    | false =>
      rw [hx] at g1
      obtain ⟨q1, q2⟩ := step 0 (by rw [hx]; rfl) rfl
      simp only [Nat.add_zero] at q1 q2
      by_cases hge : b ≤ 2 * r
      · have c1 : (b : Int) ≤ ((2 * r : Nat) : Int) := by omega
        have m3 : ((2 * r : Nat) : Int) - (b : Int) = ((2 * r - b : Nat) : Int) := by omega
        simp (disch := omega) only [kB, kcx, kdm, kdn, kel, aop, resultsL, resultOf, Nat.reduceEqDiff, reduceCtorEq, eq1, apartOK, apart2, AObj.live, Int.reduceEq, Int.reduceLT, Int.reduceLE, Int.reduceAdd, Int.reduceSub, Int.reduceMul, Int.reduceToNat, cutCells, Nat.reduceAdd, Nat.reduceLeDiff, Nat.reduceLT, Nat.reduceMul, Nat.reduceSub, c0, wr_i64, m1, m3, c1, g1, gt, if_pos, bA_len]
        exact ⟨128 - (i + 1), by omega, i + 1, 2 * r - b, _, by omega, rfl, fun j hj => by rw [if_neg (by omega)]; exact hg j (by omega), q2 hge, by omega, rfl, by exact ex_env rfl⟩
      · have c1 : ¬ (b : Int) ≤ ((2 * r : Nat) : Int) := by omega
        simp (disch := omega) only [kB, kcx, kdm, kdn, kel, aop, resultsL, resultOf, Nat.reduceEqDiff, reduceCtorEq, eq1, apartOK, apart2, AObj.live, Int.reduceEq, Int.reduceLT, Int.reduceLE, Int.reduceAdd, Int.reduceSub, Int.reduceMul, Int.reduceToNat, cutCells, Nat.reduceAdd, Nat.reduceLeDiff, Nat.reduceLT, Nat.reduceMul, Nat.reduceSub, c0, wr_i64, m1, c1, g1, if_pos, bA_len]
        exact ⟨128 - (i + 1), by omega, i + 1, 2 * r, g, by omega, rfl, fun j hj => hg j (by omega), q1 (by omega), by omega, rfl, by exact ex_env rfl⟩
  · obtain rfl : i = 128 := by omega
    have c0 : ¬ ((128 : Nat) : Int) < 128 := by omega
    rw [nb_bF ha] at hsum
    have hq : nb g 128 = a / b := by
      rw [← hsum, Nat.mul_comm, Nat.mul_add_div (by omega), Nat.div_eq_of_lt hr, Nat.add_zero]
    have hm : r = a % b := by
      rw [← hsum, Nat.mul_comm, Nat.mul_add_mod, Nat.mod_eq_of_lt hr]
    simp (disch := omega) only [kB, kcx, kdm, kdn, kel, aop, resultsL, resultOf, Nat.reduceEqDiff, reduceCtorEq, eq1, apartOK, apart2, AObj.live, Int.reduceEq, Int.reduceLT, Int.reduceLE, Int.reduceAdd, Int.reduceSub, Int.reduceMul, Int.reduceToNat, cutCells, Nat.reduceAdd, Nat.reduceLeDiff, Nat.reduceLT, Nat.reduceMul, Nat.reduceSub, c0, if_pos, bA_len, bA_take]
    refine take_s ?_
    rw [hq, hm]
    simp (disch := omega) only [kB, kcx, kdm, kdn, kel, aop, resultsL, resultOf, Nat.reduceEqDiff, reduceCtorEq, eq1, apartOK, apart2, AObj.live, Int.reduceEq, Int.reduceLT, Int.reduceLE, Int.reduceAdd, Int.reduceSub, Int.reduceMul, Int.reduceToNat, cutCells, Nat.reduceAdd, Nat.reduceLeDiff, Nat.reduceLT, Nat.reduceMul, Nat.reduceSub]
    exact ⟨_, rfl, ⟨_, rfl⟩, .tup2 (.closed rfl) (.closed rfl), h⟩

theorem BL.push2 {n0 : Nat} {K : Heap} {sv : Value} {l : List UInt8} (h : BL n0 K sv l) (hn : n0 ≤ K.length) (b : UInt8) (hr : l.length + 1 ≤ roomMax) :
    ∃ sv' K', appendV (K ++ [.row [u8c b] 1 true]) 1 1 sv (.slice (some ⟨K.length, 0, none⟩) 1 1) = .val sv' K' ∧ BL n0 K' sv' (l ++ [b]) ∧ K.length ≤ K'.length ∧ ∀ c, c < K.length → blk sv ≠ some c → hget K' c = hget K c := by
  obtain ⟨sv', K', h1, h2, h3, h4, h5⟩ := app_sl (K := K ++ [.row [u8c b] 1 true]) (bytes := 1) (bx := K.length) (xs := [u8c b]) (u2 := 1) (w2 := true) (SLs.app h) (by simp; omega) (by rw [hget_last]) rfl rfl (by rw [cB_len]; omega)
  refine ⟨sv', K', h1, ?_, by rw [h3]; simp; omega, fun c hc hb => ?_⟩
  · have e : cB (l ++ [b]) = cB l ++ [[u8c b]] := by simp [cB]
    unfold BL
    rw [e]
    exact h2
  · rw [h5 c (by simp; omega) hb, hget_old hc]
theorem BL.row {n0 : Nat} {K : Heap} {sv : Value} {l : List UInt8} (h : BL n0 K sv l) (hl : l ≠ []) : ∃ kk, n0 ≤ kk ∧ kk < K.length ∧ sv = .slice (some ⟨kk, 0, none⟩) l.length l.length ∧ hget K kk = .row (l.map u8c) 1 true := by
  rcases h with ⟨h1, rfl⟩ | ⟨h1, k, k0, rfl, k2, k3⟩
  · exact absurd (by simpa [cB] using h1) hl
  · rw [cB_flat] at k2
    rw [cB_len]
    exact ⟨k, k0, hget_lt k2 rfl, rfl, k2⟩

/-- While the digits are told, the lowest first. -/
def rdgI (F : Heap) (v b : Nat) : Nat → Env → Heap → Prop := fun z e K =>
  ∃ (k : Nat) (pre : List Nat) (u : Nat) (sv : Value), k ≤ 128 ∧ z = 128 - k ∧ pre.length = k ∧ u < 2 ^ (128 - k) ∧ rd b 128 v = pre ++ (if 0 < k ∧ u = 0 then [] else rd b (128 - k) u) ∧
    F.length + 1 ≤ K.length ∧ (∀ d, d < F.length → hget K d = hget F d) ∧ hget K F.length = rowU u ∧ BL (F.length + 1) K sv (pre.map sgN) ∧
    (∃ x : Nat → Value, e = [x 0, .int .i64 (b : Int), .pointer (some ⟨F.length, 0, none⟩), x 3, x 4, sv, x 6, x 7, x 8, x 9, x 10, x 11, x 12, x 13, x 14, x 15, x 16, x 17, x 18, x 19, x 20, x 21, x 22, x 23, x 24, x 25, x 26, x 27, x 28, x 29, x 30, x 31, x 32, x 33, x 34, x 35, x 36, x 37, x 38, x 39, x 40, x 41, x 42, x 43, x 44, x 45])
/-- While they are turned. -/
def rdrI (F : Heap) (kk : Nat) (l : List UInt8) : Nat → Env → Heap → Prop := fun z e K =>
  z ≤ l.length ∧ F.length ≤ K.length ∧ (∀ d, d < F.length → hget K d = hget F d) ∧ ∃ sv m, BL F.length K sv m ∧ m ++ (l.take z).reverse = l.reverse ∧
    (∃ x : Nat → Value, e = [x 0, x 1, x 2, x 3, x 4, .slice (some ⟨kk, 0, none⟩) l.length l.length, x 6, x 7, sv, .int .i64 ((z : Int) - 1), x 10, x 11, x 12, x 13, x 14, x 15, x 16, x 17, x 18, x 19, x 20, x 21, x 22, x 23, x 24, x 25, x 26, x 27, x 28, x 29, x 30, x 31, x 32, x 33, x 34, x 35, x 36, x 37, x 38, x 39, x 40, x 41, x 42, x 43, x 44, x 45])

set_option maxHeartbeats 4000000 in
theorem rdigits_s {v b : Nat} (hv : v < 2 ^ 128) (hb : 2 ≤ b) (hb2 : b ≤ 16) (h : R (.ret (.string (bs (dig b v)))) H) : WD T 55 [bvA v, .int .i64 (b : Int)] H R := by
  refine WD.gc0 (WD.of follows t55 (by simp) ?_)
  simp (disch := omega) only [kB, kcx, kdm, kdn, kel, aop, resultsL, resultOf, Nat.reduceEqDiff, reduceCtorEq, eq1, apartOK, apart2, AObj.live, Int.reduceEq, Int.reduceLT, Int.reduceLE, Int.reduceAdd, Int.reduceSub, Int.reduceMul, Int.reduceToNat, cutCells, Nat.reduceAdd, Nat.reduceLeDiff, Nat.reduceLT, Nat.reduceMul, Nat.reduceSub]
  refine WLoop.inv (rdgI H v b) ?_ 128 _ _ ⟨0, [], v, _, by omega, rfl, rfl, hv, by rw [if_neg (by omega)]; rfl, by simp, fun d hd => hget_old hd, hget_last _ _, BL.nil, by exact ex_env rfl⟩
  rintro z e K ⟨k, pre, u, sv, hk, rfl, hpre, hu, hrd, kl, hold, hu1, hB, ⟨x, rfl⟩⟩
  have hu128 : u < 2 ^ 128 := Nat.lt_of_lt_of_le hu (Nat.pow_le_pow_right (by decide) (by omega))
  have hlen : (pre.map sgN).length = k := by rw [List.length_map, hpre]
  by_cases hgo : k = 0 ∨ u ≠ 0
  · have hk128 : k < 128 := by
      rcases Nat.lt_or_ge k 128 with q | q
      · exact q
      · exfalso
        have hk' : k = 128 := by omega
        rw [hk', Nat.sub_self] at hu
        have : u = 0 := by simpa using hu
        rcases hgo with q | q
        · omega
        · exact q this
    rw [if_neg (by omega)] at hrd
    have e128 : 128 - k = (127 - k) + 1 := by omega
    have hunf : rd b (128 - k) u = (u % b) :: (if u / b = 0 then [] else rd b (127 - k) (u / b)) := by rw [e128, rd]
    rw [hunf] at hrd
    have hub : u / b < 2 ^ (127 - k) := by
      rw [e128, Nat.pow_succ] at hu
      rw [Nat.div_lt_iff_lt_mul (by omega)]
      exact Nat.lt_of_lt_of_le hu (Nat.mul_le_mul_left _ hb)
    have hx : u % b < 16 := Nat.lt_of_lt_of_le (Nat.mod_lt _ (by omega)) hb2
    have hnb : ∀ c, blk sv = some c → H.length + 1 ≤ c ∧ c < K.length := fun c hc => ⟨(SLs.lt hB hc).2, (SLs.lt hB hc).1⟩
    obtain ⟨sv', K', a1, a2, a3, a4⟩ := (hB.app (G := [rowU (u / b)])).push2 (by simp; omega) (sgN (u % b)) (by rw [hlen]; simp only [roomMax]; omega)
    have a1' : appendV (K ++ [.row [.int .u64 ((u / b / W64 : Nat) : Int), .int .u64 ((u / b % W64 : Nat) : Int)] 0 true, .row [.int .u8 ((sgN (u % b)).toNat : Int)] 1 true]) 1 1 sv (.slice (some ⟨K.length + 1, 0, none⟩) 1 1) = .val sv' K' := by
      have q := a1
      simp only [List.append_assoc, List.length_append, List.length_cons, List.length_nil, Nat.zero_add, List.cons_append, List.nil_append] at q
      exact q
    have kl' : K.length + 1 ≤ K'.length := by simpa using a3
    have kk1 : hget K' K.length = rowU (u / b) := by
      rw [a4 _ (by simp) (fun q => by have := (hnb _ q).2; omega), hget_last]
    have kf : hget K' H.length = rowU u := by rw [a4 _ (by simp; omega) (fun q => by have := (hnb _ q).1; omega), hget_old (by omega)]; exact hu1
    have kold : ∀ d, d < H.length → hget K' d = hget H d := fun d hd => by rw [a4 _ (by simp; omega) (fun q => by have := (hnb _ q).1; omega), hget_old (by omega)]; exact hold d hd
    have nexts : BL (H.length + 1) K' sv' ((pre ++ [u % b]).map sgN) := by rw [List.map_append]; exact a2
    have hrd2 : rd b 128 v = (pre ++ [u % b]) ++ (if 0 < k + 1 ∧ u / b = 0 then [] else rd b (128 - (k + 1)) (u / b)) := by
      rw [hrd, List.append_assoc, show 128 - (k + 1) = 127 - k by omega]
      congr 1
      by_cases q : u / b = 0
      · rw [if_pos q, if_pos ⟨by omega, q⟩]; rfl
      · rw [if_neg q, if_neg (fun h => q h.2)]; rfl
    have hl0 : ∃ ad, sv = .slice ad k k := by have := hB.lenV; rwa [hlen] at this
    have hl1 : ∃ ad, sv' = .slice ad (k + 1) (k + 1) := by have := nexts.lenV; rwa [List.length_map, List.length_append, hpre] at this
    have fin : ∀ K2, K2 = K'.set H.length (rowU (u / b)) → ∀ e : Env, (∃ x : Nat → Value, e = [x 0, .int .i64 (b : Int), .pointer (some ⟨H.length, 0, none⟩), x 3, x 4, sv', x 6, x 7, x 8, x 9, x 10, x 11, x 12, x 13, x 14, x 15, x 16, x 17, x 18, x 19, x 20, x 21, x 22, x 23, x 24, x 25, x 26, x 27, x 28, x 29, x 30, x 31, x 32, x 33, x 34, x 35, x 36, x 37, x 38, x 39, x 40, x 41, x 42, x 43, x 44, x 45]) → ∃ m, m < 128 - k ∧ rdgI H v b m e K2 := by
      rintro K2 rfl e he2
      have hne : ∀ c, c ≠ H.length → hget (K'.set H.length (rowU (u / b))) c = hget K' c := fun c hc => hget_ne (Ne.symm hc)
      exact ⟨128 - (k + 1), by omega, k + 1, pre ++ [u % b], u / b, sv', by omega, rfl, by simp [hpre], by rw [show 128 - (k + 1) = 127 - k by omega]; exact hub, hrd2, by simp; omega, fun d hd => by rw [hne d (by omega)]; exact kold d hd, hget_set' (by omega), nexts.same fun c h1 h2 => hne c (by omega), he2⟩
    obtain ⟨ad, rfl⟩ := hl0
    obtain ⟨ad', rfl⟩ := hl1
    rcases hgo with h0 | h0
    · subst h0
      have c0 : (((0 : Nat) : Int) = 0) = True := eq_true rfl
      simp (disch := omega) only [kB, kcx, kdm, kdn, kel, aop, resultsL, resultOf, Nat.reduceEqDiff, reduceCtorEq, eq1, apartOK, apart2, AObj.live, Int.reduceEq, Int.reduceLT, Int.reduceLE, Int.reduceAdd, Int.reduceSub, Int.reduceMul, Int.reduceToNat, cutCells, Nat.reduceAdd, Nat.reduceLeDiff, Nat.reduceLT, Nat.reduceMul, Nat.reduceSub, hu1, c0]
      refine rdivided_s hu128 hb hb2 ?_
      simp (disch := omega) only [kB, kcx, kdm, kdn, kel, aop, resultsL, resultOf, Nat.reduceEqDiff, reduceCtorEq, eq1, apartOK, apart2, AObj.live, Int.reduceEq, Int.reduceLT, Int.reduceLE, Int.reduceAdd, Int.reduceSub, Int.reduceMul, Int.reduceToNat, cutCells, Nat.reduceAdd, Nat.reduceLeDiff, Nat.reduceLT, Nat.reduceMul, Nat.reduceSub]
      refine rsign_s hx ?_
      unfold u8c
      simp (disch := omega) only [kB, kcx, kdm, kdn, kel, aop, resultsL, resultOf, Nat.reduceEqDiff, reduceCtorEq, eq1, apartOK, apart2, AObj.live, Int.reduceEq, Int.reduceLT, Int.reduceLE, Int.reduceAdd, Int.reduceSub, Int.reduceMul, Int.reduceToNat, cutCells, Nat.reduceAdd, Nat.reduceLeDiff, Nat.reduceLT, Nat.reduceMul, Nat.reduceSub, a1', kk1, kf]
      exact fin _ rfl _ (by exact ex_env rfl)
    · by_cases hk0 : k = 0
      · subst hk0
        have c0 : (((0 : Nat) : Int) = 0) = True := eq_true rfl
        simp (disch := omega) only [kB, kcx, kdm, kdn, kel, aop, resultsL, resultOf, Nat.reduceEqDiff, reduceCtorEq, eq1, apartOK, apart2, AObj.live, Int.reduceEq, Int.reduceLT, Int.reduceLE, Int.reduceAdd, Int.reduceSub, Int.reduceMul, Int.reduceToNat, cutCells, Nat.reduceAdd, Nat.reduceLeDiff, Nat.reduceLT, Nat.reduceMul, Nat.reduceSub, hu1, c0]
        refine rdivided_s hu128 hb hb2 ?_
        simp (disch := omega) only [kB, kcx, kdm, kdn, kel, aop, resultsL, resultOf, Nat.reduceEqDiff, reduceCtorEq, eq1, apartOK, apart2, AObj.live, Int.reduceEq, Int.reduceLT, Int.reduceLE, Int.reduceAdd, Int.reduceSub, Int.reduceMul, Int.reduceToNat, cutCells, Nat.reduceAdd, Nat.reduceLeDiff, Nat.reduceLT, Nat.reduceMul, Nat.reduceSub]
        refine rsign_s hx ?_
        unfold u8c
        simp (disch := omega) only [kB, kcx, kdm, kdn, kel, aop, resultsL, resultOf, Nat.reduceEqDiff, reduceCtorEq, eq1, apartOK, apart2, AObj.live, Int.reduceEq, Int.reduceLT, Int.reduceLE, Int.reduceAdd, Int.reduceSub, Int.reduceMul, Int.reduceToNat, cutCells, Nat.reduceAdd, Nat.reduceLeDiff, Nat.reduceLT, Nat.reduceMul, Nat.reduceSub, a1', kk1, kf]
        exact fin _ rfl _ (by exact ex_env rfl)
      · have c0 : ¬ ((k : Int) = 0) := by omega
        have ez := eq_bv0 (v := u)
        rw [decide_eq_false h0] at ez
        simp (disch := omega) only [kB, kcx, kdm, kdn, kel, aop, resultsL, resultOf, Nat.reduceEqDiff, reduceCtorEq, eq1, apartOK, apart2, AObj.live, Int.reduceEq, Int.reduceLT, Int.reduceLE, Int.reduceAdd, Int.reduceSub, Int.reduceMul, Int.reduceToNat, cutCells, Nat.reduceAdd, Nat.reduceLeDiff, Nat.reduceLT, Nat.reduceMul, Nat.reduceSub, hu1, c0, ez]
        refine rdivided_s hu128 hb hb2 ?_
        simp (disch := omega) only [kB, kcx, kdm, kdn, kel, aop, resultsL, resultOf, Nat.reduceEqDiff, reduceCtorEq, eq1, apartOK, apart2, AObj.live, Int.reduceEq, Int.reduceLT, Int.reduceLE, Int.reduceAdd, Int.reduceSub, Int.reduceMul, Int.reduceToNat, cutCells, Nat.reduceAdd, Nat.reduceLeDiff, Nat.reduceLT, Nat.reduceMul, Nat.reduceSub]
        refine rsign_s hx ?_
        unfold u8c
        simp (disch := omega) only [kB, kcx, kdm, kdn, kel, aop, resultsL, resultOf, Nat.reduceEqDiff, reduceCtorEq, eq1, apartOK, apart2, AObj.live, Int.reduceEq, Int.reduceLT, Int.reduceLE, Int.reduceAdd, Int.reduceSub, Int.reduceMul, Int.reduceToNat, cutCells, Nat.reduceAdd, Nat.reduceLeDiff, Nat.reduceLT, Nat.reduceMul, Nat.reduceSub, a1', kk1, kf]
        exact fin _ rfl _ (by exact ex_env rfl)
  · have hk0 : k ≠ 0 := fun q => hgo (.inl q)
    have hu0 : u = 0 := by
      rcases Nat.eq_zero_or_pos u with q | q
      · exact q
      · exact absurd (.inr (by omega)) hgo
    rw [if_pos ⟨by omega, hu0⟩, List.append_nil] at hrd
    have hdig : ((pre.map sgN)).reverse = dig b v := by rw [dig, hrd, List.map_reverse]
    obtain ⟨l, hl⟩ : ∃ l, l = pre.map sgN := ⟨_, rfl⟩
    rw [← hl] at hB hdig hlen
    obtain ⟨kk, q1, q2, rfl, q3⟩ := hB.row (by intro q; rw [q] at hlen; simp at hlen; omega)
    have c0 : ¬ ((k : Int) = 0) := by omega
    have ez := eq_bv0 (v := u)
    rw [decide_eq_true hu0] at ez
    rw [hlen]
    simp (disch := omega) only [kB, kcx, kdm, kdn, kel, aop, resultsL, resultOf, Nat.reduceEqDiff, reduceCtorEq, eq1, apartOK, apart2, AObj.live, Int.reduceEq, Int.reduceLT, Int.reduceLE, Int.reduceAdd, Int.reduceSub, Int.reduceMul, Int.reduceToNat, cutCells, Nat.reduceAdd, Nat.reduceLeDiff, Nat.reduceLT, Nat.reduceMul, Nat.reduceSub, hu1, c0, ez, wr_i64]
    refine WLoop.inv (rdrI K kk l) ?_ k _ _ ⟨by omega, Nat.le_refl _, fun _ _ => rfl, _, [], BL.nil, by rw [List.nil_append, ← hlen, List.take_length], by rw [hlen]; exact ex_env rfl⟩
    rintro z e K2 ⟨hz, kl2, hold2, sv, m, hB2, hm, ⟨x, rfl⟩⟩
    have g3 : hget K2 kk = .row (l.map u8c) 1 true := by rw [hold2 kk q2]; exact q3
    have hKP : KP H.length H K2 := ⟨by omega, fun d hd => by rw [hold2 d (by omega)]; exact hold d hd⟩
    rw [hlen]
    cases z with
    | zero =>
      have cz : ¬ (0 : Int) ≤ ((0 : Nat) : Int) - 1 := by omega
      have hm2 : m = dig b v := by
        rw [← hdig, ← hm]
        simp
      have hs := hB2.src
      obtain ⟨ad, rfl⟩ := hB2.lenV
      rw [hm2] at hs
      rw [hm2]
      simp (disch := omega) only [kB, kcx, kdm, kdn, kel, aop, resultsL, resultOf, Nat.reduceEqDiff, reduceCtorEq, eq1, apartOK, apart2, AObj.live, Int.reduceEq, Int.reduceLT, Int.reduceLE, Int.reduceAdd, Int.reduceSub, Int.reduceMul, Int.reduceToNat, cutCells, Nat.reduceAdd, Nat.reduceLeDiff, Nat.reduceLT, Nat.reduceMul, Nat.reduceSub, cz, lenV, hs]
      exact ⟨_, rfl, hKP.ext, .closed rfl, h⟩
    | succ q =>
      have cz : (0 : Int) ≤ ((q + 1 : Nat) : Int) - 1 := by omega
      have e1 : ((q + 1 : Nat) : Int) - 1 = (q : Int) := by omega
      have cq : (q : Int) < (k : Int) := by omega
      have hql : q < l.length := by omega
      have gq : (l.map u8c)[q]? = some (.int .u8 ((l[q]).toNat : Int)) := by rw [List.getElem?_map, List.getElem?_eq_getElem hql]; rfl
      have lm : m.length + 1 ≤ roomMax := by
        have := congrArg List.length hm
        simp at this
        simp only [roomMax]
        omega
      obtain ⟨sv', K', a1, a2, a3⟩ := hB2.push kl2 l[q] lm
      unfold u8c at a1
      have hnext : (m ++ [l[q]]) ++ (l.take q).reverse = l.reverse := by
        rw [← hm, List.take_succ_eq_append_getElem hql, List.reverse_append, List.append_assoc]
        rfl
      have kk2 := hget_lt g3 rfl
      simp (disch := omega) only [kB, kcx, kdm, kdn, kel, aop, resultsL, resultOf, Nat.reduceEqDiff, reduceCtorEq, eq1, apartOK, apart2, AObj.live, Int.reduceEq, Int.reduceLT, Int.reduceLE, Int.reduceAdd, Int.reduceSub, Int.reduceMul, Int.reduceToNat, cutCells, Nat.reduceAdd, Nat.reduceLeDiff, Nat.reduceLT, Nat.reduceMul, Nat.reduceSub, cz, e1, cq, g3, gq, a1, wr_i64]
      exact ⟨q, by omega, by omega, a3.1, fun d hd => by rw [a3.2 d hd]; exact hold2 d hd, sv', _, a2, hnext, by rw [hlen]; exact ex_env rfl⟩

end Go.Proofs.YtkhkmgcegicmoaaDoor.Ev

/- The document's reading of numbers. -/
namespace Go.Proofs.YtkhkmgcegicmoaaDoor.Ev
set_option maxRecDepth 100000
set_option linter.unusedSimpArgs false
set_option linter.unusedVariables false
variable {R : FRes → Heap → Prop} {H : Heap}

def rworI (b : Nat) (c : UInt8) (F : Heap) : Nat → Env → Heap → Prop := fun z e K =>
  ∃ i : Nat, i ≤ b ∧ z = b - i ∧ K = F ∧ (∀ j, j < i → sgN j ≠ c) ∧ (∃ x : Nat → Value, e = [.int .u8 (c.toNat : Int), .int .i64 (b : Int), x 2, x 3, x 4, .int .i64 (i : Int), x 6, x 7, x 8, x 9, x 10, x 11, x 12, x 13, x 14, x 15])

theorem rworth_s {c : UInt8} {b : Nat} (hb : b ≤ 16) (h : R (.ret (.int .i64 (if worthN c.toNat < b then (worthN c.toNat : Int) else -1))) H) : WD T 76 [.int .u8 (c.toNat : Int), .int .i64 (b : Int)] H R := by
  refine WD.of follows t76 (by simp) ?_
  simp (disch := omega) only [kB, kcx, kdm, kdn, kel, aop, resultsL, resultOf, Nat.reduceEqDiff, reduceCtorEq, eq1, apartOK, apart2, AObj.live, Int.reduceEq, Int.reduceLT, Int.reduceLE, Int.reduceAdd, Int.reduceSub, Int.reduceMul, Int.reduceToNat, cutCells, Nat.reduceAdd, Nat.reduceLeDiff, Nat.reduceLT, Nat.reduceMul, Nat.reduceSub]
  refine WLoop.inv (rworI b c H) ?_ b _ _ ⟨0, by omega, by omega, rfl, by omega, by exact ex_env rfl⟩
  rintro z e K ⟨i, hi, rfl, rfl, hne, ⟨x, rfl⟩⟩
  by_cases hlt : i < b
  · have c0 : (i : Int) < (b : Int) := by omega
    by_cases hc : sgN i = c
    · have hw : worthN c.toNat = i := by rw [← hc]; exact worth_sg i (by omega)
      rw [hw, if_pos hlt] at h
      simp (disch := omega) only [kB, kcx, kdm, kdn, kel, aop, resultsL, resultOf, Nat.reduceEqDiff, reduceCtorEq, eq1, apartOK, apart2, AObj.live, Int.reduceEq, Int.reduceLT, Int.reduceLE, Int.reduceAdd, Int.reduceSub, Int.reduceMul, Int.reduceToNat, cutCells, Nat.reduceAdd, Nat.reduceLeDiff, Nat.reduceLT, Nat.reduceMul, Nat.reduceSub, c0]
      refine rsign_s (by omega) ?_
      unfold u8c
      rw [hc]
      have eq : (((c.toNat : Nat) : Int) = ((c.toNat : Nat) : Int)) = True := eq_true rfl
      simp (disch := omega) only [kB, kcx, kdm, kdn, kel, aop, resultsL, resultOf, Nat.reduceEqDiff, reduceCtorEq, eq1, apartOK, apart2, AObj.live, Int.reduceEq, Int.reduceLT, Int.reduceLE, Int.reduceAdd, Int.reduceSub, Int.reduceMul, Int.reduceToNat, cutCells, Nat.reduceAdd, Nat.reduceLeDiff, Nat.reduceLT, Nat.reduceMul, Nat.reduceSub]
      exact h
    · have hc' : ¬ (((sgN i).toNat : Nat) : Int) = ((c.toNat : Nat) : Int) := fun q => hc (UInt8.toNat_inj.1 (by omega))
      simp (disch := omega) only [kB, kcx, kdm, kdn, kel, aop, resultsL, resultOf, Nat.reduceEqDiff, reduceCtorEq, eq1, apartOK, apart2, AObj.live, Int.reduceEq, Int.reduceLT, Int.reduceLE, Int.reduceAdd, Int.reduceSub, Int.reduceMul, Int.reduceToNat, cutCells, Nat.reduceAdd, Nat.reduceLeDiff, Nat.reduceLT, Nat.reduceMul, Nat.reduceSub, c0]
      refine rsign_s (by omega) ?_
      unfold u8c
      simp (disch := omega) only [kB, kcx, kdm, kdn, kel, aop, resultsL, resultOf, Nat.reduceEqDiff, reduceCtorEq, eq1, apartOK, apart2, AObj.live, Int.reduceEq, Int.reduceLT, Int.reduceLE, Int.reduceAdd, Int.reduceSub, Int.reduceMul, Int.reduceToNat, cutCells, Nat.reduceAdd, Nat.reduceLeDiff, Nat.reduceLT, Nat.reduceMul, Nat.reduceSub, hc', wr_i64]
      refine ⟨b - (i + 1), by omega, i + 1, by omega, rfl, rfl, fun j hj => ?_, by exact ex_env rfl⟩
      by_cases q : j = i
      · rw [q]; exact hc
      · exact hne j (by omega)
  · obtain rfl : i = b := by omega
    have c0 : ¬ (i : Int) < (i : Int) := by omega
    have hw : ¬ worthN c.toNat < i := fun q => hne _ q (sg_worth (by omega))
    rw [if_neg hw] at h
    simp (disch := omega) only [kB, kcx, kdm, kdn, kel, aop, resultsL, resultOf, Nat.reduceEqDiff, reduceCtorEq, eq1, apartOK, apart2, AObj.live, Int.reduceEq, Int.reduceLT, Int.reduceLE, Int.reduceAdd, Int.reduceSub, Int.reduceMul, Int.reduceToNat, cutCells, Nat.reduceAdd, Nat.reduceLeDiff, Nat.reduceLT, Nat.reduceMul, Nat.reduceSub, c0]
    exact h

/-- While a number is read. -/
def rnmI (l : List UInt8) (b b4 b7 : Nat) (F : Heap) : Nat → Env → Heap → Prop := fun z e K =>
  ∃ (i acc A : Nat) (g : Heap), i ≤ l.length ∧ z = l.length - i ∧ numF b 0 l = numF b acc (l.drop i) ∧ A < 2 ^ 128 ∧ (acc < 2 ^ 128 → A = acc) ∧ K = F ++ [rowU 0, rowU A] ++ g ∧
    (∃ x : Nat → Value, e = [.string (bs l), .int .i64 (b : Int), x 2, x 3, .pointer (some ⟨b4, 0, none⟩), x 5, x 6, .pointer (some ⟨b7, 0, none⟩), .bool (decide (acc < 2 ^ 128)), .int .i64 (i : Int), x 10, x 11, x 12, x 13, x 14, x 15, x 16, x 17, x 18, x 19, x 20, x 21, x 22, x 23, x 24, x 25, x 26, x 27, x 28, x 29, x 30, x 31, x 32, x 33, x 34, x 35, x 36, x 37, x 38, x 39, x 40, x 41, x 42, x 43, x 44, x 45, x 46, x 47, x 48, x 49, x 50, x 51, x 52, x 53, x 54, x 55, x 56, x 57, x 58, x 59, x 60, x 61, x 62, x 63, x 64, x 65])

abbrev QR (R : FRes → Heap → Prop) (H : Heap) : Post := retK [.cellN 4 2, .tmp 5, .tmp 6] (fun r H1 => ∃ v, r = .ret v ∧ (∃ g, H1 = H ++ g) ∧ Scoped H.length v ∧ R (.ret v) H)

set_option maxHeartbeats 4000000 in
theorem rnum_rest {l : List UInt8} {b : Nat} (hb : base3 b) (hl : l.length ≤ 4611686018427387904) {e : Env} (he : (∃ x : Nat → Value, e = [.string (bs l), .int .i64 (b : Int), x 2, x 3, .pointer (some ⟨H.length, 0, none⟩), x 5, x 6, x 7, x 8, x 9, x 10, x 11, x 12, x 13, x 14, x 15, x 16, x 17, x 18, x 19, x 20, x 21, x 22, x 23, x 24, x 25, x 26, x 27, x 28, x 29, x 30, x 31, x 32, x 33, x 34, x 35, x 36, x 37, x 38, x 39, x 40, x 41, x 42, x 43, x 44, x 45, x 46, x 47, x 48, x 49, x 50, x 51, x 52, x 53, x 54, x 55, x 56, x 57, x 58, x 59, x 60, x 61, x 62, x 63, x 64, x 65]))
    (h1 : numF b 0 l = none → R (.ret (.tuple #[bvA 0, .bool false, .bool false])) H) (h2 : ∀ v, numF b 0 l = some v → v < 2 ^ 128 → R (.ret (.tuple #[bvA v, .bool true, .bool true])) H)
    (h3 : ∀ v, numF b 0 l = some v → ¬ v < 2 ^ 128 → ∀ A, A < 2 ^ 128 → R (.ret (.tuple #[bvA A, .bool false, .bool true])) H) :
    WC T (g57.body.at [1, 1]) e (H ++ [rowU 0]) (QR R H) := by
  obtain ⟨hb2, hb16⟩ := base3_lt hb
  obtain ⟨y, rfl⟩ := he
  simp only [AFunc.body, g57, ACode.at]
  simp (disch := omega) only [kB, kcx, kdm, kdn, kel, aop, resultsL, resultOf, Nat.reduceEqDiff, reduceCtorEq, eq1, apartOK, apart2, AObj.live, Int.reduceEq, Int.reduceLT, Int.reduceLE, Int.reduceAdd, Int.reduceSub, Int.reduceMul, Int.reduceToNat, cutCells, Nat.reduceAdd, Nat.reduceLeDiff, Nat.reduceLT, Nat.reduceMul, Nat.reduceSub]
  refine WLoop.inv (rnmI l b H.length (H.length + 1) H) ?_ l.length _ _ ⟨0, 0, 0, [], Nat.zero_le _, rfl, rfl, by decide, fun _ => rfl, by simp, by exact ex_env rfl⟩
  rintro z e K ⟨i, acc, A, g, hi, rfl, hf, hA, hAa, rfl, ⟨x, rfl⟩⟩
  obtain ⟨K, hK⟩ : ∃ K, K = H ++ [rowU 0, rowU A] ++ g := ⟨_, rfl⟩
  rw [← hK]
  have kl : H.length + 2 ≤ K.length := by rw [hK]; simp
  have k4 : hget K H.length = rowU 0 := by rw [hK, List.append_assoc, hget_base0]; rfl
  have k7 : hget K (H.length + 1) = rowU A := by rw [hK, List.append_assoc, hget_base]; rfl
  have hset : ∀ B, K.set (H.length + 1) (rowU B) = H ++ [rowU 0, rowU B] ++ g := fun B => by rw [hK, List.append_assoc, set_base]; simp
  have hset4 : ∀ o, ∃ g2, K.set H.length o = H ++ g2 := fun o => ⟨_, by rw [hK, List.append_assoc, set_base0]⟩
  by_cases hlt : i < l.length
  · have c0 : (i : Int) < (l.length : Int) := by omega
    have hg : l[i]? = some l[i] := List.getElem?_eq_getElem hlt
    have hdrop : l.drop i = l[i] :: l.drop (i + 1) := List.drop_eq_getElem_cons hlt
    rw [hdrop, numF] at hf
    simp (disch := omega) only [kB, kcx, kdm, kdn, kel, aop, resultsL, resultOf, Nat.reduceEqDiff, reduceCtorEq, eq1, apartOK, apart2, AObj.live, Int.reduceEq, Int.reduceLT, Int.reduceLE, Int.reduceAdd, Int.reduceSub, Int.reduceMul, Int.reduceToNat, cutCells, Nat.reduceAdd, Nat.reduceLeDiff, Nat.reduceLT, Nat.reduceMul, Nat.reduceSub, c0, hg]
    refine rworth_s hb16 ?_
    by_cases hd : worthN l[i].toNat < b
    · rw [if_pos hd] at hf ⊢
      obtain ⟨d, hdd⟩ : ∃ d, d = worthN l[i].toNat := ⟨_, rfl⟩
      rw [← hdd] at hd hf ⊢
      have c1 : ¬ (d : Int) < 0 := by omega
      by_cases hacc : acc < 2 ^ 128
      · have hA2 := hAa hacc
        subst hA2
        rw [decide_eq_true hacc]
        simp (disch := omega) only [kB, kcx, kdm, kdn, kel, aop, resultsL, resultOf, Nat.reduceEqDiff, reduceCtorEq, eq1, apartOK, apart2, AObj.live, Int.reduceEq, Int.reduceLT, Int.reduceLE, Int.reduceAdd, Int.reduceSub, Int.reduceMul, Int.reduceToNat, cutCells, Nat.reduceAdd, Nat.reduceLeDiff, Nat.reduceLT, Nat.reduceMul, Nat.reduceSub, c1, k7]
        refine rmore_s hA (by omega) (by omega) ?_
        have hB : (d + b * A) % 2 ^ 128 < 2 ^ 128 := Nat.mod_lt _ (by decide)
        obtain ⟨B, hBB⟩ : ∃ B, B = (d + b * A) % 2 ^ 128 := ⟨_, rfl⟩
        rw [← hBB] at hB ⊢
        have hfit : A * b + d < 2 ^ 128 → B = A * b + d := fun q => by rw [hBB, Nat.mul_comm b, Nat.add_comm]; exact Nat.mod_eq_of_lt q
        have hno : ¬ A * b + d < 2 ^ 128 → ¬ (B / b = A ∧ B % b = d) := by
          rintro q ⟨q1, q2⟩
          have := Nat.div_add_mod B b
          rw [q1, q2, Nat.mul_comm] at this
          omega
        have hyes : A * b + d < 2 ^ 128 → B / b = A ∧ B % b = d := fun q => by
          rw [hfit q, Nat.mul_comm]
          exact ⟨by rw [Nat.mul_add_div (by omega), Nat.div_eq_of_lt hd, Nat.add_zero], by rw [Nat.mul_add_mod, Nat.mod_eq_of_lt hd]⟩
        simp (disch := omega) only [kB, kcx, kdm, kdn, kel, aop, resultsL, resultOf, Nat.reduceEqDiff, reduceCtorEq, eq1, apartOK, apart2, AObj.live, Int.reduceEq, Int.reduceLT, Int.reduceLE, Int.reduceAdd, Int.reduceSub, Int.reduceMul, Int.reduceToNat, cutCells, Nat.reduceAdd, Nat.reduceLeDiff, Nat.reduceLT, Nat.reduceMul, Nat.reduceSub, k7]
        refine rdivided_s hB hb2 hb16 ?_
        have fin : ∀ (fl : Bool) (e : Env) (K2 : Heap), fl = decide (A * b + d < 2 ^ 128) → (∃ g2, K2 = H ++ [rowU 0, rowU B] ++ g2) → (∃ x : Nat → Value, e = [.string (bs l), .int .i64 (b : Int), x 2, x 3, .pointer (some ⟨H.length, 0, none⟩), x 5, x 6, .pointer (some ⟨H.length + 1, 0, none⟩), .bool fl, .int .i64 ((i + 1 : Nat) : Int), x 10, x 11, x 12, x 13, x 14, x 15, x 16, x 17, x 18, x 19, x 20, x 21, x 22, x 23, x 24, x 25, x 26, x 27, x 28, x 29, x 30, x 31, x 32, x 33, x 34, x 35, x 36, x 37, x 38, x 39, x 40, x 41, x 42, x 43, x 44, x 45, x 46, x 47, x 48, x 49, x 50, x 51, x 52, x 53, x 54, x 55, x 56, x 57, x 58, x 59, x 60, x 61, x 62, x 63, x 64, x 65]) →
            ∃ m, m < l.length - i ∧ rnmI l b H.length (H.length + 1) H m e K2 := by
          rintro fl e K2 rfl ⟨g2, rfl⟩ he
          exact ⟨l.length - (i + 1), by omega, i + 1, A * b + d, B, g2, by omega, rfl, hf, hB, hfit, rfl, he⟩
        have eb := eq_bv (v := B / b) (w := A)
        have e1 : (i : Int) + 1 = ((i + 1 : Nat) : Int) := by omega
        have hset2 : ∀ (g3 : Heap), ∃ g2, (K ++ g3).set (H.length + 1) (rowU B) = H ++ [rowU 0, rowU B] ++ g2 := fun g3 => ⟨g ++ g3, by rw [hK, List.append_assoc, List.append_assoc, set_base]; simp⟩
        by_cases q1 : B / b = A
        · rw [decide_eq_true q1] at eb
          by_cases q2 : B % b = d
          · have q2' : (((B % b : Nat) : Int) = (d : Int)) = True := eq_true (by omega)
            have hy : A * b + d < 2 ^ 128 := by
              by_cases q : A * b + d < 2 ^ 128
              · exact q
              · exact absurd ⟨q1, q2⟩ (hno q)
            simp (disch := omega) only [kB, kcx, kdm, kdn, kel, aop, resultsL, resultOf, Nat.reduceEqDiff, reduceCtorEq, eq1, apartOK, apart2, AObj.live, Int.reduceEq, Int.reduceLT, Int.reduceLE, Int.reduceAdd, Int.reduceSub, Int.reduceMul, Int.reduceToNat, cutCells, Nat.reduceAdd, Nat.reduceLeDiff, Nat.reduceLT, Nat.reduceMul, Nat.reduceSub, k7, eb, q2', wr_i64, e1]
            exact fin true _ _ (decide_eq_true hy).symm ⟨_, by rw [hset]; simp; rfl⟩ (by exact ex_env rfl)
          · have q2' : ¬ ((B % b : Nat) : Int) = (d : Int) := by omega
            have hy : ¬ A * b + d < 2 ^ 128 := fun q => q2 (hyes q).2
            simp (disch := omega) only [kB, kcx, kdm, kdn, kel, aop, resultsL, resultOf, Nat.reduceEqDiff, reduceCtorEq, eq1, apartOK, apart2, AObj.live, Int.reduceEq, Int.reduceLT, Int.reduceLE, Int.reduceAdd, Int.reduceSub, Int.reduceMul, Int.reduceToNat, cutCells, Nat.reduceAdd, Nat.reduceLeDiff, Nat.reduceLT, Nat.reduceMul, Nat.reduceSub, k7, eb, q2', wr_i64, e1]
            exact fin false _ _ (decide_eq_false hy).symm ⟨_, by rw [hset]; simp; rfl⟩ (by exact ex_env rfl)
        · rw [decide_eq_false q1] at eb
          have hy : ¬ A * b + d < 2 ^ 128 := fun q => q1 (hyes q).1
          simp (disch := omega) only [kB, kcx, kdm, kdn, kel, aop, resultsL, resultOf, Nat.reduceEqDiff, reduceCtorEq, eq1, apartOK, apart2, AObj.live, Int.reduceEq, Int.reduceLT, Int.reduceLE, Int.reduceAdd, Int.reduceSub, Int.reduceMul, Int.reduceToNat, cutCells, Nat.reduceAdd, Nat.reduceLeDiff, Nat.reduceLT, Nat.reduceMul, Nat.reduceSub, k7, eb, wr_i64, e1]
          exact fin false _ _ (decide_eq_false hy).symm ⟨_, by rw [hset]; simp; rfl⟩ (by exact ex_env rfl)
      · have hge : ¬ acc * b + d < 2 ^ 128 := fun q => by
          have : acc * 1 ≤ acc * b := Nat.mul_le_mul_left _ (by omega)
          omega
        rw [decide_eq_false hacc]
        have e1 : (i : Int) + 1 = ((i + 1 : Nat) : Int) := by omega
        simp (disch := omega) only [kB, kcx, kdm, kdn, kel, aop, resultsL, resultOf, Nat.reduceEqDiff, reduceCtorEq, eq1, apartOK, apart2, AObj.live, Int.reduceEq, Int.reduceLT, Int.reduceLE, Int.reduceAdd, Int.reduceSub, Int.reduceMul, Int.reduceToNat, cutCells, Nat.reduceAdd, Nat.reduceLeDiff, Nat.reduceLT, Nat.reduceMul, Nat.reduceSub, c1, k7, wr_i64, e1]
        refine ⟨l.length - (i + 1), by omega, i + 1, acc * b + d, 0, _, by omega, rfl, hf, by decide, fun q => absurd q hge, by rw [show K.set (H.length + 1) (.row [.int .u64 0, .int .u64 0] 0 true) = H ++ [rowU 0, rowU 0] ++ g from hset 0]; simp; rfl, ?_⟩
        rw [decide_eq_false hge]
        exact ex_env rfl
    · rw [if_neg hd] at hf ⊢
      have c1 : (-1 : Int) < 0 := by decide
      have hh := h1 hf
      rw [bvA_zero] at hh
      obtain ⟨g2, hg2⟩ := hset4 (.row [.int .u64 0, .int .u64 0] 0 true)
      simp (disch := omega) only [kB, kcx, kdm, kdn, kel, aop, resultsL, resultOf, Nat.reduceEqDiff, reduceCtorEq, eq1, apartOK, apart2, AObj.live, Int.reduceEq, Int.reduceLT, Int.reduceLE, Int.reduceAdd, Int.reduceSub, Int.reduceMul, Int.reduceToNat, cutCells, Nat.reduceAdd, Nat.reduceLeDiff, Nat.reduceLT, Nat.reduceMul, Nat.reduceSub, c1, k4]
      exact ⟨_, rfl, ⟨_, hg2⟩, .tup3 (.closed rfl) (.closed rfl) (.closed rfl), hh⟩
  · have hil : i = l.length := by omega
    have c0 : ¬ (i : Int) < (l.length : Int) := by omega
    rw [hil, List.drop_length, numF] at hf
    obtain ⟨g2, hg2⟩ := hset4 (rowU A)
    by_cases hacc : acc < 2 ^ 128
    · have hA2 := hAa hacc
      subst hA2
      rw [decide_eq_true hacc]
      simp (disch := omega) only [kB, kcx, kdm, kdn, kel, aop, resultsL, resultOf, Nat.reduceEqDiff, reduceCtorEq, eq1, apartOK, apart2, AObj.live, Int.reduceEq, Int.reduceLT, Int.reduceLE, Int.reduceAdd, Int.reduceSub, Int.reduceMul, Int.reduceToNat, cutCells, Nat.reduceAdd, Nat.reduceLeDiff, Nat.reduceLT, Nat.reduceMul, Nat.reduceSub, c0, k7, k4]
      exact ⟨_, rfl, ⟨_, hg2⟩, .tup3 (.closed rfl) (.closed rfl) (.closed rfl), h2 _ hf hacc⟩
    · rw [decide_eq_false hacc]
      simp (disch := omega) only [kB, kcx, kdm, kdn, kel, aop, resultsL, resultOf, Nat.reduceEqDiff, reduceCtorEq, eq1, apartOK, apart2, AObj.live, Int.reduceEq, Int.reduceLT, Int.reduceLE, Int.reduceAdd, Int.reduceSub, Int.reduceMul, Int.reduceToNat, cutCells, Nat.reduceAdd, Nat.reduceLeDiff, Nat.reduceLT, Nat.reduceMul, Nat.reduceSub, c0, k7, k4]
      exact ⟨_, rfl, ⟨_, hg2⟩, .tup3 (.closed rfl) (.closed rfl) (.closed rfl), h3 _ hf hacc A hA⟩

set_option maxHeartbeats 2000000 in
theorem rnumber_s {l : List UInt8} {b : Nat} (hb : base3 b) (hl : l.length ≤ 4611686018427387904)
    (h1 : numI b l = none → R (.ret (.tuple #[bvA 0, .bool false, .bool false])) H) (h2 : ∀ v, numI b l = some v → v < 2 ^ 128 → R (.ret (.tuple #[bvA v, .bool true, .bool true])) H)
    (h3 : ∀ v, numI b l = some v → ¬ v < 2 ^ 128 → ∀ A, A < 2 ^ 128 → R (.ret (.tuple #[bvA A, .bool false, .bool true])) H) : WD T 57 [.string (bs l), .int .i64 (b : Int)] H R := by
  refine WD.gc0 (WD.of follows t57 (by simp) ?_)
  by_cases hn : l = []
  · have hI : numI b l = none := by rw [numI, if_pos (.inl hn)]
    have hh := h1 hI
    rw [bvA_zero] at hh
    subst hn
    have c0 : ((((0 : Nat) : Int)) = 0) = True := eq_true rfl
    simp (disch := omega) only [kB, kcx, kdm, kdn, kel, aop, resultsL, resultOf, Nat.reduceEqDiff, reduceCtorEq, eq1, apartOK, apart2, AObj.live, Int.reduceEq, Int.reduceLT, Int.reduceLE, Int.reduceAdd, Int.reduceSub, Int.reduceMul, Int.reduceToNat, cutCells, Nat.reduceAdd, Nat.reduceLeDiff, Nat.reduceLT, Nat.reduceMul, Nat.reduceSub, c0]
    exact ⟨_, rfl, ⟨_, rfl⟩, .tup3 (.closed rfl) (.closed rfl) (.closed rfl), hh⟩
  · obtain ⟨c0, l0, hl0⟩ : ∃ c l0, l = c :: l0 := by cases l with
      | nil => exact absurd rfl hn
      | cons c l0 => exact ⟨c, l0, rfl⟩
    have hlen : 0 < l.length := List.length_pos_iff.2 hn
    have hnl : ¬ ((l.length : Nat) : Int) = 0 := by omega
    have hg0 : l[0]? = some c0 := by rw [hl0]; rfl
    have hhead : l.head? = some c0 := by rw [hl0]; rfl
    have c48 : c0 = 48 ↔ ((c0.toNat : Nat) : Int) = 48 := by
      constructor
      · rintro rfl; rfl
      · intro q
        refine UInt8.toNat_inj.1 ?_
        show c0.toNat = 48
        omega
    by_cases hlz : 1 < l.length ∧ c0 = 48
    · have hI : numI b l = none := by rw [numI, if_pos (.inr ⟨hlz.1, by rw [hhead, hlz.2]⟩)]
      have hh := h1 hI
      rw [bvA_zero] at hh
      have q1 : (1 : Int) < (l.length : Int) := by omega
      have q2 := c48.1 hlz.2
      simp (disch := omega) only [kB, kcx, kdm, kdn, kel, aop, resultsL, resultOf, Nat.reduceEqDiff, reduceCtorEq, eq1, apartOK, apart2, AObj.live, Int.reduceEq, Int.reduceLT, Int.reduceLE, Int.reduceAdd, Int.reduceSub, Int.reduceMul, Int.reduceToNat, cutCells, Nat.reduceAdd, Nat.reduceLeDiff, Nat.reduceLT, Nat.reduceMul, Nat.reduceSub, hnl, q1, hg0, q2]
      exact ⟨_, rfl, ⟨_, rfl⟩, .tup3 (.closed rfl) (.closed rfl) (.closed rfl), hh⟩
    · have hI : numI b l = numF b 0 l := by
        rw [numI, if_neg]
        rintro (q | ⟨q1, q2⟩)
        · exact hn q
        · rw [hhead] at q2
          exact hlz ⟨q1, Option.some.inj q2⟩
      rw [hI] at h1 h2 h3
      obtain ⟨Z, hZ⟩ : ∃ Z, Z = WC T (g57.body.at [1, 1]) := ⟨_, rfl⟩
      have hrest : ∀ e, (∃ x : Nat → Value, e = [.string (bs l), .int .i64 (b : Int), x 2, x 3, .pointer (some ⟨H.length, 0, none⟩), x 5, x 6, x 7, x 8, x 9, x 10, x 11, x 12, x 13, x 14, x 15, x 16, x 17, x 18, x 19, x 20, x 21, x 22, x 23, x 24, x 25, x 26, x 27, x 28, x 29, x 30, x 31, x 32, x 33, x 34, x 35, x 36, x 37, x 38, x 39, x 40, x 41, x 42, x 43, x 44, x 45, x 46, x 47, x 48, x 49, x 50, x 51, x 52, x 53, x 54, x 55, x 56, x 57, x 58, x 59, x 60, x 61, x 62, x 63, x 64, x 65]) → Z e (H ++ [rowU 0]) (QR R H) := fun e he => by rw [hZ]; exact rnum_rest hb hl he h1 h2 h3
      have hZ' := hZ.symm
      clear hZ
      simp only [AFunc.body, g57, ACode.at] at hZ'
      by_cases q1 : 1 < l.length
      · have q1' : (1 : Int) < (l.length : Int) := by omega
        have q2' : ¬ ((c0.toNat : Nat) : Int) = 48 := fun q => hlz ⟨q1, c48.2 q⟩
        simp (disch := omega) only [kB, kcx, kdm, kdn, kel, aop, resultsL, resultOf, Nat.reduceEqDiff, reduceCtorEq, eq1, apartOK, apart2, AObj.live, Int.reduceEq, Int.reduceLT, Int.reduceLE, Int.reduceAdd, Int.reduceSub, Int.reduceMul, Int.reduceToNat, cutCells, Nat.reduceAdd, Nat.reduceLeDiff, Nat.reduceLT, Nat.reduceMul, Nat.reduceSub, hZ', hnl, q1', hg0, q2']
        exact hrest _ (by exact ex_env rfl)
      · have q1' : ¬ (1 : Int) < (l.length : Int) := by omega
        simp (disch := omega) only [kB, kcx, kdm, kdn, kel, aop, resultsL, resultOf, Nat.reduceEqDiff, reduceCtorEq, eq1, apartOK, apart2, AObj.live, Int.reduceEq, Int.reduceLT, Int.reduceLE, Int.reduceAdd, Int.reduceSub, Int.reduceMul, Int.reduceToNat, cutCells, Nat.reduceAdd, Nat.reduceLeDiff, Nat.reduceLT, Nat.reduceMul, Nat.reduceSub, hZ', hnl, q1']
        exact hrest _ (by exact ex_env rfl)

end Go.Proofs.YtkhkmgcegicmoaaDoor.Ev

/- The document's parts of a text. -/
namespace Go.Proofs.YtkhkmgcegicmoaaDoor.Ev
set_option maxRecDepth 100000
set_option linter.unusedSimpArgs false
set_option linter.unusedVariables false
variable {R : FRes → Heap → Prop} {H : Heap}

theorem ixL_of {c : UInt8} : ∀ {l : List UInt8} {j : Nat}, l[j]? = some c → (∀ k : Nat, k < j → l[k]? ≠ some c) → ixL c l = some j
  | [], j, h, _ => by simp at h
  | b :: l, 0, h, _ => by simp at h; rw [ixL, if_pos h]
  | b :: l, j + 1, h, h2 => by
    have hb : b ≠ c := fun q => h2 0 (by omega) (by simp [q])
    rw [ixL, if_neg hb, ixL_of (l := l) (j := j) (by simpa using h) fun k hk => by simpa using h2 (k + 1) (by omega)]
    rfl
theorem ixL_not {c : UInt8} : ∀ {l : List UInt8}, (∀ j : Nat, l[j]? ≠ some c) → ixL c l = none
  | [], _ => rfl
  | b :: l, h => by
    have hb : b ≠ c := fun q => h 0 (by simp [q])
    rw [ixL, if_neg hb, ixL_not (l := l) fun j => by simpa using h (j + 1)]
    rfl

def prtI (c : UInt8) (l : List UInt8) (F : Heap) : Nat → Env → Heap → Prop := fun z e K =>
  ∃ (i from' : Nat) (ps : List (List UInt8)) (sv : Value), z = l.length + 1 - i ∧ ps.length ≤ 18 ∧
    ((from' ≤ i ∧ i ≤ l.length ∧ splitC c l = ps ++ splitC c (l.drop from') ∧ ∀ j : Nat, from' ≤ j → j < i → l[j]? ≠ some c) ∨ (i = l.length + 1 ∧ splitC c l = ps)) ∧
    F.length ≤ K.length ∧ (∀ d, d < F.length → hget K d = hget F d) ∧ SLs 1 F.length K sv (cS ps) ∧
    (∃ x : Nat → Value, e = [.string (bs l), .int .u8 (c.toNat : Int), x 2, x 3, x 4, sv, .int .i64 (from' : Int), .int .i64 (i : Int), x 8, x 9, x 10, x 11, x 12, x 13, x 14, x 15, x 16, x 17, x 18, x 19, x 20, x 21, x 22, x 23, x 24, x 25, x 26, x 27, x 28, x 29, x 30, x 31, x 32, x 33, x 34, x 35, x 36, x 37, x 38, x 39])

set_option maxHeartbeats 4000000 in
theorem parts_s {l : List UInt8} {c : UInt8} (hl : l.length ≤ 4611686018427387904)
    (h : ∀ sv K, H.length ≤ K.length → (∀ d, d < H.length → hget K d = hget H d) → SLs 1 H.length K sv (cS ((splitC c l).take 18)) → R (.ret sv) K) : WD T 77 [.string (bs l), .int .u8 (c.toNat : Int)] H R := by
  refine WD.of follows t77 (by simp) ?_
  simp (disch := omega) only [kB, kcx, kdm, kdn, kel, aop, resultsL, resultOf, Nat.reduceEqDiff, reduceCtorEq, eq1, apartOK, apart2, AObj.live, Int.reduceEq, Int.reduceLT, Int.reduceLE, Int.reduceAdd, Int.reduceSub, Int.reduceMul, Int.reduceToNat, cutCells, Nat.reduceAdd, Nat.reduceLeDiff, Nat.reduceLT, Nat.reduceMul, Nat.reduceSub]
  refine WLoop.inv (prtI c l H) ?_ (l.length + 1) _ _ ⟨0, 0, [], _, rfl, by simp, .inl ⟨by omega, by omega, rfl, fun j h1 h2 => by omega⟩, Nat.le_refl _, fun _ _ => rfl, .inl ⟨rfl, rfl⟩, by exact ex_env rfl⟩
  rintro z e K ⟨i, f, ps, sv, rfl, hps, hcase, kl, hold, hS, ⟨x, rfl⟩⟩
  have hcl : (cS ps).length = ps.length := List.length_map ..
  obtain ⟨ad, hsv⟩ := hS.len
  rw [hcl] at hsv
  subst hsv
  rcases hcase with ⟨hfi, hi, hsp, hno⟩ | ⟨hi, hsp⟩
  · have c0 : (i : Int) ≤ (l.length : Int) := by omega
    by_cases hm : ps.length < 18
    · have c1 : ((ps.length : Nat) : Int) < 18 := by omega
      have e1 : (i : Int) + 1 = ((i + 1 : Nat) : Int) := by omega
      have w1 : IntKind.i64.wrap ((i + 1 : Nat) : Int) = ((i + 1 : Nat) : Int) := wr_i64 (by omega) (by omega)
      have hcut : (l.take i).drop f = (l.drop f).take (i - f) := by rw [List.drop_take]
      have b1 : (f : Int) ≤ (i : Int) := by omega
      obtain ⟨sv', K', a1, a2, a3⟩ := SLs_push hS kl ((l.drop f).take (i - f)) (by omega)
      obtain ⟨ad', hsv'⟩ := a2.len
      have hl2 : (cS (ps ++ [(l.drop f).take (i - f)])).length = ps.length + 1 := by simp [cS]
      rw [hl2] at hsv'
      subst hsv'
      have fold : ∀ d, d < H.length → hget K' d = hget H d := fun d hd => by rw [a3.2 d hd]; exact hold d hd
      by_cases hend : i = l.length
      · have c2 : ((i : Int) = (l.length : Int)) = True := eq_true (by omega)
        have hix : ixL c (l.drop f) = none := ixL_not fun j q => by
          rw [List.getElem?_drop] at q
          have := (List.getElem?_eq_some_iff.1 q).1
          exact hno (f + j) (by omega) (by omega) q
        rw [split_none hix] at hsp
        have htake : (l.drop f).take (i - f) = l.drop f := by rw [hend]; exact List.take_of_length_le (by simp)
        simp (disch := omega) only [kB, kcx, kdm, kdn, kel, aop, resultsL, resultOf, Nat.reduceEqDiff, reduceCtorEq, eq1, apartOK, apart2, AObj.live, Int.reduceEq, Int.reduceLT, Int.reduceLE, Int.reduceAdd, Int.reduceSub, Int.reduceMul, Int.reduceToNat, cutCells, Nat.reduceAdd, Nat.reduceLeDiff, Nat.reduceLT, Nat.reduceMul, Nat.reduceSub, c0, c1, c2, hcut, a1, w1, e1]
        refine ⟨l.length + 1 - (i + 1), by omega, i + 1, i + 1, ps ++ [(l.drop f).take (i - f)], _, rfl, by simp; omega, .inr ⟨by omega, by rw [hsp, htake]⟩, a3.1, fold, a2, by exact ex_env rfl⟩
      · have c2 : ¬ ((i : Int) = (l.length : Int)) := by omega
        have hlt : i < l.length := by omega
        have hg : l[i]? = some l[i] := List.getElem?_eq_getElem hlt
        by_cases hc : l[i] = c
        · have c3 : ((((l[i]).toNat : Nat) : Int) = ((c.toNat : Nat) : Int)) = True := eq_true (by rw [hc])
          have hix : ixL c (l.drop f) = some (i - f) := ixL_of (by rw [List.getElem?_drop, show f + (i - f) = i by omega, hg, hc]) fun k hk q => by
            rw [List.getElem?_drop] at q
            exact hno (f + k) (by omega) (by omega) q
          rw [split_some hix, List.drop_drop, show f + (i - f + 1) = i + 1 by omega] at hsp
          simp (disch := omega) only [kB, kcx, kdm, kdn, kel, aop, resultsL, resultOf, Nat.reduceEqDiff, reduceCtorEq, eq1, apartOK, apart2, AObj.live, Int.reduceEq, Int.reduceLT, Int.reduceLE, Int.reduceAdd, Int.reduceSub, Int.reduceMul, Int.reduceToNat, cutCells, Nat.reduceAdd, Nat.reduceLeDiff, Nat.reduceLT, Nat.reduceMul, Nat.reduceSub, c0, c1, c2, hg, c3, hcut, a1, w1, e1]
          refine ⟨l.length + 1 - (i + 1), by omega, i + 1, i + 1, ps ++ [(l.drop f).take (i - f)], _, rfl, by simp; omega, .inl ⟨Nat.le_refl _, by omega, by rw [hsp, List.append_assoc]; rfl, fun j h1 h2 => by omega⟩, a3.1, fold, a2, by exact ex_env rfl⟩
        · have c3 : ¬ (((l[i]).toNat : Nat) : Int) = ((c.toNat : Nat) : Int) := fun q => hc (UInt8.toNat_inj.1 (by omega))
          simp (disch := omega) only [kB, kcx, kdm, kdn, kel, aop, resultsL, resultOf, Nat.reduceEqDiff, reduceCtorEq, eq1, apartOK, apart2, AObj.live, Int.reduceEq, Int.reduceLT, Int.reduceLE, Int.reduceAdd, Int.reduceSub, Int.reduceMul, Int.reduceToNat, cutCells, Nat.reduceAdd, Nat.reduceLeDiff, Nat.reduceLT, Nat.reduceMul, Nat.reduceSub, c0, c1, c2, hg, c3, w1, e1]
          refine ⟨l.length + 1 - (i + 1), by omega, i + 1, f, ps, _, rfl, hps, .inl ⟨by omega, by omega, hsp, fun j h1 h2 q => ?_⟩, kl, hold, hS, by exact ex_env rfl⟩
          by_cases hj : j = i
          · rw [hj, hg] at q; exact hc (Option.some.inj q)
          · exact hno j h1 (by omega) q
    · have c1 : ¬ ((ps.length : Nat) : Int) < 18 := by omega
      have ht : (splitC c l).take 18 = ps := by
        rw [hsp, List.take_append_of_le_length (by omega), List.take_of_length_le (by omega)]
      rw [ht] at h
      simp (disch := omega) only [kB, kcx, kdm, kdn, kel, aop, resultsL, resultOf, Nat.reduceEqDiff, reduceCtorEq, eq1, apartOK, apart2, AObj.live, Int.reduceEq, Int.reduceLT, Int.reduceLE, Int.reduceAdd, Int.reduceSub, Int.reduceMul, Int.reduceToNat, cutCells, Nat.reduceAdd, Nat.reduceLeDiff, Nat.reduceLT, Nat.reduceMul, Nat.reduceSub, c0, c1]
      exact h _ _ kl hold hS
  · have c0 : ¬ (i : Int) ≤ (l.length : Int) := by omega
    have ht : (splitC c l).take 18 = ps := by
      rw [hsp, List.take_of_length_le (by omega)]
    rw [ht] at h
    simp (disch := omega) only [kB, kcx, kdm, kdn, kel, aop, resultsL, resultOf, Nat.reduceEqDiff, reduceCtorEq, eq1, apartOK, apart2, AObj.live, Int.reduceEq, Int.reduceLT, Int.reduceLE, Int.reduceAdd, Int.reduceSub, Int.reduceMul, Int.reduceToNat, cutCells, Nat.reduceAdd, Nat.reduceLeDiff, Nat.reduceLT, Nat.reduceMul, Nat.reduceSub, c0]
    exact h _ _ kl hold hS

/-- A part of two digits. -/
def ph (p : List UInt8) : Option UInt8 := match p with
  | [c1, c2] => if worthN c1.toNat < 16 ∧ worthN c2.toNat < 16 then some (UInt8.ofNat (16 * worthN c1.toNat + worthN c2.toNat)) else none
  | _ => none
theorem pc16_ph (p : List UInt8) : pc 16 p = ph p := by
  unfold pc
  by_cases hl : p.length = 2
  · rw [if_neg (by simp [hl])]
    match p, hl with
    | [c1, c2], _ =>
      have e49 : worthN (49 : UInt8).toNat = 1 := by decide
      rw [pcQ, if_pos rfl, numI, if_neg (by simp)]
      simp only [numF, e49, ph]
      rw [if_pos (by decide)]
      by_cases h1 : worthN c1.toNat < 16
      · rw [if_pos h1]
        by_cases h2 : worthN c2.toNat < 16
        · rw [if_pos h2, if_pos ⟨h1, h2⟩]
          simp only [List.length_cons, List.length_nil]
          rw [if_pos (by simp)]
          congr 1
          refine UInt8.toNat_inj.1 ?_
          rw [UInt8.toNat_ofNat', UInt8.toNat_ofNat']
          omega
        · rw [if_neg h2, if_neg (fun q => h2 q.2)]
      · rw [if_neg h1, if_neg (fun q => h1 q.1)]
  · rw [if_pos ⟨by simp, hl⟩]
    unfold ph
    split
    · simp at hl
    · rfl
def pd (p : List UInt8) : Option UInt8 := match numI 10 p with
  | some v => if v ≤ 255 then some (UInt8.ofNat v) else none
  | none => none
theorem dig10_len : ∀ n, n < 256 → (dig 10 n).length ≤ 3 := by decide +kernel
theorem pc10_pd (p : List UInt8) : pc 10 p = pd p := by
  unfold pc pd
  rw [if_neg (by simp), pcQ, if_neg (by decide)]
  cases hn : numI 10 p with
  | none => rfl
  | some v =>
    simp only
    by_cases hv : v ≤ 255
    · have := num_dig (b := 10) (by simp [base3]) hn (by omega)
      have hl := dig10_len v (by omega)
      rw [← this] at hl
      rw [if_pos ⟨hl, by omega⟩, if_pos hv]
    · rw [if_neg hv, if_neg (fun q => q.2 ⟨trivial, by omega⟩)]

/-- The bytes of a text of parts, as the document reads it. -/
def rbyO (l : List UInt8) (k : Nat) : Option (List UInt8) :=
  if (splitC 46 l).length = 4 ∧ k = 32 then (splitC 46 l).mapM pd
  else if hasI (k : Int) 5 = true ∧ (splitC 58 l).length = k / 8 then (splitC 58 l).mapM ph else none

theorem rby_same {l : List UInt8} {k : Nat} (h1 : 1 ≤ k) (h2 : k ≤ 128) : rbyO l k = match (if hasI (k : Int) 4 = true then pcsO 10 46 4 l else none) with
    | some out => some out
    | none => if hasI (k : Int) 5 = true then pcsO 16 58 (k / 8) l else none := by
  have e10 : (pc 10) = pd := funext pc10_pd
  have e16 : (pc 16) = ph := funext pc16_ph
  unfold rbyO
  have hC : (if hasI (k : Int) 5 = true ∧ (splitC 58 l).length = k / 8 then (splitC 58 l).mapM ph else none) = (if hasI (k : Int) 5 = true then pcsO 16 58 (k / 8) l else none) := by
    by_cases h5 : hasI (k : Int) 5 = true
    · rw [if_pos h5]
      unfold pcsO
      rw [e16]
      by_cases hn : (splitC 58 l).length = k / 8
      · rw [if_pos ⟨h5, hn⟩]
        cases hm : (splitC 58 l).mapM ph with
        | none => rfl
        | some out => simp only; rw [if_pos (by rw [mapM_len hm, hn])]
      · rw [if_neg (fun q => hn q.2)]
        cases hm : (splitC 58 l).mapM ph with
        | none => rfl
        | some out => simp only; rw [if_neg (by rw [mapM_len hm]; exact hn)]
    · rw [if_neg (fun q => h5 q.1), if_neg h5]
  by_cases hD : (splitC 46 l).length = 4 ∧ k = 32
  · rw [if_pos hD]
    obtain ⟨d1, rfl⟩ := hD
    rw [if_pos (show hasI ((32 : Nat) : Int) 4 = true from rfl)]
    unfold pcsO
    rw [e10]
    cases hm : (splitC 46 l).mapM pd with
    | some out => simp only; rw [if_pos (by rw [mapM_len hm, d1])]
    | none =>
      simp only
      rw [if_pos (show hasI ((32 : Nat) : Int) 5 = true from rfl)]
      have hno : pcsO 16 58 (32 / 8) l = none := by
        cases hq : pcsO 16 58 (32 / 8) l with
        | none => rfl
        | some o =>
          exfalso
          obtain ⟨q1, q2⟩ := cols_back hq
          have h46 : (46 : UInt8) ∈ l := by
            have := (join_split 46 l).1
            match hs : splitC 46 l, d1 with
            | x :: y :: r, _ => rw [← this, hs, join_two]; simp
          rw [q1] at h46
          rcases mem_join h46 with q | ⟨m, hm, q⟩
          · revert q; decide
          · obtain ⟨y, _, rfl⟩ := List.mem_map.1 hm
            have hy := y.toNat_lt
            rw [partT, if_neg (by decide)] at q
            have s1 := sg_hex (y.toNat / 16) (by omega)
            have s2 := sg_hex (y.toNat % 16) (by omega)
            simp only [List.mem_cons, List.not_mem_nil, or_false] at q
            rcases q with q | q
            · exact s1.1 q.symm
            · exact s2.1 q.symm
      unfold pcsO at hno
      exact hno.symm
  · rw [if_neg hD, hC]
    have hno : (if hasI (k : Int) 4 = true then pcsO 10 46 4 l else none) = none := by
      split
      · rename_i h4
        have hk : k = 32 := by
          rw [hasI, if_pos rfl] at h4
          have := of_decide_eq_true h4
          omega
        unfold pcsO
        cases hm : (splitC 46 l).mapM (pc 10) with
        | none => rfl
        | some out => simp only; rw [if_neg (by rw [mapM_len hm]; exact fun q => hD ⟨q, hk⟩)]
      · rfl
    rw [hno]

end Go.Proofs.YtkhkmgcegicmoaaDoor.Ev

/- The document's bytes of a text of parts. -/
namespace Go.Proofs.YtkhkmgcegicmoaaDoor.Ev
set_option maxRecDepth 100000
set_option linter.unusedSimpArgs false
set_option linter.unusedVariables false
variable {R : FRes → Heap → Prop} {H : Heap}

abbrev QB (R : FRes → Heap → Prop) (H : Heap) : Post := retK [.tmp 4, .tmp 5] (fun r H1 => ∃ v, r = .ret v ∧ (∃ g, H1 = H ++ g) ∧ Scoped H.length v ∧ R (.ret v) H)

/-- The row of a list of texts. -/
theorem S_row {n0 : Nat} {K : Heap} {sv : Value} {ps : List (List UInt8)} (h : SLs 1 n0 K sv (cS ps)) (hp : ps ≠ []) : ∃ kk, n0 ≤ kk ∧ kk < K.length ∧ sv = .slice (some ⟨kk, 0, none⟩) ps.length ps.length ∧ hget K kk = .row (ps.map fun t => .string (bs t)) 1 true := by
  have hl : (cS ps).length = ps.length := List.length_map ..
  rcases h with ⟨h1, _⟩ | ⟨_, k, k0, h2, k2, _⟩
  · exact absurd (by simpa [cS] using h1) hp
  · rw [cS_flat] at k2
    rw [hl] at h2
    exact ⟨k, k0, hget_lt k2 rfl, h2, k2⟩
theorem S_get {ps : List (List UInt8)} {i : Nat} (h : i < ps.length) : (ps.map fun t => Value.string (bs t))[i]? = some (.string (bs ps[i])) := by
  rw [List.getElem?_map, List.getElem?_eq_getElem h]
  rfl

/-- While numbers between dots are read. -/
def rdtI (F : Heap) (kk : Nat) (ps : List (List UInt8)) : Nat → Env → Heap → Prop := fun z e K =>
  ∃ (i : Nat) (sv : Value) (out : List UInt8), i ≤ 4 ∧ z = 4 - i ∧ out.length = i ∧ F.length ≤ K.length ∧ (∀ d, d < F.length → hget K d = hget F d) ∧ BL F.length K sv out ∧ (ps.take i).mapM pd = some out ∧
    (∃ x : Nat → Value, e = [x 0, x 1, x 2, x 3, x 4, x 5, sv, .slice (some ⟨kk, 0, none⟩) ps.length ps.length, .int .i64 (i : Int), x 9, x 10, x 11, x 12, x 13, x 14, x 15, x 16, x 17, x 18, x 19, x 20, x 21, x 22, x 23, x 24, x 25, x 26, x 27, x 28, x 29, x 30, x 31, x 32, x 33, x 34, x 35, x 36, x 37, x 38, x 39, x 40, x 41, x 42, x 43, x 44, x 45, x 46, x 47, x 48, x 49, x 50, x 51, x 52, x 53, x 54, x 55, x 56, x 57, x 58, x 59, x 60, x 61, x 62, x 63, x 64, x 65, x 66, x 67, x 68, x 69, x 70, x 71, x 72, x 73, x 74, x 75, x 76, x 77, x 78, x 79, x 80, x 81, x 82, x 83, x 84, x 85, x 86, x 87, x 88, x 89, x 90, x 91, x 92, x 93, x 94, x 95, x 96, x 97, x 98, x 99, x 100, x 101, x 102, x 103, x 104, x 105, x 106, x 107, x 108, x 109, x 110, x 111, x 112, x 113, x 114, x 115, x 116, x 117])

set_option maxHeartbeats 4000000 in
theorem rdots_s {F : Heap} {kk : Nat} {ps : List (List UInt8)} (hps : ps.length = 4) (hlen : ∀ p ∈ ps, p.length ≤ 4611686018427387904) (hk : kk < F.length) (hrow : hget F kk = .row (ps.map fun t => .string (bs t)) 1 true) (hKP : KP H.length H F)
    {e : Env} {Q : Post} (he : (∃ x : Nat → Value, e = [x 0, x 1, x 2, x 3, x 4, x 5, .slice none 0 0, .slice (some ⟨kk, 0, none⟩) ps.length ps.length, x 8, x 9, x 10, x 11, x 12, x 13, x 14, x 15, x 16, x 17, x 18, x 19, x 20, x 21, x 22, x 23, x 24, x 25, x 26, x 27, x 28, x 29, x 30, x 31, x 32, x 33, x 34, x 35, x 36, x 37, x 38, x 39, x 40, x 41, x 42, x 43, x 44, x 45, x 46, x 47, x 48, x 49, x 50, x 51, x 52, x 53, x 54, x 55, x 56, x 57, x 58, x 59, x 60, x 61, x 62, x 63, x 64, x 65, x 66, x 67, x 68, x 69, x 70, x 71, x 72, x 73, x 74, x 75, x 76, x 77, x 78, x 79, x 80, x 81, x 82, x 83, x 84, x 85, x 86, x 87, x 88, x 89, x 90, x 91, x 92, x 93, x 94, x 95, x 96, x 97, x 98, x 99, x 100, x 101, x 102, x 103, x 104, x 105, x 106, x 107, x 108, x 109, x 110, x 111, x 112, x 113, x 114, x 115, x 116, x 117]))
    (hQ : ∀ e K, QB R H .ret e K → Q .ret e K)
    (h1 : ps.mapM pd = none → R (.ret (.tuple #[.string (bs []), .bool false])) H) (h2 : ∀ out, ps.mapM pd = some out → R (.ret (.tuple #[.string (bs out), .bool true])) H) :
    WC T (g58.body.at [1, 1, 1, 0, 1, 0]) e F Q := by
  obtain ⟨y, rfl⟩ := he
  simp only [AFunc.body, g58, ACode.at]
  simp (disch := omega) only [kB, kcx, kdm, kdn, kel, aop, resultsL, resultOf, Nat.reduceEqDiff, reduceCtorEq, eq1, apartOK, apart2, AObj.live, Int.reduceEq, Int.reduceLT, Int.reduceLE, Int.reduceAdd, Int.reduceSub, Int.reduceMul, Int.reduceToNat, cutCells, Nat.reduceAdd, Nat.reduceLeDiff, Nat.reduceLT, Nat.reduceMul, Nat.reduceSub]
  refine WLoop.inv (rdtI F kk ps) ?_ 4 _ _ ⟨0, _, [], by omega, rfl, rfl, Nat.le_refl _, fun _ _ => rfl, BL.nil, by simp, by exact ex_env rfl⟩
  rintro z e K ⟨i, sv, out, hi, rfl, hol, kl, hold, hB, hm, ⟨x, rfl⟩⟩
  have kp : KP H.length H K := ⟨by have := hKP.1; omega, fun d hd => by rw [hold d (by have := hKP.1; omega)]; exact hKP.2 d hd⟩
  have krow : hget K kk = .row (ps.map fun t => .string (bs t)) 1 true := by rw [hold kk hk]; exact hrow
  by_cases hlt : i < 4
  · have c0 : (i : Int) < 4 := by omega
    have ci : (i : Int) < ((ps.length : Nat) : Int) := by omega
    have hip : i < ps.length := by omega
    have g1 := S_get hip
    have hpi : ps[i]? = some ps[i] := List.getElem?_eq_getElem hip
    have hbad : pd ps[i] = none → ps.mapM pd = none := fun q => mapM_none hpi q
    have hll : (ps.map fun t => Value.string (bs t)).length = ps.length := List.length_map ..
    have e1 : (i : Int) + 1 = ((i + 1 : Nat) : Int) := by omega
    have w1 : IntKind.i64.wrap ((i + 1 : Nat) : Int) = ((i + 1 : Nat) : Int) := wr_i64 (by omega) (by omega)
    have kkl := hget_lt krow rfl
    have app : ∀ g, KP H.length H (K ++ g) := fun g => ⟨by have := kp.1; simp; omega, fun d hd => by rw [hget_old (by have := kp.1; omega)]; exact kp.2 d hd⟩
    simp (disch := omega) only [kB, kcx, kdm, kdn, kel, aop, resultsL, resultOf, Nat.reduceEqDiff, reduceCtorEq, eq1, apartOK, apart2, AObj.live, Int.reduceEq, Int.reduceLT, Int.reduceLE, Int.reduceAdd, Int.reduceSub, Int.reduceMul, Int.reduceToNat, cutCells, Nat.reduceAdd, Nat.reduceLeDiff, Nat.reduceLT, Nat.reduceMul, Nat.reduceSub, c0, ci, krow, g1]
    refine rnumber_s (b := 10) (by simp [base3]) (hlen _ (List.getElem_mem hip)) (fun hn => ?_) (fun v hn hv => ?_) (fun v hn hv A hA => ?_)
    · have hb := h1 (hbad (by unfold pd; rw [hn]))
      simp (disch := omega) only [kB, kcx, kdm, kdn, kel, aop, resultsL, resultOf, Nat.reduceEqDiff, reduceCtorEq, eq1, apartOK, apart2, AObj.live, Int.reduceEq, Int.reduceLT, Int.reduceLE, Int.reduceAdd, Int.reduceSub, Int.reduceMul, Int.reduceToNat, cutCells, Nat.reduceAdd, Nat.reduceLeDiff, Nat.reduceLT, Nat.reduceMul, Nat.reduceSub]
      refine hQ _ _ ?_
      simp (disch := omega) only [kB, kcx, kdm, kdn, kel, aop, resultsL, resultOf, Nat.reduceEqDiff, reduceCtorEq, eq1, apartOK, apart2, AObj.live, Int.reduceEq, Int.reduceLT, Int.reduceLE, Int.reduceAdd, Int.reduceSub, Int.reduceMul, Int.reduceToNat, cutCells, Nat.reduceAdd, Nat.reduceLeDiff, Nat.reduceLT, Nat.reduceMul, Nat.reduceSub]
      exact ⟨_, rfl, (app _).ext, .tup2 (.closed rfl) (.closed rfl), hb⟩
    · have e255 : (.agg #[.int .u64 0, .int .u64 255] : Value) = bvA 255 := rfl
      simp (disch := omega) only [kB, kcx, kdm, kdn, kel, aop, resultsL, resultOf, Nat.reduceEqDiff, reduceCtorEq, eq1, apartOK, apart2, AObj.live, Int.reduceEq, Int.reduceLT, Int.reduceLE, Int.reduceAdd, Int.reduceSub, Int.reduceMul, Int.reduceToNat, cutCells, Nat.reduceAdd, Nat.reduceLeDiff, Nat.reduceLT, Nat.reduceMul, Nat.reduceSub]
      rw [e255]
      refine rcmp_s hv (by decide) ?_
      by_cases h255 : v ≤ 255
      · have hc : cmp3 v 255 ≤ 0 := by unfold cmp3; split <;> (try split) <;> omega
        have hc' : ¬ 0 < cmp3 v 255 := by omega
        have ev : v % W64 = v := by rw [W64_eq]; omega
        have ed : v / W64 = 0 := by rw [W64_eq]; omega
        have hpd : pd ps[i] = some (UInt8.ofNat v) := by unfold pd; rw [hn]; exact if_pos h255
        have w8 : IntKind.u8.wrap ((v : Nat) : Int) = ((UInt8.ofNat v).toNat : Int) := by
          have := wrap_byte v
          rwa [ev] at this
        obtain ⟨sv', K', a1, a2, a3⟩ := (hB.app (G := [.row [.int .u64 ((v / W64 : Nat) : Int), .int .u64 (v : Int)] 0 true])).push (by simp; omega) (UInt8.ofNat v) (by rw [hol]; simp only [roomMax]; omega)
        have a1' : appendV (K ++ [.row [.int .u64 ((v / W64 : Nat) : Int), .int .u64 (v : Int)] 0 true, .row [.int .u8 ((UInt8.ofNat v).toNat : Int)] 1 true]) 1 1 sv (.slice (some ⟨K.length + 1, 0, none⟩) 1 1) = .val sv' K' := by
          have q := a1
          simp only [List.append_assoc, List.length_append, List.length_cons, List.length_nil, Nat.zero_add, List.cons_append, List.nil_append] at q
          exact q
        simp (disch := omega) only [kB, kcx, kdm, kdn, kel, aop, resultsL, resultOf, Nat.reduceEqDiff, reduceCtorEq, eq1, apartOK, apart2, AObj.live, Int.reduceEq, Int.reduceLT, Int.reduceLE, Int.reduceAdd, Int.reduceSub, Int.reduceMul, Int.reduceToNat, cutCells, Nat.reduceAdd, Nat.reduceLeDiff, Nat.reduceLT, Nat.reduceMul, Nat.reduceSub, hc', ev, w8, a1', w1, e1]
        exact ⟨4 - (i + 1), by omega, i + 1, sv', _, by omega, rfl, by simp [hol], a3.1, fun d hd => by rw [a3.2 d hd, hget_old (by omega)]; exact hold d hd, a2, mapM_take hm hpi hpd, by exact ex_env rfl⟩
      · have hc : cmp3 v 255 = 1 := by unfold cmp3; rw [if_neg (by omega), if_pos (by omega)]
        have hc' : (0 : Int) < 1 := by decide
        have hb := h1 (hbad (by unfold pd; rw [hn]; exact if_neg h255))
        rw [hc]
        simp (disch := omega) only [kB, kcx, kdm, kdn, kel, aop, resultsL, resultOf, Nat.reduceEqDiff, reduceCtorEq, eq1, apartOK, apart2, AObj.live, Int.reduceEq, Int.reduceLT, Int.reduceLE, Int.reduceAdd, Int.reduceSub, Int.reduceMul, Int.reduceToNat, cutCells, Nat.reduceAdd, Nat.reduceLeDiff, Nat.reduceLT, Nat.reduceMul, Nat.reduceSub, hc']
        refine hQ _ _ ?_
        simp (disch := omega) only [kB, kcx, kdm, kdn, kel, aop, resultsL, resultOf, Nat.reduceEqDiff, reduceCtorEq, eq1, apartOK, apart2, AObj.live, Int.reduceEq, Int.reduceLT, Int.reduceLE, Int.reduceAdd, Int.reduceSub, Int.reduceMul, Int.reduceToNat, cutCells, Nat.reduceAdd, Nat.reduceLeDiff, Nat.reduceLT, Nat.reduceMul, Nat.reduceSub]
        exact ⟨_, rfl, (app _).ext, .tup2 (.closed rfl) (.closed rfl), hb⟩
    · have hb := h1 (hbad (by unfold pd; rw [hn]; exact if_neg (by omega)))
      simp (disch := omega) only [kB, kcx, kdm, kdn, kel, aop, resultsL, resultOf, Nat.reduceEqDiff, reduceCtorEq, eq1, apartOK, apart2, AObj.live, Int.reduceEq, Int.reduceLT, Int.reduceLE, Int.reduceAdd, Int.reduceSub, Int.reduceMul, Int.reduceToNat, cutCells, Nat.reduceAdd, Nat.reduceLeDiff, Nat.reduceLT, Nat.reduceMul, Nat.reduceSub]
      refine hQ _ _ ?_
      simp (disch := omega) only [kB, kcx, kdm, kdn, kel, aop, resultsL, resultOf, Nat.reduceEqDiff, reduceCtorEq, eq1, apartOK, apart2, AObj.live, Int.reduceEq, Int.reduceLT, Int.reduceLE, Int.reduceAdd, Int.reduceSub, Int.reduceMul, Int.reduceToNat, cutCells, Nat.reduceAdd, Nat.reduceLeDiff, Nat.reduceLT, Nat.reduceMul, Nat.reduceSub]
      exact ⟨_, rfl, (app _).ext, .tup2 (.closed rfl) (.closed rfl), hb⟩
  · have hi4 : i = 4 := by omega
    have c0 : ¬ (i : Int) < 4 := by omega
    rw [hi4, List.take_of_length_le (by omega)] at hm
    have hh := h2 out hm
    have hs := hB.src
    obtain ⟨ad, rfl⟩ := hB.lenV
    simp (disch := omega) only [kB, kcx, kdm, kdn, kel, aop, resultsL, resultOf, Nat.reduceEqDiff, reduceCtorEq, eq1, apartOK, apart2, AObj.live, Int.reduceEq, Int.reduceLT, Int.reduceLE, Int.reduceAdd, Int.reduceSub, Int.reduceMul, Int.reduceToNat, cutCells, Nat.reduceAdd, Nat.reduceLeDiff, Nat.reduceLT, Nat.reduceMul, Nat.reduceSub, c0, lenV, hs]
    refine hQ _ _ ?_
    simp (disch := omega) only [kB, kcx, kdm, kdn, kel, aop, resultsL, resultOf, Nat.reduceEqDiff, reduceCtorEq, eq1, apartOK, apart2, AObj.live, Int.reduceEq, Int.reduceLT, Int.reduceLE, Int.reduceAdd, Int.reduceSub, Int.reduceMul, Int.reduceToNat, cutCells, Nat.reduceAdd, Nat.reduceLeDiff, Nat.reduceLT, Nat.reduceMul, Nat.reduceSub]
    exact ⟨_, rfl, kp.ext, .tup2 (.closed rfl) (.closed rfl), hh⟩

end Go.Proofs.YtkhkmgcegicmoaaDoor.Ev

/- The document's bytes of a text of parts: between colons; the whole. -/
namespace Go.Proofs.YtkhkmgcegicmoaaDoor.Ev
set_option maxRecDepth 100000
set_option linter.unusedSimpArgs false
set_option linter.unusedVariables false
variable {R : FRes → Heap → Prop} {H : Heap}

def rclI (F : Heap) (kk : Nat) (ps : List (List UInt8)) : Nat → Env → Heap → Prop := fun z e K =>
  ∃ (i : Nat) (sv : Value) (out : List UInt8), i ≤ ps.length ∧ z = ps.length - i ∧ out.length = i ∧ F.length ≤ K.length ∧ (∀ d, d < F.length → hget K d = hget F d) ∧ BL F.length K sv out ∧ (ps.take i).mapM ph = some out ∧
    (∃ x : Nat → Value, e = [x 0, x 1, x 2, x 3, x 4, x 5, sv, x 7, x 8, x 9, x 10, x 11, .slice (some ⟨kk, 0, none⟩) ps.length ps.length, .int .i64 (i : Int), x 14, x 15, x 16, x 17, x 18, x 19, x 20, x 21, x 22, x 23, x 24, x 25, x 26, x 27, x 28, x 29, x 30, x 31, x 32, x 33, x 34, x 35, x 36, x 37, x 38, x 39, x 40, x 41, x 42, x 43, x 44, x 45, x 46, x 47, x 48, x 49, x 50, x 51, x 52, x 53, x 54, x 55, x 56, x 57, x 58, x 59, x 60, x 61, x 62, x 63, x 64, x 65, x 66, x 67, x 68, x 69, x 70, x 71, x 72, x 73, x 74, x 75, x 76, x 77, x 78, x 79, x 80, x 81, x 82, x 83, x 84, x 85, x 86, x 87, x 88, x 89, x 90, x 91, x 92, x 93, x 94, x 95, x 96, x 97, x 98, x 99, x 100, x 101, x 102, x 103, x 104, x 105, x 106, x 107, x 108, x 109, x 110, x 111, x 112, x 113, x 114, x 115, x 116, x 117])

set_option maxHeartbeats 4000000 in
theorem rcols_s {F : Heap} {kk : Nat} {ps : List (List UInt8)} (hps : ps.length ≤ 100) (hk : kk < F.length) (hrow : hget F kk = .row (ps.map fun t => .string (bs t)) 1 true) (hKP : KP H.length H F)
    {e : Env} (he : (∃ x : Nat → Value, e = [x 0, x 1, x 2, x 3, x 4, x 5, .slice none 0 0, x 7, x 8, x 9, x 10, x 11, .slice (some ⟨kk, 0, none⟩) ps.length ps.length, x 13, x 14, x 15, x 16, x 17, x 18, x 19, x 20, x 21, x 22, x 23, x 24, x 25, x 26, x 27, x 28, x 29, x 30, x 31, x 32, x 33, x 34, x 35, x 36, x 37, x 38, x 39, x 40, x 41, x 42, x 43, x 44, x 45, x 46, x 47, x 48, x 49, x 50, x 51, x 52, x 53, x 54, x 55, x 56, x 57, x 58, x 59, x 60, x 61, x 62, x 63, x 64, x 65, x 66, x 67, x 68, x 69, x 70, x 71, x 72, x 73, x 74, x 75, x 76, x 77, x 78, x 79, x 80, x 81, x 82, x 83, x 84, x 85, x 86, x 87, x 88, x 89, x 90, x 91, x 92, x 93, x 94, x 95, x 96, x 97, x 98, x 99, x 100, x 101, x 102, x 103, x 104, x 105, x 106, x 107, x 108, x 109, x 110, x 111, x 112, x 113, x 114, x 115, x 116, x 117]))
    (h1 : ps.mapM ph = none → R (.ret (.tuple #[.string (bs []), .bool false])) H) (h2 : ∀ out, ps.mapM ph = some out → R (.ret (.tuple #[.string (bs out), .bool true])) H) :
    WC T (g58.body.at [1, 1, 1, 1, 1, 1]) e F (QB R H) := by
  obtain ⟨y, rfl⟩ := he
  simp only [AFunc.body, g58, ACode.at]
  simp (disch := omega) only [kB, kcx, kdm, kdn, kel, aop, resultsL, resultOf, Nat.reduceEqDiff, reduceCtorEq, eq1, apartOK, apart2, AObj.live, Int.reduceEq, Int.reduceLT, Int.reduceLE, Int.reduceAdd, Int.reduceSub, Int.reduceMul, Int.reduceToNat, cutCells, Nat.reduceAdd, Nat.reduceLeDiff, Nat.reduceLT, Nat.reduceMul, Nat.reduceSub]
  refine WLoop.inv (rclI F kk ps) ?_ ps.length _ _ ⟨0, _, [], by omega, rfl, rfl, Nat.le_refl _, fun _ _ => rfl, BL.nil, by simp, by exact ex_env rfl⟩
  rintro z e K ⟨i, sv, out, hi, rfl, hol, kl, hold, hB, hm, ⟨x, rfl⟩⟩
  have kp : KP H.length H K := ⟨by have := hKP.1; omega, fun d hd => by rw [hold d (by have := hKP.1; omega)]; exact hKP.2 d hd⟩
  have krow : hget K kk = .row (ps.map fun t => .string (bs t)) 1 true := by rw [hold kk hk]; exact hrow
  have kkl := hget_lt krow rfl
  by_cases hlt : i < ps.length
  · have c0 : (i : Int) < ((ps.length : Nat) : Int) := by omega
    have g1 := S_get hlt
    have hpi : ps[i]? = some ps[i] := List.getElem?_eq_getElem hlt
    have hbad : ph ps[i] = none → ps.mapM ph = none := fun q => mapM_none hpi q
    have e1 : (i : Int) + 1 = ((i + 1 : Nat) : Int) := by omega
    have w1 : IntKind.i64.wrap ((i + 1 : Nat) : Int) = ((i + 1 : Nat) : Int) := wr_i64 (by omega) (by omega)
    generalize hp : ps[i] = p at *
    by_cases h2l : p.length = 2
    · have cl : (((p.length : Nat) : Int) = 2) = True := eq_true (by omega)
      match p, h2l with
      | [a, b], _ =>
      have g2 : ([a, b] : List UInt8)[1]? = some b := rfl
      have cl2 : ((([a, b] : List UInt8).length : Nat) : Int) = 2 := rfl
      have cl3 : (((2 : Nat) : Int) = 2) = True := eq_true rfl
      have cm : (-1 : Int) < 0 := by decide
      simp (disch := omega) only [kB, kcx, kdm, kdn, kel, aop, resultsL, resultOf, Nat.reduceEqDiff, reduceCtorEq, eq1, apartOK, apart2, AObj.live, Int.reduceEq, Int.reduceLT, Int.reduceLE, Int.reduceAdd, Int.reduceSub, Int.reduceMul, Int.reduceToNat, cutCells, Nat.reduceAdd, Nat.reduceLeDiff, Nat.reduceLT, Nat.reduceMul, Nat.reduceSub, c0, krow, g1, cl3]
      refine rworth_s (by decide) ?_
      by_cases q1 : worthN a.toNat < 16
      · rw [if_pos q1]
        have d1 : ¬ ((worthN a.toNat : Nat) : Int) < 0 := by omega
        simp (disch := omega) only [kB, kcx, kdm, kdn, kel, aop, resultsL, resultOf, Nat.reduceEqDiff, reduceCtorEq, eq1, apartOK, apart2, AObj.live, Int.reduceEq, Int.reduceLT, Int.reduceLE, Int.reduceAdd, Int.reduceSub, Int.reduceMul, Int.reduceToNat, cutCells, Nat.reduceAdd, Nat.reduceLeDiff, Nat.reduceLT, Nat.reduceMul, Nat.reduceSub, c0, krow, g1, d1]
        refine rworth_s (by decide) ?_
        by_cases q2 : worthN b.toNat < 16
        · rw [if_pos q2]
          have d2 : ¬ ((worthN b.toNat : Nat) : Int) < 0 := by omega
          have hph : ph [a, b] = some (UInt8.ofNat (16 * worthN a.toNat + worthN b.toNat)) := if_pos ⟨q1, q2⟩
          obtain ⟨sv', K', a1, a2, a3⟩ := hB.push kl (UInt8.ofNat (16 * worthN a.toNat + worthN b.toNat)) (by rw [hol]; simp only [roomMax]; omega)
          unfold u8c at a1
          have m1 : (16 : Int) * ((worthN a.toNat : Nat) : Int) = ((16 * worthN a.toNat : Nat) : Int) := by omega
          have m2 : ((16 * worthN a.toNat : Nat) : Int) + ((worthN b.toNat : Nat) : Int) = ((16 * worthN a.toNat + worthN b.toNat : Nat) : Int) := by omega
          have w8 : IntKind.u8.wrap ((16 * worthN a.toNat + worthN b.toNat : Nat) : Int) = ((UInt8.ofNat (16 * worthN a.toNat + worthN b.toNat)).toNat : Int) := by
            rw [UInt8.toNat_ofNat', Nat.mod_eq_of_lt (by omega), wr_u8 (by omega) (by omega)]
          simp (disch := omega) only [kB, kcx, kdm, kdn, kel, aop, resultsL, resultOf, Nat.reduceEqDiff, reduceCtorEq, eq1, apartOK, apart2, AObj.live, Int.reduceEq, Int.reduceLT, Int.reduceLE, Int.reduceAdd, Int.reduceSub, Int.reduceMul, Int.reduceToNat, cutCells, Nat.reduceAdd, Nat.reduceLeDiff, Nat.reduceLT, Nat.reduceMul, Nat.reduceSub, c0, krow, g1, d2]
          refine WV.of (fun c hc => ?_) ?_
          · simp only [List.mem_cons, List.not_mem_nil, or_false] at hc
            subst hc
            rw [krow]
            rfl
          refine rworth_s (by decide) ?_
          rw [if_pos q1, thaw_frz0]
          simp (disch := omega) only [kB, kcx, kdm, kdn, kel, aop, resultsL, resultOf, Nat.reduceEqDiff, reduceCtorEq, eq1, apartOK, apart2, AObj.live, Int.reduceEq, Int.reduceLT, Int.reduceLE, Int.reduceAdd, Int.reduceSub, Int.reduceMul, Int.reduceToNat, cutCells, Nat.reduceAdd, Nat.reduceLeDiff, Nat.reduceLT, Nat.reduceMul, Nat.reduceSub, wr_i64, m1]
          refine rworth_s (by decide) ?_
          rw [if_pos q2]
          simp (disch := omega) only [kB, kcx, kdm, kdn, kel, aop, resultsL, resultOf, Nat.reduceEqDiff, reduceCtorEq, eq1, apartOK, apart2, AObj.live, Int.reduceEq, Int.reduceLT, Int.reduceLE, Int.reduceAdd, Int.reduceSub, Int.reduceMul, Int.reduceToNat, cutCells, Nat.reduceAdd, Nat.reduceLeDiff, Nat.reduceLT, Nat.reduceMul, Nat.reduceSub, wr_i64, m2, w8, a1, w1, e1]
          exact ⟨ps.length - (i + 1), by omega, i + 1, sv', _, by omega, rfl, by simp [hol], a3.1, fun d hd => by rw [a3.2 d hd]; exact hold d hd, a2, mapM_take hm hpi hph, by exact ex_env rfl⟩
        · rw [if_neg q2]
          have hb := h1 (hbad (if_neg (fun q => q2 q.2)))
          simp (disch := omega) only [kB, kcx, kdm, kdn, kel, aop, resultsL, resultOf, Nat.reduceEqDiff, reduceCtorEq, eq1, apartOK, apart2, AObj.live, Int.reduceEq, Int.reduceLT, Int.reduceLE, Int.reduceAdd, Int.reduceSub, Int.reduceMul, Int.reduceToNat, cutCells, Nat.reduceAdd, Nat.reduceLeDiff, Nat.reduceLT, Nat.reduceMul, Nat.reduceSub, cm]
          exact ⟨_, rfl, kp.ext, .tup2 (.closed rfl) (.closed rfl), hb⟩
      · rw [if_neg q1]
        have hb := h1 (hbad (if_neg (fun q => q1 q.1)))
        simp (disch := omega) only [kB, kcx, kdm, kdn, kel, aop, resultsL, resultOf, Nat.reduceEqDiff, reduceCtorEq, eq1, apartOK, apart2, AObj.live, Int.reduceEq, Int.reduceLT, Int.reduceLE, Int.reduceAdd, Int.reduceSub, Int.reduceMul, Int.reduceToNat, cutCells, Nat.reduceAdd, Nat.reduceLeDiff, Nat.reduceLT, Nat.reduceMul, Nat.reduceSub, cm]
        exact ⟨_, rfl, kp.ext, .tup2 (.closed rfl) (.closed rfl), hb⟩
    · have cl : ¬ ((p.length : Nat) : Int) = 2 := by omega
      have hb := h1 (hbad (by
        unfold ph
        split
        · simp at h2l
        · rfl))
      simp (disch := omega) only [kB, kcx, kdm, kdn, kel, aop, resultsL, resultOf, Nat.reduceEqDiff, reduceCtorEq, eq1, apartOK, apart2, AObj.live, Int.reduceEq, Int.reduceLT, Int.reduceLE, Int.reduceAdd, Int.reduceSub, Int.reduceMul, Int.reduceToNat, cutCells, Nat.reduceAdd, Nat.reduceLeDiff, Nat.reduceLT, Nat.reduceMul, Nat.reduceSub, c0, krow, g1, cl]
      exact ⟨_, rfl, kp.ext, .tup2 (.closed rfl) (.closed rfl), hb⟩
  · have c0 : ¬ (i : Int) < ((ps.length : Nat) : Int) := by omega
    rw [List.take_of_length_le (by omega)] at hm
    have hh := h2 out hm
    have hs := hB.src
    obtain ⟨ad, rfl⟩ := hB.lenV
    simp (disch := omega) only [kB, kcx, kdm, kdn, kel, aop, resultsL, resultOf, Nat.reduceEqDiff, reduceCtorEq, eq1, apartOK, apart2, AObj.live, Int.reduceEq, Int.reduceLT, Int.reduceLE, Int.reduceAdd, Int.reduceSub, Int.reduceMul, Int.reduceToNat, cutCells, Nat.reduceAdd, Nat.reduceLeDiff, Nat.reduceLT, Nat.reduceMul, Nat.reduceSub, c0, lenV, hs]
    exact ⟨_, rfl, kp.ext, .tup2 (.closed rfl) (.closed rfl), hh⟩

theorem split_len (c : UInt8) : ∀ l : List UInt8, ∀ p ∈ splitC c l, p.length ≤ l.length
  | [], p, h => by simp [splitC] at h; subst h; simp
  | b :: l, p, h => by
    rw [splitC] at h
    have ih := split_len c l
    split at h
    · rcases List.mem_cons.1 h with rfl | h
      · simp
      · have := ih p h; simp; omega
    · rcases List.mem_cons.1 h with rfl | h
      · cases hs : splitC c l with
        | nil => simp
        | cons q qs =>
          have := ih q (by rw [hs]; simp)
          simp
          omega
      · have := ih p (List.mem_of_mem_tail h)
        simp
        omega
theorem take18 {ls : List (List UInt8)} {n : Nat} (h : n ≤ 17) : ((ls.take 18).length = n ↔ ls.length = n) ∧ (ls.length = n → ls.take 18 = ls) :=
  ⟨by rw [List.length_take]; omega, fun q => List.take_of_length_le (by omega)⟩

set_option maxHeartbeats 4000000 in
theorem rbytesT_s {l : List UInt8} {k : Nat} (hk1 : 1 ≤ k) (hk2 : k ≤ 128) (hl : l.length ≤ 4611686018427387904)
    (h1 : rbyO l k = none → R (.ret (.tuple #[.string (bs []), .bool false])) H) (h2 : ∀ out, rbyO l k = some out → R (.ret (.tuple #[.string (bs out), .bool true])) H) :
    WD T 58 [.string (bs l), .int .i64 (k : Int)] H R := by
  refine WD.gc0 (WD.of follows t58 (by simp) ?_)
  obtain ⟨Z, hZ⟩ : ∃ Z, Z = WC T (g58.body.at [1, 1, 1, 1, 1, 1]) := ⟨_, rfl⟩
  obtain ⟨Y, hY⟩ : ∃ Y, Y = WC T (g58.body.at [1, 1, 1, 0, 1, 0]) := ⟨_, rfl⟩
  have hcols : ∀ {F : Heap} {kk : Nat} {ps : List (List UInt8)} (e : Env), ps.length ≤ 100 → kk < F.length → hget F kk = .row (ps.map fun t => .string (bs t)) 1 true → KP H.length H F → (∃ x : Nat → Value, e = [x 0, x 1, x 2, x 3, x 4, x 5, .slice none 0 0, x 7, x 8, x 9, x 10, x 11, .slice (some ⟨kk, 0, none⟩) ps.length ps.length, x 13, x 14, x 15, x 16, x 17, x 18, x 19, x 20, x 21, x 22, x 23, x 24, x 25, x 26, x 27, x 28, x 29, x 30, x 31, x 32, x 33, x 34, x 35, x 36, x 37, x 38, x 39, x 40, x 41, x 42, x 43, x 44, x 45, x 46, x 47, x 48, x 49, x 50, x 51, x 52, x 53, x 54, x 55, x 56, x 57, x 58, x 59, x 60, x 61, x 62, x 63, x 64, x 65, x 66, x 67, x 68, x 69, x 70, x 71, x 72, x 73, x 74, x 75, x 76, x 77, x 78, x 79, x 80, x 81, x 82, x 83, x 84, x 85, x 86, x 87, x 88, x 89, x 90, x 91, x 92, x 93, x 94, x 95, x 96, x 97, x 98, x 99, x 100, x 101, x 102, x 103, x 104, x 105, x 106, x 107, x 108, x 109, x 110, x 111, x 112, x 113, x 114, x 115, x 116, x 117]) →
    (ps.mapM ph = none → R (.ret (.tuple #[.string (bs []), .bool false])) H) → (∀ out, ps.mapM ph = some out → R (.ret (.tuple #[.string (bs out), .bool true])) H) → Z e F (QB R H) := fun e q1 q2 q3 q4 q5 q6 q7 => by rw [hZ]; exact rcols_s q1 q2 q3 q4 q5 q6 q7
  have hdots : ∀ {F : Heap} {kk : Nat} {ps : List (List UInt8)} (e : Env) (Q : Post), ps.length = 4 → (∀ p ∈ ps, p.length ≤ 4611686018427387904) → kk < F.length → hget F kk = .row (ps.map fun t => .string (bs t)) 1 true → KP H.length H F → (∃ x : Nat → Value, e = [x 0, x 1, x 2, x 3, x 4, x 5, .slice none 0 0, .slice (some ⟨kk, 0, none⟩) ps.length ps.length, x 8, x 9, x 10, x 11, x 12, x 13, x 14, x 15, x 16, x 17, x 18, x 19, x 20, x 21, x 22, x 23, x 24, x 25, x 26, x 27, x 28, x 29, x 30, x 31, x 32, x 33, x 34, x 35, x 36, x 37, x 38, x 39, x 40, x 41, x 42, x 43, x 44, x 45, x 46, x 47, x 48, x 49, x 50, x 51, x 52, x 53, x 54, x 55, x 56, x 57, x 58, x 59, x 60, x 61, x 62, x 63, x 64, x 65, x 66, x 67, x 68, x 69, x 70, x 71, x 72, x 73, x 74, x 75, x 76, x 77, x 78, x 79, x 80, x 81, x 82, x 83, x 84, x 85, x 86, x 87, x 88, x 89, x 90, x 91, x 92, x 93, x 94, x 95, x 96, x 97, x 98, x 99, x 100, x 101, x 102, x 103, x 104, x 105, x 106, x 107, x 108, x 109, x 110, x 111, x 112, x 113, x 114, x 115, x 116, x 117]) → (∀ e K, QB R H .ret e K → Q .ret e K) →
    (ps.mapM pd = none → R (.ret (.tuple #[.string (bs []), .bool false])) H) → (∀ out, ps.mapM pd = some out → R (.ret (.tuple #[.string (bs out), .bool true])) H) → Y e F Q := fun e Q q1 q2 q3 q4 q5 q6 q7 q8 q9 => by rw [hY]; exact rdots_s q1 q2 q3 q4 q5 q6 q7 q8 q9
  have hZ' := hZ.symm
  have hY' := hY.symm
  clear hZ hY
  simp only [AFunc.body, g58, ACode.at] at hZ' hY'
  simp (disch := omega) only [kB, kcx, kdm, kdn, kel, aop, resultsL, resultOf, Nat.reduceEqDiff, reduceCtorEq, eq1, apartOK, apart2, AObj.live, Int.reduceEq, Int.reduceLT, Int.reduceLE, Int.reduceAdd, Int.reduceSub, Int.reduceMul, Int.reduceToNat, cutCells, Nat.reduceAdd, Nat.reduceLeDiff, Nat.reduceLT, Nat.reduceMul, Nat.reduceSub, hZ', hY']
  refine parts_s (c := 46) hl fun sv K kl hold hS => ?_
  have kp : KP H.length H K := ⟨kl, hold⟩
  have hSl : (cS ((splitC 46 l).take 18)).length = ((splitC 46 l).take 18).length := List.length_map ..
  have hn18 := (take18 (ls := splitC 46 l) (n := 4) (by decide))
  obtain ⟨ad, hsv⟩ := hS.len
  rw [hSl] at hsv
  have hcol : ∀ e, rbyO l k = (if hasI (k : Int) 5 = true ∧ (splitC 58 l).length = k / 8 then (splitC 58 l).mapM ph else none) → (∃ x : Nat → Value, e = [.string (bs l), .int .i64 (k : Int), x 2, x 3, x 4, x 5, .slice none 0 0, x 7, x 8, x 9, x 10, x 11, x 12, x 13, x 14, x 15, x 16, x 17, x 18, x 19, x 20, x 21, x 22, x 23, x 24, x 25, x 26, x 27, x 28, x 29, x 30, x 31, x 32, x 33, x 34, x 35, x 36, x 37, x 38, x 39, x 40, x 41, x 42, x 43, x 44, x 45, x 46, x 47, x 48, x 49, x 50, x 51, x 52, x 53, x 54, x 55, x 56, x 57, x 58, x 59, x 60, x 61, x 62, x 63, x 64, x 65, x 66, x 67, x 68, x 69, x 70, x 71, x 72, x 73, x 74, x 75, x 76, x 77, x 78, x 79, x 80, x 81, x 82, x 83, x 84, x 85, x 86, x 87, x 88, x 89, x 90, x 91, x 92, x 93, x 94, x 95, x 96, x 97, x 98, x 99, x 100, x 101, x 102, x 103, x 104, x 105, x 106, x 107, x 108, x 109, x 110, x 111, x 112, x 113, x 114, x 115, x 116, x 117]) → WC T (g58.body.at [1, 1, 1, 1]) e K (QB R H) := by
    intro e hO he
    obtain ⟨y, rfl⟩ := he
    simp only [AFunc.body, g58, ACode.at]
    simp (disch := omega) only [kB, kcx, kdm, kdn, kel, aop, resultsL, resultOf, Nat.reduceEqDiff, reduceCtorEq, eq1, apartOK, apart2, AObj.live, Int.reduceEq, Int.reduceLT, Int.reduceLE, Int.reduceAdd, Int.reduceSub, Int.reduceMul, Int.reduceToNat, cutCells, Nat.reduceAdd, Nat.reduceLeDiff, Nat.reduceLT, Nat.reduceMul, Nat.reduceSub, hZ']
    refine parts_s (c := 58) hl fun sv2 K2 kl2 hold2 hS2 => ?_
    have kp2 : KP H.length H K2 := ⟨by omega, fun d hd => by rw [hold2 d (by omega)]; exact hold d hd⟩
    have hSl2 : (cS ((splitC 58 l).take 18)).length = ((splitC 58 l).take 18).length := List.length_map ..
    have hk18 := (take18 (ls := splitC 58 l) (n := k / 8) (by omega))
    have hq := bin_quo (k := .i64) (a := k) (b := 8) (by decide)
    have q0 : (((8 : Nat) : Int)) = 8 := rfl
    rw [q0] at hq
    obtain ⟨ad2, hsv2⟩ := hS2.len
    rw [hSl2] at hsv2
    simp (disch := omega) only [kB, kcx, kdm, kdn, kel, aop, resultsL, resultOf, Nat.reduceEqDiff, reduceCtorEq, eq1, apartOK, apart2, AObj.live, Int.reduceEq, Int.reduceLT, Int.reduceLE, Int.reduceAdd, Int.reduceSub, Int.reduceMul, Int.reduceToNat, cutCells, Nat.reduceAdd, Nat.reduceLeDiff, Nat.reduceLT, Nat.reduceMul, Nat.reduceSub, hZ']
    refine rhas_s (by decide) (by decide) ?_
    cases hh : hasI (k : Int) 5 with
    | false =>
      rw [if_neg (by rw [hh]; simp)] at hO
      have hb := h1 hO
      simp (disch := omega) only [kB, kcx, kdm, kdn, kel, aop, resultsL, resultOf, Nat.reduceEqDiff, reduceCtorEq, eq1, apartOK, apart2, AObj.live, Int.reduceEq, Int.reduceLT, Int.reduceLE, Int.reduceAdd, Int.reduceSub, Int.reduceMul, Int.reduceToNat, cutCells, Nat.reduceAdd, Nat.reduceLeDiff, Nat.reduceLT, Nat.reduceMul, Nat.reduceSub, hZ']
      exact ⟨_, rfl, kp2.ext, .tup2 (.closed rfl) (.closed rfl), hb⟩
    | true =>
      have hk16 : 16 ≤ k := by
        rw [hasI, if_neg (by decide), if_pos rfl, isw_nat hk1 hk2, Bool.true_and, Bool.and_eq_true, decide_eq_true_eq, decide_eq_true_eq] at hh
        omega
      by_cases hn : (splitC 58 l).length = k / 8
      · have ht := hk18.2 hn
        rw [if_pos ⟨hh, hn⟩] at hO
        rw [ht] at hS2 hsv2
        obtain ⟨kk, r1, r2, r3, r4⟩ := S_row hS2 (by intro q; rw [q] at hn; simp at hn; omega)
        subst r3
        have cn : ((((splitC 58 l).length : Nat) : Int) = ((k / 8 : Nat) : Int)) = True := eq_true (by omega)
        simp (disch := omega) only [kB, kcx, kdm, kdn, kel, aop, resultsL, resultOf, Nat.reduceEqDiff, reduceCtorEq, eq1, apartOK, apart2, AObj.live, Int.reduceEq, Int.reduceLT, Int.reduceLE, Int.reduceAdd, Int.reduceSub, Int.reduceMul, Int.reduceToNat, cutCells, Nat.reduceAdd, Nat.reduceLeDiff, Nat.reduceLT, Nat.reduceMul, Nat.reduceSub, hZ', hq, wr_i64, cn]
        exact hcols _ (by omega) r2 r4 kp2 (by exact ex_env rfl) (fun q => h1 (hO.trans q)) (fun o q => h2 o (hO.trans q))
      · rw [if_neg (fun q => hn q.2)] at hO
        have hb := h1 hO
        have cn : ¬ ((((splitC 58 l).take 18).length : Nat) : Int) = ((k / 8 : Nat) : Int) := fun q => hn (hk18.1.1 (by omega))
        subst hsv2
        simp (disch := omega) only [kB, kcx, kdm, kdn, kel, aop, resultsL, resultOf, Nat.reduceEqDiff, reduceCtorEq, eq1, apartOK, apart2, AObj.live, Int.reduceEq, Int.reduceLT, Int.reduceLE, Int.reduceAdd, Int.reduceSub, Int.reduceMul, Int.reduceToNat, cutCells, Nat.reduceAdd, Nat.reduceLeDiff, Nat.reduceLT, Nat.reduceMul, Nat.reduceSub, hZ', hq, wr_i64, cn]
        exact ⟨_, rfl, kp2.ext, .tup2 (.closed rfl) (.closed rfl), hb⟩
  obtain ⟨X, hX⟩ : ∃ X, X = WC T (g58.body.at [1, 1, 1, 1]) := ⟨_, rfl⟩
  have hcol' : ∀ e, rbyO l k = (if hasI (k : Int) 5 = true ∧ (splitC 58 l).length = k / 8 then (splitC 58 l).mapM ph else none) → (∃ x : Nat → Value, e = [.string (bs l), .int .i64 (k : Int), x 2, x 3, x 4, x 5, .slice none 0 0, x 7, x 8, x 9, x 10, x 11, x 12, x 13, x 14, x 15, x 16, x 17, x 18, x 19, x 20, x 21, x 22, x 23, x 24, x 25, x 26, x 27, x 28, x 29, x 30, x 31, x 32, x 33, x 34, x 35, x 36, x 37, x 38, x 39, x 40, x 41, x 42, x 43, x 44, x 45, x 46, x 47, x 48, x 49, x 50, x 51, x 52, x 53, x 54, x 55, x 56, x 57, x 58, x 59, x 60, x 61, x 62, x 63, x 64, x 65, x 66, x 67, x 68, x 69, x 70, x 71, x 72, x 73, x 74, x 75, x 76, x 77, x 78, x 79, x 80, x 81, x 82, x 83, x 84, x 85, x 86, x 87, x 88, x 89, x 90, x 91, x 92, x 93, x 94, x 95, x 96, x 97, x 98, x 99, x 100, x 101, x 102, x 103, x 104, x 105, x 106, x 107, x 108, x 109, x 110, x 111, x 112, x 113, x 114, x 115, x 116, x 117]) → X e K (QB R H) := fun e q1 q2 => by rw [hX]; exact hcol e q1 q2
  have hX' := hX.symm
  clear hX hcol
  simp only [AFunc.body, g58, ACode.at] at hX'
  by_cases hn : (splitC 46 l).length = 4
  · have ht := hn18.2 hn
    rw [ht] at hS hsv
    have cn : ((((splitC 46 l).length : Nat) : Int) = 4) = True := eq_true (by omega)
    obtain ⟨kk, r1, r2, r3, r4⟩ := S_row hS (by intro q; rw [q] at hn; simp at hn)
    subst r3
    by_cases hk : k = 32
    · have ck : ((k : Int) = 32) = True := eq_true (by omega)
      have hO : rbyO l k = (splitC 46 l).mapM pd := by unfold rbyO; exact if_pos ⟨hn, hk⟩
      rw [hO] at h1 h2
      have hYf := fun e K Q => congrFun (congrFun (congrFun hY' e) K) Q
      simp (disch := omega) only [kB, kcx, kdm, kdn, kel, aop, resultsL, resultOf, Nat.reduceEqDiff, reduceCtorEq, eq1, apartOK, apart2, AObj.live, Int.reduceEq, Int.reduceLT, Int.reduceLE, Int.reduceAdd, Int.reduceSub, Int.reduceMul, Int.reduceToNat, cutCells, Nat.reduceAdd, Nat.reduceLeDiff, Nat.reduceLT, Nat.reduceMul, Nat.reduceSub, hX', ↓hYf, cn, ck]
      refine hdots _ _ hn (fun p hp => Nat.le_trans (split_len 46 l p hp) hl) r2 r4 kp (by exact ex_env rfl) (fun e K h => ?_) h1 h2
      simp (disch := omega) only [kB, kcx, kdm, kdn, kel, aop, resultsL, resultOf, Nat.reduceEqDiff, reduceCtorEq, eq1, apartOK, apart2, AObj.live, Int.reduceEq, Int.reduceLT, Int.reduceLE, Int.reduceAdd, Int.reduceSub, Int.reduceMul, Int.reduceToNat, cutCells, Nat.reduceAdd, Nat.reduceLeDiff, Nat.reduceLT, Nat.reduceMul, Nat.reduceSub]
      exact h
    · have ck : ¬ (k : Int) = 32 := by omega
      have hO : rbyO l k = (if hasI (k : Int) 5 = true ∧ (splitC 58 l).length = k / 8 then (splitC 58 l).mapM ph else none) := by unfold rbyO; exact if_neg (fun q => hk q.2)
      simp (disch := omega) only [kB, kcx, kdm, kdn, kel, aop, resultsL, resultOf, Nat.reduceEqDiff, reduceCtorEq, eq1, apartOK, apart2, AObj.live, Int.reduceEq, Int.reduceLT, Int.reduceLE, Int.reduceAdd, Int.reduceSub, Int.reduceMul, Int.reduceToNat, cutCells, Nat.reduceAdd, Nat.reduceLeDiff, Nat.reduceLT, Nat.reduceMul, Nat.reduceSub, hX', hY', cn, ck]
      exact hcol' _ hO (by exact ex_env rfl)
  · have cn : ¬ ((((splitC 46 l).take 18).length : Nat) : Int) = 4 := fun q => hn (hn18.1.1 (by omega))
    have hO : rbyO l k = (if hasI (k : Int) 5 = true ∧ (splitC 58 l).length = k / 8 then (splitC 58 l).mapM ph else none) := by unfold rbyO; exact if_neg (fun q => hn q.1)
    subst hsv
    simp (disch := omega) only [kB, kcx, kdm, kdn, kel, aop, resultsL, resultOf, Nat.reduceEqDiff, reduceCtorEq, eq1, apartOK, apart2, AObj.live, Int.reduceEq, Int.reduceLT, Int.reduceLE, Int.reduceAdd, Int.reduceSub, Int.reduceMul, Int.reduceToNat, cutCells, Nat.reduceAdd, Nat.reduceLeDiff, Nat.reduceLT, Nat.reduceMul, Nat.reduceSub, hX', hY', cn]
    exact hcol' _ hO (by exact ex_env rfl)

end Go.Proofs.YtkhkmgcegicmoaaDoor.Ev
