/- ValueBack: a value's texts and bytes are read as it was, in every form that its width has; a text that is read is that of its value in some form: whatever the inputs, the law answers true. Conditions: the listed variables read as the program's text lays them. -/
import Derived.Test.YtkhkmgcegicmoaaDoorBck3
import Derived.ChangeArms
import Derived.ChangeStays
import Derived.ChangeOld
import Derived.ChangeShapes
import Derived.WideShapes
import Derived.DataReads
import Derived.RowKit
import Derived.Test.YtkhkmgcegicmoaaDoorTie
import Derived.Test.YtkhkmgcegicmoaaDoorCards
import Derived.ProofKit
import Derived.OpenShut
import Derived.SizedLaws
import Derived.SevenTiedAt
/- Digits: plain laws; the program's digits of a value. -/
namespace Go.Proofs.YtkhkmgcegicmoaaDoor.Ev
set_option maxRecDepth 100000
set_option linter.unusedSimpArgs false
set_option linter.unusedVariables false
variable {R : FRes → Heap → Prop} {H : Heap}

/-- The sign of a digit. -/
def sgN (n : Nat) : UInt8 := if n < 10 then UInt8.ofNat (48 + n) else UInt8.ofNat (87 + n)
/-- A value's digits, the lowest first. -/
def rd (b : Nat) : Nat → Nat → List Nat
  | 0, _ => []
  | k + 1, v => (v % b) :: (if v / b = 0 then [] else rd b k (v / b))
/-- A value's text in a base. -/
def dig (b v : Nat) : List UInt8 := ((rd b 128 v).reverse).map sgN
/-- What digits say, the lowest first. -/
def valR (b : Nat) : List Nat → Nat
  | [] => 0
  | d :: l => d + b * valR b l

theorem rd_val {b : Nat} (hb : 2 ≤ b) : ∀ (k v : Nat), v < 2 ^ k → valR b (rd b k v) = v
  | 0, v, h => by simp at h; subst h; rfl
  | k + 1, v, h => by
    have hd := Nat.div_add_mod v b
    rw [rd, valR]
    split
    · rename_i q
      rw [q, Nat.mul_zero] at hd
      rw [valR, Nat.mul_zero]
      omega
    · have : v / b < 2 ^ k := by
        rw [Nat.div_lt_iff_lt_mul (by omega)]
        rw [Nat.pow_succ] at h
        exact Nat.lt_of_lt_of_le h (Nat.mul_le_mul_left _ hb)
      rw [rd_val hb k _ this]
      omega
theorem rd_lt {b : Nat} (hb : 0 < b) : ∀ (k v : Nat), ∀ d ∈ rd b k v, d < b
  | 0, v, d, h => by simp [rd] at h
  | k + 1, v, d, h => by
    rw [rd] at h
    rcases List.mem_cons.1 h with rfl | h
    · exact Nat.mod_lt _ hb
    · split at h
      · simp at h
      · exact rd_lt hb k _ d h
theorem rd_len (b : Nat) : ∀ (k v : Nat), (rd b k v).length ≤ k
  | 0, v => by simp [rd]
  | k + 1, v => by
    rw [rd, List.length_cons]
    split
    · simp
    · have := rd_len b k (v / b)
      omega
theorem rd_ne (b k v : Nat) : rd b (k + 1) v ≠ [] := by simp [rd]
/-- The highest digit is none that says nothing, where there is another. -/
theorem rd_last {b : Nat} (hb : 2 ≤ b) : ∀ (k v : Nat), v < 2 ^ k → v ≠ 0 → ∃ l d, rd b k v = l ++ [d] ∧ d ≠ 0
  | 0, v, h, h0 => by simp at h; exact absurd h h0
  | k + 1, v, h, h0 => by
    rw [rd]
    split
    · rename_i q
      have hd := Nat.div_add_mod v b
      rw [q, Nat.mul_zero] at hd
      exact ⟨[], v % b, rfl, by omega⟩
    · rename_i q
      have : v / b < 2 ^ k := by
        rw [Nat.div_lt_iff_lt_mul (by omega)]
        rw [Nat.pow_succ] at h
        exact Nat.lt_of_lt_of_le h (Nat.mul_le_mul_left _ hb)
      obtain ⟨l, d, e, hd⟩ := rd_last hb k (v / b) this q
      exact ⟨v % b :: l, d, by rw [e]; rfl, hd⟩
theorem valR_pos {b : Nat} (hb : 2 ≤ b) : ∀ (l : List Nat) (d : Nat), d ≠ 0 → 0 < valR b (l ++ [d])
  | [], d, h => by simp [valR]; omega
  | x :: l, d, h => by
    have := valR_pos hb l d h
    rw [List.cons_append, valR]
    have : 0 < b * valR b (l ++ [d]) := Nat.mul_pos (by omega) this
    omega
/-- Digits that may be a text are those of what they say. -/
theorem rd_of {b : Nat} (hb : 2 ≤ b) : ∀ (k : Nat) (l : List Nat), l.length ≤ k → l ≠ [] → (∀ d ∈ l, d < b) → (∀ m d, l = m ++ [d] → m ≠ [] → d ≠ 0) → rd b k (valR b l) = l
  | 0, l, h, h0, _, _ => by simp at h; exact absurd h h0
  | k + 1, [], h, h0, _, _ => absurd rfl h0
  | k + 1, x :: l, h, h0, hl, hz => by
    have hx := hl x (by simp)
    rw [rd, valR, Nat.add_mul_mod_self_left, Nat.mod_eq_of_lt hx, Nat.add_mul_div_left _ _ (by omega), Nat.div_eq_of_lt hx, Nat.zero_add]
    congr 1
    by_cases hn : l = []
    · subst hn; rfl
    · obtain ⟨m, d, rfl⟩ : ∃ m d, l = m ++ [d] := ⟨l.dropLast, l.getLast hn, (List.dropLast_concat_getLast hn).symm⟩
      have hd : d ≠ 0 := hz (x :: m) d rfl (by simp)
      have hp := valR_pos hb m d hd
      rw [if_neg (by omega)]
      exact rd_of hb k _ (by simpa using h) hn (fun y hy => hl y (by simp [hy])) fun m2 d2 e h2 => hz (x :: m2) d2 (by rw [e]; rfl) (by simp)

theorem dig_len (b v : Nat) : (dig b v).length ≤ 128 := by
  rw [dig, List.length_map, List.length_reverse]
  exact rd_len _ _ _

theorem signs_at : ∀ n, n < 16 → signsL[n]? = some (((sgN n).toNat : Nat) : Int) := by decide +kernel
theorem signs_get {n : Nat} (h : n < 16) : (numV signsL)[n]? = some (u8c (sgN n)) := by
  rw [numV, List.getElem?_map, signs_at n h]
  rfl
theorem signs_len : (numV signsL).length = 16 := by
  rw [numV, List.length_map]
  decide +kernel

/-- The bases, and what a division needs of them. -/
def base3 (b : Nat) : Prop := b = 2 ∨ b = 10 ∨ b = 16
theorem base3_lt {b : Nat} (h : base3 b) : 2 ≤ b ∧ b ≤ 16 := by rcases h with rfl | rfl | rfl <;> omega
theorem divb_s {b hi lo : Nat} (hb : base3 b) (hhi : hi < b) (hlo : lo < 18446744073709551616)
    (h : R (.ret (.tuple #[.int .u64 (((hi * 18446744073709551616 + lo) / b : Nat) : Int), .int .u64 (((hi * 18446744073709551616 + lo) % b : Nat) : Int)])) H) :
    WD T 67 [.int .u64 (hi : Int), .int .u64 (lo : Int), .int .u64 (b : Int)] H R := by
  rcases hb with rfl | rfl | rfl
  · exact div64_s (s := 62) (yn := 2147483648) (by decide) (by decide) (by decide) (by decide) (by decide) (by decide) hhi hlo h
  · exact div64_s (s := 60) (yn := 2684354560) (by decide) (by decide) (by decide) (by decide) (by decide) (by decide) hhi hlo h
  · exact div64_s (s := 59) (yn := 2147483648) (by decide) (by decide) (by decide) (by decide) (by decide) (by decide) hhi hlo h

theorem div_two {u b : Nat} (hb : 0 < b) : (u / b) / W64 = (u / W64) / b ∧ (u / b) % W64 = ((u / W64) % b * 18446744073709551616 + u % W64) / b ∧ u % b = ((u / W64) % b * 18446744073709551616 + u % W64) % b := by
  have e1 := Nat.div_add_mod u W64
  have e2 := Nat.div_add_mod (u / W64) b
  rw [W64_eq] at *
  have hm : u % 18446744073709551616 < 18446744073709551616 := Nat.mod_lt _ (by decide)
  have hr := Nat.mod_lt (u / 18446744073709551616) hb
  generalize u / 18446744073709551616 = h at *
  generalize hlo : u % 18446744073709551616 = lo at *
  generalize h / b = q at *
  generalize h % b = r at *
  have eu : u = (r * 18446744073709551616 + lo) + b * (q * 18446744073709551616) := by
    rw [← e1, ← e2, Nat.mul_add, Nat.mul_comm _ (b * q), Nat.mul_assoc b q]
    omega
  have hlt : (r * 18446744073709551616 + lo) / b < 18446744073709551616 := by
    rw [Nat.div_lt_iff_lt_mul hb]
    have : (r + 1) * 18446744073709551616 ≤ b * 18446744073709551616 := Nat.mul_le_mul_right _ hr
    rw [Nat.mul_comm _ b]
    omega
  rw [eu, Nat.add_mul_div_left _ _ hb, Nat.add_mul_mod_self_left]
  generalize (r * 18446744073709551616 + lo) / b = t at *
  refine ⟨?_, ?_, rfl⟩
  · omega
  · omega

/-- A row of bytes that is filled from its end on. -/
def digC (k : Nat) (pre : List Nat) : List Value := List.replicate (128 - k) (.int .u8 0) ++ pre.reverse.map fun n => u8c (sgN n)
theorem digC_len {k : Nat} {pre : List Nat} (h : pre.length = k) (hk : k ≤ 128) : (digC k pre).length = 128 := by
  simp [digC, h]
  omega
theorem digC_set {k : Nat} {pre : List Nat} {x : Nat} (hk : k < 128) : (digC k pre).set (127 - k) (u8c (sgN x)) = digC (k + 1) (pre ++ [x]) := by
  have := set_zero (n := 128) (i := k) (z := Value.int .u8 0) (x := u8c (sgN x)) (L := pre.reverse.map fun n => u8c (sgN n)) hk
  rw [digC, digC, this]
  simp

def dgI (v b b2 b5 : Nat) (F : Heap) : Nat → Env → Heap → Prop := fun z e H' =>
  ∃ (k : Nat) (pre : List Nat) (u : Nat), k < 128 ∧ z = 128 - k ∧ pre.length = k ∧ rd b 128 v = pre ++ rd b (128 - k) u ∧ u < 2 ^ (128 - k) ∧ H' = F ++ [rowU u, .row (digC k pre) 0 true] ∧
    (∃ x : Nat → Value, e = [x 0, .int .u64 (b : Int), .pointer (some ⟨b2, 0, none⟩), x 3, x 4, .pointer (some ⟨b5, 0, none⟩), .int .i64 ((128 - k : Nat) : Int), x 7, x 8, x 9, x 10, x 11, x 12, x 13, x 14, x 15, x 16, x 17, x 18, x 19, x 20, x 21, x 22, x 23, x 24, x 25, x 26, x 27, x 28, x 29, x 30, x 31, x 32, x 33, x 34, x 35, x 36, x 37, x 38, x 39, x 40])

theorem z128_eq : digC 0 [] = [.int .u8 0, .int .u8 0, .int .u8 0, .int .u8 0, .int .u8 0, .int .u8 0, .int .u8 0, .int .u8 0, .int .u8 0, .int .u8 0, .int .u8 0, .int .u8 0, .int .u8 0, .int .u8 0, .int .u8 0, .int .u8 0, .int .u8 0, .int .u8 0, .int .u8 0, .int .u8 0, .int .u8 0, .int .u8 0, .int .u8 0, .int .u8 0, .int .u8 0, .int .u8 0, .int .u8 0, .int .u8 0, .int .u8 0, .int .u8 0, .int .u8 0, .int .u8 0, .int .u8 0, .int .u8 0, .int .u8 0, .int .u8 0, .int .u8 0, .int .u8 0, .int .u8 0, .int .u8 0, .int .u8 0, .int .u8 0, .int .u8 0, .int .u8 0, .int .u8 0, .int .u8 0, .int .u8 0, .int .u8 0, .int .u8 0, .int .u8 0, .int .u8 0, .int .u8 0, .int .u8 0, .int .u8 0, .int .u8 0, .int .u8 0, .int .u8 0, .int .u8 0, .int .u8 0, .int .u8 0, .int .u8 0, .int .u8 0, .int .u8 0, .int .u8 0, .int .u8 0, .int .u8 0, .int .u8 0, .int .u8 0, .int .u8 0, .int .u8 0, .int .u8 0, .int .u8 0, .int .u8 0, .int .u8 0, .int .u8 0, .int .u8 0, .int .u8 0, .int .u8 0, .int .u8 0, .int .u8 0, .int .u8 0, .int .u8 0, .int .u8 0, .int .u8 0, .int .u8 0, .int .u8 0, .int .u8 0, .int .u8 0, .int .u8 0, .int .u8 0, .int .u8 0, .int .u8 0, .int .u8 0, .int .u8 0, .int .u8 0, .int .u8 0, .int .u8 0, .int .u8 0, .int .u8 0, .int .u8 0, .int .u8 0, .int .u8 0, .int .u8 0, .int .u8 0, .int .u8 0, .int .u8 0, .int .u8 0, .int .u8 0, .int .u8 0, .int .u8 0, .int .u8 0, .int .u8 0, .int .u8 0, .int .u8 0, .int .u8 0, .int .u8 0, .int .u8 0, .int .u8 0, .int .u8 0, .int .u8 0, .int .u8 0, .int .u8 0, .int .u8 0, .int .u8 0, .int .u8 0, .int .u8 0, .int .u8 0, .int .u8 0] := rfl

set_option maxHeartbeats 4000000 in
theorem digits_s {v b : Nat} (hb : base3 b) (hv : v < 2 ^ 128) (hH : hget H 0 = .row (numV signsL) 0 false) (hlen : 0 < H.length) (h : R (.ret (.string (bs (dig b v)))) H) : WD T 49 [bvA v, .int .u64 (b : Int)] H R := by
  refine WD.gc0 (WD.of follows t49 (by simp) ?_)
  rw [← z128_eq]
  obtain ⟨hb2, hb16⟩ := base3_lt hb
  simp (disch := omega) only [kB, kcx, kdm, kdn, kel, aop, resultsL, resultOf, Nat.reduceEqDiff, reduceCtorEq, eq1, apartOK, apart2, AObj.live, Int.reduceEq, Int.reduceLT, Int.reduceLE, Int.reduceAdd, Int.reduceSub, Int.reduceMul, Int.reduceToNat, cutCells, Nat.reduceAdd, Nat.reduceLeDiff, Nat.reduceLT, Nat.reduceMul, Nat.reduceSub]
  refine WLoop.inv (dgI v b H.length (H.length + 1) H) ?_ 128 _ _ ⟨0, [], v, by omega, rfl, rfl, rfl, hv, rfl, by exact ex_env rfl⟩
  rintro z e H' ⟨k, pre, u, hk, rfl, hpre, hrd, hu, rfl, ⟨x, rfl⟩⟩
  have hu128 : u < 2 ^ 128 := Nat.lt_of_lt_of_le hu (Nat.pow_le_pow_right (by decide) (by omega))
  have hh := hi_lt hu128
  have hl := lo_lt u
  obtain ⟨w1, w2, w3⟩ := div_two (u := u) (b := b) (by omega)
  have d1 := bin_quo (k := .u64) (a := u / W64) (b := b) (by omega)
  have d2 := bin_rem (k := .u64) (a := u / W64) (b := b) (by omega)
  have hq := Nat.div_le_self (u / W64) b
  simp (disch := omega) only [kB, kcx, kdm, kdn, kel, aop, resultsL, resultOf, Nat.reduceEqDiff, reduceCtorEq, eq1, apartOK, apart2, AObj.live, Int.reduceEq, Int.reduceLT, Int.reduceLE, Int.reduceAdd, Int.reduceSub, Int.reduceMul, Int.reduceToNat, cutCells, Nat.reduceAdd, Nat.reduceLeDiff, Nat.reduceLT, Nat.reduceMul, Nat.reduceSub, d1, d2, wr_u64]
  refine divb_s hb (Nat.mod_lt _ (by omega)) hl ?_
  rw [← w1, ← w2, ← w3]
  have hx : u % b < 16 := Nat.lt_of_lt_of_le (Nat.mod_lt _ (by omega)) hb16
  have g1 := signs_get hx
  unfold u8c at g1
  have e1 : ((128 - k : Nat) : Int) - 1 = ((127 - k : Nat) : Int) := by omega
  have c1 : ((127 - k : Nat) : Int) < 128 := by omega
  have c2 : ((u % b : Nat) : Int) < 16 := by omega
  have dl := digC_len hpre (by omega)
  have ds := digC_set (pre := pre) (x := u % b) hk
  unfold u8c at ds
  have ez := eq_bv0 (v := u / b)
  have e128 : 128 - k = (127 - k) + 1 := by omega
  have hnext : rd b (128 - k) u = (u % b) :: (if u / b = 0 then [] else rd b (127 - k) (u / b)) := by rw [e128, rd]
  rw [hnext] at hrd
  have hub : u / b < 2 ^ (127 - k) := by
    rw [e128, Nat.pow_succ] at hu
    rw [Nat.div_lt_iff_lt_mul (by omega)]
    exact Nat.lt_of_lt_of_le hu (Nat.mul_le_mul_left _ hb2)
  have hwr := wr_nat (a := (u / W64) / b) (Nat.lt_of_le_of_lt hq hh)
  rw [← w1] at hwr
  by_cases hz : u / b = 0
  · rw [decide_eq_true hz] at ez
    rw [if_pos hz] at hrd
    have hc : ¬ (128 = 127 - k ∧ ¬ 127 - k = 0) := by omega
    have hsrc : (srcCells (H ++ [.row [.int .u64 ((u / b / W64 : Nat) : Int), .int .u64 ((u / b % W64 : Nat) : Int)] 0 true, .row (digC (k + 1) (pre ++ [u % b])) 0 true]) 1 (128 - (127 - k)) (.slice (some ⟨H.length + 1, 127 - k, none⟩) (128 - (127 - k)) (128 - (127 - k)))).bind bytesOf = some (dig b v) := by
      have e0 : hget (H ++ [.row [.int .u64 ((u / b / W64 : Nat) : Int), .int .u64 ((u / b % W64 : Nat) : Int)] 0 true, .row (digC (k + 1) (pre ++ [u % b])) 0 true]) (H.length + 1) = .row (digC (k + 1) (pre ++ [u % b])) 0 true := by rw [hget_base]; rfl
      have el := digC_len (k := k + 1) (pre := pre ++ [u % b]) (by simp [hpre]) (by omega)
      simp only [srcCells, e0]
      rw [if_pos (by rw [el]; omega), digC, List.drop_append_of_le_length (by simp), show 127 - k = 128 - (k + 1) by omega, List.drop_of_length_le (by simp), List.nil_append, List.take_of_length_le (by simp [hpre]; omega)]
      have e5 : (pre ++ [u % b]).reverse.map (fun n => u8c (sgN n)) = (dig b v).map u8c := by
        rw [dig, hrd, List.map_map]
        rfl
      rw [e5]
      exact bytes_u8 _
    simp (disch := omega) only [kB, kcx, kdm, kdn, kel, aop, resultsL, resultOf, Nat.reduceEqDiff, reduceCtorEq, eq1, apartOK, apart2, AObj.live, Int.reduceEq, Int.reduceLT, Int.reduceLE, Int.reduceAdd, Int.reduceSub, Int.reduceMul, Int.reduceToNat, cutCells, Nat.reduceAdd, Nat.reduceLeDiff, Nat.reduceLT, Nat.reduceMul, Nat.reduceSub, hwr, hH, g1, signs_len, e1, c1, c2, dl, ds, ez, wr_i64, if_pos, if_neg hc, lenV, hsrc]
    exact ⟨_, rfl, ⟨_, rfl⟩, .closed rfl, h⟩
  · rw [decide_eq_false hz] at ez
    rw [if_neg hz] at hrd
    have hk1 : k + 1 < 128 := by
      by_cases q : k = 127
      · subst q; exact absurd (Nat.lt_one_iff.1 (show u / b < 1 from hub)) hz
      · omega
    simp (disch := omega) only [kB, kcx, kdm, kdn, kel, aop, resultsL, resultOf, Nat.reduceEqDiff, reduceCtorEq, eq1, apartOK, apart2, AObj.live, Int.reduceEq, Int.reduceLT, Int.reduceLE, Int.reduceAdd, Int.reduceSub, Int.reduceMul, Int.reduceToNat, cutCells, Nat.reduceAdd, Nat.reduceLeDiff, Nat.reduceLT, Nat.reduceMul, Nat.reduceSub, hwr, hH, g1, signs_len, e1, c1, c2, dl, ds, ez, wr_i64, if_pos]
    refine ⟨128 - (k + 1), by omega, k + 1, pre ++ [u % b], u / b, hk1, rfl, by simp [hpre], by rw [hrd, List.append_assoc]; rw [show 128 - (k + 1) = 127 - k by omega]; rfl, by rw [show 128 - (k + 1) = 127 - k by omega]; exact hub, rfl, ?_⟩
    rw [show 128 - (k + 1) = 127 - k by omega]
    exact ex_env rfl

end Go.Proofs.YtkhkmgcegicmoaaDoor.Ev

/- What a number's text says: the program's number. -/
namespace Go.Proofs.YtkhkmgcegicmoaaDoor.Ev
set_option maxRecDepth 100000
set_option linter.unusedSimpArgs false
set_option linter.unusedVariables false
variable {R : FRes → Heap → Prop} {H : Heap}

/-- What a sign is worth; 99: it is no digit. -/
def worthN (c : Nat) : Nat := if 48 ≤ c ∧ c ≤ 57 then c - 48 else if 97 ≤ c ∧ c ≤ 102 then c - 87 else 99
def numF (b : Nat) : Nat → List UInt8 → Option Nat
  | a, [] => some a
  | a, c :: l => if worthN c.toNat < b then numF b (a * b + worthN c.toNat) l else none
/-- What a number's text says in a base. -/
def numI (b : Nat) (l : List UInt8) : Option Nat := if l = [] ∨ (1 < l.length ∧ l.head? = some 48) then none else numF b 0 l
def numT : Option Nat → Value
  | some v => .tuple #[bvA (v % 2 ^ 128), .bool (decide (v < 2 ^ 128)), .bool true]
  | none => .tuple #[bvA 0, .bool false, .bool false]

theorem worth_s {c : Nat} (hc : c < 2147483648) (h : R (.ret (.int .u64 ((worthN c : Nat) : Int))) H) : WD T 72 [.int .i32 (c : Int)] H R := by
  refine WD.of follows t72 (by simp) ?_
  unfold worthN at h
  by_cases h1 : 48 ≤ c
  · by_cases h2 : c ≤ 57
    · have h1' : (48 : Int) ≤ (c : Int) := by omega
      have h2' : (c : Int) ≤ 57 := by omega
      have e : (c : Int) - 48 = ((c - 48 : Nat) : Int) := by omega
      rw [if_pos ⟨h1, h2⟩] at h
      simp (disch := omega) only [kB, kcx, kdm, kdn, kel, aop, resultsL, resultOf, Nat.reduceEqDiff, reduceCtorEq, eq1, apartOK, apart2, AObj.live, Int.reduceEq, Int.reduceLT, Int.reduceLE, Int.reduceAdd, Int.reduceSub, Int.reduceMul, Int.reduceToNat, cutCells, Nat.reduceAdd, Nat.reduceLeDiff, Nat.reduceLT, Nat.reduceMul, Nat.reduceSub, h1', h2', e, wr_i32, wr_u64]
      exact h
    · have h1' : (48 : Int) ≤ (c : Int) := by omega
      have h2' : ¬ (c : Int) ≤ 57 := by omega
      rw [if_neg (by omega)] at h
      by_cases h3 : 97 ≤ c
      · have h3' : (97 : Int) ≤ (c : Int) := by omega
        by_cases h4 : c ≤ 102
        · have h4' : (c : Int) ≤ 102 := by omega
          have e : (c : Int) - 97 = ((c - 97 : Nat) : Int) := by omega
          have e2 : ((c - 97 : Nat) : Int) + 10 = ((c - 87 : Nat) : Int) := by omega
          rw [if_pos ⟨h3, h4⟩] at h
          simp (disch := omega) only [kB, kcx, kdm, kdn, kel, aop, resultsL, resultOf, Nat.reduceEqDiff, reduceCtorEq, eq1, apartOK, apart2, AObj.live, Int.reduceEq, Int.reduceLT, Int.reduceLE, Int.reduceAdd, Int.reduceSub, Int.reduceMul, Int.reduceToNat, cutCells, Nat.reduceAdd, Nat.reduceLeDiff, Nat.reduceLT, Nat.reduceMul, Nat.reduceSub, h1', h2', h3', h4', e, e2, wr_i32, wr_u64]
          exact h
        · have h4' : ¬ (c : Int) ≤ 102 := by omega
          rw [if_neg (by omega)] at h
          simp (disch := omega) only [kB, kcx, kdm, kdn, kel, aop, resultsL, resultOf, Nat.reduceEqDiff, reduceCtorEq, eq1, apartOK, apart2, AObj.live, Int.reduceEq, Int.reduceLT, Int.reduceLE, Int.reduceAdd, Int.reduceSub, Int.reduceMul, Int.reduceToNat, cutCells, Nat.reduceAdd, Nat.reduceLeDiff, Nat.reduceLT, Nat.reduceMul, Nat.reduceSub, h1', h2', h3', h4']
          exact h
      · have h3' : ¬ (97 : Int) ≤ (c : Int) := by omega
        rw [if_neg (by omega)] at h
        simp (disch := omega) only [kB, kcx, kdm, kdn, kel, aop, resultsL, resultOf, Nat.reduceEqDiff, reduceCtorEq, eq1, apartOK, apart2, AObj.live, Int.reduceEq, Int.reduceLT, Int.reduceLE, Int.reduceAdd, Int.reduceSub, Int.reduceMul, Int.reduceToNat, cutCells, Nat.reduceAdd, Nat.reduceLeDiff, Nat.reduceLT, Nat.reduceMul, Nat.reduceSub, h1', h2', h3']
        exact h
  · have h1' : ¬ (48 : Int) ≤ (c : Int) := by omega
    have h3' : ¬ (97 : Int) ≤ (c : Int) := by omega
    rw [if_neg (by omega), if_neg (by omega)] at h
    simp (disch := omega) only [kB, kcx, kdm, kdn, kel, aop, resultsL, resultOf, Nat.reduceEqDiff, reduceCtorEq, eq1, apartOK, apart2, AObj.live, Int.reduceEq, Int.reduceLT, Int.reduceLE, Int.reduceAdd, Int.reduceSub, Int.reduceMul, Int.reduceToNat, cutCells, Nat.reduceAdd, Nat.reduceLeDiff, Nat.reduceLT, Nat.reduceMul, Nat.reduceSub, h1', h3']
    exact h

theorem num_arith {m b d : Nat} (hm : m < 2 ^ 128) (hb : b ≤ 16) (hd : d < b) :
    ((m / W64 * b / 18446744073709551616 = 0 ∧ (m / W64 * b % 18446744073709551616 + m % W64 * b / 18446744073709551616 + (m % W64 * b % 18446744073709551616 + d) / 18446744073709551616) / 18446744073709551616 = 0) ↔ m * b + d < 2 ^ 128) ∧
    (m / W64 * b % 18446744073709551616 + m % W64 * b / 18446744073709551616 + (m % W64 * b % 18446744073709551616 + d) / 18446744073709551616) % 18446744073709551616 = ((m * b + d) % 2 ^ 128) / W64 ∧
    (m % W64 * b % 18446744073709551616 + d) % 18446744073709551616 = ((m * b + d) % 2 ^ 128) % W64 := by
  have h1 := hi_lt hm
  have h2 := lo_lt m
  have e := Nat.div_add_mod m W64
  rw [W64_eq] at *
  generalize m / 18446744073709551616 = A at *
  generalize m % 18446744073709551616 = B at *
  have e2 : m * b = A * b * 18446744073709551616 + B * b := by rw [← e, Nat.add_mul, Nat.mul_comm 18446744073709551616 A, Nat.mul_right_comm]
  have h3 : A * b ≤ 18446744073709551615 * 16 := Nat.mul_le_mul (by omega) (by omega)
  have h4 : B * b ≤ 18446744073709551615 * 16 := Nat.mul_le_mul (by omega) (by omega)
  rw [e2]
  generalize A * b = p at *
  generalize B * b = q at *
  have e3 : (2 : Nat) ^ 128 = 340282366920938463463374607431768211456 := rfl
  rw [e3]
  omega

/-- A rune is small. -/
theorem decode_lt (s : ByteArray) (i : Nat) : (Utf8.decode s i).1 < 2147483648 := by
  have h0 := (s.get! (i + 0)).toNat_lt
  have h1 := (s.get! (i + 1)).toNat_lt
  have h2 := (s.get! (i + 2)).toNat_lt
  have h3 := (s.get! (i + 3)).toNat_lt
  have hr : Utf8.runeError < 2147483648 := by decide
  unfold Utf8.decode
  dsimp only
  (repeat' split) <;> first | exact hr | (dsimp only; omega)

def nmI (l : List UInt8) (b b4 b30 : Nat) (F : Heap) : Nat → Env → Heap → Prop := fun z e H' =>
  ∃ (pos a : Nat), pos ≤ l.length ∧ z = l.length - pos ∧ numF b 0 l = numF b a (l.drop pos) ∧ H' = F ++ [rowU (a % 2 ^ 128), .iter (bs l) pos] ∧
    (∃ x : Nat → Value, e = [x 0, .int .u64 (b : Int), x 2, x 3, .pointer (some ⟨b4, 0, none⟩), .bool (decide (a < 2 ^ 128)), x 6, x 7, x 8, x 9, x 10, x 11, x 12, x 13, x 14, x 15, x 16, x 17, x 18, x 19, x 20, x 21, x 22, x 23, x 24, x 25, x 26, x 27, x 28, x 29, .pointer (some ⟨b30, 0, none⟩), x 31, x 32, x 33, x 34, x 35, x 36, x 37, x 38, x 39, x 40, x 41, x 42, x 43, x 44, x 45, x 46, x 47, x 48, x 49, x 50, x 51, x 52, x 53, x 54, x 55, x 56, x 57, x 58, x 59, x 60, x 61, x 62, x 63, x 64, x 65, x 66, x 67, x 68, x 69, x 70, x 71, x 72, x 73, x 74, x 75, x 76, x 77, x 78, x 79, x 80])

abbrev QN (R : FRes → Heap → Prop) (H : Heap) : Post := retK [.cellN 4 2, .tmp 5, .tmp 6] (fun r H1 => ∃ v, r = .ret v ∧ (∃ g, H1 = H ++ g) ∧ Scoped H.length v ∧ R (.ret v) H)

set_option maxHeartbeats 4000000 in
theorem num_rest {l : List UInt8} {b : Nat} (hb : base3 b) {e : Env} (he : (∃ x : Nat → Value, e = [.string (bs l), .int .u64 (b : Int), x 2, x 3, .pointer (some ⟨H.length, 0, none⟩), x 5, x 6, x 7, x 8, x 9, x 10, x 11, x 12, x 13, x 14, x 15, x 16, x 17, x 18, x 19, x 20, x 21, x 22, x 23, x 24, x 25, x 26, x 27, x 28, x 29, x 30, x 31, x 32, x 33, x 34, x 35, x 36, x 37, x 38, x 39, x 40, x 41, x 42, x 43, x 44, x 45, x 46, x 47, x 48, x 49, x 50, x 51, x 52, x 53, x 54, x 55, x 56, x 57, x 58, x 59, x 60, x 61, x 62, x 63, x 64, x 65, x 66, x 67, x 68, x 69, x 70, x 71, x 72, x 73, x 74, x 75, x 76, x 77, x 78, x 79, x 80])) (h : R (.ret (numT (numF b 0 l))) H) :
    WC T (g52.body.at [1, 1]) e (H ++ [.row [.int .u64 0, .int .u64 0] 0 true]) (QN R H) := by
  obtain ⟨hb2, hb16⟩ := base3_lt hb
  obtain ⟨y, rfl⟩ := he
  simp only [AFunc.body, g52, ACode.at]
  simp (disch := omega) only [kB, kcx, kdm, kdn, kel, aop, resultsL, resultOf, Nat.reduceEqDiff, reduceCtorEq, eq1, apartOK, apart2, AObj.live, Int.reduceEq, Int.reduceLT, Int.reduceLE, Int.reduceAdd, Int.reduceSub, Int.reduceMul, Int.reduceToNat, cutCells, Nat.reduceAdd, Nat.reduceLeDiff, Nat.reduceLT, Nat.reduceMul, Nat.reduceSub]
  refine WLoop.inv (nmI l b H.length (H.length + 1) H) ?_ l.length _ _ ⟨0, 0, Nat.zero_le _, rfl, rfl, rfl, by exact ex_env rfl⟩
  rintro z e H' ⟨pos, a, hpos, rfl, hf, rfl, ⟨x, rfl⟩⟩
  by_cases hlt : pos < l.length
  · have hbl : l[pos]? = some l[pos] := by simp [hlt]
    have hdrop : l.drop pos = l[pos] :: l.drop (pos + 1) := List.drop_eq_getElem_cons hlt
    rw [hdrop, numF] at hf
    by_cases hlow : l[pos].toNat < 128
    · have hdc := decode_low hbl hlow
      have e0 : (((l[pos].toNat, 1) : Nat × Nat).1 : Int) = (l[pos].toNat : Int) := rfl
      simp (disch := omega) only [kB, kcx, kdm, kdn, kel, aop, resultsL, resultOf, Nat.reduceEqDiff, reduceCtorEq, eq1, apartOK, apart2, AObj.live, Int.reduceEq, Int.reduceLT, Int.reduceLE, Int.reduceAdd, Int.reduceSub, Int.reduceMul, Int.reduceToNat, cutCells, Nat.reduceAdd, Nat.reduceLeDiff, Nat.reduceLT, Nat.reduceMul, Nat.reduceSub, hlt, hdc]
      refine worth_s (by omega) ?_
      by_cases hd : worthN l[pos].toNat < b
      · rw [if_pos hd] at hf
        have c1 : ¬ (b : Int) ≤ (worthN l[pos].toNat : Int) := by omega
        have hm : a % 2 ^ 128 < 2 ^ 128 := Nat.mod_lt _ (by decide)
        obtain ⟨ar1, ar2, ar3⟩ := num_arith hm hb16 hd
        have hA := hi_lt hm
        have hB := lo_lt (a % 2 ^ 128)
        have hnext : (a % 2 ^ 128 * b + worthN l[pos].toNat) % 2 ^ 128 = (a * b + worthN l[pos].toNat) % 2 ^ 128 := by
          rw [Nat.add_mod, Nat.mod_mul_mod, ← Nat.add_mod]
        have hq : a % 2 ^ 128 / W64 * b ≤ 18446744073709551615 * 16 := Nat.mul_le_mul (by omega) hb16
        have hq2 : a % 2 ^ 128 % W64 * b ≤ 18446744073709551615 * 16 := Nat.mul_le_mul (by omega) hb16
        rw [hnext] at ar2 ar3
        generalize hd2 : worthN l[pos].toNat = d at *
        have hmono : ¬ a < 2 ^ 128 → ¬ a * b + d < 2 ^ 128 := fun q => by
          have : a * 1 ≤ a * b := Nat.mul_le_mul_left _ (by omega)
          omega
        have hcarry : (a % 2 ^ 128 % W64 * b % 18446744073709551616 + d) / 18446744073709551616 ≤ 1 := by omega
        simp (disch := omega) only [kB, kcx, kdm, kdn, kel, aop, resultsL, resultOf, Nat.reduceEqDiff, reduceCtorEq, eq1, apartOK, apart2, AObj.live, Int.reduceEq, Int.reduceLT, Int.reduceLE, Int.reduceAdd, Int.reduceSub, Int.reduceMul, Int.reduceToNat, cutCells, Nat.reduceAdd, Nat.reduceLeDiff, Nat.reduceLT, Nat.reduceMul, Nat.reduceSub, c1]
        refine mul64_s hB (by omega) ?_
        simp (disch := omega) only [kB, kcx, kdm, kdn, kel, aop, resultsL, resultOf, Nat.reduceEqDiff, reduceCtorEq, eq1, apartOK, apart2, AObj.live, Int.reduceEq, Int.reduceLT, Int.reduceLE, Int.reduceAdd, Int.reduceSub, Int.reduceMul, Int.reduceToNat, cutCells, Nat.reduceAdd, Nat.reduceLeDiff, Nat.reduceLT, Nat.reduceMul, Nat.reduceSub]
        refine mul64_s hA (by omega) ?_
        simp (disch := omega) only [kB, kcx, kdm, kdn, kel, aop, resultsL, resultOf, Nat.reduceEqDiff, reduceCtorEq, eq1, apartOK, apart2, AObj.live, Int.reduceEq, Int.reduceLT, Int.reduceLE, Int.reduceAdd, Int.reduceSub, Int.reduceMul, Int.reduceToNat, cutCells, Nat.reduceAdd, Nat.reduceLeDiff, Nat.reduceLT, Nat.reduceMul, Nat.reduceSub]
        refine add64_s0 ?_
        simp (disch := omega) only [kB, kcx, kdm, kdn, kel, aop, resultsL, resultOf, Nat.reduceEqDiff, reduceCtorEq, eq1, apartOK, apart2, AObj.live, Int.reduceEq, Int.reduceLT, Int.reduceLE, Int.reduceAdd, Int.reduceSub, Int.reduceMul, Int.reduceToNat, cutCells, Nat.reduceAdd, Nat.reduceLeDiff, Nat.reduceLT, Nat.reduceMul, Nat.reduceSub]
        refine add64_s hcarry ?_
        have stepR : (.row [.int .u64 (((a % 2 ^ 128 / W64 * b % 18446744073709551616 + a % 2 ^ 128 % W64 * b / 18446744073709551616 + (a % 2 ^ 128 % W64 * b % 18446744073709551616 + d) / 18446744073709551616) % 18446744073709551616 : Nat) : Int), .int .u64 (((a % 2 ^ 128 % W64 * b % 18446744073709551616 + d) % 18446744073709551616 : Nat) : Int)] 0 true : AObj) = rowU ((a * b + d) % 2 ^ 128) := by rw [rowU, ← ar2, ← ar3]
        by_cases hfa : a < 2 ^ 128
        · have f0 := decide_eq_true hfa
          have ha : a % 2 ^ 128 = a := Nat.mod_eq_of_lt hfa
          by_cases ho : a % 2 ^ 128 / W64 * b / 18446744073709551616 = 0
          · have ho' : ((a % 2 ^ 128 / W64 * b / 18446744073709551616 : Nat) : Int) = 0 := by omega
            by_cases hy : (a % 2 ^ 128 / W64 * b % 18446744073709551616 + a % 2 ^ 128 % W64 * b / 18446744073709551616 + (a % 2 ^ 128 % W64 * b % 18446744073709551616 + d) / 18446744073709551616) / 18446744073709551616 = 0
            · have hy' : (((a % 2 ^ 128 / W64 * b % 18446744073709551616 + a % 2 ^ 128 % W64 * b / 18446744073709551616 + (a % 2 ^ 128 % W64 * b % 18446744073709551616 + d) / 18446744073709551616) / 18446744073709551616 : Nat) : Int) = 0 := by omega
              have hlt2 : a * b + d < 2 ^ 128 := by have q := ar1.1 ⟨ho, hy⟩; rwa [ha] at q
              simp (disch := omega) only [kB, kcx, kdm, kdn, kel, aop, resultsL, resultOf, Nat.reduceEqDiff, reduceCtorEq, eq1, apartOK, apart2, AObj.live, Int.reduceEq, Int.reduceLT, Int.reduceLE, Int.reduceAdd, Int.reduceSub, Int.reduceMul, Int.reduceToNat, cutCells, Nat.reduceAdd, Nat.reduceLeDiff, Nat.reduceLT, Nat.reduceMul, Nat.reduceSub, f0, ho', hy']
              refine ⟨l.length - (pos + 1), by omega, pos + 1, a * b + d, by omega, rfl, hf, by rw [stepR], ?_⟩
              rw [decide_eq_true hlt2]
              exact ex_env rfl
            · have hy' : ¬ (((a % 2 ^ 128 / W64 * b % 18446744073709551616 + a % 2 ^ 128 % W64 * b / 18446744073709551616 + (a % 2 ^ 128 % W64 * b % 18446744073709551616 + d) / 18446744073709551616) / 18446744073709551616 : Nat) : Int) = 0 := by omega
              have hge : ¬ a * b + d < 2 ^ 128 := fun q => hy (ar1.2 (by rw [ha]; exact q)).2
              simp (disch := omega) only [kB, kcx, kdm, kdn, kel, aop, resultsL, resultOf, Nat.reduceEqDiff, reduceCtorEq, eq1, apartOK, apart2, AObj.live, Int.reduceEq, Int.reduceLT, Int.reduceLE, Int.reduceAdd, Int.reduceSub, Int.reduceMul, Int.reduceToNat, cutCells, Nat.reduceAdd, Nat.reduceLeDiff, Nat.reduceLT, Nat.reduceMul, Nat.reduceSub, f0, ho', hy']
              refine ⟨l.length - (pos + 1), by omega, pos + 1, a * b + d, by omega, rfl, hf, by rw [stepR], ?_⟩
              rw [decide_eq_false hge]
              exact ex_env rfl
          · have ho' : ¬ ((a % 2 ^ 128 / W64 * b / 18446744073709551616 : Nat) : Int) = 0 := by omega
            have hge : ¬ a * b + d < 2 ^ 128 := fun q => ho (ar1.2 (by rw [ha]; exact q)).1
            simp (disch := omega) only [kB, kcx, kdm, kdn, kel, aop, resultsL, resultOf, Nat.reduceEqDiff, reduceCtorEq, eq1, apartOK, apart2, AObj.live, Int.reduceEq, Int.reduceLT, Int.reduceLE, Int.reduceAdd, Int.reduceSub, Int.reduceMul, Int.reduceToNat, cutCells, Nat.reduceAdd, Nat.reduceLeDiff, Nat.reduceLT, Nat.reduceMul, Nat.reduceSub, f0, ho']
            refine ⟨l.length - (pos + 1), by omega, pos + 1, a * b + d, by omega, rfl, hf, by rw [stepR], ?_⟩
            rw [decide_eq_false hge]
            exact ex_env rfl
        · have f0 := decide_eq_false hfa
          simp (disch := omega) only [kB, kcx, kdm, kdn, kel, aop, resultsL, resultOf, Nat.reduceEqDiff, reduceCtorEq, eq1, apartOK, apart2, AObj.live, Int.reduceEq, Int.reduceLT, Int.reduceLE, Int.reduceAdd, Int.reduceSub, Int.reduceMul, Int.reduceToNat, cutCells, Nat.reduceAdd, Nat.reduceLeDiff, Nat.reduceLT, Nat.reduceMul, Nat.reduceSub, f0]
          refine ⟨l.length - (pos + 1), by omega, pos + 1, a * b + d, by omega, rfl, hf, by rw [stepR], ?_⟩
          rw [decide_eq_false (hmono hfa)]
          exact ex_env rfl
      · rw [if_neg hd] at hf
        rw [hf, numT, bvA_zero] at h
        have c1 : (b : Int) ≤ (worthN l[pos].toNat : Int) := by omega
        simp (disch := omega) only [kB, kcx, kdm, kdn, kel, aop, resultsL, resultOf, Nat.reduceEqDiff, reduceCtorEq, eq1, apartOK, apart2, AObj.live, Int.reduceEq, Int.reduceLT, Int.reduceLE, Int.reduceAdd, Int.reduceSub, Int.reduceMul, Int.reduceToNat, cutCells, Nat.reduceAdd, Nat.reduceLeDiff, Nat.reduceLT, Nat.reduceMul, Nat.reduceSub, c1]
        exact ⟨_, rfl, ⟨_, rfl⟩, .tup3 (.closed rfl) (.closed rfl) (.closed rfl), h⟩
    · obtain ⟨hh1, -, -⟩ := decode_high hbl (by omega)
      have hw : ∀ c, 128 ≤ c → worthN c = 99 := fun c hc => by unfold worthN; rw [if_neg (by omega), if_neg (by omega)]
      have hr := decode_lt (bs l) pos
      rw [hw _ (by omega), if_neg (by omega)] at hf
      rw [hf, numT, bvA_zero] at h
      have c1 : (b : Int) ≤ ((99 : Nat) : Int) := by omega
      simp (disch := omega) only [kB, kcx, kdm, kdn, kel, aop, resultsL, resultOf, Nat.reduceEqDiff, reduceCtorEq, eq1, apartOK, apart2, AObj.live, Int.reduceEq, Int.reduceLT, Int.reduceLE, Int.reduceAdd, Int.reduceSub, Int.reduceMul, Int.reduceToNat, cutCells, Nat.reduceAdd, Nat.reduceLeDiff, Nat.reduceLT, Nat.reduceMul, Nat.reduceSub, hlt]
      refine worth_s hr ?_
      rw [hw _ hh1]
      simp (disch := omega) only [kB, kcx, kdm, kdn, kel, aop, resultsL, resultOf, Nat.reduceEqDiff, reduceCtorEq, eq1, apartOK, apart2, AObj.live, Int.reduceEq, Int.reduceLT, Int.reduceLE, Int.reduceAdd, Int.reduceSub, Int.reduceMul, Int.reduceToNat, cutCells, Nat.reduceAdd, Nat.reduceLeDiff, Nat.reduceLT, Nat.reduceMul, Nat.reduceSub, c1]
      exact ⟨_, rfl, ⟨_, rfl⟩, .tup3 (.closed rfl) (.closed rfl) (.closed rfl), h⟩
  · have hpl : pos = l.length := by omega
    subst hpl
    rw [List.drop_length, numF] at hf
    rw [hf, numT] at h
    simp (disch := omega) only [kB, kcx, kdm, kdn, kel, aop, resultsL, resultOf, Nat.reduceEqDiff, reduceCtorEq, eq1, apartOK, apart2, AObj.live, Int.reduceEq, Int.reduceLT, Int.reduceLE, Int.reduceAdd, Int.reduceSub, Int.reduceMul, Int.reduceToNat, cutCells, Nat.reduceAdd, Nat.reduceLeDiff, Nat.reduceLT, Nat.reduceMul, Nat.reduceSub, hlt]
    exact ⟨_, rfl, ⟨_, rfl⟩, .tup3 (.closed rfl) (.closed rfl) (.closed rfl), h⟩

set_option maxHeartbeats 4000000 in
theorem number_s {l : List UInt8} {b : Nat} (hb : base3 b) (h : R (.ret (numT (numI b l))) H) : WD T 52 [.string (bs l), .int .u64 (b : Int)] H R := by
  refine WD.gc0 (WD.of follows t52 (by simp) ?_)
  by_cases hn : l = []
  · have hI : numI b l = none := by rw [numI, if_pos (.inl hn)]
    rw [hI, numT, bvA_zero] at h
    have hd : decide (l = []) = true := decide_eq_true hn
    simp (disch := omega) only [kB, kcx, kdm, kdn, kel, aop, resultsL, resultOf, Nat.reduceEqDiff, reduceCtorEq, eq1, apartOK, apart2, AObj.live, Int.reduceEq, Int.reduceLT, Int.reduceLE, Int.reduceAdd, Int.reduceSub, Int.reduceMul, Int.reduceToNat, cutCells, Nat.reduceAdd, Nat.reduceLeDiff, Nat.reduceLT, Nat.reduceMul, Nat.reduceSub, hn, hd]
    exact ⟨_, rfl, ⟨_, rfl⟩, .tup3 (.closed rfl) (.closed rfl) (.closed rfl), h⟩
  · obtain ⟨c0, l0, hl0⟩ : ∃ c l0, l = c :: l0 := by cases l with
      | nil => exact absurd rfl hn
      | cons c l0 => exact ⟨c, l0, rfl⟩
    have hg0 : l[0]? = some c0 := by rw [hl0]; rfl
    have hhead : l.head? = some c0 := by rw [hl0]; rfl
    have c48 : c0 = 48 ↔ ((c0.toNat : Nat) : Int) = 48 := by
      constructor
      · rintro rfl; rfl
      · intro q
        refine UInt8.toNat_inj.1 ?_
        show c0.toNat = 48
        omega
    by_cases hlz : 1 < l.length ∧ c0 = 48
    · have hI : numI b l = none := by rw [numI, if_pos (.inr ⟨hlz.1, by rw [hhead, hlz.2]⟩)]
      rw [hI, numT, bvA_zero] at h
      have h1 : (1 : Int) < (l.length : Int) := by omega
      have h2 := c48.1 hlz.2
      simp (disch := omega) only [kB, kcx, kdm, kdn, kel, aop, resultsL, resultOf, Nat.reduceEqDiff, reduceCtorEq, eq1, apartOK, apart2, AObj.live, Int.reduceEq, Int.reduceLT, Int.reduceLE, Int.reduceAdd, Int.reduceSub, Int.reduceMul, Int.reduceToNat, cutCells, Nat.reduceAdd, Nat.reduceLeDiff, Nat.reduceLT, Nat.reduceMul, Nat.reduceSub, hn, h1, hg0, h2]
      exact ⟨_, rfl, ⟨_, rfl⟩, .tup3 (.closed rfl) (.closed rfl) (.closed rfl), h⟩
    · have hI : numI b l = numF b 0 l := by
        rw [numI, if_neg]
        rintro (q | ⟨q1, q2⟩)
        · exact hn q
        · rw [hhead] at q2
          exact hlz ⟨q1, Option.some.inj q2⟩
      rw [hI] at h
      obtain ⟨Z, hZ⟩ : ∃ Z, Z = WC T (g52.body.at [1, 1]) := ⟨_, rfl⟩
      have hrest : ∀ e, (∃ x : Nat → Value, e = [.string (bs l), .int .u64 (b : Int), x 2, x 3, .pointer (some ⟨H.length, 0, none⟩), x 5, x 6, x 7, x 8, x 9, x 10, x 11, x 12, x 13, x 14, x 15, x 16, x 17, x 18, x 19, x 20, x 21, x 22, x 23, x 24, x 25, x 26, x 27, x 28, x 29, x 30, x 31, x 32, x 33, x 34, x 35, x 36, x 37, x 38, x 39, x 40, x 41, x 42, x 43, x 44, x 45, x 46, x 47, x 48, x 49, x 50, x 51, x 52, x 53, x 54, x 55, x 56, x 57, x 58, x 59, x 60, x 61, x 62, x 63, x 64, x 65, x 66, x 67, x 68, x 69, x 70, x 71, x 72, x 73, x 74, x 75, x 76, x 77, x 78, x 79, x 80]) → Z e (H ++ [.row [.int .u64 0, .int .u64 0] 0 true]) (QN R H) := fun e he => by rw [hZ]; exact num_rest hb he h
      have hZ' := hZ.symm
      clear hZ
      simp only [AFunc.body, g52, ACode.at] at hZ'
      by_cases h1 : 1 < l.length
      · have h1' : (1 : Int) < (l.length : Int) := by omega
        have h2' : ¬ ((c0.toNat : Nat) : Int) = 48 := fun q => hlz ⟨h1, c48.2 q⟩
        simp (disch := omega) only [kB, kcx, kdm, kdn, kel, aop, resultsL, resultOf, Nat.reduceEqDiff, reduceCtorEq, eq1, apartOK, apart2, AObj.live, Int.reduceEq, Int.reduceLT, Int.reduceLE, Int.reduceAdd, Int.reduceSub, Int.reduceMul, Int.reduceToNat, cutCells, Nat.reduceAdd, Nat.reduceLeDiff, Nat.reduceLT, Nat.reduceMul, Nat.reduceSub, hZ', hn, h1', hg0, h2']
        exact hrest _ (by exact ex_env rfl)
      · have h1' : ¬ (1 : Int) < (l.length : Int) := by omega
        simp (disch := omega) only [kB, kcx, kdm, kdn, kel, aop, resultsL, resultOf, Nat.reduceEqDiff, reduceCtorEq, eq1, apartOK, apart2, AObj.live, Int.reduceEq, Int.reduceLT, Int.reduceLE, Int.reduceAdd, Int.reduceSub, Int.reduceMul, Int.reduceToNat, cutCells, Nat.reduceAdd, Nat.reduceLeDiff, Nat.reduceLT, Nat.reduceMul, Nat.reduceSub, hZ', hn, h1']
        exact hrest _ (by exact ex_env rfl)

end Go.Proofs.YtkhkmgcegicmoaaDoor.Ev

/- Where a sign stands; a text cut at a sign, and the library's iterator over its parts. -/
namespace Go.Proofs.YtkhkmgcegicmoaaDoor.Ev
set_option maxRecDepth 100000
set_option linter.unusedSimpArgs false
set_option linter.unusedVariables false
variable {R : FRes → Heap → Prop} {H : Heap}

/-- The first place of a byte. -/
def ixL (c : UInt8) : List UInt8 → Option Nat
  | [] => none
  | b :: l => if b = c then some 0 else (ixL c l).map (· + 1)
def ixI (c : UInt8) (l : List UInt8) : Int := match ixL c l with
  | some i => (i : Int)
  | none => -1
theorem ixL_some {c : UInt8} : ∀ {l : List UInt8} {i : Nat}, ixL c l = some i → l[i]? = some c ∧ ∀ j : Nat, j < i → l[j]? ≠ some c
  | [], i, h => by simp [ixL] at h
  | b :: l, i, h => by
    rw [ixL] at h
    split at h
    · rename_i q; cases h; exact ⟨by simp [q], fun j hj => by omega⟩
    · rename_i q
      rw [Option.map_eq_some_iff] at h
      obtain ⟨k, h1, rfl⟩ := h
      obtain ⟨h2, h3⟩ := ixL_some h1
      refine ⟨by simpa using h2, fun j hj => ?_⟩
      cases j with
      | zero => simpa using q
      | succ j => simpa using h3 j (by omega)
theorem ixL_none {c : UInt8} : ∀ {l : List UInt8}, ixL c l = none → ∀ j : Nat, l[j]? ≠ some c
  | [], h, j => by simp
  | b :: l, h, j => by
    rw [ixL] at h
    split at h
    · cases h
    · rename_i q
      cases j with
      | zero => simpa using q
      | succ j => simpa using ixL_none (by simpa using h) j
theorem firstIdx_ix (c : UInt8) (l : List UInt8) : firstIdx (bs l) c = ixI c l := by
  have hget : ∀ i, ((bs l)[i]! == c) = decide (l[i]? = some c) ∨ ¬ i < l.length := fun i => by
    by_cases hi : i < l.length
    · left
      have e : (bs l)[i]! = l[i] := by
        rw [getElem!_pos (bs l) i (by rw [bs_size]; exact hi)]
        rfl
      rw [e, List.getElem?_eq_getElem hi]
      rw [Bool.eq_iff_iff]
      simp
    · exact .inr hi
  unfold firstIdx ixI
  rw [bs_size]
  cases h : ixL c l with
  | none =>
    have h0 := ixL_none h
    have : (List.range l.length).find? (fun i => (bs l)[i]! == c) = none := by
      rw [List.find?_eq_none]
      intro x hx
      rcases hget x with q | q
      · rw [q]; simpa using h0 x
      · exact absurd (List.mem_range.1 hx) q
    rw [this]
  | some i =>
    obtain ⟨h1, h2⟩ := ixL_some h
    have hi : i < l.length := (List.getElem?_eq_some_iff.1 h1).1
    have : (List.range l.length).find? (fun i => (bs l)[i]! == c) = some i := by
      rw [List.find?_range_eq_some]
      refine ⟨?_, by simpa using hi, fun j hj => ?_⟩
      · rcases hget i with q | q
        · rw [q]; simpa using h1
        · exact absurd hi q
      · rcases hget j with q | q
        · rw [q]; simpa using h2 j hj
        · exact absurd (by omega) q
    rw [this]

/-- The parts of a text between signs. -/
def splitC (c : UInt8) : List UInt8 → List (List UInt8)
  | [] => [[]]
  | b :: l => if b = c then [] :: splitC c l else (b :: (splitC c l).headD []) :: (splitC c l).tail
theorem split_none {c : UInt8} : ∀ {l : List UInt8}, ixL c l = none → splitC c l = [l]
  | [], _ => rfl
  | b :: l, h => by
    rw [ixL] at h
    split at h
    · cases h
    · rename_i q
      rw [splitC, if_neg q, split_none (by simpa using h)]
      rfl
theorem split_some {c : UInt8} : ∀ {l : List UInt8} {i : Nat}, ixL c l = some i → splitC c l = l.take i :: splitC c (l.drop (i + 1))
  | [], i, h => by simp [ixL] at h
  | b :: l, i, h => by
    rw [ixL] at h
    split at h
    · rename_i q; cases h; rw [splitC, if_pos q]; rfl
    · rename_i q
      rw [Option.map_eq_some_iff] at h
      obtain ⟨k, h1, rfl⟩ := h
      rw [splitC, if_neg q, split_some h1]
      rfl

theorem index_s {l : List UInt8} {c : UInt8} (h : R (.ret (.int .i64 (ixI c l))) H) : WD T 88 [.string (bs l), .string (bs [c])] H R := by
  refine WD.of follows t88 (by simp) ?_
  simp (disch := omega) only [kB, kcx, kdm, kdn, kel, aop, resultsL, resultOf, Nat.reduceEqDiff, reduceCtorEq, eq1, apartOK, apart2, AObj.live, Int.reduceEq, Int.reduceLT, Int.reduceLE, Int.reduceAdd, Int.reduceSub, Int.reduceMul, Int.reduceToNat, cutCells, Nat.reduceAdd, Nat.reduceLeDiff, Nat.reduceLT, Nat.reduceMul, Nat.reduceSub]
  refine WD.of follows t90 (by simp) ?_
  have c10 : ¬ ((1 : Nat) : Int) = 0 := by decide
  have c11 : ((1 : Nat) : Int) = 1 := rfl
  by_cases he : [c] = l
  · subst he
    have e : ixI c [c] = 0 := by simp [ixI, ixL]
    rw [e] at h
    simp (disch := omega) only [kB, kcx, kdm, kdn, kel, aop, resultsL, resultOf, Nat.reduceEqDiff, reduceCtorEq, eq1, apartOK, apart2, AObj.live, Int.reduceEq, Int.reduceLT, Int.reduceLE, Int.reduceAdd, Int.reduceSub, Int.reduceMul, Int.reduceToNat, cutCells, Nat.reduceAdd, Nat.reduceLeDiff, Nat.reduceLT, Nat.reduceMul, Nat.reduceSub, c10, c11]
    exact h
  · simp (disch := omega) only [kB, kcx, kdm, kdn, kel, aop, resultsL, resultOf, Nat.reduceEqDiff, reduceCtorEq, eq1, apartOK, apart2, AObj.live, Int.reduceEq, Int.reduceLT, Int.reduceLE, Int.reduceAdd, Int.reduceSub, Int.reduceMul, Int.reduceToNat, cutCells, Nat.reduceAdd, Nat.reduceLeDiff, Nat.reduceLT, Nat.reduceMul, Nat.reduceSub, he, c10, c11]
    refine WD.of follows t91 (by simp) ?_
    simp (disch := omega) only [kB, kcx, kdm, kdn, kel, aop, resultsL, resultOf, Nat.reduceEqDiff, reduceCtorEq, eq1, apartOK, apart2, AObj.live, Int.reduceEq, Int.reduceLT, Int.reduceLE, Int.reduceAdd, Int.reduceSub, Int.reduceMul, Int.reduceToNat, cutCells, Nat.reduceAdd, Nat.reduceLeDiff, Nat.reduceLT, Nat.reduceMul, Nat.reduceSub]
    refine WD.ext table_ok (show Tab 95 = some (.ext ixb) from rfl) (v := .int .i64 (ixI c l)) ?_ ?_
    · simp only [ixb]
      rw [← firstIdx_ix]
      congr 3
      simp
    · simp (disch := omega) only [kB, kcx, kdm, kdn, kel, aop, resultsL, resultOf, Nat.reduceEqDiff, reduceCtorEq, eq1, apartOK, apart2, AObj.live, Int.reduceEq, Int.reduceLT, Int.reduceLE, Int.reduceAdd, Int.reduceSub, Int.reduceMul, Int.reduceToNat, cutCells, Nat.reduceAdd, Nat.reduceLeDiff, Nat.reduceLT, Nat.reduceMul, Nat.reduceSub]
      exact h

/-- What a round must leave. -/
def bodyS (N : Nat) (Q : Post) (e : Env) (I' : Heap → Prop) (p : Nat) (o : AObj) : Post := fun r _ K2 =>
  match r with
  | .norm => I' K2 ∧ N < K2.length ∧ hget K2 p = o
  | .ret => Q .ret e (K2.set N .dead) ∧ N < K2.length
  | .exit id => Q (.exit id) e (K2.set N .dead) ∧ N < K2.length
  | .pan _ => False

set_option maxHeartbeats 2000000 in
theorem split_range {c : UInt8} {l : List UInt8} {p1 p2 p3 : Nat} (g1 : hget H p1 = .row [.string (bs [c])] 0 true) (g2 : hget H p2 = .row [.string (bs l)] 0 true) (g3 : hget H p3 = .row [.int .i64 0] 0 true)
    (hlen : l.length ≤ 4611686018427387904) {ps : List Nat} (hps : ps.length = 1) {cz bd : ACode} {ev : Env} {Q : Post} (I : Nat → Heap → Prop)
    (hI0 : ∀ o, I 0 (H ++ [o])) (hset : ∀ i K o, I i K → I i (K.set H.length o)) (hset2 : ∀ i K t, I i K → I i (K.set p2 (.row [.string (bs t)] 0 true)))
    (hp : ∀ i K, I i K → hget K p1 = .row [.string (bs [c])] 0 true ∧ hget K p3 = .row [.int .i64 0] 0 true)
    (hbody : ∀ i K p, (splitC c l)[i]? = some p → H.length < K.length → I i K → WC T cz (putL ev ps [.string (bs p)]) K (asK T bd (bodyS H.length Q ev (I (i + 1)) p2 (hget K p2))))
    (hQ : ∀ K, I (splitC c l).length K → H.length < K.length → Q .norm ev K) :
    WRange T (.func (.func 86) #[] #[.pointer (some ⟨p1, 0, none⟩), .pointer (some ⟨p2, 0, none⟩), .pointer (some ⟨p3, 0, none⟩)]) ps cz bd ev H Q := by
  have l1 := hget_lt g1 rfl
  have l2 := hget_lt g2 rfl
  have l3 := hget_lt g3 rfl
  refine WRange.of t86 ?_
  obtain ⟨lp, hlp⟩ : ∃ lp, lp = AObj.loop T.P T.G .ready none ev ps cz bd := ⟨_, rfl⟩
  rw [← hlp]
  refine WD.of follows t86 (by simp) ?_
  have round : ∀ (i : Nat) (K : Heap) (p s : List UInt8) (Rr : FRes → Heap → Prop), (splitC c l)[i]? = some p → H.length < K.length → I i K → hget K H.length = lp → hget K p2 = .row [.string (bs s)] 0 true →
      (∀ K2, I (i + 1) K2 → H.length < K2.length → hget K2 H.length = lp → hget K2 p2 = .row [.string (bs s)] 0 true → Rr (.ret (.bool true)) K2) →
      (∀ K2, rangeK H.length ev Q (.ret (.tuple #[])) K2 → Rr (.ret (.bool false)) K2) → WY T H.length [.string (bs p)] K Rr := by
    intro i K p s Rr hpi hK hI hKl hKs ht hf
    subst hlp
    refine WY.of follows hKl (by simp [hps]) ?_
    have hh := hbody i (K.set H.length .dead) p hpi (by simpa using hK) (hset _ _ _ hI)
    rw [hget_ne (show H.length ≠ p2 by omega), hKs] at hh
    refine WC.mono hh ?_
    intro r e2 K2 hK2
    cases r with
    | ret => exact hK2
    | exit id => exact hK2
    | pan v => exact hK2
    | norm =>
    rw [asK_norm] at hK2 ⊢
    refine WC.mono hK2 ?_
    intro r e3 K3 hK3
    cases r with
    | pan v => exact hK3
    | norm =>
      obtain ⟨hI3, l3', hs3⟩ := hK3
      rw [endK_norm]
      exact ht _ (hset _ _ _ hI3) (by simpa using l3') (hget_set' l3') (by rw [hget_ne (show H.length ≠ p2 by omega)]; exact hs3)
    | ret =>
      obtain ⟨hq, l3'⟩ := hK3
      rw [endK_ret]
      refine hf _ (rangeK_of (st := .done) (pe := some none) (by simp) ?_ (hget_set' l3'))
      simpa [List.set_set] using hq
    | exit id =>
      obtain ⟨hq, l3'⟩ := hK3
      rw [endK_exit]
      refine hf _ (rangeK_of (st := .done) (pe := some (some id)) (by simp) ?_ (hget_set' l3'))
      simpa [List.set_set] using hq
  have fin : ∀ K2, I (splitC c l).length K2 → H.length < K2.length → hget K2 H.length = lp → rangeK H.length ev Q (.ret (.tuple #[])) K2 := by
    intro K2 hI hK hKl
    subst hlp
    refine rangeK_of (st := .ready) (pe := none) (by simp) ?_ hKl
    exact hQ _ (hset _ _ _ hI) (by simpa using hK)
  have a1 : hget (H ++ [lp]) p1 = .row [.string (bs [c])] 0 true := by rw [hget_old l1]; exact g1
  simp (disch := omega) only [kB, kcx, kdm, kdn, kel, aop, resultsL, resultOf, Nat.reduceEqDiff, reduceCtorEq, eq1, apartOK, apart2, AObj.live, Int.reduceEq, Int.reduceLT, Int.reduceLE, Int.reduceAdd, Int.reduceSub, Int.reduceMul, Int.reduceToNat, cutCells, Nat.reduceAdd, Nat.reduceLeDiff, Nat.reduceLT, Nat.reduceMul, Nat.reduceSub, a1]
  refine WLoop.inv (fun z e K => ∃ (i : Nat) (s : List UInt8), z = s.length ∧ s.length ≤ l.length ∧ (splitC c l).drop i = splitC c s ∧ I i K ∧ H.length < K.length ∧ hget K H.length = lp ∧ hget K p2 = .row [.string (bs s)] 0 true ∧
    (∃ x : Nat → Value, e = [.func (.yield H.length) #[] #[], .pointer (some ⟨p1, 0, none⟩), .pointer (some ⟨p2, 0, none⟩), .pointer (some ⟨p3, 0, none⟩), x 4, x 5, x 6, x 7, x 8, x 9, x 10, x 11, x 12, x 13, x 14, x 15, x 16, x 17, x 18, x 19, x 20, x 21, x 22, x 23, x 24, x 25, x 26, x 27, x 28, x 29, x 30, x 31, x 32, x 33, x 34, x 35, x 36, x 37, x 38, x 39, x 40, x 41, x 42, x 43, x 44, x 45, x 46, x 47, x 48, x 49, x 50, x 51])) ?_ l.length _ _ ⟨0, l, rfl, Nat.le_refl _, rfl, hI0 lp, by simp, hget_last _ _, by rw [hget_old l2]; exact g2, by exact ex_env rfl⟩
  rintro z e K ⟨i, s, rfl, hsl, hdrop, hI, hK, hKl, hKs, ⟨x, rfl⟩⟩
  obtain ⟨b1, b3⟩ := hp i K hI
  have q1 := hget_lt b1 rfl
  have q2 := hget_lt hKs rfl
  have q3 := hget_lt b3 rfl
  cases hix : ixL c s with
  | none =>
    have e0 : ixI c s = -1 := by rw [ixI, hix]
    rw [split_none hix] at hdrop
    have hi : i < (splitC c l).length := by
      rcases Nat.lt_or_ge i (splitC c l).length with q | q
      · exact q
      · rw [List.drop_eq_nil_of_le q] at hdrop; cases hdrop
    have hgi : (splitC c l)[i]? = some s := by
      have := congrArg List.head? hdrop
      simpa [List.head?_drop] using this
    have hlast : (splitC c l).length = i + 1 := by
      have := congrArg List.length hdrop
      simp at this
      omega
    have cm : (-1 : Int) < 0 := by decide
    simp (disch := omega) only [kB, kcx, kdm, kdn, kel, aop, resultsL, resultOf, Nat.reduceEqDiff, reduceCtorEq, eq1, apartOK, apart2, AObj.live, Int.reduceEq, Int.reduceLT, Int.reduceLE, Int.reduceAdd, Int.reduceSub, Int.reduceMul, Int.reduceToNat, cutCells, Nat.reduceAdd, Nat.reduceLeDiff, Nat.reduceLT, Nat.reduceMul, Nat.reduceSub, b1, b3, hKs]
    refine index_s ?_
    rw [e0]
    simp (disch := omega) only [kB, kcx, kdm, kdn, kel, aop, resultsL, resultOf, Nat.reduceEqDiff, reduceCtorEq, eq1, apartOK, apart2, AObj.live, Int.reduceEq, Int.reduceLT, Int.reduceLE, Int.reduceAdd, Int.reduceSub, Int.reduceMul, Int.reduceToNat, cutCells, Nat.reduceAdd, Nat.reduceLeDiff, Nat.reduceLT, Nat.reduceMul, Nat.reduceSub, cm, b1, b3, hKs]
    refine round i K s s _ hgi hK hI hKl hKs (fun K2 h1 h2 h3 h4 => ?_) (fun K2 h1 => ?_)
    · simp (disch := omega) only [kB, kcx, kdm, kdn, kel, aop, resultsL, resultOf, Nat.reduceEqDiff, reduceCtorEq, eq1, apartOK, apart2, AObj.live, Int.reduceEq, Int.reduceLT, Int.reduceLE, Int.reduceAdd, Int.reduceSub, Int.reduceMul, Int.reduceToNat, cutCells, Nat.reduceAdd, Nat.reduceLeDiff, Nat.reduceLT, Nat.reduceMul, Nat.reduceSub]
      exact fin K2 (by rw [hlast]; exact h1) h2 h3
    · simp (disch := omega) only [kB, kcx, kdm, kdn, kel, aop, resultsL, resultOf, Nat.reduceEqDiff, reduceCtorEq, eq1, apartOK, apart2, AObj.live, Int.reduceEq, Int.reduceLT, Int.reduceLE, Int.reduceAdd, Int.reduceSub, Int.reduceMul, Int.reduceToNat, cutCells, Nat.reduceAdd, Nat.reduceLeDiff, Nat.reduceLT, Nat.reduceMul, Nat.reduceSub]
      exact h1
  | some j =>
    have e0 : ixI c s = (j : Int) := by rw [ixI, hix]
    obtain ⟨hj1, hj2⟩ := ixL_some hix
    have hj : j < s.length := (List.getElem?_eq_some_iff.1 hj1).1
    rw [split_some hix] at hdrop
    have hgi : (splitC c l)[i]? = some (s.take j) := by
      have := congrArg List.head? hdrop
      simpa [List.head?_drop] using this
    have hnext : (splitC c l).drop (i + 1) = splitC c (s.drop (j + 1)) := by
      have := congrArg List.tail hdrop
      simpa [List.tail_drop] using this
    have cj : ¬ (j : Int) < 0 := by omega
    have ej : (j : Int) + 0 = (j : Int) := by omega
    have ej1 : (j : Int) + ((1 : Nat) : Int) = ((j + 1 : Nat) : Int) := by omega
    simp (disch := omega) only [kB, kcx, kdm, kdn, kel, aop, resultsL, resultOf, Nat.reduceEqDiff, reduceCtorEq, eq1, apartOK, apart2, AObj.live, Int.reduceEq, Int.reduceLT, Int.reduceLE, Int.reduceAdd, Int.reduceSub, Int.reduceMul, Int.reduceToNat, cutCells, Nat.reduceAdd, Nat.reduceLeDiff, Nat.reduceLT, Nat.reduceMul, Nat.reduceSub, b1, b3, hKs]
    refine index_s ?_
    rw [e0]
    simp (disch := omega) only [kB, kcx, kdm, kdn, kel, aop, resultsL, resultOf, Nat.reduceEqDiff, reduceCtorEq, eq1, apartOK, apart2, AObj.live, Int.reduceEq, Int.reduceLT, Int.reduceLE, Int.reduceAdd, Int.reduceSub, Int.reduceMul, Int.reduceToNat, cutCells, Nat.reduceAdd, Nat.reduceLeDiff, Nat.reduceLT, Nat.reduceMul, Nat.reduceSub, cj, b1, b3, hKs, ej, wr_i64]
    refine round i K (s.take j) s _ hgi hK hI hKl hKs (fun K2 h1 h2 h3 h4 => ?_) (fun K2 h1 => ?_)
    · obtain ⟨d1, d3⟩ := hp _ K2 h1
      have r2 := hget_lt h4 rfl
      simp (disch := omega) only [kB, kcx, kdm, kdn, kel, aop, resultsL, resultOf, Nat.reduceEqDiff, reduceCtorEq, eq1, apartOK, apart2, AObj.live, Int.reduceEq, Int.reduceLT, Int.reduceLE, Int.reduceAdd, Int.reduceSub, Int.reduceMul, Int.reduceToNat, cutCells, Nat.reduceAdd, Nat.reduceLeDiff, Nat.reduceLT, Nat.reduceMul, Nat.reduceSub, h4, d1, ej1, wr_i64]
      exact ⟨(s.drop (j + 1)).length, by simp; omega, i + 1, s.drop (j + 1), rfl, by simp; omega, hnext, hset2 _ _ _ h1, h2, by rw [hget_ne (show p2 ≠ H.length by omega)]; exact h3, rfl, by exact ex_env rfl⟩
    · simp (disch := omega) only [kB, kcx, kdm, kdn, kel, aop, resultsL, resultOf, Nat.reduceEqDiff, reduceCtorEq, eq1, apartOK, apart2, AObj.live, Int.reduceEq, Int.reduceLT, Int.reduceLE, Int.reduceAdd, Int.reduceSub, Int.reduceMul, Int.reduceToNat, cutCells, Nat.reduceAdd, Nat.reduceLeDiff, Nat.reduceLT, Nat.reduceMul, Nat.reduceSub]
      exact h1

end Go.Proofs.YtkhkmgcegicmoaaDoor.Ev

/- Numbers between signs, as bytes: the program's pieces. -/
namespace Go.Proofs.YtkhkmgcegicmoaaDoor.Ev
set_option maxRecDepth 100000
set_option linter.unusedSimpArgs false
set_option linter.unusedVariables false
variable {R : FRes → Heap → Prop} {H : Heap}

theorem numF_lt {b : Nat} (hb : 0 < b) : ∀ (l : List UInt8) (a v : Nat), numF b a l = some v → v + 1 ≤ (a + 1) * b ^ l.length
  | [], a, v, h => by rw [numF] at h; cases h; simp
  | c :: l, a, v, h => by
    rw [numF] at h
    split at h
    · rename_i hd
      have := numF_lt hb l _ v h
      rw [List.length_cons, Nat.pow_succ]
      refine Nat.le_trans this ?_
      rw [Nat.mul_comm (b ^ l.length) b, ← Nat.mul_assoc]
      refine Nat.mul_le_mul_right _ ?_
      rw [Nat.add_mul]
      omega
    · cases h
theorem numI_lt {b : Nat} (hb : 0 < b) {l : List UInt8} {v : Nat} (h : numI b l = some v) : v < b ^ l.length := by
  rw [numI] at h
  split at h
  · cases h
  · have := numF_lt hb l 0 v h
    omega

/-- The text of a part that is read. -/
def pcQ (b : Nat) (p : List UInt8) : List UInt8 := if b = 16 then 49 :: p else p
/-- A part as a byte. -/
def pc (b : Nat) (p : List UInt8) : Option UInt8 :=
  if b = 16 ∧ p.length ≠ 2 then none else
  match numI b (pcQ b p) with
  | some v => if (pcQ b p).length ≤ 3 ∧ ¬ (b = 10 ∧ 255 < v) then some (UInt8.ofNat v) else none
  | none => none
/-- The bytes of a text's parts. -/
def pcsO (b : Nat) (c : UInt8) (most : Nat) (l : List UInt8) : Option (List UInt8) :=
  match (splitC c l).mapM (pc b) with
  | some out => if out.length = most then some out else none
  | none => none

/-- The body of a range. -/
def rngBody : ACode → ACode
  | .range _ _ _ bd => bd
  | c => c

theorem bodyS_norm (N : Nat) (Q : Post) (e : Env) (I' : Heap → Prop) (p : Nat) (o : AObj) (e2 : Env) (K2 : Heap) : bodyS N Q e I' p o .norm e2 K2 = (I' K2 ∧ N < K2.length ∧ hget K2 p = o) := rfl
theorem bodyS_ret (N : Nat) (Q : Post) (e : Env) (I' : Heap → Prop) (p : Nat) (o : AObj) (e2 : Env) (K2 : Heap) : bodyS N Q e I' p o .ret e2 K2 = (Q .ret e (K2.set N .dead) ∧ N < K2.length) := rfl

theorem set_same {H : Heap} {b : Nat} {o : AObj} (h : hget H b = o) : H.set b o = H := by
  refine List.ext_getElem? fun i => ?_
  by_cases hi : b = i
  · subst hi
    by_cases hb : b < H.length
    · rw [List.getElem?_set_self hb, ← h]
      simp [hget, hb]
    · rw [List.getElem?_eq_none (by simpa using hb), List.getElem?_eq_none (by simpa using hb)]
  · rw [List.getElem?_set_ne hi]

set_option maxHeartbeats 2000000 in
theorem pcs_tail {b most n0 : Nat} (hb : b = 10 ∨ b = 16) {q : List UInt8} {K : Heap} {sv : Value} {out : List UInt8} {Q : Post} (hm : out.length < 100) (hn : n0 + 9 ≤ K.length)
    (h6 : hget K n0 = .row [.int .u64 (b : Int)] 0 true) (h7 : hget K (n0 + 1) = .row [.int .i64 (most : Int)] 0 true) (h8 : hget K (n0 + 2) = .row [.string (bs [])] 0 true) (h9 : hget K (n0 + 3) = .row [.bool false] 0 true)
    (h10 : hget K (n0 + 4) = .row [sv] 0 true) (hB : BL (n0 + 9) K sv out)
    {e : Env} (he : (∃ x : Nat → Value, e = [x 0, x 1, x 2, x 3, x 4, x 5, .pointer (some ⟨n0, 0, none⟩), .pointer (some ⟨n0 + 1, 0, none⟩), .pointer (some ⟨n0 + 2, 0, none⟩), .pointer (some ⟨n0 + 3, 0, none⟩), .pointer (some ⟨n0 + 4, 0, none⟩), .string (bs q), x 12, x 13, x 14, x 15, x 16, x 17, x 18, x 19, x 20, x 21, x 22, x 23, x 24, x 25, x 26, x 27, x 28, x 29, x 30, x 31, x 32, x 33, x 34, x 35, x 36, x 37, x 38, x 39, x 40, x 41, x 42, x 43, x 44, x 45, x 46, x 47, x 48, x 49, x 50, x 51, x 52, x 53, x 54, x 55, x 56, x 57, x 58, x 59, x 60, x 61, x 62, x 63, x 64, x 65, x 66]))
    (hF : (∀ v, numI b q = some v → q.length ≤ 3 → ¬ (b = 10 ∧ 255 < v) → out.length = most) → ∀ e' K', KP (n0 + 9) K K' → Q .ret e' K')
    (hS : ∀ v, numI b q = some v → q.length ≤ 3 → ¬ (b = 10 ∧ 255 < v) → out.length ≠ most → ∀ e' K' sv', n0 + 9 ≤ K'.length → (∀ c, c < n0 + 9 → c ≠ n0 + 4 → hget K' c = hget K c) → hget K' (n0 + 4) = .row [sv'] 0 true → BL (n0 + 9) K' sv' (out ++ [UInt8.ofNat v]) → Q .norm e' K') :
    WC T ((rngBody (g53.body.at [1, 1, 0, 1, 0])).at [0, 1]) e K Q := by
  obtain ⟨x, rfl⟩ := he
  have hb3 : base3 b := by rcases hb with rfl | rfl <;> simp [base3]
  simp only [AFunc.body, g53, ACode.at, rngBody]
  simp (disch := omega) only [kB, kcx, kdm, kdn, kel, aop, resultsL, resultOf, Nat.reduceEqDiff, reduceCtorEq, eq1, apartOK, apart2, AObj.live, Int.reduceEq, Int.reduceLT, Int.reduceLE, Int.reduceAdd, Int.reduceSub, Int.reduceMul, Int.reduceToNat, cutCells, Nat.reduceAdd, Nat.reduceLeDiff, Nat.reduceLT, Nat.reduceMul, Nat.reduceSub, h6]
  refine number_s hb3 ?_
  have s8 := set_same h8
  have s9 := set_same h9
  have lB : out.length + 1 ≤ roomMax := by simp only [roomMax]; omega
  cases hv : numI b q with
  | none =>
    rw [numT]
    have hF' := hF (fun v h => by rw [hv] at h; cases h)
    simp (disch := omega) only [kB, kcx, kdm, kdn, kel, aop, resultsL, resultOf, Nat.reduceEqDiff, reduceCtorEq, eq1, apartOK, apart2, AObj.live, Int.reduceEq, Int.reduceLT, Int.reduceLE, Int.reduceAdd, Int.reduceSub, Int.reduceMul, Int.reduceToNat, cutCells, Nat.reduceAdd, Nat.reduceLeDiff, Nat.reduceLT, Nat.reduceMul, Nat.reduceSub, h8, h9, s8, s9]
    exact hF' _ _ (KP.app (by omega))
  | some v =>
    rw [numT]
    by_cases hq : q.length ≤ 3
    · have hq' : ¬ (3 : Int) < (q.length : Int) := by omega
      have hv3 : v < 4096 := by
        have h1 := numI_lt (by rcases hb with rfl | rfl <;> omega) hv
        refine Nat.lt_of_lt_of_le h1 ?_
        refine Nat.le_trans (Nat.pow_le_pow_right (by rcases hb with rfl | rfl <;> omega) hq) ?_
        rcases hb with rfl | rfl <;> decide
      have e1 : v % 2 ^ 128 = v := Nat.mod_eq_of_lt (by omega)
      have e2 : v % W64 = v := by rw [W64_eq]; omega
      rw [e1]
      have good : ¬ (b = 10 ∧ 255 < v) → out.length ≠ most → ∃ sv' K', appendV (K ++ [.row [.int .u64 ((v / W64 : Nat) : Int), .int .u64 (v : Int)] 0 true, .row [.int .u8 ((UInt8.ofNat v).toNat : Int)] 1 true]) 1 1 sv (.slice (some ⟨K.length + 1, 0, none⟩) 1 1) = .val sv' K' ∧ BL (n0 + 9) K' sv' (out ++ [UInt8.ofNat v]) ∧ KP (n0 + 9) K K' := by
        intro _ _
        obtain ⟨sv', K', a1, a2, a3⟩ := (hB.app (G := [.row [.int .u64 ((v / W64 : Nat) : Int), .int .u64 (v : Int)] 0 true])).push (by simp; omega) (UInt8.ofNat v) lB
        refine ⟨sv', K', ?_, a2, (KP.app (by omega)).trans a3⟩
        rw [← a1]
        simp [u8c]
      obtain ⟨ad, rfl⟩ := hB.lenV
      have w8 : IntKind.u8.wrap ((v : Nat) : Int) = ((UInt8.ofNat v).toNat : Int) := by
        have := wrap_byte v
        rwa [e2] at this
      have hmost : ((out.length : Nat) : Int) = (most : Int) ↔ out.length = most := by omega
      rcases hb with rfl | rfl
      · have c10 : ((10 : Nat) : Int) = 10 := rfl
        by_cases h255 : 255 < v
        · have h255' : (255 : Int) < (v : Int) := by omega
          have hF' := hF (fun w h _ h3 => by rw [hv] at h; cases h; exact absurd ⟨rfl, h255⟩ h3)
          simp (disch := omega) only [kB, kcx, kdm, kdn, kel, aop, resultsL, resultOf, Nat.reduceEqDiff, reduceCtorEq, eq1, apartOK, apart2, AObj.live, Int.reduceEq, Int.reduceLT, Int.reduceLE, Int.reduceAdd, Int.reduceSub, Int.reduceMul, Int.reduceToNat, cutCells, Nat.reduceAdd, Nat.reduceLeDiff, Nat.reduceLT, Nat.reduceMul, Nat.reduceSub, h6, h8, h9, s8, s9, hq', c10, e2, h255']
          exact hF' _ _ (KP.app (by omega))
        · have h255' : ¬ (255 : Int) < (v : Int) := by omega
          by_cases hmo : out.length = most
          · have hmo' := hmost.2 hmo
            have hF' := hF (fun w h _ h3 => hmo)
            simp (disch := omega) only [kB, kcx, kdm, kdn, kel, aop, resultsL, resultOf, Nat.reduceEqDiff, reduceCtorEq, eq1, apartOK, apart2, AObj.live, Int.reduceEq, Int.reduceLT, Int.reduceLE, Int.reduceAdd, Int.reduceSub, Int.reduceMul, Int.reduceToNat, cutCells, Nat.reduceAdd, Nat.reduceLeDiff, Nat.reduceLT, Nat.reduceMul, Nat.reduceSub, h6, h7, h8, h9, h10, s8, s9, hq', c10, e2, h255', hmo']
            exact hF' _ _ (KP.app (by omega))
          · have hmo' : ¬ ((out.length : Nat) : Int) = (most : Int) := fun h => hmo (hmost.1 h)
            obtain ⟨sv', K', a1, a2, a3⟩ := good (fun h => h255 h.2) hmo
            have hS' := hS v hv hq (fun h => h255 h.2) hmo
            obtain ⟨ad', rfl⟩ := a2.lenV
            rw [show (out ++ [UInt8.ofNat v]).length = out.length + 1 by simp] at a1 a2
            have k10 : hget K' (n0 + 4) = .row [.slice ad out.length out.length] 0 true := by rw [a3.2 _ (by omega), h10]
            have lk10 := hget_lt k10 rfl
            simp (disch := omega) only [kB, kcx, kdm, kdn, kel, aop, resultsL, resultOf, Nat.reduceEqDiff, reduceCtorEq, eq1, apartOK, apart2, AObj.live, Int.reduceEq, Int.reduceLT, Int.reduceLE, Int.reduceAdd, Int.reduceSub, Int.reduceMul, Int.reduceToNat, cutCells, Nat.reduceAdd, Nat.reduceLeDiff, Nat.reduceLT, Nat.reduceMul, Nat.reduceSub, h6, h7, h8, h9, h10, hq', c10, e2, h255', hmo', w8, a1, k10]
            exact hS' _ _ _ (by simpa using a3.1) (fun c h1 h2 => by rw [hget_ne (Ne.symm h2)]; exact a3.2 c h1) (hget_set' lk10) (a2.same fun c h1 h2 => hget_ne (show n0 + 4 ≠ c by omega))
      · have c16 : ¬ ((16 : Nat) : Int) = 10 := by decide
        by_cases hmo : out.length = most
        · have hmo' := hmost.2 hmo
          have hF' := hF (fun w h _ h3 => hmo)
          simp (disch := omega) only [kB, kcx, kdm, kdn, kel, aop, resultsL, resultOf, Nat.reduceEqDiff, reduceCtorEq, eq1, apartOK, apart2, AObj.live, Int.reduceEq, Int.reduceLT, Int.reduceLE, Int.reduceAdd, Int.reduceSub, Int.reduceMul, Int.reduceToNat, cutCells, Nat.reduceAdd, Nat.reduceLeDiff, Nat.reduceLT, Nat.reduceMul, Nat.reduceSub, h6, h7, h8, h9, h10, s8, s9, hq', c16, e2, hmo']
          exact hF' _ _ (KP.app (by omega))
        · have hmo' : ¬ ((out.length : Nat) : Int) = (most : Int) := fun h => hmo (hmost.1 h)
          obtain ⟨sv', K', a1, a2, a3⟩ := good (fun h => by simp at h) hmo
          have hS' := hS v hv hq (fun h => by simp at h) hmo
          obtain ⟨ad', rfl⟩ := a2.lenV
          rw [show (out ++ [UInt8.ofNat v]).length = out.length + 1 by simp] at a1 a2
          have k10 : hget K' (n0 + 4) = .row [.slice ad out.length out.length] 0 true := by rw [a3.2 _ (by omega), h10]
          have lk10 := hget_lt k10 rfl
          simp (disch := omega) only [kB, kcx, kdm, kdn, kel, aop, resultsL, resultOf, Nat.reduceEqDiff, reduceCtorEq, eq1, apartOK, apart2, AObj.live, Int.reduceEq, Int.reduceLT, Int.reduceLE, Int.reduceAdd, Int.reduceSub, Int.reduceMul, Int.reduceToNat, cutCells, Nat.reduceAdd, Nat.reduceLeDiff, Nat.reduceLT, Nat.reduceMul, Nat.reduceSub, h6, h7, h8, h9, h10, hq', c16, e2, hmo', w8, a1, k10]
          exact hS' _ _ _ (by simpa using a3.1) (fun c h1 h2 => by rw [hget_ne (Ne.symm h2)]; exact a3.2 c h1) (hget_set' lk10) (a2.same fun c h1 h2 => hget_ne (show n0 + 4 ≠ c by omega))
    · have hq' : (3 : Int) < (q.length : Int) := by omega
      have hF' := hF (fun v h h3 => absurd h3 hq)
      simp (disch := omega) only [kB, kcx, kdm, kdn, kel, aop, resultsL, resultOf, Nat.reduceEqDiff, reduceCtorEq, eq1, apartOK, apart2, AObj.live, Int.reduceEq, Int.reduceLT, Int.reduceLE, Int.reduceAdd, Int.reduceSub, Int.reduceMul, Int.reduceToNat, cutCells, Nat.reduceAdd, Nat.reduceLeDiff, Nat.reduceLT, Nat.reduceMul, Nat.reduceSub, h8, h9, s8, s9, hq']
      exact hF' _ _ (KP.app (by omega))

end Go.Proofs.YtkhkmgcegicmoaaDoor.Ev

/- Numbers between signs: pieces. -/
namespace Go.Proofs.YtkhkmgcegicmoaaDoor.Ev
set_option maxRecDepth 100000
set_option linter.unusedSimpArgs false
set_option linter.unusedVariables false
variable {R : FRes → Heap → Prop} {H : Heap}

theorem split_s {l : List UInt8} {c : UInt8} (h : R (.ret (.func (.func 86) #[] #[.pointer (some ⟨H.length + 1, 0, none⟩), .pointer (some ⟨H.length, 0, none⟩), .pointer (some ⟨H.length + 2, 0, none⟩)])) (H ++ [.row [.string (bs l)] 0 true, .row [.string (bs [c])] 0 true, .row [.int .i64 0] 0 true])) :
    WD T 74 [.string (bs l), .string (bs [c])] H R := by
  refine WD.of follows t74 (by simp) ?_
  simp (disch := omega) only [kB, kcx, kdm, kdn, kel, aop, resultsL, resultOf, Nat.reduceEqDiff, reduceCtorEq, eq1, apartOK, apart2, AObj.live, Int.reduceEq, Int.reduceLT, Int.reduceLE, Int.reduceAdd, Int.reduceSub, Int.reduceMul, Int.reduceToNat, cutCells, Nat.reduceAdd, Nat.reduceLeDiff, Nat.reduceLT, Nat.reduceMul, Nat.reduceSub]
  refine WD.of follows t83 (by simp) ?_
  simp (disch := omega) only [kB, kcx, kdm, kdn, kel, aop, resultsL, resultOf, Nat.reduceEqDiff, reduceCtorEq, eq1, apartOK, apart2, AObj.live, Int.reduceEq, Int.reduceLT, Int.reduceLE, Int.reduceAdd, Int.reduceSub, Int.reduceMul, Int.reduceToNat, cutCells, Nat.reduceAdd, Nat.reduceLeDiff, Nat.reduceLT, Nat.reduceMul, Nat.reduceSub]
  exact h

/-- While the parts are read. -/
structure PI (H : Heap) (b : Nat) (c : UInt8) (most : Nat) (l : List UInt8) (i : Nat) (K : Heap) : Prop where
  len : H.length + 8 ≤ K.length
  old : ∀ d, d < H.length → hget K d = hget H d
  h6 : hget K H.length = .row [.int .u64 (b : Int)] 0 true
  h7 : hget K (H.length + 1) = .row [.int .i64 (most : Int)] 0 true
  h8 : hget K (H.length + 2) = .row [.string (bs [])] 0 true
  h9 : hget K (H.length + 3) = .row [.bool false] 0 true
  sep : hget K (H.length + 6) = .row [.string (bs [c])] 0 true
  nul : hget K (H.length + 7) = .row [.int .i64 0] 0 true
  out : ∃ sv out, hget K (H.length + 4) = .row [sv] 0 true ∧ BL (H.length + 9) K sv out ∧ out.length = i ∧ i ≤ most ∧ ((splitC c l).take i).mapM (pc b) = some out

theorem PI.set {H K : Heap} {b most : Nat} {c : UInt8} {l : List UInt8} {i d : Nat} {o : AObj} (h : PI H b c most l i K) (hd : d = H.length + 5 ∨ d = H.length + 8) : PI H b c most l i (K.set d o) := by
  obtain ⟨a1, a2, a3, a4, a5, a6, a7, a8, sv, out, a9, a10, a11, a12, a13⟩ := h
  have ne : ∀ x, x ≠ d → hget (K.set d o) x = hget K x := fun x hx => hget_ne (Ne.symm hx)
  exact ⟨by simpa using a1, fun x hx => by rw [ne _ (by omega)]; exact a2 x hx, by rw [ne _ (by omega)]; exact a3, by rw [ne _ (by omega)]; exact a4, by rw [ne _ (by omega)]; exact a5, by rw [ne _ (by omega)]; exact a6, by rw [ne _ (by omega)]; exact a7, by rw [ne _ (by omega)]; exact a8,
    sv, out, by rw [ne _ (by omega)]; exact a9, a10.same fun x h1 h2 => ne _ (by omega), a11, a12, a13⟩

theorem mapM_take {α β : Type} {f : α → Option β} : ∀ {l : List α} {i : Nat} {xs : List β} {a : α} {y : β}, (l.take i).mapM f = some xs → l[i]? = some a → f a = some y → (l.take (i + 1)).mapM f = some (xs ++ [y])
  | [], i, xs, a, y, h1, h2, h3 => by simp at h2
  | x :: l, 0, xs, a, y, h1, h2, h3 => by
    simp at h1 h2
    subst h1; subst h2
    simp [h3]
  | x :: l, i + 1, xs, a, y, h1, h2, h3 => by
    simp only [List.take_succ_cons, List.mapM_cons, Option.bind_eq_bind, Option.bind_eq_some_iff, Option.pure_def, Option.some.injEq] at h1 ⊢
    obtain ⟨z, hz, zs, hzs, rfl⟩ := h1
    exact ⟨z, hz, zs ++ [y], mapM_take hzs (by simpa using h2) h3, rfl⟩
theorem mapM_none {α β : Type} {f : α → Option β} : ∀ {l : List α} {i : Nat} {a : α}, l[i]? = some a → f a = none → l.mapM f = none
  | [], i, a, h2, h3 => by simp at h2
  | x :: l, 0, a, h2, h3 => by
    simp at h2
    subst h2
    simp [h3]
  | x :: l, i + 1, a, h2, h3 => by
    have := mapM_none (l := l) (i := i) (by simpa using h2) h3
    simp only [List.mapM_cons, this]
    cases f x <;> rfl
theorem mapM_len {α β : Type} {f : α → Option β} : ∀ {l : List α} {xs : List β}, l.mapM f = some xs → xs.length = l.length
  | [], xs, h => by simp at h; subst h; rfl
  | x :: l, xs, h => by
    simp only [List.mapM_cons, Option.bind_eq_bind, Option.bind_eq_some_iff, Option.pure_def, Option.some.injEq] at h
    obtain ⟨z, hz, zs, hzs, rfl⟩ := h
    simp [mapM_len hzs]

theorem wrange_gen {v : Value} {ps : List Nat} {cz bd : ACode} {ev : Env} {K : Heap} {Q : Post} (h : ∀ Q' ev', Q' = Q → ev' = ev → WRange T v ps cz bd ev' K Q') : WRange T v ps cz bd ev K Q := h _ _ rfl rfl

set_option maxHeartbeats 4000000 in
theorem pieces_s {b most : Nat} {c : UInt8} {l : List UInt8} (hb : b = 10 ∨ b = 16) (hm : most < 100) (hl : l.length ≤ 4611686018427387904)
    (h1 : ∀ out, pcsO b c most l = some out → R (.ret (.tuple #[.string (bs out), .bool true])) H)
    (h2 : pcsO b c most l = none → ∀ t, R (.ret (.tuple #[.string (bs t), .bool false])) H) : WD T 53 [.string (bs l), .string (bs [c]), .int .u64 (b : Int), .int .i64 (most : Int)] H R := by
  refine WD.gc0 (WD.of follows t53 (by simp) ?_)
  simp (disch := omega) only [kB, kcx, kdm, kdn, kel, aop, resultsL, resultOf, Nat.reduceEqDiff, reduceCtorEq, eq1, apartOK, apart2, AObj.live, Int.reduceEq, Int.reduceLT, Int.reduceLE, Int.reduceAdd, Int.reduceSub, Int.reduceMul, Int.reduceToNat, cutCells, Nat.reduceAdd, Nat.reduceLeDiff, Nat.reduceLT, Nat.reduceMul, Nat.reduceSub]
  refine split_s ?_
  simp (disch := omega) only [kB, kcx, kdm, kdn, kel, aop, resultsL, resultOf, Nat.reduceEqDiff, reduceCtorEq, eq1, apartOK, apart2, AObj.live, Int.reduceEq, Int.reduceLT, Int.reduceLE, Int.reduceAdd, Int.reduceSub, Int.reduceMul, Int.reduceToNat, cutCells, Nat.reduceAdd, Nat.reduceLeDiff, Nat.reduceLT, Nat.reduceMul, Nat.reduceSub]
  obtain ⟨HH, hHH⟩ : ∃ HH, HH = H ++ [.row [.int .u64 (b : Int)] 0 true, .row [.int .i64 (most : Int)] 0 true, .row [.string (bs [])] 0 true, .row [.bool false] 0 true, .row [.slice none 0 0] 0 true, .row [.string (bs l)] 0 true, .row [.string (bs [c])] 0 true, .row [.int .i64 0] 0 true] := ⟨_, rfl⟩
  have lHH : HH.length = H.length + 8 := by rw [hHH]; simp
  rw [← hHH]
  refine wrange_gen fun Q ev hQ hev => ?_
  have hret : pcsO b c most l = none → ∀ K', H.length + 9 ≤ K'.length → (∀ d, d < H.length → hget K' d = hget H d) → hget K' (H.length + 2) = .row [.string (bs [])] 0 true → hget K' (H.length + 3) = .row [.bool false] 0 true → Q .ret ev (K'.set HH.length .dead) := by
    intro hno K' k1 k2 k8 k9
    obtain ⟨K2, hK2⟩ : ∃ K2, K2 = K'.set HH.length .dead := ⟨_, rfl⟩
    have l2 : H.length + 9 ≤ K2.length := by rw [hK2]; simpa using k1
    have g8 : hget K2 (H.length + 2) = .row [.string (bs [])] 0 true := by rw [hK2, hget_ne (by omega)]; exact k8
    have g9 : hget K2 (H.length + 3) = .row [.bool false] 0 true := by rw [hK2, hget_ne (by omega)]; exact k9
    have hKP : KP H.length H K2 := ⟨by omega, fun d hd => by rw [hK2, hget_ne (by omega)]; exact k2 d hd⟩
    rw [← hK2]
    subst hQ
    subst hev
    simp (disch := omega) only [kB, kcx, kdm, kdn, kel, aop, resultsL, resultOf, Nat.reduceEqDiff, reduceCtorEq, eq1, apartOK, apart2, AObj.live, Int.reduceEq, Int.reduceLT, Int.reduceLE, Int.reduceAdd, Int.reduceSub, Int.reduceMul, Int.reduceToNat, cutCells, Nat.reduceAdd, Nat.reduceLeDiff, Nat.reduceLT, Nat.reduceMul, Nat.reduceSub, g8, g9]
    exact ⟨_, rfl, hKP.ext, .tup2 (.closed rfl) (.closed rfl), h2 hno _⟩
  refine split_range (H := HH) (c := c) (l := l) (p1 := H.length + 6) (p2 := H.length + 5) (p3 := H.length + 7) (by rw [hHH, hget_base]; rfl) (by rw [hHH, hget_base]; rfl) (by rw [hHH, hget_base]; rfl) hl rfl (PI H b c most l) ?_ ?_ ?_ ?_ ?_ ?_
  · intro o
    subst hHH
    have g : ∀ k, k < 8 → hget (H ++ [.row [.int .u64 (b : Int)] 0 true, .row [.int .i64 (most : Int)] 0 true, .row [.string (bs [])] 0 true, .row [.bool false] 0 true, .row [.slice none 0 0] 0 true, .row [.string (bs l)] 0 true, .row [.string (bs [c])] 0 true, .row [.int .i64 0] 0 true] ++ [o]) (H.length + k) = hget [.row [.int .u64 (b : Int)] 0 true, .row [.int .i64 (most : Int)] 0 true, .row [.string (bs [])] 0 true, .row [.bool false] 0 true, .row [.slice none 0 0] 0 true, .row [.string (bs l)] 0 true, .row [.string (bs [c])] 0 true, .row [.int .i64 0] 0 true] k := fun k hk => by
      rw [hget_old (by simp; omega), hget_base]
    exact ⟨by simp, fun d hd => by rw [hget_old (by simp; omega), hget_old hd], g 0 (by omega), g 1 (by omega), g 2 (by omega), g 3 (by omega), g 6 (by omega), g 7 (by omega), _, [], g 4 (by omega), BL.nil, rfl, Nat.zero_le _, by simp⟩
  · intro i K o hI
    exact hI.set (.inr lHH)
  · intro i K t hI
    exact hI.set (.inl rfl)
  · intro i K hI
    exact ⟨hI.sep, hI.nul⟩
  · intro i K p hpi hK hI
    obtain ⟨a1, a2, a3, a4, a5, a6, a7, a8, sv, out, a9, a10, a11, a12, a13⟩ := hI
    have hil : i < (splitC c l).length := (List.getElem?_eq_some_iff.1 hpi).1
    have hmost : i = most → pcsO b c most l = none := by
      intro q
      unfold pcsO
      split
      · rename_i o ho
        have := mapM_len ho
        rw [if_neg (by omega)]
      · rfl
    have hbad : pc b p = none → pcsO b c most l = none := fun q => by unfold pcsO; rw [mapM_none hpi q]
    have fail : ∀ K', pcsO b c most l = none → KP (H.length + 9) K K' → Q .ret ev (K'.set HH.length .dead) ∧ HH.length < K'.length := fun K' hno hk =>
      ⟨hret hno K' hk.1 (fun d hd => by rw [hk.2 d (by omega)]; exact a2 d hd) (by rw [hk.2 _ (by omega)]; exact a5) (by rw [hk.2 _ (by omega)]; exact a6), by have := hk.1; omega⟩
    have hK9 : H.length + 9 ≤ K.length := by omega
    obtain ⟨Z, hZ⟩ : ∃ Z, Z = WC T ((rngBody (g53.body.at [1, 1, 0, 1, 0])).at [0, 1]) := ⟨_, rfl⟩
    have htail : ∀ (q : List UInt8) e Q2, q = pcQ b p → ¬ (b = 16 ∧ p.length ≠ 2) → (∃ x : Nat → Value, e = [x 0, x 1, x 2, x 3, x 4, x 5, .pointer (some ⟨H.length, 0, none⟩), .pointer (some ⟨H.length + 1, 0, none⟩), .pointer (some ⟨H.length + 2, 0, none⟩), .pointer (some ⟨H.length + 3, 0, none⟩), .pointer (some ⟨H.length + 4, 0, none⟩), .string (bs q), x 12, x 13, x 14, x 15, x 16, x 17, x 18, x 19, x 20, x 21, x 22, x 23, x 24, x 25, x 26, x 27, x 28, x 29, x 30, x 31, x 32, x 33, x 34, x 35, x 36, x 37, x 38, x 39, x 40, x 41, x 42, x 43, x 44, x 45, x 46, x 47, x 48, x 49, x 50, x 51, x 52, x 53, x 54, x 55, x 56, x 57, x 58, x 59, x 60, x 61, x 62, x 63, x 64, x 65, x 66]) →
        (∀ e' K', pcsO b c most l = none → KP (H.length + 9) K K' → Q2 .ret e' K') → (∀ e' K', PI H b c most l (i + 1) K' → HH.length < K'.length → hget K' (H.length + 5) = hget K (H.length + 5) → Q2 .norm e' K') → Z e K Q2 := by
      intro q e Q2 hq hnb he hF hS
      subst hq
      rw [hZ]
      refine pcs_tail (n0 := H.length) (most := most) hb (by omega) hK9 a3 a4 a5 a6 a9 a10 he (fun hq => ?_) (fun v hv q1 q2 q3 e' K' sv' k1 k2 k3 k4 => ?_)
      · refine fun e' K' hk => hF e' K' ?_ hk
        by_cases hp : pc b p = none
        · exact hbad hp
        · refine hmost ?_
          rw [← a11]
          unfold pc at hp
          rw [if_neg hnb] at hp
          split at hp
          · rename_i v hv
            by_cases hc : (pcQ b p).length ≤ 3 ∧ ¬ (b = 10 ∧ 255 < v)
            · exact hq v hv hc.1 hc.2
            · rw [if_neg hc] at hp; exact absurd rfl hp
          · exact absurd rfl hp
      · have hpc : pc b p = some (UInt8.ofNat v) := by
          unfold pc
          rw [if_neg hnb, hv]
          exact if_pos ⟨q1, q2⟩
        refine hS e' K' ⟨by omega, fun d hd => by rw [k2 d (by omega) (by omega)]; exact a2 d hd, by rw [k2 _ (by omega) (by omega)]; exact a3, by rw [k2 _ (by omega) (by omega)]; exact a4, by rw [k2 _ (by omega) (by omega)]; exact a5, by rw [k2 _ (by omega) (by omega)]; exact a6, by rw [k2 _ (by omega) (by omega)]; exact a7, by rw [k2 _ (by omega) (by omega)]; exact a8,
          sv', _, k3, k4, by simp [a11], by omega, mapM_take a13 hpi hpc⟩ (by omega) (k2 _ (by omega) (by omega))
    have hZ' := hZ.symm
    clear hZ
    simp only [AFunc.body, g53, ACode.at, rngBody] at hZ'
    have s8 := set_same a5
    have s9 := set_same a6
    rcases hb with rfl | rfl
    · have c10 : ¬ ((10 : Nat) : Int) = 16 := by decide
      rw [hev]
      simp (disch := omega) only [kB, kcx, kdm, kdn, kel, aop, resultsL, resultOf, Nat.reduceEqDiff, reduceCtorEq, eq1, apartOK, apart2, AObj.live, Int.reduceEq, Int.reduceLT, Int.reduceLE, Int.reduceAdd, Int.reduceSub, Int.reduceMul, Int.reduceToNat, cutCells, Nat.reduceAdd, Nat.reduceLeDiff, Nat.reduceLT, Nat.reduceMul, Nat.reduceSub, hZ', a3, c10]
      rw [← hev]
      refine htail p _ _ (by rw [pcQ, if_neg (by decide)]) (by simp) (by exact ex_env rfl) (fun e' K' h3 h4 => ?_) (fun e' K' h3 h4 h5 => ?_)
      · simp (disch := omega) only [kB, kcx, kdm, kdn, kel, aop, resultsL, resultOf, Nat.reduceEqDiff, reduceCtorEq, eq1, apartOK, apart2, AObj.live, Int.reduceEq, Int.reduceLT, Int.reduceLE, Int.reduceAdd, Int.reduceSub, Int.reduceMul, Int.reduceToNat, cutCells, Nat.reduceAdd, Nat.reduceLeDiff, Nat.reduceLT, Nat.reduceMul, Nat.reduceSub, bodyS_ret]
        exact fail K' h3 h4
      · simp (disch := omega) only [kB, kcx, kdm, kdn, kel, aop, resultsL, resultOf, Nat.reduceEqDiff, reduceCtorEq, eq1, apartOK, apart2, AObj.live, Int.reduceEq, Int.reduceLT, Int.reduceLE, Int.reduceAdd, Int.reduceSub, Int.reduceMul, Int.reduceToNat, cutCells, Nat.reduceAdd, Nat.reduceLeDiff, Nat.reduceLT, Nat.reduceMul, Nat.reduceSub, bodyS_norm]
        exact ⟨h3, h4, h5⟩
    · have c16 : (((16 : Nat) : Int) = 16) = True := eq_true rfl
      by_cases hp2 : p.length = 2
      · have hp2' : ((p.length : Nat) : Int) = 2 := by omega
        have hadd := bin_str_add (l := [49]) (m := p) (by simp; omega)
        rw [hev]
        simp (disch := omega) only [kB, kcx, kdm, kdn, kel, aop, resultsL, resultOf, Nat.reduceEqDiff, reduceCtorEq, eq1, apartOK, apart2, AObj.live, Int.reduceEq, Int.reduceLT, Int.reduceLE, Int.reduceAdd, Int.reduceSub, Int.reduceMul, Int.reduceToNat, cutCells, Nat.reduceAdd, Nat.reduceLeDiff, Nat.reduceLT, Nat.reduceMul, Nat.reduceSub, hZ', a3, c16, hp2', hadd]
        rw [← hev]
        refine htail (49 :: p) _ _ (by rw [pcQ, if_pos rfl]) (by simp [hp2]) (by exact ex_env rfl) (fun e' K' h3 h4 => ?_) (fun e' K' h3 h4 h5 => ?_)
        · simp (disch := omega) only [kB, kcx, kdm, kdn, kel, aop, resultsL, resultOf, Nat.reduceEqDiff, reduceCtorEq, eq1, apartOK, apart2, AObj.live, Int.reduceEq, Int.reduceLT, Int.reduceLE, Int.reduceAdd, Int.reduceSub, Int.reduceMul, Int.reduceToNat, cutCells, Nat.reduceAdd, Nat.reduceLeDiff, Nat.reduceLT, Nat.reduceMul, Nat.reduceSub, bodyS_ret]
          exact fail K' h3 h4
        · simp (disch := omega) only [kB, kcx, kdm, kdn, kel, aop, resultsL, resultOf, Nat.reduceEqDiff, reduceCtorEq, eq1, apartOK, apart2, AObj.live, Int.reduceEq, Int.reduceLT, Int.reduceLE, Int.reduceAdd, Int.reduceSub, Int.reduceMul, Int.reduceToNat, cutCells, Nat.reduceAdd, Nat.reduceLeDiff, Nat.reduceLT, Nat.reduceMul, Nat.reduceSub, bodyS_norm]
          exact ⟨h3, h4, h5⟩
      · have hp2' : ¬ ((p.length : Nat) : Int) = 2 := by omega
        have hno := hbad (by unfold pc; rw [if_pos ⟨rfl, hp2⟩])
        rw [hev]
        simp (disch := omega) only [kB, kcx, kdm, kdn, kel, aop, resultsL, resultOf, Nat.reduceEqDiff, reduceCtorEq, eq1, apartOK, apart2, AObj.live, Int.reduceEq, Int.reduceLT, Int.reduceLE, Int.reduceAdd, Int.reduceSub, Int.reduceMul, Int.reduceToNat, cutCells, Nat.reduceAdd, Nat.reduceLeDiff, Nat.reduceLT, Nat.reduceMul, Nat.reduceSub, hZ', a3, a5, a6, s8, s9, c16, hp2', bodyS_ret]
        rw [← hev]
        exact fail K hno (KP.refl hK9)
  · intro K hI hK
    obtain ⟨a1, a2, a3, a4, a5, a6, a7, a8, sv, out, a9, a10, a11, a12, a13⟩ := hI
    rw [List.take_length] at a13
    have hs := a10.src
    obtain ⟨ad, rfl⟩ := a10.lenV
    have l9 : H.length + 9 ≤ K.length := by omega
    have hKP : KP H.length H K := ⟨by omega, a2⟩
    have hO : pcsO b c most l = if out.length = most then some out else none := by unfold pcsO; rw [a13]
    by_cases hmo : out.length = most
    · have hmo' : ((out.length : Nat) : Int) = (most : Int) := by omega
      rw [if_pos hmo] at hO
      have hfin := h1 out hO
      subst hQ
      subst hev
      simp (disch := omega) only [kB, kcx, kdm, kdn, kel, aop, resultsL, resultOf, Nat.reduceEqDiff, reduceCtorEq, eq1, apartOK, apart2, AObj.live, Int.reduceEq, Int.reduceLT, Int.reduceLE, Int.reduceAdd, Int.reduceSub, Int.reduceMul, Int.reduceToNat, cutCells, Nat.reduceAdd, Nat.reduceLeDiff, Nat.reduceLT, Nat.reduceMul, Nat.reduceSub, a4, a5, a6, a9, hmo', lenV, hs, hget_ne]
      exact ⟨_, rfl, ((hKP.set (by omega)).set (by omega)).ext, .tup2 (.closed rfl) (.closed rfl), hfin⟩
    · have hmo' : ¬ ((out.length : Nat) : Int) = (most : Int) := by omega
      rw [if_neg hmo] at hO
      have hfin := h2 hO
      subst hQ
      subst hev
      simp (disch := omega) only [kB, kcx, kdm, kdn, kel, aop, resultsL, resultOf, Nat.reduceEqDiff, reduceCtorEq, eq1, apartOK, apart2, AObj.live, Int.reduceEq, Int.reduceLT, Int.reduceLE, Int.reduceAdd, Int.reduceSub, Int.reduceMul, Int.reduceToNat, cutCells, Nat.reduceAdd, Nat.reduceLeDiff, Nat.reduceLT, Nat.reduceMul, Nat.reduceSub, a4, a5, a6, a9, hmo', lenV, hs, hget_ne]
      exact ⟨_, rfl, ((hKP.set (by omega)).set (by omega)).ext, .tup2 (.closed rfl) (.closed rfl), hfin _⟩

end Go.Proofs.YtkhkmgcegicmoaaDoor.Ev

/- Small functions of texts: which forms a width has, what a text begins with, texts that are joined. -/
namespace Go.Proofs.YtkhkmgcegicmoaaDoor.Ev
set_option maxRecDepth 100000
set_option linter.unusedSimpArgs false
set_option linter.unusedVariables false
variable {R : FRes → Heap → Prop} {H : Heap}

/-- Has a width such a form? -/
def hasI (w form : Int) : Bool := if form = 4 then decide (w = 32) else if form = 5 then isw w && (decide (16 ≤ w) && decide (w % 8 = 0)) else isw w

theorem has_s {w form : Int} (h : R (.ret (.bool (hasI w form))) H) : WD T 48 [.int .i64 w, .int .i64 form] H R := by
  refine WD.gc0 (WD.of follows t48 (by simp) ?_)
  unfold hasI at h
  by_cases h4 : form = 4
  · rw [if_pos h4] at h
    by_cases h32 : w = 32
    · rw [decide_eq_true h32] at h
      simp (disch := omega) only [kB, kcx, kdm, kdn, kel, aop, resultsL, resultOf, Nat.reduceEqDiff, reduceCtorEq, eq1, apartOK, apart2, AObj.live, Int.reduceEq, Int.reduceLT, Int.reduceLE, Int.reduceAdd, Int.reduceSub, Int.reduceMul, Int.reduceToNat, cutCells, Nat.reduceAdd, Nat.reduceLeDiff, Nat.reduceLT, Nat.reduceMul, Nat.reduceSub, h4, h32]
      exact ⟨_, rfl, ⟨[], (List.append_nil _).symm⟩, .closed rfl, h⟩
    · rw [decide_eq_false h32] at h
      simp (disch := omega) only [kB, kcx, kdm, kdn, kel, aop, resultsL, resultOf, Nat.reduceEqDiff, reduceCtorEq, eq1, apartOK, apart2, AObj.live, Int.reduceEq, Int.reduceLT, Int.reduceLE, Int.reduceAdd, Int.reduceSub, Int.reduceMul, Int.reduceToNat, cutCells, Nat.reduceAdd, Nat.reduceLeDiff, Nat.reduceLT, Nat.reduceMul, Nat.reduceSub, h4, h32]
      exact ⟨_, rfl, ⟨[], (List.append_nil _).symm⟩, .closed rfl, h⟩
  · rw [if_neg h4] at h
    by_cases h5 : form = 5
    · rw [if_pos h5] at h
      have c54 : ¬ (5 : Int) = 4 := by decide
      rcases wcases w with hw | ⟨k, rfl, h1, h2⟩
      · rw [hw, Bool.false_and] at h
        simp (disch := omega) only [kB, kcx, kdm, kdn, kel, aop, resultsL, resultOf, Nat.reduceEqDiff, reduceCtorEq, eq1, apartOK, apart2, AObj.live, Int.reduceEq, Int.reduceLT, Int.reduceLE, Int.reduceAdd, Int.reduceSub, Int.reduceMul, Int.reduceToNat, cutCells, Nat.reduceAdd, Nat.reduceLeDiff, Nat.reduceLT, Nat.reduceMul, Nat.reduceSub, h4, h5, c54]
        refine isw_s ?_
        simp (disch := omega) only [kB, kcx, kdm, kdn, kel, aop, resultsL, resultOf, Nat.reduceEqDiff, reduceCtorEq, eq1, apartOK, apart2, AObj.live, Int.reduceEq, Int.reduceLT, Int.reduceLE, Int.reduceAdd, Int.reduceSub, Int.reduceMul, Int.reduceToNat, cutCells, Nat.reduceAdd, Nat.reduceLeDiff, Nat.reduceLT, Nat.reduceMul, Nat.reduceSub, hw]
        exact ⟨_, rfl, ⟨[], (List.append_nil _).symm⟩, .closed rfl, h⟩
      · have hw := isw_nat h1 h2
        rw [hw, Bool.true_and] at h
        by_cases h16 : (16 : Int) ≤ (k : Int)
        · rw [decide_eq_true h16, Bool.true_and] at h
          have hr := bin_rem (k := .i64) (a := k) (b := 8) (by decide)
          have r0 : (((8 : Nat) : Int)) = 8 := rfl
          rw [r0] at hr
          have e : (((k : Int) % 8) = 0) ↔ (((k % 8 : Nat) : Int) = 0) := by omega
          by_cases h8 : ((k % 8 : Nat) : Int) = 0
          · rw [decide_eq_true (e.2 h8)] at h
            simp (disch := omega) only [kB, kcx, kdm, kdn, kel, aop, resultsL, resultOf, Nat.reduceEqDiff, reduceCtorEq, eq1, apartOK, apart2, AObj.live, Int.reduceEq, Int.reduceLT, Int.reduceLE, Int.reduceAdd, Int.reduceSub, Int.reduceMul, Int.reduceToNat, cutCells, Nat.reduceAdd, Nat.reduceLeDiff, Nat.reduceLT, Nat.reduceMul, Nat.reduceSub, h4, h5, c54]
            refine isw_s ?_
            simp (disch := omega) only [kB, kcx, kdm, kdn, kel, aop, resultsL, resultOf, Nat.reduceEqDiff, reduceCtorEq, eq1, apartOK, apart2, AObj.live, Int.reduceEq, Int.reduceLT, Int.reduceLE, Int.reduceAdd, Int.reduceSub, Int.reduceMul, Int.reduceToNat, cutCells, Nat.reduceAdd, Nat.reduceLeDiff, Nat.reduceLT, Nat.reduceMul, Nat.reduceSub, hw, h16, hr, h8]
            exact ⟨_, rfl, ⟨[], (List.append_nil _).symm⟩, .closed rfl, h⟩
          · rw [decide_eq_false (fun q => h8 (e.1 q))] at h
            simp (disch := omega) only [kB, kcx, kdm, kdn, kel, aop, resultsL, resultOf, Nat.reduceEqDiff, reduceCtorEq, eq1, apartOK, apart2, AObj.live, Int.reduceEq, Int.reduceLT, Int.reduceLE, Int.reduceAdd, Int.reduceSub, Int.reduceMul, Int.reduceToNat, cutCells, Nat.reduceAdd, Nat.reduceLeDiff, Nat.reduceLT, Nat.reduceMul, Nat.reduceSub, h4, h5, c54]
            refine isw_s ?_
            simp (disch := omega) only [kB, kcx, kdm, kdn, kel, aop, resultsL, resultOf, Nat.reduceEqDiff, reduceCtorEq, eq1, apartOK, apart2, AObj.live, Int.reduceEq, Int.reduceLT, Int.reduceLE, Int.reduceAdd, Int.reduceSub, Int.reduceMul, Int.reduceToNat, cutCells, Nat.reduceAdd, Nat.reduceLeDiff, Nat.reduceLT, Nat.reduceMul, Nat.reduceSub, hw, h16, hr, h8]
            exact ⟨_, rfl, ⟨[], (List.append_nil _).symm⟩, .closed rfl, h⟩
        · rw [decide_eq_false h16, Bool.false_and] at h
          simp (disch := omega) only [kB, kcx, kdm, kdn, kel, aop, resultsL, resultOf, Nat.reduceEqDiff, reduceCtorEq, eq1, apartOK, apart2, AObj.live, Int.reduceEq, Int.reduceLT, Int.reduceLE, Int.reduceAdd, Int.reduceSub, Int.reduceMul, Int.reduceToNat, cutCells, Nat.reduceAdd, Nat.reduceLeDiff, Nat.reduceLT, Nat.reduceMul, Nat.reduceSub, h4, h5, c54]
          refine isw_s ?_
          simp (disch := omega) only [kB, kcx, kdm, kdn, kel, aop, resultsL, resultOf, Nat.reduceEqDiff, reduceCtorEq, eq1, apartOK, apart2, AObj.live, Int.reduceEq, Int.reduceLT, Int.reduceLE, Int.reduceAdd, Int.reduceSub, Int.reduceMul, Int.reduceToNat, cutCells, Nat.reduceAdd, Nat.reduceLeDiff, Nat.reduceLT, Nat.reduceMul, Nat.reduceSub, hw, h16]
          exact ⟨_, rfl, ⟨[], (List.append_nil _).symm⟩, .closed rfl, h⟩
    · rw [if_neg h5] at h
      simp (disch := omega) only [kB, kcx, kdm, kdn, kel, aop, resultsL, resultOf, Nat.reduceEqDiff, reduceCtorEq, eq1, apartOK, apart2, AObj.live, Int.reduceEq, Int.reduceLT, Int.reduceLE, Int.reduceAdd, Int.reduceSub, Int.reduceMul, Int.reduceToNat, cutCells, Nat.reduceAdd, Nat.reduceLeDiff, Nat.reduceLT, Nat.reduceMul, Nat.reduceSub, h4, h5]
      refine isw_s ?_
      simp (disch := omega) only [kB, kcx, kdm, kdn, kel, aop, resultsL, resultOf, Nat.reduceEqDiff, reduceCtorEq, eq1, apartOK, apart2, AObj.live, Int.reduceEq, Int.reduceLT, Int.reduceLE, Int.reduceAdd, Int.reduceSub, Int.reduceMul, Int.reduceToNat, cutCells, Nat.reduceAdd, Nat.reduceLeDiff, Nat.reduceLT, Nat.reduceMul, Nat.reduceSub]
      exact ⟨_, rfl, ⟨[], (List.append_nil _).symm⟩, .closed rfl, h⟩

theorem prefix_take {p l : List UInt8} : p.isPrefixOf l = true ↔ (p.length ≤ l.length ∧ l.take p.length = p) := by
  rw [List.isPrefixOf_iff_prefix]
  constructor
  · intro h
    exact ⟨h.length_le, (List.prefix_iff_eq_take.1 h).symm⟩
  · rintro ⟨_, h⟩
    exact List.prefix_iff_eq_take.2 h.symm

theorem hasPrefix_s {l p : List UInt8} (h : R (.ret (.bool (p.isPrefixOf l))) H) : WD T 82 [.string (bs l), .string (bs p)] H R := by
  refine WD.of follows t82 (by simp) ?_
  by_cases h1 : p.length ≤ l.length
  · have h1' : (p.length : Int) ≤ (l.length : Int) := by omega
    by_cases h2 : l.take p.length = p
    · rw [prefix_take.2 ⟨h1, h2⟩] at h
      simp (disch := omega) only [kB, kcx, kdm, kdn, kel, aop, resultsL, resultOf, Nat.reduceEqDiff, reduceCtorEq, eq1, apartOK, apart2, AObj.live, Int.reduceEq, Int.reduceLT, Int.reduceLE, Int.reduceAdd, Int.reduceSub, Int.reduceMul, Int.reduceToNat, cutCells, Nat.reduceAdd, Nat.reduceLeDiff, Nat.reduceLT, Nat.reduceMul, Nat.reduceSub, h1', h2]
      exact h
    · have e : p.isPrefixOf l = false := by
        cases q : p.isPrefixOf l with
        | false => rfl
        | true => exact absurd (prefix_take.1 q).2 h2
      rw [e] at h
      simp (disch := omega) only [kB, kcx, kdm, kdn, kel, aop, resultsL, resultOf, Nat.reduceEqDiff, reduceCtorEq, eq1, apartOK, apart2, AObj.live, Int.reduceEq, Int.reduceLT, Int.reduceLE, Int.reduceAdd, Int.reduceSub, Int.reduceMul, Int.reduceToNat, cutCells, Nat.reduceAdd, Nat.reduceLeDiff, Nat.reduceLT, Nat.reduceMul, Nat.reduceSub, h1', h2]
      exact h
  · have h1' : ¬ (p.length : Int) ≤ (l.length : Int) := by omega
    have e : p.isPrefixOf l = false := by
      cases q : p.isPrefixOf l with
      | false => rfl
      | true => exact absurd (prefix_take.1 q).1 h1
    rw [e] at h
    simp (disch := omega) only [kB, kcx, kdm, kdn, kel, aop, resultsL, resultOf, Nat.reduceEqDiff, reduceCtorEq, eq1, apartOK, apart2, AObj.live, Int.reduceEq, Int.reduceLT, Int.reduceLE, Int.reduceAdd, Int.reduceSub, Int.reduceMul, Int.reduceToNat, cutCells, Nat.reduceAdd, Nat.reduceLeDiff, Nat.reduceLT, Nat.reduceMul, Nat.reduceSub, h1']
    exact h

theorem cutPrefix_s {l p : List UInt8} (h : R (.ret (.tuple #[.string (bs (if p.isPrefixOf l = true then l.drop p.length else l)), .bool (p.isPrefixOf l)])) H) : WD T 51 [.string (bs l), .string (bs p)] H R := by
  refine WD.of follows t51 (by simp) ?_
  simp (disch := omega) only [kB, kcx, kdm, kdn, kel, aop, resultsL, resultOf, Nat.reduceEqDiff, reduceCtorEq, eq1, apartOK, apart2, AObj.live, Int.reduceEq, Int.reduceLT, Int.reduceLE, Int.reduceAdd, Int.reduceSub, Int.reduceMul, Int.reduceToNat, cutCells, Nat.reduceAdd, Nat.reduceLeDiff, Nat.reduceLT, Nat.reduceMul, Nat.reduceSub]
  refine WD.of follows t71 (by simp) ?_
  simp (disch := omega) only [kB, kcx, kdm, kdn, kel, aop, resultsL, resultOf, Nat.reduceEqDiff, reduceCtorEq, eq1, apartOK, apart2, AObj.live, Int.reduceEq, Int.reduceLT, Int.reduceLE, Int.reduceAdd, Int.reduceSub, Int.reduceMul, Int.reduceToNat, cutCells, Nat.reduceAdd, Nat.reduceLeDiff, Nat.reduceLT, Nat.reduceMul, Nat.reduceSub]
  refine hasPrefix_s ?_
  cases hp : p.isPrefixOf l with
  | true =>
    have hl := (prefix_take.1 hp).1
    rw [hp, if_pos rfl] at h
    simp (disch := omega) only [kB, kcx, kdm, kdn, kel, aop, resultsL, resultOf, Nat.reduceEqDiff, reduceCtorEq, eq1, apartOK, apart2, AObj.live, Int.reduceEq, Int.reduceLT, Int.reduceLE, Int.reduceAdd, Int.reduceSub, Int.reduceMul, Int.reduceToNat, cutCells, Nat.reduceAdd, Nat.reduceLeDiff, Nat.reduceLT, Nat.reduceMul, Nat.reduceSub]
    exact h
  | false =>
    rw [hp, if_neg (by decide)] at h
    simp (disch := omega) only [kB, kcx, kdm, kdn, kel, aop, resultsL, resultOf, Nat.reduceEqDiff, reduceCtorEq, eq1, apartOK, apart2, AObj.live, Int.reduceEq, Int.reduceLT, Int.reduceLE, Int.reduceAdd, Int.reduceSub, Int.reduceMul, Int.reduceToNat, cutCells, Nat.reduceAdd, Nat.reduceLeDiff, Nat.reduceLT, Nat.reduceMul, Nat.reduceSub]
    exact h

theorem bin_shr8 (a : Nat) : binV .shr (.int .u8 (a : Int)) (.int .u64 4) = some (.int .u8 ((a / 16 : Nat) : Int)) := by
  have : pr (Op.shift .shr .u8 (a : Int) .u64 4) = some (.int .u8 ((a : Int).fdiv (2 ^ 4))) := rfl
  have h4 : ¬ (4 : Int) < 0 := by decide
  simp only [binV, intBin, if_neg h4, this]
  congr 2
  rw [show ((2 : Int) ^ 4) = ((16 : Nat) : Int) from rfl, Int.fdiv_eq_ediv_of_nonneg _ (by omega)]
  rfl
theorem bin_and8 {a : Nat} (h : a < 256) : binV .and (.int .u8 (a : Int)) (.int .u8 15) = some (.int .u8 ((a % 16 : Nat) : Int)) := by
  have e : (BitVec.ofInt 8 (a : Int) &&& BitVec.ofInt 8 15).toNat = a % 16 := by
    rw [BitVec.toNat_and]
    have e1 : (BitVec.ofInt 8 (a : Int)).toNat = a := by
      simp [BitVec.ofInt_natCast]
      omega
    have e2 : (BitVec.ofInt 8 15).toNat = 2 ^ 4 - 1 := by decide
    rw [e1, e2, Nat.and_two_pow_sub_one_eq_mod]
  have : pr (Op.intBits .and .u8 (a : Int) 15) = some (.int .u8 (IntKind.u8.wrap ((BitVec.ofInt 8 (a : Int) &&& BitVec.ofInt 8 15).toNat : Int))) := rfl
  simp only [binV, intBin, if_true, this, e]
  rw [wr_u8 (by omega) (by omega)]
theorem bvA_small {n : Nat} (h : n < 18446744073709551616) : (.agg #[.int .u64 0, .int .u64 (n : Int)] : Value) = bvA n := by
  rw [bvA, W64_eq, Nat.div_eq_of_lt h, Nat.mod_eq_of_lt h]
  rfl

/-! Texts that are joined. -/
def cS (ls : List (List UInt8)) : List (List Value) := ls.map fun t => [.string (bs t)]
theorem cS_flat : ∀ ls : List (List UInt8), (cS ls).flatten = ls.map fun t => .string (bs t)
  | [] => rfl
  | t :: ls => by
    have := cS_flat ls
    simp only [cS, List.map_cons, List.flatten_cons] at this ⊢
    rw [this]
    rfl
theorem txts_map : ∀ ls : List (List UInt8), txts (ls.map fun t => .string (bs t)) = some (ls.map bs)
  | [] => rfl
  | t :: ls => by
    rw [List.map_cons, txts, txts_map ls]
    rfl
theorem join_s {n0 : Nat} {sv : Value} {ls : List (List UInt8)} {sep : List UInt8} (hB : SLs 1 n0 H sv (cS ls)) (hn : ls.length ≤ 1000) (hj : (Lib.join ls sep).length ≤ 140737488355328) (h : R (.ret (.string (bs (Lib.join ls sep)))) H) :
    WD T 50 [sv, .string (bs sep)] H R := by
  refine WD.lib table_ok (show Tab 50 = some (.lib joinL) from rfl) (v := .string (bs (Lib.join ls sep))) ?_ h
  rcases hB with ⟨h1, rfl⟩ | ⟨h1, k, k0, rfl, k2, k3⟩
  · have : ls = [] := by simpa [cS] using h1
    subst this
    rfl
  · have hk := hget_some k2 rfl
    rw [cS_flat] at hk
    have hl : (cS ls).length = ls.length := List.length_map ..
    have e2 : (ls.map bs).map (fun x => x.data.toList) = ls := by
      rw [List.map_map]
      exact List.map_id' _
    simp only [joinL, hk, hl]
    rw [if_pos (by simp), List.drop_zero, List.take_of_length_le (by simp), txts_map]
    simp only [e2]
    rw [if_pos ⟨by omega, hj⟩]
    rfl

end Go.Proofs.YtkhkmgcegicmoaaDoor.Ev

/- A value's text: the program's Text. -/
namespace Go.Proofs.YtkhkmgcegicmoaaDoor.Ev
set_option maxRecDepth 100000
set_option linter.unusedSimpArgs false
set_option linter.unusedVariables false
variable {R : FRes → Heap → Prop} {H : Heap}

/-- A byte's text among dots, or colons. -/
def partT (form : Int) (c : UInt8) : List UInt8 := if form = 4 then dig 10 c.toNat else [sgN (c.toNat / 16), sgN (c.toNat % 16)]
/-- The sign between. -/
def sepT (form : Int) : List UInt8 := if form = 4 then [46] else [58]
def txtI (a k : Nat) (form : Int) : List UInt8 :=
  if form = 1 then dig 10 a else if form = 2 then 48 :: 120 :: dig 16 a else if form = 3 then 48 :: 98 :: dig 2 a
  else Lib.join ((beL ((k + 7) / 8) a).map (partT form)) (sepT form)
def textI (a : Nat) (w form : Int) : List UInt8 × Int :=
  if form < 1 ∨ 5 < form then ([], 1) else if hasI w form = true then (if fitsI a w = true then (txtI a w.toNat form, 0) else ([], 11)) else ([], 10)

theorem joinTail_len (sep : List UInt8) (m : Nat) : ∀ r : List (List UInt8), (∀ x ∈ r, x.length ≤ m) → (Lib.joinTail sep r).length ≤ r.length * (m + sep.length)
  | [], _ => by simp [Lib.joinTail]
  | x :: r, h => by
    have ih := joinTail_len sep m r fun y hy => h y (by simp [hy])
    have hx := h x (by simp)
    simp only [Lib.joinTail, List.map_cons, List.flatten_cons, List.length_append, List.length_cons] at ih ⊢
    rw [Nat.add_mul, Nat.one_mul]
    omega
theorem join_len (sep : List UInt8) (m : Nat) (r : List (List UInt8)) (h : ∀ x ∈ r, x.length ≤ m) : (Lib.join r sep).length ≤ r.length * (m + sep.length) := by
  cases r with
  | nil => simp [Lib.join_nil]
  | cons x r =>
    rw [Lib.join_cons, List.length_append, List.length_cons, Nat.add_mul, Nat.one_mul]
    have h1 := joinTail_len sep m r fun y hy => h y (by simp [hy])
    have h2 := h x (by simp)
    omega
theorem partT_len (form : Int) (c : UInt8) : (partT form c).length ≤ 128 := by
  unfold partT
  split
  · exact dig_len _ _
  · simp
theorem hasI_isw {w form : Int} (h : hasI w form = true) : isw w = true := by
  unfold hasI at h
  split at h
  · have : w = 32 := by simpa using h
    subst this
    rfl
  · split at h
    · simp only [Bool.and_eq_true] at h
      exact h.1
    · exact h

/-- While the bytes are told. -/
def txI (H : Heap) (a : Nat) (form : Int) (l : List UInt8) : Nat → Env → Heap → Prop := fun z e K =>
  ∃ i : Nat, i ≤ l.length ∧ z = l.length - i ∧ H.length + 1 ≤ K.length ∧ (∀ d, d < H.length → hget K d = hget H d) ∧ ∃ sv, SLs 1 (H.length + 1) K sv (cS ((l.take i).map (partT form))) ∧
    (∃ x : Nat → Value, e = [x 0, x 1, .int .i64 form, x 3, x 4, x 5, x 6, x 7, .string (bs l), x 9, sv, x 11, x 12, x 13, x 14, x 15, x 16, x 17, x 18, x 19, x 20, x 21, x 22, x 23, x 24, x 25, x 26, x 27, x 28, x 29, x 30, x 31, x 32, x 33, x 34, x 35, x 36, x 37, x 38, x 39, x 40, x 41, x 42, x 43, x 44, x 45, x 46, x 47, x 48, x 49, x 50, .int .i64 (l.length : Int), .int .i64 (i : Int), x 53, x 54, x 55, x 56, x 57, x 58, x 59, x 60, x 61, x 62, x 63, x 64, x 65, x 66, x 67, x 68, x 69, x 70, x 71, x 72, x 73, x 74, x 75, x 76, x 77, x 78, x 79, x 80, x 81, x 82, x 83, x 84, x 85, x 86, x 87, x 88, x 89])

abbrev QT (R : FRes → Heap → Prop) (H : Heap) : Post := retK [.tmp 6, .tmp 7] (fun r H1 => ∃ v, r = .ret v ∧ (∃ g, H1 = H ++ g) ∧ Scoped H.length v ∧ R (.ret v) H)

theorem SLs_push {n0 : Nat} {K : Heap} {sv : Value} {ls : List (List UInt8)} (h : SLs 1 n0 K sv (cS ls)) (hn : n0 ≤ K.length) (t : List UInt8) (hl : ls.length < 1000) :
    ∃ sv' K', appendV (K ++ [.row [.string (bs t)] 1 true]) 1 16 sv (.slice (some ⟨K.length, 0, none⟩) 1 1) = .val sv' K' ∧ SLs 1 n0 K' sv' (cS (ls ++ [t])) ∧ KP n0 K K' := by
  have hc : (cS ls).length = ls.length := List.length_map ..
  obtain ⟨sv', K', h1, h2, h3, h4, h5⟩ := app_sl (K := K ++ [.row [.string (bs t)] 1 true]) (bytes := 16) (bx := K.length) (xs := [.string (bs t)]) (u2 := 1) (w2 := true) (SLs.app h) (by simp; omega) (by rw [hget_last]) rfl rfl (by rw [hc]; simp only [roomMax]; omega)
  refine ⟨sv', K', h1, ?_, by rw [h3]; simp; omega, fun c hc => ?_⟩
  · have e : cS (ls ++ [t]) = cS ls ++ [[.string (bs t)]] := by simp [cS]
    rw [e]
    exact h2
  · rw [h5 c (by simp; omega) (fun q => by have := (SLs.lt h q).2; omega), hget_old (by omega)]

set_option maxHeartbeats 4000000 in
theorem text_tail {form : Int} {l : List UInt8} (hform : form = 4 ∨ form = 5) (hl : l.length ≤ 16) (hH : hget H 0 = .row (numV signsL) 0 false) (hlen : 0 < H.length)
    {e : Env} {K : Heap} (he : (∃ x : Nat → Value, e = [x 0, x 1, .int .i64 form, x 3, x 4, x 5, x 6, x 7, .string (bs l), x 9, .slice none 0 0, x 11, x 12, x 13, x 14, x 15, x 16, x 17, x 18, x 19, x 20, x 21, x 22, x 23, x 24, x 25, x 26, x 27, x 28, x 29, x 30, x 31, x 32, x 33, x 34, x 35, x 36, x 37, x 38, x 39, x 40, x 41, x 42, x 43, x 44, x 45, x 46, x 47, x 48, x 49, x 50, x 51, x 52, x 53, x 54, x 55, x 56, x 57, x 58, x 59, x 60, x 61, x 62, x 63, x 64, x 65, x 66, x 67, x 68, x 69, x 70, x 71, x 72, x 73, x 74, x 75, x 76, x 77, x 78, x 79, x 80, x 81, x 82, x 83, x 84, x 85, x 86, x 87, x 88, x 89])) (hK : H.length + 1 ≤ K.length) (hold : ∀ d, d < H.length → hget K d = hget H d)
    (h : R (.ret (.tuple #[.string (bs (Lib.join (l.map (partT form)) (sepT form))), .int .i64 0])) H) :
    WC T (g14.body.at [1, 1, 1, 1, 1]) e K (QT R H) := by
  obtain ⟨y, rfl⟩ := he
  simp only [AFunc.body, g14, ACode.at]
  simp (disch := omega) only [kB, kcx, kdm, kdn, kel, aop, resultsL, resultOf, Nat.reduceEqDiff, reduceCtorEq, eq1, apartOK, apart2, AObj.live, Int.reduceEq, Int.reduceLT, Int.reduceLE, Int.reduceAdd, Int.reduceSub, Int.reduceMul, Int.reduceToNat, cutCells, Nat.reduceAdd, Nat.reduceLeDiff, Nat.reduceLT, Nat.reduceMul, Nat.reduceSub]
  refine WLoop.inv (txI H 0 form l) ?_ l.length _ _ ⟨0, Nat.zero_le _, by omega, hK, hold, _, .inl ⟨rfl, rfl⟩, by exact ex_env rfl⟩
  clear hK hold
  rintro z e K ⟨i, hi, rfl, hK, hold, sv, hB, ⟨x, rfl⟩⟩
  have k0 : hget K 0 = .row (numV signsL) 0 false := by rw [hold 0 hlen]; exact hH
  have kl : 0 < K.length := by omega
  by_cases hlt : i < l.length
  · have c0 : (i : Int) < (l.length : Int) := by omega
    have hg : l[i]? = some l[i] := List.getElem?_eq_getElem hlt
    have hb := (l[i]).toNat_lt
    obtain ⟨sv', K', a1, a2, a3⟩ := SLs_push hB hK (partT form l[i]) (by simp; omega)
    have hnext : (l.take i).map (partT form) ++ [partT form l[i]] = (l.take (i + 1)).map (partT form) := by
      rw [List.take_succ_eq_append_getElem hlt, List.map_append]
      rfl
    rw [hnext] at a2
    have fin : ∀ d, d < H.length → hget K' d = hget H d := fun d hd => by rw [a3.2 d (by omega)]; exact hold d hd
    rcases hform with rfl | rfl
    · rw [partT, if_pos rfl] at a1
      have b0 := bvA_small (n := (l[i]).toNat) (by omega)
      simp (disch := omega) only [kB, kcx, kdm, kdn, kel, aop, resultsL, resultOf, Nat.reduceEqDiff, reduceCtorEq, eq1, apartOK, apart2, AObj.live, Int.reduceEq, Int.reduceLT, Int.reduceLE, Int.reduceAdd, Int.reduceSub, Int.reduceMul, Int.reduceToNat, cutCells, Nat.reduceAdd, Nat.reduceLeDiff, Nat.reduceLT, Nat.reduceMul, Nat.reduceSub, c0, hg, wr_u64]
      rw [b0]
      refine digits_s (b := 10) (by simp [base3]) (by omega) k0 kl ?_
      simp (disch := omega) only [kB, kcx, kdm, kdn, kel, aop, resultsL, resultOf, Nat.reduceEqDiff, reduceCtorEq, eq1, apartOK, apart2, AObj.live, Int.reduceEq, Int.reduceLT, Int.reduceLE, Int.reduceAdd, Int.reduceSub, Int.reduceMul, Int.reduceToNat, cutCells, Nat.reduceAdd, Nat.reduceLeDiff, Nat.reduceLT, Nat.reduceMul, Nat.reduceSub, a1, wr_i64]
      exact ⟨l.length - (i + 1), by omega, i + 1, by omega, rfl, a3.1, fin, sv', a2, by exact ex_env rfl⟩
    · have c54 : ¬ (5 : Int) = 4 := by decide
      rw [partT, if_neg (by decide)] at a1
      have g1 := signs_get (n := (l[i]).toNat / 16) (by omega)
      have g2 := signs_get (n := (l[i]).toNat % 16) (by omega)
      unfold u8c at g1 g2
      have c1 : (((l[i]).toNat / 16 : Nat) : Int) < 16 := by omega
      have c2 : (((l[i]).toNat % 16 : Nat) : Int) < 16 := by omega
      have b1 := bin_shr8 (l[i]).toNat
      have b2 := bin_and8 hb
      obtain ⟨x1, hx1⟩ : ∃ x, x = sgN ((l[i]).toNat / 16) := ⟨_, rfl⟩
      obtain ⟨x2, hx2⟩ : ∃ x, x = sgN ((l[i]).toNat % 16) := ⟨_, rfl⟩
      rw [← hx1] at g1 a1
      rw [← hx2] at g2 a1
      obtain ⟨n1, hn1⟩ : ∃ n, n = (l[i]).toNat / 16 := ⟨_, rfl⟩
      obtain ⟨n2, hn2⟩ : ∃ n, n = (l[i]).toNat % 16 := ⟨_, rfl⟩
      rw [← hn1] at g1 c1 b1
      rw [← hn2] at g2 c2 b2
      have hsrc : (srcCells (K ++ [.row [.int .u8 (x1.toNat : Int), .int .u8 (x2.toNat : Int)] 1 true]) 1 2 (.slice (some ⟨K.length, 0, none⟩) 2 2)).bind bytesOf = some [x1, x2] := by
        have e0 : hget (K ++ [.row [.int .u8 (x1.toNat : Int), .int .u8 (x2.toNat : Int)] 1 true]) K.length = .row [.int .u8 (x1.toNat : Int), .int .u8 (x2.toNat : Int)] 1 true := hget_last _ _
        simp only [srcCells, e0]
        exact bytes_u8 [x1, x2]
      obtain ⟨sv2, K2, d1, d2, d3⟩ := SLs_push (hB.app (G := [.row [.int .u8 (x1.toNat : Int), .int .u8 (x2.toNat : Int)] 1 true])) (by simp; omega) [x1, x2] (by simp; omega)
      have d1' : appendV (K ++ [.row [.int .u8 (x1.toNat : Int), .int .u8 (x2.toNat : Int)] 1 true, .row [.string ⟨[x1, x2].toArray⟩] 1 true]) 1 16 sv (.slice (some ⟨K.length + 1, 0, none⟩) 1 1) = .val sv2 K2 := by
        rw [← d1]
        simp [bs]
      have fin2 : ∀ d, d < H.length → hget K2 d = hget H d := fun d hd => by rw [d3.2 d (by omega), hget_old (by omega)]; exact hold d hd
      have e5 : [x1, x2] = partT 5 l[i] := by rw [partT, if_neg (by decide), hx1, hx2]
      rw [e5, hnext] at d2
      simp (disch := omega) only [kB, kcx, kdm, kdn, kel, aop, resultsL, resultOf, Nat.reduceEqDiff, reduceCtorEq, eq1, apartOK, apart2, AObj.live, Int.reduceEq, Int.reduceLT, Int.reduceLE, Int.reduceAdd, Int.reduceSub, Int.reduceMul, Int.reduceToNat, cutCells, Nat.reduceAdd, Nat.reduceLeDiff, Nat.reduceLT, Nat.reduceMul, Nat.reduceSub, c0, c54, hg, b1, b2, c1, c2, k0, g1, g2, signs_len, if_pos, lenV, hsrc, d1', wr_i64]
      exact ⟨l.length - (i + 1), by omega, i + 1, by omega, rfl, by have := d3.1; omega, fin2, sv2, d2, by exact ex_env rfl⟩
  · obtain rfl : i = l.length := by omega
    have c0 : ¬ (l.length : Int) < (l.length : Int) := by omega
    rw [List.take_length] at hB
    have hKP : KP H.length H K := ⟨by omega, hold⟩
    have hjl : (Lib.join (l.map (partT form)) (sepT form)).length ≤ 140737488355328 := by
      have := join_len (sepT form) 128 (l.map (partT form)) (fun x hx => by
        obtain ⟨c, _, rfl⟩ := List.mem_map.1 hx
        exact partT_len _ _)
      have hs : (sepT form).length = 1 := by unfold sepT; split <;> rfl
      rw [hs, List.length_map] at this
      omega
    have hll : (l.map (partT form)).length ≤ 1000 := by simp; omega
    rcases hform with rfl | rfl
    · rw [sepT, if_pos rfl] at h hjl
      simp (disch := omega) only [kB, kcx, kdm, kdn, kel, aop, resultsL, resultOf, Nat.reduceEqDiff, reduceCtorEq, eq1, apartOK, apart2, AObj.live, Int.reduceEq, Int.reduceLT, Int.reduceLE, Int.reduceAdd, Int.reduceSub, Int.reduceMul, Int.reduceToNat, cutCells, Nat.reduceAdd, Nat.reduceLeDiff, Nat.reduceLT, Nat.reduceMul, Nat.reduceSub, c0]
      refine join_s hB hll hjl ?_
      simp (disch := omega) only [kB, kcx, kdm, kdn, kel, aop, resultsL, resultOf, Nat.reduceEqDiff, reduceCtorEq, eq1, apartOK, apart2, AObj.live, Int.reduceEq, Int.reduceLT, Int.reduceLE, Int.reduceAdd, Int.reduceSub, Int.reduceMul, Int.reduceToNat, cutCells, Nat.reduceAdd, Nat.reduceLeDiff, Nat.reduceLT, Nat.reduceMul, Nat.reduceSub]
      exact ⟨_, rfl, hKP.ext, .tup2 (.closed rfl) (.closed rfl), h⟩
    · have c54 : ¬ (5 : Int) = 4 := by decide
      rw [sepT, if_neg (by decide)] at h hjl
      simp (disch := omega) only [kB, kcx, kdm, kdn, kel, aop, resultsL, resultOf, Nat.reduceEqDiff, reduceCtorEq, eq1, apartOK, apart2, AObj.live, Int.reduceEq, Int.reduceLT, Int.reduceLE, Int.reduceAdd, Int.reduceSub, Int.reduceMul, Int.reduceToNat, cutCells, Nat.reduceAdd, Nat.reduceLeDiff, Nat.reduceLT, Nat.reduceMul, Nat.reduceSub, c0, c54]
      refine join_s hB hll hjl ?_
      simp (disch := omega) only [kB, kcx, kdm, kdn, kel, aop, resultsL, resultOf, Nat.reduceEqDiff, reduceCtorEq, eq1, apartOK, apart2, AObj.live, Int.reduceEq, Int.reduceLT, Int.reduceLE, Int.reduceAdd, Int.reduceSub, Int.reduceMul, Int.reduceToNat, cutCells, Nat.reduceAdd, Nat.reduceLeDiff, Nat.reduceLT, Nat.reduceMul, Nat.reduceSub]
      exact ⟨_, rfl, hKP.ext, .tup2 (.closed rfl) (.closed rfl), h⟩

end Go.Proofs.YtkhkmgcegicmoaaDoor.Ev

/- A value's text, whole; a text read. -/
namespace Go.Proofs.YtkhkmgcegicmoaaDoor.Ev
set_option maxRecDepth 100000
set_option linter.unusedSimpArgs false
set_option linter.unusedVariables false
variable {R : FRes → Heap → Prop} {H : Heap}

set_option maxHeartbeats 4000000 in
theorem text_s {a : Nat} {w form : Int} (ha : a < 2 ^ 128) (hH : hget H 0 = .row (numV signsL) 0 false) (hlen : 0 < H.length) (h : R (.ret (txtV (textI a w form))) H) : WD T 14 [bvA a, .int .i64 w, .int .i64 form] H R := by
  refine WD.gc0 (WD.of follows t14 (by simp) ?_)
  have fin : ∀ K, H.length + 1 ≤ K.length → (∀ d, d < H.length → hget K d = hget H d) → KP H.length H K := fun K h1 h2 => ⟨by omega, h2⟩
  by_cases f1 : form < 1
  · rw [textI, if_pos (.inl f1)] at h
    simp (disch := omega) only [kB, kcx, kdm, kdn, kel, aop, resultsL, resultOf, Nat.reduceEqDiff, reduceCtorEq, eq1, apartOK, apart2, AObj.live, Int.reduceEq, Int.reduceLT, Int.reduceLE, Int.reduceAdd, Int.reduceSub, Int.reduceMul, Int.reduceToNat, cutCells, Nat.reduceAdd, Nat.reduceLeDiff, Nat.reduceLT, Nat.reduceMul, Nat.reduceSub, f1]
    exact ⟨_, rfl, ⟨_, rfl⟩, .tup2 (.closed rfl) (.closed rfl), h⟩
  by_cases f5 : 5 < form
  · rw [textI, if_pos (.inr f5)] at h
    simp (disch := omega) only [kB, kcx, kdm, kdn, kel, aop, resultsL, resultOf, Nat.reduceEqDiff, reduceCtorEq, eq1, apartOK, apart2, AObj.live, Int.reduceEq, Int.reduceLT, Int.reduceLE, Int.reduceAdd, Int.reduceSub, Int.reduceMul, Int.reduceToNat, cutCells, Nat.reduceAdd, Nat.reduceLeDiff, Nat.reduceLT, Nat.reduceMul, Nat.reduceSub, f1, f5]
    exact ⟨_, rfl, ⟨_, rfl⟩, .tup2 (.closed rfl) (.closed rfl), h⟩
  rw [textI, if_neg (by omega)] at h
  simp (disch := omega) only [kB, kcx, kdm, kdn, kel, aop, resultsL, resultOf, Nat.reduceEqDiff, reduceCtorEq, eq1, apartOK, apart2, AObj.live, Int.reduceEq, Int.reduceLT, Int.reduceLE, Int.reduceAdd, Int.reduceSub, Int.reduceMul, Int.reduceToNat, cutCells, Nat.reduceAdd, Nat.reduceLeDiff, Nat.reduceLT, Nat.reduceMul, Nat.reduceSub, f1, f5]
  refine has_s ?_
  cases hh : hasI w form with
  | false =>
    rw [hh, if_neg (by decide)] at h
    simp (disch := omega) only [kB, kcx, kdm, kdn, kel, aop, resultsL, resultOf, Nat.reduceEqDiff, reduceCtorEq, eq1, apartOK, apart2, AObj.live, Int.reduceEq, Int.reduceLT, Int.reduceLE, Int.reduceAdd, Int.reduceSub, Int.reduceMul, Int.reduceToNat, cutCells, Nat.reduceAdd, Nat.reduceLeDiff, Nat.reduceLT, Nat.reduceMul, Nat.reduceSub]
    exact ⟨_, rfl, ⟨_, rfl⟩, .tup2 (.closed rfl) (.closed rfl), h⟩
  | true =>
    have hw := hasI_isw hh
    rcases wcases w with hw' | ⟨k, rfl, h1, h2⟩
    · rw [hw] at hw'; cases hw'
    rw [hh, if_pos rfl] at h
    simp (disch := omega) only [kB, kcx, kdm, kdn, kel, aop, resultsL, resultOf, Nat.reduceEqDiff, reduceCtorEq, eq1, apartOK, apart2, AObj.live, Int.reduceEq, Int.reduceLT, Int.reduceLE, Int.reduceAdd, Int.reduceSub, Int.reduceMul, Int.reduceToNat, cutCells, Nat.reduceAdd, Nat.reduceLeDiff, Nat.reduceLT, Nat.reduceMul, Nat.reduceSub]
    refine fits_g ha ?_
    cases hf : fitsI a (k : Int) with
    | false =>
      rw [hf, if_neg (by decide)] at h
      simp (disch := omega) only [kB, kcx, kdm, kdn, kel, aop, resultsL, resultOf, Nat.reduceEqDiff, reduceCtorEq, eq1, apartOK, apart2, AObj.live, Int.reduceEq, Int.reduceLT, Int.reduceLE, Int.reduceAdd, Int.reduceSub, Int.reduceMul, Int.reduceToNat, cutCells, Nat.reduceAdd, Nat.reduceLeDiff, Nat.reduceLT, Nat.reduceMul, Nat.reduceSub]
      exact ⟨_, rfl, ⟨_, rfl⟩, .tup2 (.closed rfl) (.closed rfl), h⟩
    | true =>
      rw [hf, if_pos rfl, Int.toNat_natCast] at h
      have ha2 : a < 2 ^ k := by
        rw [fitsI, hw, Bool.true_and, Int.toNat_natCast] at hf
        simpa using hf
      have k0 : hget (H ++ [rowU a]) 0 = .row (numV signsL) 0 false := by rw [hget_old hlen]; exact hH
      have hcat : ∀ (p : List UInt8) b, p.length = 2 → p.length + (dig b a).length ≤ 4611686018427387904 := fun p b hp => by have := dig_len b a; omega
      by_cases g1 : form = 1
      · subst g1
        rw [txtI, if_pos rfl] at h
        simp (disch := omega) only [kB, kcx, kdm, kdn, kel, aop, resultsL, resultOf, Nat.reduceEqDiff, reduceCtorEq, eq1, apartOK, apart2, AObj.live, Int.reduceEq, Int.reduceLT, Int.reduceLE, Int.reduceAdd, Int.reduceSub, Int.reduceMul, Int.reduceToNat, cutCells, Nat.reduceAdd, Nat.reduceLeDiff, Nat.reduceLT, Nat.reduceMul, Nat.reduceSub]
        refine digits_s (b := 10) (by simp [base3]) ha k0 (by simp) ?_
        simp (disch := omega) only [kB, kcx, kdm, kdn, kel, aop, resultsL, resultOf, Nat.reduceEqDiff, reduceCtorEq, eq1, apartOK, apart2, AObj.live, Int.reduceEq, Int.reduceLT, Int.reduceLE, Int.reduceAdd, Int.reduceSub, Int.reduceMul, Int.reduceToNat, cutCells, Nat.reduceAdd, Nat.reduceLeDiff, Nat.reduceLT, Nat.reduceMul, Nat.reduceSub]
        exact ⟨_, rfl, ⟨_, rfl⟩, .tup2 (.closed rfl) (.closed rfl), h⟩
      by_cases g2 : form = 2
      · subst g2
        rw [txtI, if_neg (by decide), if_pos rfl] at h
        have hadd := bin_str_add (hcat [48, 120] 16 rfl)
        simp (disch := omega) only [kB, kcx, kdm, kdn, kel, aop, resultsL, resultOf, Nat.reduceEqDiff, reduceCtorEq, eq1, apartOK, apart2, AObj.live, Int.reduceEq, Int.reduceLT, Int.reduceLE, Int.reduceAdd, Int.reduceSub, Int.reduceMul, Int.reduceToNat, cutCells, Nat.reduceAdd, Nat.reduceLeDiff, Nat.reduceLT, Nat.reduceMul, Nat.reduceSub]
        refine digits_s (b := 16) (by simp [base3]) ha k0 (by simp) ?_
        simp (disch := omega) only [kB, kcx, kdm, kdn, kel, aop, resultsL, resultOf, Nat.reduceEqDiff, reduceCtorEq, eq1, apartOK, apart2, AObj.live, Int.reduceEq, Int.reduceLT, Int.reduceLE, Int.reduceAdd, Int.reduceSub, Int.reduceMul, Int.reduceToNat, cutCells, Nat.reduceAdd, Nat.reduceLeDiff, Nat.reduceLT, Nat.reduceMul, Nat.reduceSub, hadd]
        exact ⟨_, rfl, ⟨_, rfl⟩, .tup2 (.closed rfl) (.closed rfl), h⟩
      by_cases g3 : form = 3
      · subst g3
        rw [txtI, if_neg (by decide), if_neg (by decide), if_pos rfl] at h
        have hadd := bin_str_add (hcat [48, 98] 2 rfl)
        simp (disch := omega) only [kB, kcx, kdm, kdn, kel, aop, resultsL, resultOf, Nat.reduceEqDiff, reduceCtorEq, eq1, apartOK, apart2, AObj.live, Int.reduceEq, Int.reduceLT, Int.reduceLE, Int.reduceAdd, Int.reduceSub, Int.reduceMul, Int.reduceToNat, cutCells, Nat.reduceAdd, Nat.reduceLeDiff, Nat.reduceLT, Nat.reduceMul, Nat.reduceSub]
        refine digits_s (b := 2) (by simp [base3]) ha k0 (by simp) ?_
        simp (disch := omega) only [kB, kcx, kdm, kdn, kel, aop, resultsL, resultOf, Nat.reduceEqDiff, reduceCtorEq, eq1, apartOK, apart2, AObj.live, Int.reduceEq, Int.reduceLT, Int.reduceLE, Int.reduceAdd, Int.reduceSub, Int.reduceMul, Int.reduceToNat, cutCells, Nat.reduceAdd, Nat.reduceLeDiff, Nat.reduceLT, Nat.reduceMul, Nat.reduceSub, hadd]
        exact ⟨_, rfl, ⟨_, rfl⟩, .tup2 (.closed rfl) (.closed rfl), h⟩
      rw [txtI, if_neg g1, if_neg g2, if_neg g3] at h
      obtain ⟨Z, hZ⟩ : ∃ Z, Z = WC T (g14.body.at [1, 1, 1, 1, 1]) := ⟨_, rfl⟩
      have hrest : ∀ e K, (∃ x : Nat → Value, e = [x 0, x 1, .int .i64 form, x 3, x 4, x 5, x 6, x 7, .string (bs (beL ((k + 7) / 8) a)), x 9, .slice none 0 0, x 11, x 12, x 13, x 14, x 15, x 16, x 17, x 18, x 19, x 20, x 21, x 22, x 23, x 24, x 25, x 26, x 27, x 28, x 29, x 30, x 31, x 32, x 33, x 34, x 35, x 36, x 37, x 38, x 39, x 40, x 41, x 42, x 43, x 44, x 45, x 46, x 47, x 48, x 49, x 50, x 51, x 52, x 53, x 54, x 55, x 56, x 57, x 58, x 59, x 60, x 61, x 62, x 63, x 64, x 65, x 66, x 67, x 68, x 69, x 70, x 71, x 72, x 73, x 74, x 75, x 76, x 77, x 78, x 79, x 80, x 81, x 82, x 83, x 84, x 85, x 86, x 87, x 88, x 89]) → H.length + 1 ≤ K.length → (∀ d, d < H.length → hget K d = hget H d) → Z e K (QT R H) := fun e K he q1 q2 => by
        rw [hZ]
        exact text_tail (by omega) (by rw [beL_len]; omega) hH hlen he q1 q2 h
      have hZ' := hZ.symm
      clear hZ
      simp only [AFunc.body, g14, ACode.at] at hZ'
      simp (disch := omega) only [kB, kcx, kdm, kdn, kel, aop, resultsL, resultOf, Nat.reduceEqDiff, reduceCtorEq, eq1, apartOK, apart2, AObj.live, Int.reduceEq, Int.reduceLT, Int.reduceLE, Int.reduceAdd, Int.reduceSub, Int.reduceMul, Int.reduceToNat, cutCells, Nat.reduceAdd, Nat.reduceLeDiff, Nat.reduceLT, Nat.reduceMul, Nat.reduceSub, hZ', g1, g2, g3]
      refine bytes_s h1 h2 ha2 ?_
      simp (disch := omega) only [kB, kcx, kdm, kdn, kel, aop, resultsL, resultOf, Nat.reduceEqDiff, reduceCtorEq, eq1, apartOK, apart2, AObj.live, Int.reduceEq, Int.reduceLT, Int.reduceLE, Int.reduceAdd, Int.reduceSub, Int.reduceMul, Int.reduceToNat, cutCells, Nat.reduceAdd, Nat.reduceLeDiff, Nat.reduceLT, Nat.reduceMul, Nat.reduceSub, hZ']
      exact hrest _ _ (by exact ex_env rfl) (by simp) (fun d hd => hget_old hd)

/-! A text read. -/
/-- The text behind its head, and the base that the head says. -/
def headT (l : List UInt8) : List UInt8 × Nat := if [48, 120].isPrefixOf l = true then (l.drop 2, 16) else if [48, 98].isPrefixOf l = true then (l.drop 2, 2) else (l, 10)
def parseI (l : List UInt8) (w : Int) : Nat × Int :=
  if isw w = true then
    match numI (headT l).2 (headT l).1 with
    | some v => if v < 2 ^ w.toNat then (v, 0) else (0, 11)
    | none =>
      match (if hasI w 4 = true then pcsO 10 46 4 l else none) with
      | some out => fromI out w
      | none =>
        match (if hasI w 5 = true then pcsO 16 58 (w.toNat / 8) l else none) with
        | some out => fromI out w
        | none => (0, 12)
  else (0, 10)

end Go.Proofs.YtkhkmgcegicmoaaDoor.Ev

/- A text read: the program's Parse. -/
namespace Go.Proofs.YtkhkmgcegicmoaaDoor.Ev
set_option maxRecDepth 100000
set_option linter.unusedSimpArgs false
set_option linter.unusedVariables false
variable {R : FRes → Heap → Prop} {H : Heap}

abbrev QP (R : FRes → Heap → Prop) (H : Heap) : Post := retK [.cellN 4 2, .tmp 5] (fun r H1 => ∃ v, r = .ret v ∧ (∃ g, H1 = H ++ g) ∧ Scoped H.length v ∧ R (.ret v) H)
abbrev zRow : AObj := .row [.int .u64 0, .int .u64 0] 0 true

def colI (l : List UInt8) (w : Int) : Nat × Int := match (if hasI w 5 = true then pcsO 16 58 (w.toNat / 8) l else none) with
  | some out => fromI out w
  | none => (0, 12)
def dotI (l : List UInt8) (w : Int) : Nat × Int := match (if hasI w 4 = true then pcsO 10 46 4 l else none) with
  | some out => fromI out w
  | none => colI l w

theorem par_col {l : List UInt8} {k : Nat} (hk : k ≤ 128) (hl : l.length ≤ 4611686018427387904) {e : Env} (he : (∃ x : Nat → Value, e = [.string (bs l), .int .i64 (k : Int), x 2, x 3, .pointer (some ⟨H.length, 0, none⟩), x 5, x 6, x 7, x 8, x 9, x 10, x 11, x 12, x 13, x 14, x 15, x 16, x 17, x 18, x 19, x 20, x 21, x 22, x 23, x 24, x 25, x 26, x 27, x 28, x 29, x 30, x 31, x 32, x 33, x 34, x 35, x 36, x 37, x 38, x 39, x 40, x 41, x 42, x 43, x 44, x 45, x 46, x 47, x 48, x 49, x 50, x 51, x 52, x 53, x 54, x 55, x 56, x 57, x 58, x 59, x 60, x 61, x 62, x 63, x 64, x 65, x 66, x 67, x 68, x 69, x 70, x 71, x 72, x 73, x 74, x 75, x 76, x 77, x 78, x 79, x 80, x 81, x 82, x 83, x 84, x 85, x 86, x 87])) {g : Heap}
    (h : R (.ret (pairV (colI l (k : Int)))) H) : WC T (g15.body.at [1, 1, 1, 1, 1, 1, 1, 1]) e (H ++ zRow :: g) (QP R H) := by
  obtain ⟨y, rfl⟩ := he
  have e0 : H ++ zRow :: g = (H ++ [zRow]) ++ g := by simp
  have hK : ∀ o, (H ++ zRow :: g).set H.length o = H ++ o :: g := fun o => by simp
  have hg : hget (H ++ zRow :: g) H.length = zRow := by rw [e0, hget_old (by simp), hget_last]
  have hg2 : ∀ o, hget (H ++ o :: g) H.length = o := fun o => by rw [show H ++ o :: g = (H ++ [o]) ++ g by simp, hget_old (by simp), hget_last]
  obtain ⟨K, hKK⟩ : ∃ K, K = H ++ zRow :: g := ⟨_, rfl⟩
  rw [← hKK] at hK hg ⊢
  unfold colI at h
  simp only [AFunc.body, g15, ACode.at]
  have hq := bin_quo (k := .i64) (a := k) (b := 8) (by decide)
  have q0 : (((8 : Nat) : Int)) = 8 := rfl
  rw [q0] at hq
  simp (disch := omega) only [kB, kcx, kdm, kdn, kel, aop, resultsL, resultOf, Nat.reduceEqDiff, reduceCtorEq, eq1, apartOK, apart2, AObj.live, Int.reduceEq, Int.reduceLT, Int.reduceLE, Int.reduceAdd, Int.reduceSub, Int.reduceMul, Int.reduceToNat, cutCells, Nat.reduceAdd, Nat.reduceLeDiff, Nat.reduceLT, Nat.reduceMul, Nat.reduceSub]
  refine has_s ?_
  cases hh : hasI (k : Int) 5 with
  | false =>
    rw [hh, if_neg (by decide)] at h
    have hz : R (.ret (.tuple #[bvA 0, .int .i64 12])) H := h
    rw [bvA_zero] at hz
    simp (disch := omega) only [kB, kcx, kdm, kdn, kel, aop, resultsL, resultOf, Nat.reduceEqDiff, reduceCtorEq, eq1, apartOK, apart2, AObj.live, Int.reduceEq, Int.reduceLT, Int.reduceLE, Int.reduceAdd, Int.reduceSub, Int.reduceMul, Int.reduceToNat, cutCells, Nat.reduceAdd, Nat.reduceLeDiff, Nat.reduceLT, Nat.reduceMul, Nat.reduceSub, hg, hK, hg2]
    exact ⟨_, rfl, ⟨_, rfl⟩, .tup2 (.closed rfl) (.closed rfl), hz⟩
  | true =>
    rw [hh, if_pos rfl, Int.toNat_natCast] at h
    simp (disch := omega) only [kB, kcx, kdm, kdn, kel, aop, resultsL, resultOf, Nat.reduceEqDiff, reduceCtorEq, eq1, apartOK, apart2, AObj.live, Int.reduceEq, Int.reduceLT, Int.reduceLE, Int.reduceAdd, Int.reduceSub, Int.reduceMul, Int.reduceToNat, cutCells, Nat.reduceAdd, Nat.reduceLeDiff, Nat.reduceLT, Nat.reduceMul, Nat.reduceSub, hq, wr_i64]
    refine pieces_s (b := 16) (most := k / 8) (.inr rfl) (by omega) hl (fun out ho => ?_) (fun ho t => ?_)
    · rw [ho] at h
      simp (disch := omega) only [kB, kcx, kdm, kdn, kel, aop, resultsL, resultOf, Nat.reduceEqDiff, reduceCtorEq, eq1, apartOK, apart2, AObj.live, Int.reduceEq, Int.reduceLT, Int.reduceLE, Int.reduceAdd, Int.reduceSub, Int.reduceMul, Int.reduceToNat, cutCells, Nat.reduceAdd, Nat.reduceLeDiff, Nat.reduceLT, Nat.reduceMul, Nat.reduceSub]
      refine from_g ?_
      simp (disch := omega) only [kB, kcx, kdm, kdn, kel, aop, resultsL, resultOf, Nat.reduceEqDiff, reduceCtorEq, eq1, apartOK, apart2, AObj.live, Int.reduceEq, Int.reduceLT, Int.reduceLE, Int.reduceAdd, Int.reduceSub, Int.reduceMul, Int.reduceToNat, cutCells, Nat.reduceAdd, Nat.reduceLeDiff, Nat.reduceLT, Nat.reduceMul, Nat.reduceSub, hg, hK, hg2]
      exact ⟨_, rfl, ⟨_, rfl⟩, .tup2 (.closed rfl) (.closed rfl), h⟩
    · rw [ho] at h
      have hz : R (.ret (.tuple #[bvA 0, .int .i64 12])) H := h
      rw [bvA_zero] at hz
      simp (disch := omega) only [kB, kcx, kdm, kdn, kel, aop, resultsL, resultOf, Nat.reduceEqDiff, reduceCtorEq, eq1, apartOK, apart2, AObj.live, Int.reduceEq, Int.reduceLT, Int.reduceLE, Int.reduceAdd, Int.reduceSub, Int.reduceMul, Int.reduceToNat, cutCells, Nat.reduceAdd, Nat.reduceLeDiff, Nat.reduceLT, Nat.reduceMul, Nat.reduceSub, hg, hK, hg2]
      exact ⟨_, rfl, ⟨_, rfl⟩, .tup2 (.closed rfl) (.closed rfl), hz⟩

theorem par_dot {l : List UInt8} {k : Nat} (hk : k ≤ 128) (hl : l.length ≤ 4611686018427387904) {e : Env} (he : (∃ x : Nat → Value, e = [.string (bs l), .int .i64 (k : Int), x 2, x 3, .pointer (some ⟨H.length, 0, none⟩), x 5, x 6, x 7, x 8, x 9, x 10, x 11, x 12, x 13, x 14, x 15, x 16, x 17, x 18, x 19, x 20, x 21, x 22, x 23, x 24, x 25, x 26, x 27, x 28, x 29, x 30, x 31, x 32, x 33, x 34, x 35, x 36, x 37, x 38, x 39, x 40, x 41, x 42, x 43, x 44, x 45, x 46, x 47, x 48, x 49, x 50, x 51, x 52, x 53, x 54, x 55, x 56, x 57, x 58, x 59, x 60, x 61, x 62, x 63, x 64, x 65, x 66, x 67, x 68, x 69, x 70, x 71, x 72, x 73, x 74, x 75, x 76, x 77, x 78, x 79, x 80, x 81, x 82, x 83, x 84, x 85, x 86, x 87])) {g : Heap}
    (h : R (.ret (pairV (dotI l (k : Int)))) H) : WC T (g15.body.at [1, 1, 1, 1, 1, 1, 1]) e (H ++ zRow :: g) (QP R H) := by
  obtain ⟨y, rfl⟩ := he
  have e0 : H ++ zRow :: g = (H ++ [zRow]) ++ g := by simp
  have hK : ∀ o, (H ++ zRow :: g).set H.length o = H ++ o :: g := fun o => by simp
  have hg : hget (H ++ zRow :: g) H.length = zRow := by rw [e0, hget_old (by simp), hget_last]
  have hg2 : ∀ o, hget (H ++ o :: g) H.length = o := fun o => by rw [show H ++ o :: g = (H ++ [o]) ++ g by simp, hget_old (by simp), hget_last]
  obtain ⟨Z, hZ⟩ : ∃ Z, Z = WC T (g15.body.at [1, 1, 1, 1, 1, 1, 1, 1]) := ⟨_, rfl⟩
  have hrest : ∀ e, R (.ret (pairV (colI l (k : Int)))) H → (∃ x : Nat → Value, e = [.string (bs l), .int .i64 (k : Int), x 2, x 3, .pointer (some ⟨H.length, 0, none⟩), x 5, x 6, x 7, x 8, x 9, x 10, x 11, x 12, x 13, x 14, x 15, x 16, x 17, x 18, x 19, x 20, x 21, x 22, x 23, x 24, x 25, x 26, x 27, x 28, x 29, x 30, x 31, x 32, x 33, x 34, x 35, x 36, x 37, x 38, x 39, x 40, x 41, x 42, x 43, x 44, x 45, x 46, x 47, x 48, x 49, x 50, x 51, x 52, x 53, x 54, x 55, x 56, x 57, x 58, x 59, x 60, x 61, x 62, x 63, x 64, x 65, x 66, x 67, x 68, x 69, x 70, x 71, x 72, x 73, x 74, x 75, x 76, x 77, x 78, x 79, x 80, x 81, x 82, x 83, x 84, x 85, x 86, x 87]) → Z e (H ++ zRow :: g) (QP R H) := fun e hR he => by rw [hZ]; exact par_col hk hl he hR
  obtain ⟨K, hKK⟩ : ∃ K, K = H ++ zRow :: g := ⟨_, rfl⟩
  rw [← hKK] at hK hg hrest ⊢
  have hZ' := hZ.symm
  clear hZ
  simp only [AFunc.body, g15, ACode.at] at hZ' ⊢
  unfold dotI at h
  simp (disch := omega) only [kB, kcx, kdm, kdn, kel, aop, resultsL, resultOf, Nat.reduceEqDiff, reduceCtorEq, eq1, apartOK, apart2, AObj.live, Int.reduceEq, Int.reduceLT, Int.reduceLE, Int.reduceAdd, Int.reduceSub, Int.reduceMul, Int.reduceToNat, cutCells, Nat.reduceAdd, Nat.reduceLeDiff, Nat.reduceLT, Nat.reduceMul, Nat.reduceSub, hZ']
  refine has_s ?_
  cases hh : hasI (k : Int) 4 with
  | false =>
    rw [hh, if_neg (by decide)] at h
    simp (disch := omega) only [kB, kcx, kdm, kdn, kel, aop, resultsL, resultOf, Nat.reduceEqDiff, reduceCtorEq, eq1, apartOK, apart2, AObj.live, Int.reduceEq, Int.reduceLT, Int.reduceLE, Int.reduceAdd, Int.reduceSub, Int.reduceMul, Int.reduceToNat, cutCells, Nat.reduceAdd, Nat.reduceLeDiff, Nat.reduceLT, Nat.reduceMul, Nat.reduceSub, hZ']
    exact hrest _ h (by exact ex_env rfl)
  | true =>
    rw [hh, if_pos rfl] at h
    simp (disch := omega) only [kB, kcx, kdm, kdn, kel, aop, resultsL, resultOf, Nat.reduceEqDiff, reduceCtorEq, eq1, apartOK, apart2, AObj.live, Int.reduceEq, Int.reduceLT, Int.reduceLE, Int.reduceAdd, Int.reduceSub, Int.reduceMul, Int.reduceToNat, cutCells, Nat.reduceAdd, Nat.reduceLeDiff, Nat.reduceLT, Nat.reduceMul, Nat.reduceSub, hZ']
    refine pieces_s (b := 10) (most := 4) (.inl rfl) (by omega) hl (fun out ho => ?_) (fun ho t => ?_)
    · rw [ho] at h
      simp (disch := omega) only [kB, kcx, kdm, kdn, kel, aop, resultsL, resultOf, Nat.reduceEqDiff, reduceCtorEq, eq1, apartOK, apart2, AObj.live, Int.reduceEq, Int.reduceLT, Int.reduceLE, Int.reduceAdd, Int.reduceSub, Int.reduceMul, Int.reduceToNat, cutCells, Nat.reduceAdd, Nat.reduceLeDiff, Nat.reduceLT, Nat.reduceMul, Nat.reduceSub, hZ']
      refine from_g ?_
      simp (disch := omega) only [kB, kcx, kdm, kdn, kel, aop, resultsL, resultOf, Nat.reduceEqDiff, reduceCtorEq, eq1, apartOK, apart2, AObj.live, Int.reduceEq, Int.reduceLT, Int.reduceLE, Int.reduceAdd, Int.reduceSub, Int.reduceMul, Int.reduceToNat, cutCells, Nat.reduceAdd, Nat.reduceLeDiff, Nat.reduceLT, Nat.reduceMul, Nat.reduceSub, hZ', hg, hK, hg2]
      exact ⟨_, rfl, ⟨_, rfl⟩, .tup2 (.closed rfl) (.closed rfl), h⟩
    · rw [ho] at h
      simp (disch := omega) only [kB, kcx, kdm, kdn, kel, aop, resultsL, resultOf, Nat.reduceEqDiff, reduceCtorEq, eq1, apartOK, apart2, AObj.live, Int.reduceEq, Int.reduceLT, Int.reduceLE, Int.reduceAdd, Int.reduceSub, Int.reduceMul, Int.reduceToNat, cutCells, Nat.reduceAdd, Nat.reduceLeDiff, Nat.reduceLT, Nat.reduceMul, Nat.reduceSub, hZ']
      exact hrest _ h (by exact ex_env rfl)

def numP (l t : List UInt8) (b : Nat) (w : Int) : Nat × Int := match numI b t with
  | some v => if v < 2 ^ w.toNat then (v, 0) else (0, 11)
  | none => dotI l w

set_option maxHeartbeats 2000000 in
theorem par_num {l t : List UInt8} {k b : Nat} (h1 : 1 ≤ k) (hk : k ≤ 128) (hb : base3 b) (hl : l.length ≤ 4611686018427387904) {e : Env} (he : (∃ x : Nat → Value, e = [.string (bs l), .int .i64 (k : Int), x 2, x 3, .pointer (some ⟨H.length, 0, none⟩), x 5, .string (bs t), .int .u64 (b : Int), x 8, x 9, x 10, x 11, x 12, x 13, x 14, x 15, x 16, x 17, x 18, x 19, x 20, x 21, x 22, x 23, x 24, x 25, x 26, x 27, x 28, x 29, x 30, x 31, x 32, x 33, x 34, x 35, x 36, x 37, x 38, x 39, x 40, x 41, x 42, x 43, x 44, x 45, x 46, x 47, x 48, x 49, x 50, x 51, x 52, x 53, x 54, x 55, x 56, x 57, x 58, x 59, x 60, x 61, x 62, x 63, x 64, x 65, x 66, x 67, x 68, x 69, x 70, x 71, x 72, x 73, x 74, x 75, x 76, x 77, x 78, x 79, x 80, x 81, x 82, x 83, x 84, x 85, x 86, x 87]))
    (h : R (.ret (pairV (numP l t b (k : Int)))) H) : WC T (g15.body.at [1, 1, 1, 1]) e (H ++ [zRow]) (QP R H) := by
  obtain ⟨y, rfl⟩ := he
  obtain ⟨Z, hZ⟩ : ∃ Z, Z = WC T (g15.body.at [1, 1, 1, 1, 1, 1, 1]) := ⟨_, rfl⟩
  have hrest : ∀ e g, R (.ret (pairV (dotI l (k : Int)))) H → (∃ x : Nat → Value, e = [.string (bs l), .int .i64 (k : Int), x 2, x 3, .pointer (some ⟨H.length, 0, none⟩), x 5, x 6, x 7, x 8, x 9, x 10, x 11, x 12, x 13, x 14, x 15, x 16, x 17, x 18, x 19, x 20, x 21, x 22, x 23, x 24, x 25, x 26, x 27, x 28, x 29, x 30, x 31, x 32, x 33, x 34, x 35, x 36, x 37, x 38, x 39, x 40, x 41, x 42, x 43, x 44, x 45, x 46, x 47, x 48, x 49, x 50, x 51, x 52, x 53, x 54, x 55, x 56, x 57, x 58, x 59, x 60, x 61, x 62, x 63, x 64, x 65, x 66, x 67, x 68, x 69, x 70, x 71, x 72, x 73, x 74, x 75, x 76, x 77, x 78, x 79, x 80, x 81, x 82, x 83, x 84, x 85, x 86, x 87]) → Z e (H ++ zRow :: g) (QP R H) := fun e g hR he => by rw [hZ]; exact par_dot hk hl he hR
  have hZ' := hZ.symm
  clear hZ
  simp only [AFunc.body, g15, ACode.at] at hZ' ⊢
  unfold numP at h
  simp (disch := omega) only [kB, kcx, kdm, kdn, kel, aop, resultsL, resultOf, Nat.reduceEqDiff, reduceCtorEq, eq1, apartOK, apart2, AObj.live, Int.reduceEq, Int.reduceLT, Int.reduceLE, Int.reduceAdd, Int.reduceSub, Int.reduceMul, Int.reduceToNat, cutCells, Nat.reduceAdd, Nat.reduceLeDiff, Nat.reduceLT, Nat.reduceMul, Nat.reduceSub, hZ']
  refine number_s hb ?_
  cases hn : numI b t with
  | none =>
    rw [hn] at h
    rw [numT]
    simp (disch := omega) only [kB, kcx, kdm, kdn, kel, aop, resultsL, resultOf, Nat.reduceEqDiff, reduceCtorEq, eq1, apartOK, apart2, AObj.live, Int.reduceEq, Int.reduceLT, Int.reduceLE, Int.reduceAdd, Int.reduceSub, Int.reduceMul, Int.reduceToNat, cutCells, Nat.reduceAdd, Nat.reduceLeDiff, Nat.reduceLT, Nat.reduceMul, Nat.reduceSub, hZ']
    exact hrest _ _ h (by exact ex_env rfl)
  | some v =>
    rw [hn] at h
    simp only [Int.toNat_natCast] at h
    rw [numT]
    by_cases hv : v < 2 ^ 128
    · have ev : v % 2 ^ 128 = v := Nat.mod_eq_of_lt hv
      rw [ev, decide_eq_true hv]
      simp (disch := omega) only [kB, kcx, kdm, kdn, kel, aop, resultsL, resultOf, Nat.reduceEqDiff, reduceCtorEq, eq1, apartOK, apart2, AObj.live, Int.reduceEq, Int.reduceLT, Int.reduceLE, Int.reduceAdd, Int.reduceSub, Int.reduceMul, Int.reduceToNat, cutCells, Nat.reduceAdd, Nat.reduceLeDiff, Nat.reduceLT, Nat.reduceMul, Nat.reduceSub, hZ']
      refine fits_s h1 hk hv ?_
      by_cases hf : v < 2 ^ k
      · rw [if_pos hf] at h
        rw [decide_eq_true hf]
        simp (disch := omega) only [kB, kcx, kdm, kdn, kel, aop, resultsL, resultOf, Nat.reduceEqDiff, reduceCtorEq, eq1, apartOK, apart2, AObj.live, Int.reduceEq, Int.reduceLT, Int.reduceLE, Int.reduceAdd, Int.reduceSub, Int.reduceMul, Int.reduceToNat, cutCells, Nat.reduceAdd, Nat.reduceLeDiff, Nat.reduceLT, Nat.reduceMul, Nat.reduceSub, hZ']
        exact ⟨_, rfl, ⟨_, rfl⟩, .tup2 (.closed rfl) (.closed rfl), h⟩
      · rw [if_neg hf] at h
        rw [decide_eq_false hf]
        simp (disch := omega) only [kB, kcx, kdm, kdn, kel, aop, resultsL, resultOf, Nat.reduceEqDiff, reduceCtorEq, eq1, apartOK, apart2, AObj.live, Int.reduceEq, Int.reduceLT, Int.reduceLE, Int.reduceAdd, Int.reduceSub, Int.reduceMul, Int.reduceToNat, cutCells, Nat.reduceAdd, Nat.reduceLeDiff, Nat.reduceLT, Nat.reduceMul, Nat.reduceSub, hZ']
        exact ⟨_, rfl, ⟨_, rfl⟩, .tup2 (.closed rfl) (.closed rfl), h⟩
    · have hf : ¬ v < 2 ^ k := fun q => hv (Nat.lt_of_lt_of_le q (Nat.pow_le_pow_right (by decide) hk))
      rw [if_neg hf] at h
      rw [decide_eq_false hv]
      simp (disch := omega) only [kB, kcx, kdm, kdn, kel, aop, resultsL, resultOf, Nat.reduceEqDiff, reduceCtorEq, eq1, apartOK, apart2, AObj.live, Int.reduceEq, Int.reduceLT, Int.reduceLE, Int.reduceAdd, Int.reduceSub, Int.reduceMul, Int.reduceToNat, cutCells, Nat.reduceAdd, Nat.reduceLeDiff, Nat.reduceLT, Nat.reduceMul, Nat.reduceSub, hZ']
      exact ⟨_, rfl, ⟨_, rfl⟩, .tup2 (.closed rfl) (.closed rfl), h⟩

theorem parseI_eq (l : List UInt8) (w : Int) : parseI l w = if isw w = true then numP l (headT l).1 (headT l).2 w else (0, 10) := rfl

theorem parse_s {l : List UInt8} {w : Int} (hl : l.length ≤ 4611686018427387904) (h : R (.ret (pairV (parseI l w))) H) : WD T 15 [.string (bs l), .int .i64 w] H R := by
  refine WD.gc0 (WD.of follows t15 (by simp) ?_)
  rw [parseI_eq] at h
  rcases wcases w with hw | ⟨k, rfl, h1, h2⟩
  · rw [hw, if_neg (by decide)] at h
    simp (disch := omega) only [kB, kcx, kdm, kdn, kel, aop, resultsL, resultOf, Nat.reduceEqDiff, reduceCtorEq, eq1, apartOK, apart2, AObj.live, Int.reduceEq, Int.reduceLT, Int.reduceLE, Int.reduceAdd, Int.reduceSub, Int.reduceMul, Int.reduceToNat, cutCells, Nat.reduceAdd, Nat.reduceLeDiff, Nat.reduceLT, Nat.reduceMul, Nat.reduceSub]
    refine isw_s ?_
    simp (disch := omega) only [kB, kcx, kdm, kdn, kel, aop, resultsL, resultOf, Nat.reduceEqDiff, reduceCtorEq, eq1, apartOK, apart2, AObj.live, Int.reduceEq, Int.reduceLT, Int.reduceLE, Int.reduceAdd, Int.reduceSub, Int.reduceMul, Int.reduceToNat, cutCells, Nat.reduceAdd, Nat.reduceLeDiff, Nat.reduceLT, Nat.reduceMul, Nat.reduceSub, hw]
    exact ⟨_, rfl, ⟨_, rfl⟩, .tup2 (.closed rfl) (.closed rfl), h⟩
  · have hw := isw_nat h1 h2
    rw [hw, if_pos rfl] at h
    unfold headT at h
    obtain ⟨Z, hZ⟩ : ∃ Z, Z = WC T (g15.body.at [1, 1, 1, 1]) := ⟨_, rfl⟩
    have hrest : ∀ e t b, base3 b → R (.ret (pairV (numP l t b (k : Int)))) H → (∃ x : Nat → Value, e = [.string (bs l), .int .i64 (k : Int), x 2, x 3, .pointer (some ⟨H.length, 0, none⟩), x 5, .string (bs t), .int .u64 (b : Int), x 8, x 9, x 10, x 11, x 12, x 13, x 14, x 15, x 16, x 17, x 18, x 19, x 20, x 21, x 22, x 23, x 24, x 25, x 26, x 27, x 28, x 29, x 30, x 31, x 32, x 33, x 34, x 35, x 36, x 37, x 38, x 39, x 40, x 41, x 42, x 43, x 44, x 45, x 46, x 47, x 48, x 49, x 50, x 51, x 52, x 53, x 54, x 55, x 56, x 57, x 58, x 59, x 60, x 61, x 62, x 63, x 64, x 65, x 66, x 67, x 68, x 69, x 70, x 71, x 72, x 73, x 74, x 75, x 76, x 77, x 78, x 79, x 80, x 81, x 82, x 83, x 84, x 85, x 86, x 87]) → Z e (H ++ [zRow]) (QP R H) := fun e t b hb hR he => by rw [hZ]; exact par_num h1 h2 hb hl he hR
    have hZ' := hZ.symm
    clear hZ
    simp only [AFunc.body, g15, ACode.at] at hZ'
    simp (disch := omega) only [kB, kcx, kdm, kdn, kel, aop, resultsL, resultOf, Nat.reduceEqDiff, reduceCtorEq, eq1, apartOK, apart2, AObj.live, Int.reduceEq, Int.reduceLT, Int.reduceLE, Int.reduceAdd, Int.reduceSub, Int.reduceMul, Int.reduceToNat, cutCells, Nat.reduceAdd, Nat.reduceLeDiff, Nat.reduceLT, Nat.reduceMul, Nat.reduceSub, hZ']
    refine isw_s ?_
    simp (disch := omega) only [kB, kcx, kdm, kdn, kel, aop, resultsL, resultOf, Nat.reduceEqDiff, reduceCtorEq, eq1, apartOK, apart2, AObj.live, Int.reduceEq, Int.reduceLT, Int.reduceLE, Int.reduceAdd, Int.reduceSub, Int.reduceMul, Int.reduceToNat, cutCells, Nat.reduceAdd, Nat.reduceLeDiff, Nat.reduceLT, Nat.reduceMul, Nat.reduceSub, hZ', hw]
    refine cutPrefix_s ?_
    cases p1 : [48, 120].isPrefixOf l with
    | true =>
      simp only [p1, if_true] at h
      simp (disch := omega) only [kB, kcx, kdm, kdn, kel, aop, resultsL, resultOf, Nat.reduceEqDiff, reduceCtorEq, eq1, apartOK, apart2, AObj.live, Int.reduceEq, Int.reduceLT, Int.reduceLE, Int.reduceAdd, Int.reduceSub, Int.reduceMul, Int.reduceToNat, cutCells, Nat.reduceAdd, Nat.reduceLeDiff, Nat.reduceLT, Nat.reduceMul, Nat.reduceSub, hZ']
      exact hrest _ _ 16 (by simp [base3]) h (by exact ex_env rfl)
    | false =>
      simp only [p1, if_false, Bool.false_eq_true] at h
      simp (disch := omega) only [kB, kcx, kdm, kdn, kel, aop, resultsL, resultOf, Nat.reduceEqDiff, reduceCtorEq, eq1, apartOK, apart2, AObj.live, Int.reduceEq, Int.reduceLT, Int.reduceLE, Int.reduceAdd, Int.reduceSub, Int.reduceMul, Int.reduceToNat, cutCells, Nat.reduceAdd, Nat.reduceLeDiff, Nat.reduceLT, Nat.reduceMul, Nat.reduceSub, hZ']
      refine cutPrefix_s ?_
      cases p2 : [48, 98].isPrefixOf l with
      | true =>
        simp only [p2, if_true] at h
        simp (disch := omega) only [kB, kcx, kdm, kdn, kel, aop, resultsL, resultOf, Nat.reduceEqDiff, reduceCtorEq, eq1, apartOK, apart2, AObj.live, Int.reduceEq, Int.reduceLT, Int.reduceLE, Int.reduceAdd, Int.reduceSub, Int.reduceMul, Int.reduceToNat, cutCells, Nat.reduceAdd, Nat.reduceLeDiff, Nat.reduceLT, Nat.reduceMul, Nat.reduceSub, hZ']
        exact hrest _ _ 2 (by simp [base3]) h (by exact ex_env rfl)
      | false =>
        simp only [p2, if_false, Bool.false_eq_true] at h
        simp (disch := omega) only [kB, kcx, kdm, kdn, kel, aop, resultsL, resultOf, Nat.reduceEqDiff, reduceCtorEq, eq1, apartOK, apart2, AObj.live, Int.reduceEq, Int.reduceLT, Int.reduceLE, Int.reduceAdd, Int.reduceSub, Int.reduceMul, Int.reduceToNat, cutCells, Nat.reduceAdd, Nat.reduceLeDiff, Nat.reduceLT, Nat.reduceMul, Nat.reduceSub, hZ']
        exact hrest _ _ 10 (by simp [base3]) h (by exact ex_env rfl)

end Go.Proofs.YtkhkmgcegicmoaaDoor.Ev

/- Texts and what they say: plain laws, both ways. -/
namespace Go.Proofs.YtkhkmgcegicmoaaDoor.Ev
set_option maxRecDepth 100000
set_option linter.unusedSimpArgs false
set_option linter.unusedVariables false

theorem worth_sg : ∀ d, d < 16 → worthN (sgN d).toNat = d := by decide +kernel
theorem sg_worth {c : UInt8} (h : worthN c.toNat < 16) : sgN (worthN c.toNat) = c := by
  have : ∀ n, n < 256 → worthN n < 16 → (sgN (worthN n)).toNat = n := by decide +kernel
  exact UInt8.toNat_inj.1 (this c.toNat c.toNat_lt h)
theorem sg_dec : ∀ d, d < 10 → 48 ≤ (sgN d).toNat ∧ (sgN d).toNat ≤ 57 := by decide +kernel
theorem sg_zero : ∀ d, d < 16 → sgN d = 48 → d = 0 := by decide +kernel
theorem sg_hex : ∀ d, d < 16 → sgN d ≠ 46 ∧ sgN d ≠ 58 ∧ sgN d ≠ 120 := by decide +kernel

theorem numF_map {b : Nat} (hb : b ≤ 16) : ∀ (l : List Nat) (a : Nat), (∀ d ∈ l, d < b) → numF b a (l.map sgN) = some (l.foldl (fun a d => a * b + d) a)
  | [], a, _ => rfl
  | d :: l, a, h => by
    have hd := h d (by simp)
    rw [List.map_cons, numF, worth_sg d (by omega), if_pos hd, numF_map hb l _ fun y hy => h y (by simp [hy])]
    rfl
theorem foldl_rev (b : Nat) : ∀ l : List Nat, l.reverse.foldl (fun a d => a * b + d) 0 = valR b l
  | [] => rfl
  | d :: l => by
    rw [List.reverse_cons, List.foldl_append, foldl_rev b l, valR]
    simp [Nat.mul_comm, Nat.add_comm]

theorem dig_num {b v : Nat} (hb : base3 b) (hv : v < 2 ^ 128) : numI b (dig b v) = some v := by
  obtain ⟨h2, h16⟩ := base3_lt hb
  have hne : dig b v ≠ [] := by
    unfold dig
    simp [rd_ne b 127 v]
  have hall := rd_lt (b := b) (by omega) 128 v
  rw [numI, if_neg]
  · rw [dig, numF_map h16 _ _ (fun d hd => hall d (by simpa using hd)), foldl_rev, rd_val h2 128 v hv]
  · rintro (q | ⟨q1, q2⟩)
    · exact hne q
    · by_cases h0 : v = 0
      · subst h0
        have : (dig b 0).length = 1 := by
          unfold dig
          rw [List.length_map, List.length_reverse, show (128 : Nat) = 127 + 1 from rfl, rd, if_pos (Nat.zero_div _)]
          rfl
        omega
      · obtain ⟨l, d, e, hd⟩ := rd_last h2 128 v hv h0
        have hd16 : d < b := hall d (by rw [e]; simp)
        rw [dig, e, List.reverse_append] at q2
        simp at q2
        exact hd (sg_zero d (by omega) q2)

theorem numF_digits {b : Nat} : ∀ (l : List UInt8) (a v : Nat), numF b a l = some v → (∀ c ∈ l, worthN c.toNat < b) ∧ v = (l.map fun c => worthN c.toNat).foldl (fun a d => a * b + d) a
  | [], a, v, h => by rw [numF] at h; cases h; exact ⟨fun c hc => by simp at hc, rfl⟩
  | c :: l, a, v, h => by
    rw [numF] at h
    split at h
    · rename_i hd
      obtain ⟨h1, h2⟩ := numF_digits l _ v h
      refine ⟨fun x hx => ?_, by rw [h2]; rfl⟩
      rcases List.mem_cons.1 hx with rfl | hx
      · exact hd
      · exact h1 x hx
    · cases h
theorem valR_ge {b : Nat} (hb : 2 ≤ b) : ∀ (l : List Nat) (d : Nat), d ≠ 0 → 2 ^ l.length ≤ valR b (l ++ [d])
  | [], d, h => by simp [valR]; omega
  | x :: l, d, h => by
    have := valR_ge hb l d h
    rw [List.cons_append, valR, List.length_cons, Nat.pow_succ]
    have h2 : 2 * valR b (l ++ [d]) ≤ b * valR b (l ++ [d]) := Nat.mul_le_mul_right _ hb
    omega

theorem num_dig {b v : Nat} {l : List UInt8} (hb : base3 b) (h : numI b l = some v) (hv : v < 2 ^ 128) : l = dig b v := by
  obtain ⟨h2, h16⟩ := base3_lt hb
  rw [numI] at h
  split at h
  · cases h
  · rename_i hno
    obtain ⟨hall, hval⟩ := numF_digits l 0 v h
    have hds : (l.map fun c => worthN c.toNat) = ((l.map fun c => worthN c.toNat).reverse).reverse := (List.reverse_reverse _).symm
    rw [hds, foldl_rev] at hval
    obtain ⟨ds, hdsd⟩ : ∃ ds, ds = (l.map fun c => worthN c.toNat).reverse := ⟨_, rfl⟩
    rw [← hdsd] at hval
    have hl : l ≠ [] := fun q => hno (.inl q)
    have hne : ds ≠ [] := by rw [hdsd]; simpa using hl
    have hlt : ∀ d ∈ ds, d < b := by
      intro d hd
      rw [hdsd, List.mem_reverse, List.mem_map] at hd
      obtain ⟨c, hc, rfl⟩ := hd
      exact hall c hc
    have hz : ∀ m d, ds = m ++ [d] → m ≠ [] → d ≠ 0 := by
      intro m d e hm h0
      subst h0
      refine hno (.inr ?_)
      have e2 : l.map (fun c => worthN c.toNat) = 0 :: m.reverse := by
        have := congrArg List.reverse (hdsd.symm.trans e)
        simpa using this
      cases l with
      | nil => exact absurd rfl hl
      | cons c l' =>
        simp only [List.map_cons, List.cons.injEq] at e2
        have hc : worthN c.toNat < 16 := by rw [e2.1]; omega
        have h48 : c = 48 := by
          have := sg_worth hc
          rw [e2.1] at this
          exact this.symm
        have hlen : l'.length = m.length := by
          have := congrArg List.length e2.2
          simpa using this
        have : 0 < m.length := List.length_pos_iff.2 hm
        exact ⟨by simp; omega, by rw [h48]; rfl⟩
    have hlen : ds.length ≤ 128 := by
      obtain ⟨m, d, e⟩ : ∃ m d, ds = m ++ [d] := ⟨ds.dropLast, ds.getLast hne, (List.dropLast_concat_getLast hne).symm⟩
      by_cases hm : m = []
      · rw [e, hm]; simp
      · have := valR_ge h2 m d (hz m d e hm)
        rw [← e, ← hval] at this
        have h3 : 2 ^ m.length < 2 ^ 128 := Nat.lt_of_le_of_lt this hv
        have := (Nat.pow_lt_pow_iff_right (by decide : 1 < 2)).1 h3
        rw [e]
        simp
        omega
    have := rd_of h2 128 ds hlen hne hlt hz
    rw [← hval] at this
    rw [dig, this, hdsd, List.reverse_reverse, List.map_map]
    have : l.map (sgN ∘ fun c => worthN c.toNat) = l.map id := List.map_congr_left fun c hc => sg_worth (by have := hall c hc; omega)
    rw [this, List.map_id]

theorem numF_bad {b : Nat} (hb : b ≤ 16) {c : UInt8} (hc : worthN c.toNat = 99) : ∀ (l : List UInt8) (a : Nat), c ∈ l → numF b a l = none
  | [], a, h => by cases h
  | x :: l, a, h => by
    rw [numF]
    rcases List.mem_cons.1 h with rfl | h
    · rw [hc, if_neg (by omega)]
    · split
      · exact numF_bad hb hc l _ h
      · rfl
theorem numI_bad {b : Nat} (hb : b ≤ 16) {c : UInt8} (hc : worthN c.toNat = 99) {l : List UInt8} (h : c ∈ l) : numI b l = none := by
  rw [numI]
  split
  · rfl
  · exact numF_bad hb hc l 0 h

/-! Parts. -/
theorem split_join (c : UInt8) : ∀ ls : List (List UInt8), ls ≠ [] → (∀ l ∈ ls, c ∉ l) → splitC c (Lib.join ls [c]) = ls := by
  have one : ∀ (x l : List UInt8), c ∉ x → splitC c (x ++ c :: l) = x :: splitC c l := by
    intro x
    induction x with
    | nil => intro l _; simp [splitC]
    | cons b x ih =>
      intro l h
      have hb : b ≠ c := fun q => h (by simp [q])
      rw [List.cons_append, splitC, if_neg hb, ih l (fun q => h (by simp [q]))]
      rfl
  have last : ∀ (x : List UInt8), c ∉ x → splitC c x = [x] := by
    intro x
    induction x with
    | nil => intro _; rfl
    | cons b x ih =>
      intro h
      have hb : b ≠ c := fun q => h (by simp [q])
      rw [splitC, if_neg hb, ih (fun q => h (by simp [q]))]
      rfl
  intro ls
  induction ls with
  | nil => intro h; exact absurd rfl h
  | cons x r ih =>
    intro _ h
    have hx := h x (by simp)
    cases r with
    | nil => rw [Lib.join_one]; exact last x hx
    | cons y r =>
      have e : Lib.join (x :: y :: r) [c] = x ++ c :: Lib.join (y :: r) [c] := by
        rw [Lib.join_cons, Lib.join_cons]
        simp [Lib.joinTail]
      rw [e, one x _ hx, ih (by simp) fun l hl => h l (by simp [hl])]
theorem join_split (c : UInt8) : ∀ l : List UInt8, Lib.join (splitC c l) [c] = l ∧ splitC c l ≠ []
  | [] => ⟨Lib.join_one _ _, by simp [splitC]⟩
  | b :: l => by
    obtain ⟨h1, h2⟩ := join_split c l
    rw [splitC]
    cases hs : splitC c l with
    | nil => exact absurd hs h2
    | cons p ps =>
      rw [hs] at h1
      split
      · rename_i q
        subst q
        refine ⟨?_, by simp⟩
        rw [Lib.join_cons]
        rw [Lib.join_cons] at h1
        simp only [Lib.joinTail, List.map_cons, List.flatten_cons, List.nil_append] at h1 ⊢
        rw [List.append_assoc, h1]
        rfl
      · refine ⟨?_, by simp⟩
        rw [Lib.join_cons] at h1
        simp only [List.headD_cons, List.tail_cons]
        rw [Lib.join_cons, List.cons_append, h1]

theorem pc10 : ∀ n, n < 256 → pc 10 (dig 10 n) = some (UInt8.ofNat n) ∧ 46 ∉ dig 10 n := by decide +kernel
theorem pc16 : ∀ n, n < 256 → pc 16 [sgN (n / 16), sgN (n % 16)] = some (UInt8.ofNat n) ∧ 58 ∉ [sgN (n / 16), sgN (n % 16)] := by decide +kernel

theorem mapM_map {α β : Type} {f : α → Option β} {g : β → α} : ∀ l : List β, (∀ y ∈ l, f (g y) = some y) → (l.map g).mapM f = some l
  | [], _ => rfl
  | y :: l, h => by
    rw [List.map_cons, List.mapM_cons, h y (by simp), mapM_map l fun z hz => h z (by simp [hz])]
    rfl
theorem mapM_back {α β : Type} {f : α → Option β} {g : β → α} (h : ∀ x y, f x = some y → x = g y) : ∀ (l : List α) (xs : List β), l.mapM f = some xs → l = xs.map g
  | [], xs, e => by simp at e; subst e; rfl
  | x :: l, xs, e => by
    simp only [List.mapM_cons, Option.bind_eq_bind, Option.bind_eq_some_iff, Option.pure_def, Option.some.injEq] at e
    obtain ⟨y, hy, ys, hys, rfl⟩ := e
    rw [List.map_cons, ← h x y hy, ← mapM_back h l ys hys]

theorem pcs_dots {out : List UInt8} (h : out ≠ []) : pcsO 10 46 out.length (Lib.join (out.map (partT 4)) [46]) = some out := by
  have e : out.map (partT 4) = out.map fun c => dig 10 c.toNat := List.map_congr_left fun c _ => by rw [partT, if_pos rfl]
  unfold pcsO
  rw [e, split_join 46 _ (by simpa using h) (fun l hl => by
    obtain ⟨c, _, rfl⟩ := List.mem_map.1 hl
    exact (pc10 _ c.toNat_lt).2), mapM_map out fun c _ => by rw [(pc10 _ c.toNat_lt).1]; simp]
  exact if_pos rfl
theorem pcs_cols {out : List UInt8} (h : out ≠ []) : pcsO 16 58 out.length (Lib.join (out.map (partT 5)) [58]) = some out := by
  have e : out.map (partT 5) = out.map fun c => [sgN (c.toNat / 16), sgN (c.toNat % 16)] := List.map_congr_left fun c _ => by rw [partT, if_neg (by decide)]
  unfold pcsO
  rw [e, split_join 58 _ (by simpa using h) (fun l hl => by
    obtain ⟨c, _, rfl⟩ := List.mem_map.1 hl
    exact (pc16 _ c.toNat_lt).2), mapM_map out fun c _ => by rw [(pc16 _ c.toNat_lt).1]; simp]
  exact if_pos rfl

theorem pc10_back (p : List UInt8) (y : UInt8) (h : pc 10 p = some y) : p = dig 10 y.toNat := by
  unfold pc at h
  rw [if_neg (by simp)] at h
  split at h
  · rename_i v hv
    split at h
    · rename_i hc
      cases h
      rw [pcQ, if_neg (by decide)] at hv
      have hv2 : v < 256 := by have := hc.2; omega
      have := num_dig (b := 10) (by simp [base3]) hv (by omega)
      rw [this, UInt8.toNat_ofNat', Nat.mod_eq_of_lt hv2]
    · cases h
  · cases h
theorem pc16_back (p : List UInt8) (y : UInt8) (h : pc 16 p = some y) : p = [sgN (y.toNat / 16), sgN (y.toNat % 16)] := by
  unfold pc at h
  by_cases hl : p.length = 2
  · rw [if_neg (by simp [hl])] at h
    match p, hl with
    | [c1, c2], _ =>
    split at h
    · rename_i v hv
      split at h
      · cases h
        rw [pcQ, if_pos rfl, numI, if_neg (by simp)] at hv
        obtain ⟨h1, h2⟩ := numF_digits _ _ _ hv
        have w1 := h1 c1 (by simp)
        have w2 := h1 c2 (by simp)
        have e49 : worthN (49 : UInt8).toNat = 1 := by decide
        simp only [List.map_cons, List.map_nil, List.foldl_cons, List.foldl_nil, e49] at h2
        have e1 : (UInt8.ofNat v).toNat / 16 = worthN c1.toNat := by rw [UInt8.toNat_ofNat']; omega
        have e2 : (UInt8.ofNat v).toNat % 16 = worthN c2.toNat := by rw [UInt8.toNat_ofNat']; omega
        rw [e1, e2, sg_worth w1, sg_worth w2]
      · cases h
    · cases h
  · rw [if_pos ⟨rfl, hl⟩] at h
    cases h

theorem dots_back {l out : List UInt8} {m : Nat} (h : pcsO 10 46 m l = some out) : l = Lib.join (out.map (partT 4)) [46] ∧ out.length = m := by
  unfold pcsO at h
  split at h
  · rename_i o ho
    split at h
    · rename_i hm
      cases h
      have := mapM_back (g := partT 4) (fun x y q => by rw [partT, if_pos rfl]; exact pc10_back x y q) _ _ ho
      exact ⟨by rw [← this]; exact (join_split 46 l).1.symm, hm⟩
    · cases h
  · cases h
theorem cols_back {l out : List UInt8} {m : Nat} (h : pcsO 16 58 m l = some out) : l = Lib.join (out.map (partT 5)) [58] ∧ out.length = m := by
  unfold pcsO at h
  split at h
  · rename_i o ho
    split at h
    · rename_i hm
      cases h
      have := mapM_back (g := partT 5) (fun x y q => by rw [partT, if_neg (by decide)]; exact pc16_back x y q) _ _ ho
      exact ⟨by rw [← this]; exact (join_split 58 l).1.symm, hm⟩
    · cases h
  · cases h

/-! Bytes. -/
theorem fold_from (l : List UInt8) : ∀ a : Nat, l.foldl (fun a b => a * 256 + b.toNat) a = a * 256 ^ l.length + fromN l := by
  induction l with
  | nil => intro a; simp [fromN]
  | cons b l ih =>
    intro a
    have p : 256 ^ (l.length + 1) = 256 ^ l.length * 256 := Nat.pow_succ _ _
    rw [fromN, List.foldl_cons, ih, List.foldl_cons, ih, List.length_cons, p, Nat.zero_mul, Nat.zero_add, Nat.add_mul, Nat.mul_assoc, Nat.mul_comm 256 (256 ^ l.length)]
    omega
theorem fromN_cons (b : UInt8) (l : List UInt8) : fromN (b :: l) = b.toNat * 256 ^ l.length + fromN l := by
  rw [fromN, List.foldl_cons, fold_from, Nat.zero_mul, Nat.zero_add]
theorem fromN_beL : ∀ (n x : Nat), fromN (beL n x) = x % 256 ^ n
  | 0, x => by simp [beL, fromN, Nat.mod_one]
  | n + 1, x => by
    have p : 256 ^ (n + 1) = 256 ^ n * 256 := Nat.pow_succ _ _
    have e : x % (256 ^ n * 256) = x % 256 ^ n + 256 ^ n * (x / 256 ^ n % 256) := Nat.mod_mul
    rw [beL, fromN_cons, beL_len, fromN_beL n x, UInt8.toNat_ofNat', Nat.shiftRight_eq_div_pow, Nat.pow_mul, p, e, Nat.mul_comm (256 ^ n), Nat.add_comm]
theorem beL_fromN : ∀ l : List UInt8, beL l.length (fromN l) = l
  | [] => rfl
  | b :: l => by
    have h1 := fromN_lt l
    have h2 := b.toNat_lt
    have hp : 0 < 256 ^ l.length := Nat.pow_pos (by decide)
    have hb : fromN (b :: l) / 256 ^ l.length = b.toNat := by
      rw [fromN_cons, Nat.mul_comm, Nat.mul_add_div hp, Nat.div_eq_of_lt h1, Nat.add_zero]
    have hm : fromN (b :: l) % 256 ^ l.length = fromN l := by
      rw [fromN_cons, Nat.mul_comm, Nat.mul_add_mod, Nat.mod_eq_of_lt h1]
    have hl : beL l.length (fromN (b :: l)) = l := by
      have := beL_mod l.length l.length (fromN (b :: l)) (Nat.le_refl _)
      rw [Nat.pow_mul, show (2 : Nat) ^ 8 = 256 from rfl, hm] at this
      rw [← this]
      exact beL_fromN l
    rw [List.length_cons, beL, hl, Nat.shiftRight_eq_div_pow, Nat.pow_mul, show (2 : Nat) ^ 8 = 256 from rfl, hb]
    simp

/-! Both ways. -/
theorem fitsI_nat {x k : Nat} (h1 : 1 ≤ k) (h2 : k ≤ 128) : fitsI x (k : Int) = decide (x < 2 ^ k) := by rw [fitsI, isw_nat h1 h2, Bool.true_and, Int.toNat_natCast]
theorem lt_256 {x k : Nat} (hx : x < 2 ^ k) : x < 256 ^ ((k + 7) / 8) := by
  rw [show 256 = 2 ^ 8 from rfl, ← Nat.pow_mul]
  exact Nat.lt_of_lt_of_le hx (Nat.pow_le_pow_right (by decide) (by omega))
theorem from_bytes {x k : Nat} (h1 : 1 ≤ k) (h2 : k ≤ 128) (hx : x < 2 ^ k) : fromI (beL ((k + 7) / 8) x) (k : Int) = (x, 0) := by
  rw [fromI, isw_nat h1 h2, if_pos rfl, Int.toNat_natCast, if_pos (beL_len _ _), fromN_beL, Nat.mod_eq_of_lt (lt_256 hx), if_pos hx]
theorem from_back {k got : Nat} {out : List UInt8} (h1 : 1 ≤ k) (h2 : k ≤ 128) (h : fromI out (k : Int) = (got, 0)) : got < 2 ^ k ∧ out.length = (k + 7) / 8 ∧ beL ((k + 7) / 8) got = out := by
  rw [fromI, isw_nat h1 h2, if_pos rfl, Int.toNat_natCast] at h
  split at h
  · rename_i hl
    split at h
    · rename_i hf
      cases h
      exact ⟨hf, hl, by rw [← hl]; exact beL_fromN out⟩
    · cases h
  · cases h

theorem dig_dec {x : Nat} : ∀ c ∈ dig 10 x, 48 ≤ c.toNat ∧ c.toNat ≤ 57 := by
  intro c hc
  rw [dig, List.mem_map] at hc
  obtain ⟨d, hd, rfl⟩ := hc
  exact sg_dec d (rd_lt (by decide) 128 x d (by simpa using hd))
theorem headT_plain {l : List UInt8} (h : ∀ c ∈ l, c ≠ 120 ∧ c ≠ 98) : headT l = (l, 10) := by
  unfold headT
  have e1 : [48, 120].isPrefixOf l = false := by
    cases q : [48, 120].isPrefixOf l with
    | false => rfl
    | true =>
      obtain ⟨t, rfl⟩ := List.isPrefixOf_iff_prefix.1 q
      exact absurd rfl (h 120 (by simp)).1
  have e2 : [48, 98].isPrefixOf l = false := by
    cases q : [48, 98].isPrefixOf l with
    | false => rfl
    | true =>
      obtain ⟨t, rfl⟩ := List.isPrefixOf_iff_prefix.1 q
      exact absurd rfl (h 98 (by simp)).2
  rw [e1, e2]
  rfl

theorem mem_join {c : UInt8} : ∀ {ls : List (List UInt8)} {s : UInt8}, c ∈ Lib.join ls [s] → c = s ∨ ∃ l ∈ ls, c ∈ l
  | [], s, h => by simp [Lib.join_nil] at h
  | x :: r, s, h => by
    rw [Lib.join_cons, List.mem_append] at h
    rcases h with h | h
    · exact .inr ⟨x, by simp, h⟩
    · unfold Lib.joinTail at h
      rw [List.mem_flatten] at h
      obtain ⟨l, hl, hc⟩ := h
      obtain ⟨y, hy, rfl⟩ := List.mem_map.1 hl
      rcases List.mem_append.1 hc with q | q
      · exact .inl (by simpa using q)
      · exact .inr ⟨y, by simp [hy], q⟩
theorem join_two (c : UInt8) (x y : List UInt8) (r : List (List UInt8)) : Lib.join (x :: y :: r) [c] = x ++ c :: Lib.join (y :: r) [c] := by
  rw [Lib.join_cons, Lib.join_cons]
  simp [Lib.joinTail]

/-- A value's text is read as it was. -/
theorem text_parse {x k : Nat} {form : Int} (h1 : 1 ≤ k) (h2 : k ≤ 128) (hx : x < 2 ^ k) (f1 : 1 ≤ form) (f5 : form ≤ 5) (hh : hasI (k : Int) form = true) : parseI (txtI x k form) (k : Int) = (x, 0) := by
  have hx2 : x < 2 ^ 128 := Nat.lt_of_lt_of_le hx (Nat.pow_le_pow_right (by decide) h2)
  rw [parseI_eq, isw_nat h1 h2, if_pos rfl]
  have ok : ∀ l t b, base3 b → t = dig b x → numP l t b (k : Int) = (x, 0) := by
    intro l t b hb ht
    rw [numP, ht, dig_num hb hx2]
    simp only [Int.toNat_natCast]
    exact if_pos hx
  by_cases g1 : form = 1
  · rw [txtI, if_pos g1, headT_plain (fun c hc => by
      have := dig_dec c hc
      constructor <;> (rintro rfl; revert this; decide))]
    exact ok _ _ 10 (by simp [base3]) rfl
  by_cases g2 : form = 2
  · rw [txtI, if_neg g1, if_pos g2]
    exact ok _ _ 16 (by simp [base3]) rfl
  by_cases g3 : form = 3
  · rw [txtI, if_neg g1, if_neg g2, if_pos g3]
    exact ok _ _ 2 (by simp [base3]) rfl
  rw [txtI, if_neg g1, if_neg g2, if_neg g3]
  have hbl := beL_len ((k + 7) / 8) x
  have hfb := from_bytes h1 h2 hx
  generalize hB : beL ((k + 7) / 8) x = B at *
  by_cases g4 : form = 4
  · subst g4
    have hk : k = 32 := by
      rw [hasI, if_pos rfl] at hh
      have := of_decide_eq_true hh
      omega
    subst hk
    rw [sepT, if_pos rfl]
    have hch : ∀ c ∈ Lib.join (B.map (partT 4)) [46], c = 46 ∨ (48 ≤ c.toNat ∧ c.toNat ≤ 57) := by
      intro c hc
      rcases mem_join hc with q | ⟨l, hl, q⟩
      · exact .inl q
      · obtain ⟨y, _, rfl⟩ := List.mem_map.1 hl
        rw [partT, if_pos rfl] at q
        exact .inr (dig_dec c q)
    have h46 : (46 : UInt8) ∈ Lib.join (B.map (partT 4)) [46] := by
      match B, hbl with
      | b1 :: b2 :: r, _ => rw [List.map_cons, List.map_cons, join_two]; simp
    rw [headT_plain (fun c hc => by rcases hch c hc with rfl | q <;> constructor <;> first | decide | (rintro rfl; revert q; decide)), numP, numI_bad (show 10 ≤ 16 by decide) (c := 46) (by decide) h46]
    have hp := pcs_dots (out := B) (by intro q; rw [q] at hbl; simp at hbl)
    rw [hbl] at hp
    simp only [dotI]
    rw [if_pos (show hasI ((32 : Nat) : Int) 4 = true from rfl)]
    have e4 : (32 + 7) / 8 = 4 := rfl
    rw [e4] at hp
    rw [hp]
    exact hfb
  · have g5 : form = 5 := by omega
    subst g5
    rw [hasI, if_neg (by decide), if_pos rfl, isw_nat h1 h2, Bool.true_and, Bool.and_eq_true, decide_eq_true_eq, decide_eq_true_eq] at hh
    obtain ⟨hk16, hk8⟩ := hh
    have hn : (k + 7) / 8 = k / 8 := by omega
    rw [sepT, if_neg (by decide)]
    obtain ⟨b1, b2, r, hBr⟩ : ∃ b1 b2 r, B = b1 :: b2 :: r := by
      match B, hbl with
      | [], q => simp at q; omega
      | [b1], q => simp at q; omega
      | b1 :: b2 :: r, _ => exact ⟨b1, b2, r, rfl⟩
    have hS : Lib.join (B.map (partT 5)) [58] = sgN (b1.toNat / 16) :: sgN (b1.toNat % 16) :: 58 :: Lib.join ((b2 :: r).map (partT 5)) [58] := by
      rw [hBr, List.map_cons, List.map_cons, join_two, partT, if_neg (by decide)]
      rfl
    have h58 : (58 : UInt8) ∈ (headT (Lib.join (B.map (partT 5)) [58])).1 := by
      unfold headT
      rw [hS]
      split
      · simp
      · split <;> simp
    have hb16 : (headT (Lib.join (B.map (partT 5)) [58])).2 ≤ 16 := by
      unfold headT
      split
      · show 16 ≤ 16; decide
      · split
        · show 2 ≤ 16; decide
        · show 10 ≤ 16; decide
    rw [numP, numI_bad hb16 (c := 58) (by decide) h58]
    have hp := pcs_cols (out := B) (by rw [hBr]; simp)
    rw [hbl, hn] at hp
    have hcol : colI (Lib.join (B.map (partT 5)) [58]) (k : Int) = (x, 0) := by
      rw [colI, if_pos (show hasI (k : Int) 5 = true by
        rw [hasI, if_neg (by decide), if_pos rfl, isw_nat h1 h2, Bool.true_and, Bool.and_eq_true, decide_eq_true_eq, decide_eq_true_eq]
        exact ⟨hk16, hk8⟩), Int.toNat_natCast, hp]
      exact hfb
    simp only [dotI]
    have hno : (if hasI (k : Int) 4 = true then pcsO 10 46 4 (Lib.join (B.map (partT 5)) [58]) else none) = none := by
      split
      · cases hq : pcsO 10 46 4 (Lib.join (B.map (partT 5)) [58]) with
        | none => rfl
        | some o =>
          exfalso
          obtain ⟨q1, q2⟩ := dots_back hq
          match o, q2 with
          | o1 :: o2 :: r2, _ =>
            have : (46 : UInt8) ∈ Lib.join (B.map (partT 5)) [58] := by rw [q1, List.map_cons, List.map_cons, join_two]; simp
            rcases mem_join this with q | ⟨l, hl, q⟩
            · revert q; decide
            · obtain ⟨y, _, rfl⟩ := List.mem_map.1 hl
              have hy := y.toNat_lt
              rw [partT, if_neg (by decide)] at q
              have s1 := sg_hex (y.toNat / 16) (by omega)
              have s2 := sg_hex (y.toNat % 16) (by omega)
              simp only [List.mem_cons, List.not_mem_nil, or_false] at q
              rcases q with q | q
              · exact s1.1 q.symm
              · exact s2.1 q.symm
      · rfl
    rw [hno]
    exact hcol

/-- A text that is read is its value's in some form. -/
theorem parse_text {k got : Nat} {l : List UInt8} (h1 : 1 ≤ k) (h2 : k ≤ 128) (h : parseI l (k : Int) = (got, 0)) : got < 2 ^ k ∧ ∃ form : Int, 1 ≤ form ∧ form ≤ 5 ∧ hasI (k : Int) form = true ∧ txtI got k form = l := by
  rw [parseI_eq, isw_nat h1 h2, if_pos rfl] at h
  have small : ∀ form : Int, form ≤ 3 → hasI (k : Int) form = true := fun form hf => by rw [hasI, if_neg (by omega), if_neg (by omega)]; exact isw_nat h1 h2
  have num : ∀ t b, base3 b → (∃ v, numI b t = some v) → numP l t b (k : Int) = (got, 0) → got < 2 ^ k ∧ t = dig b got := by
    intro t b hb ⟨v, hv⟩ hp
    rw [numP, hv] at hp
    simp only [Int.toNat_natCast] at hp
    split at hp
    · rename_i hf
      cases hp
      exact ⟨hf, num_dig hb hv (Nat.lt_of_lt_of_le hf (Nat.pow_le_pow_right (by decide) h2))⟩
    · cases hp
  have rest : dotI l (k : Int) = (got, 0) → got < 2 ^ k ∧ ∃ form : Int, 1 ≤ form ∧ form ≤ 5 ∧ hasI (k : Int) form = true ∧ txtI got k form = l := by
    intro hd
    unfold dotI at hd
    split at hd
    · rename_i out ho
      split at ho
      · rename_i h4
        obtain ⟨e1, e2⟩ := dots_back ho
        obtain ⟨f1, f2, f3⟩ := from_back h1 h2 hd
        exact ⟨f1, 4, by decide, by decide, h4, by rw [txtI, if_neg (by decide), if_neg (by decide), if_neg (by decide), f3, sepT, if_pos rfl]; exact e1.symm⟩
      · cases ho
    · unfold colI at hd
      split at hd
      · rename_i out ho
        split at ho
        · rename_i h5
          obtain ⟨e1, e2⟩ := cols_back ho
          obtain ⟨f1, f2, f3⟩ := from_back h1 h2 hd
          exact ⟨f1, 5, by decide, by decide, h5, by rw [txtI, if_neg (by decide), if_neg (by decide), if_neg (by decide), f3, sepT, if_neg (by decide)]; exact e1.symm⟩
        · cases ho
      · cases hd
  have step : ∀ t b, base3 b → numP l t b (k : Int) = (got, 0) → (got < 2 ^ k ∧ t = dig b got) ∨ dotI l (k : Int) = (got, 0) := by
    intro t b hb hp
    cases hv : numI b t with
    | some v => exact .inl (num t b hb ⟨v, hv⟩ hp)
    | none => rw [numP, hv] at hp; exact .inr hp
  unfold headT at h
  by_cases p1 : [48, 120].isPrefixOf l = true
  · rw [if_pos p1] at h
    rcases step _ 16 (by simp [base3]) h with ⟨q1, q2⟩ | q
    · obtain ⟨t, rfl⟩ := List.isPrefixOf_iff_prefix.1 p1
      exact ⟨q1, 2, by decide, by decide, small 2 (by decide), by rw [txtI, if_neg (by decide), if_pos rfl, ← q2]; rfl⟩
    · exact rest q
  · rw [if_neg p1] at h
    by_cases p2 : [48, 98].isPrefixOf l = true
    · rw [if_pos p2] at h
      rcases step _ 2 (by simp [base3]) h with ⟨q1, q2⟩ | q
      · obtain ⟨t, rfl⟩ := List.isPrefixOf_iff_prefix.1 p2
        exact ⟨q1, 3, by decide, by decide, small 3 (by decide), by rw [txtI, if_neg (by decide), if_neg (by decide), if_pos rfl, ← q2]; rfl⟩
      · exact rest q
    · rw [if_neg p2] at h
      rcases step _ 10 (by simp [base3]) h with ⟨q1, q2⟩ | q
      · exact ⟨q1, 1, by decide, by decide, small 1 (by decide), by rw [txtI, if_pos rfl, ← q2]⟩
      · exact rest q

end Go.Proofs.YtkhkmgcegicmoaaDoor.Ev

/- ValueBack: texts and bytes are read as they were; each text that is read is its value's. -/
namespace Go.Proofs.YtkhkmgcegicmoaaDoor.Ev
set_option maxRecDepth 100000
set_option linter.unusedSimpArgs false
set_option linter.unusedVariables false
variable {R : FRes → Heap → Prop}

theorem textI_has {x k : Nat} {f : Int} (h1 : 1 ≤ k) (h2 : k ≤ 128) (hx : x < 2 ^ k) (f1 : 1 ≤ f) (f5 : f ≤ 5) : textI x (k : Int) f = if hasI (k : Int) f = true then (txtI x k f, 0) else ([], 10) := by
  rw [textI, if_neg (by omega), fitsI_nat h1 h2, decide_eq_true hx, if_pos rfl, Int.toNat_natCast]
theorem fromI_lt {l : List UInt8} {k : Nat} (h1 : 1 ≤ k) (h2 : k ≤ 128) : (fromI l (k : Int)).1 < 2 ^ k := by
  have hp : 0 < 2 ^ k := Nat.two_pow_pos k
  rw [fromI, isw_nat h1 h2, if_pos rfl, Int.toNat_natCast]
  split
  · split
    · assumption
    · exact hp
  · exact hp
theorem parseI_lt {l : List UInt8} {k : Nat} (h1 : 1 ≤ k) (h2 : k ≤ 128) : (parseI l (k : Int)).1 < 2 ^ k := by
  have hp : 0 < 2 ^ k := Nat.two_pow_pos k
  rw [parseI_eq, isw_nat h1 h2, if_pos rfl, numP]
  split
  · simp only [Int.toNat_natCast]
    split
    · assumption
    · exact hp
  · unfold dotI
    split
    · exact fromI_lt h1 h2
    · unfold colI
      split
      · exact fromI_lt h1 h2
      · exact hp
theorem txtI_len (x k : Nat) (f : Int) (h2 : k ≤ 128) : (txtI x k f).length ≤ 4611686018427387904 := by
  unfold txtI
  have := dig_len 10 x
  have := dig_len 16 x
  have := dig_len 2 x
  split
  · omega
  · split
    · simp; omega
    · split
      · simp; omega
      · have h := join_len (sepT f) 128 ((beL ((k + 7) / 8) x).map (partT f)) (fun y hy => by
          obtain ⟨c, _, rfl⟩ := List.mem_map.1 hy
          exact partT_len _ _)
        have hs : (sepT f).length = 1 := by unfold sepT; split <;> rfl
        rw [hs, List.length_map, beL_len] at h
        omega

/-- While the forms are gone through. -/
def vbI (H : Heap) (k v : Nat) (l : List UInt8) (P : Nat × Int) : Nat → Env → Heap → Prop := fun z e K =>
  ∃ (f : Int) (b : Bool), 1 ≤ f ∧ f ≤ 6 ∧ z = (6 - f).toNat ∧ (P.2 ≠ 0 → b = true) ∧ (∀ j : Int, 1 ≤ j → j < f → (textI P.1 (k : Int) j).1 = l → b = true) ∧
    H.length + 4 ≤ K.length ∧ hget K 0 = .row (numV signsL) 0 false ∧ hget K (H.length + 1) = rowU v ∧ hget K (H.length + 3) = rowU P.1 ∧
    (∃ x : Nat → Value, e = [x 0, .int .i64 (k : Int), .string (bs l), x 3, x 4, x 5, x 6, .bool true, .pointer (some ⟨H.length + 1, 0, none⟩), x 9, x 10, x 11, x 12, .pointer (some ⟨H.length + 3, 0, none⟩), x 14, .bool b, .int .i64 f, x 17, x 18, x 19, x 20, x 21, x 22, x 23, x 24, x 25, x 26, x 27, x 28, x 29, x 30, x 31, x 32, x 33, x 34, x 35, x 36, x 37, x 38, x 39, x 40, x 41, x 42, x 43, x 44, x 45, x 46, x 47, x 48, x 49, x 50, x 51, x 52, x 53, x 54, x 55, x 56, x 57, x 58, x 59, x 60, x 61, x 62, x 63, x 64, x 65, x 66, x 67, x 68, x 69, x 70, x 71, x 72, x 73, x 74, x 75, x 76, x 77, x 78, x 79, x 80, x 81, x 82, x 83, x 84, x 85, x 86, x 87, x 88, x 89, x 90, x 91, x 92, x 93, x 94, x 95, x 96, x 97, x 98, x 99, x 100, x 101, x 102, x 103, x 104, x 105, x 106, x 107, x 108, x 109, x 110, x 111, x 112, x 113, x 114, x 115, x 116, x 117, x 118, x 119, x 120, x 121, x 122, x 123, x 124, x 125, x 126, x 127, x 128, x 129, x 130, x 131, x 132, x 133, x 134, x 135, x 136, x 137, x 138, x 139, x 140, x 141, x 142])

set_option maxHeartbeats 40000000 in
theorem back_w {a : Nat} {l : List UInt8} {w : Int} (ha : a < W64 * W64) (hl : l.length ≤ 140737488351232) : WD T 5 [bvA a, .int .i64 w, .string (bs l)] H0 (fun r _ => r = .ret (.bool true)) := by
  have ha' : a < 2 ^ 128 := ha
  have hs0 : hget H0 0 = .row (numV signsL) 0 false := rfl
  have ln0 : 0 < H0.length := by decide
  generalize hH : H0 = H at *
  have hp : H0 <+: H := by rw [hH]; exact List.prefix_refl _
  clear hH
  refine WD.of follows t5 (by simp) ?_
  simp (disch := omega) only [kB, kcx, kdm, kdn, kel, aop, resultsL, resultOf, Nat.reduceEqDiff, reduceCtorEq, eq1, apartOK, apart2, AObj.live, Int.reduceEq, Int.reduceLT, Int.reduceLE, Int.reduceAdd, Int.reduceSub, Int.reduceMul, Int.reduceToNat, cutCells, Nat.reduceAdd, Nat.reduceLeDiff, Nat.reduceLT, Nat.reduceMul, Nat.reduceSub]
  refine awake_s (hp.trans (List.prefix_append _ _)) ?_
  by_cases c1 : w < 1
  · simp (disch := omega) only [kB, kcx, kdm, kdn, kel, aop, resultsL, resultOf, Nat.reduceEqDiff, reduceCtorEq, eq1, apartOK, apart2, AObj.live, Int.reduceEq, Int.reduceLT, Int.reduceLE, Int.reduceAdd, Int.reduceSub, Int.reduceMul, Int.reduceToNat, cutCells, Nat.reduceAdd, Nat.reduceLeDiff, Nat.reduceLT, Nat.reduceMul, Nat.reduceSub, c1]
  by_cases c2 : 128 < w
  · simp (disch := omega) only [kB, kcx, kdm, kdn, kel, aop, resultsL, resultOf, Nat.reduceEqDiff, reduceCtorEq, eq1, apartOK, apart2, AObj.live, Int.reduceEq, Int.reduceLT, Int.reduceLE, Int.reduceAdd, Int.reduceSub, Int.reduceMul, Int.reduceToNat, cutCells, Nat.reduceAdd, Nat.reduceLeDiff, Nat.reduceLT, Nat.reduceMul, Nat.reduceSub, c1, c2]
  obtain ⟨k, rfl⟩ : ∃ k : Nat, w = k := ⟨w.toNat, by omega⟩
  have h1 : 1 ≤ k := by omega
  have h2 : k ≤ 128 := by omega
  simp (disch := omega) only [kB, kcx, kdm, kdn, kel, aop, resultsL, resultOf, Nat.reduceEqDiff, reduceCtorEq, eq1, apartOK, apart2, AObj.live, Int.reduceEq, Int.reduceLT, Int.reduceLE, Int.reduceAdd, Int.reduceSub, Int.reduceMul, Int.reduceToNat, cutCells, Nat.reduceAdd, Nat.reduceLeDiff, Nat.reduceLT, Nat.reduceMul, Nat.reduceSub, c1, c2]
  refine cut_s h1 h2 ha' ?_
  have hx : a % 2 ^ k < 2 ^ k := Nat.mod_lt _ (Nat.two_pow_pos _)
  have hx2 : a % 2 ^ k < 2 ^ 128 := Nat.lt_of_lt_of_le hx (Nat.pow_le_pow_right (by decide) h2)
  generalize a % 2 ^ k = v at *
  simp (disch := omega) only [kB, kcx, kdm, kdn, kel, aop, resultsL, resultOf, Nat.reduceEqDiff, reduceCtorEq, eq1, apartOK, apart2, AObj.live, Int.reduceEq, Int.reduceLT, Int.reduceLE, Int.reduceAdd, Int.reduceSub, Int.reduceMul, Int.reduceToNat, cutCells, Nat.reduceAdd, Nat.reduceLeDiff, Nat.reduceLT, Nat.reduceMul, Nat.reduceSub]
  refine bytes_s h1 h2 hx ?_
  simp (disch := omega) only [kB, kcx, kdm, kdn, kel, aop, resultsL, resultOf, Nat.reduceEqDiff, reduceCtorEq, eq1, apartOK, apart2, AObj.live, Int.reduceEq, Int.reduceLT, Int.reduceLE, Int.reduceAdd, Int.reduceSub, Int.reduceMul, Int.reduceToNat, cutCells, Nat.reduceAdd, Nat.reduceLeDiff, Nat.reduceLT, Nat.reduceMul, Nat.reduceSub]
  refine from_g ?_
  rw [from_bytes h1 h2 hx]
  have hq := bin_quo (k := .i64) (a := k + 7) (b := 8) (by decide)
  have e1 : (k : Int) + 7 = ((k + 7 : Nat) : Int) := by omega
  have q0 : (((8 : Nat) : Int)) = 8 := rfl
  rw [q0] at hq
  have hlb : (((beL ((k + 7) / 8) v).length : Nat) : Int) = (((k + 7) / 8 : Nat) : Int) := by rw [beL_len]
  have z0 : (((0 : Int) = 0)) = True := eq_true rfl
  simp (disch := omega) only [kB, kcx, kdm, kdn, kel, aop, resultsL, resultOf, Nat.reduceEqDiff, reduceCtorEq, eq1, apartOK, apart2, AObj.live, Int.reduceEq, Int.reduceLT, Int.reduceLE, Int.reduceAdd, Int.reduceSub, Int.reduceMul, Int.reduceToNat, cutCells, Nat.reduceAdd, Nat.reduceLeDiff, Nat.reduceLT, Nat.reduceMul, Nat.reduceSub, eq_bvv, hlb, wr_i64, e1, hq, Bool.bne_true, Bool.bne_false, Bool.not_true, Bool.not_false]
  refine parse_s (by omega) ?_
  obtain ⟨P, hP⟩ : ∃ P, P = parseI l (k : Int) := ⟨_, rfl⟩
  have hPlt : P.1 < 2 ^ k := by rw [hP]; exact parseI_lt h1 h2
  have hP128 : P.1 < 2 ^ 128 := Nat.lt_of_lt_of_le hPlt (Nat.pow_le_pow_right (by decide) h2)
  rw [← hP]
  have hdone : ∀ b : Bool, (P.2 ≠ 0 → b = true) → (∀ j : Int, 1 ≤ j → j < 6 → (textI P.1 (k : Int) j).1 = l → b = true) → b = true := by
    intro b hb1 hb2
    by_cases hz : P.2 = 0
    · obtain ⟨_, f, f1, f5, fh, ft⟩ := parse_text (got := P.1) h1 h2 (by rw [← hP, ← hz])
      refine hb2 f f1 (by omega) ?_
      rw [textI_has h1 h2 hPlt f1 f5, if_pos fh]
      exact ft
    · exact hb1 hz
  clear hP
  simp (disch := omega) only [kB, kcx, kdm, kdn, kel, aop, resultsL, resultOf, Nat.reduceEqDiff, reduceCtorEq, eq1, apartOK, apart2, AObj.live, Int.reduceEq, Int.reduceLT, Int.reduceLE, Int.reduceAdd, Int.reduceSub, Int.reduceMul, Int.reduceToNat, cutCells, Nat.reduceAdd, Nat.reduceLeDiff, Nat.reduceLT, Nat.reduceMul, Nat.reduceSub]
  refine WLoop.inv (vbI H k v l P) ?_ 5 _ _ ⟨1, !(decide (P.2 = 0)), by decide, by decide, rfl, fun h => by simp [h], fun j h3 h4 => by omega, by simp, by rw [hget_old ln0]; exact hs0, by rw [hget_base]; rfl, by rw [hget_base]; rfl, by exact ex_env rfl⟩
  rintro z e K ⟨f, b, f1, f6, rfl, hb1, hb2, kl, k0, k8, k13, ⟨x, rfl⟩⟩
  by_cases hlt : f ≤ 5
  · have hf : f = 1 ∨ f = 2 ∨ f = 3 ∨ f = 4 ∨ f = 5 := by omega
    have kl0 : 0 < K.length := by omega
    have small : ∀ form : Int, form ≤ 3 → hasI (k : Int) form = true := fun form hf => by rw [hasI, if_neg (by omega), if_neg (by omega)]; exact isw_nat h1 h2
    have next : ∀ (g : Int) (t : List UInt8) (u : Bool), 1 ≤ g → g ≤ 5 → f = g → t = (textI P.1 (k : Int) g).1 → u = (b || decide (t = l)) → (P.2 ≠ 0 → u = true) ∧ (∀ j : Int, 1 ≤ j → j < g + 1 → (textI P.1 (k : Int) j).1 = l → u = true) := by
      intro g t u g1 g5 hg ht hu
      refine ⟨fun hz => by rw [hu, hb1 hz]; rfl, fun j j1 j2 hj => ?_⟩
      by_cases hjg : j = g
      · subst hjg
        rw [hu, ht, decide_eq_true hj, Bool.or_true]
      · rw [hu, hb2 j j1 (by omega) hj]; rfl
    have wrapf : ∀ g : Int, 1 ≤ g → g ≤ 5 → IntKind.i64.wrap (g + 1) = g + 1 := fun g q1 q2 => wr_i64 (by omega) (by omega)
    have hr8 := bin_rem (k := .i64) (a := k) (b := 8) (by decide)
    rw [q0] at hr8
    rcases hf with rfl | rfl | rfl | rfl | rfl
    · have hh := small 1 (by decide)
      have ht := textI_has (f := 1) h1 h2 hx (by decide) (by decide)
      rw [if_pos hh] at ht
      simp (disch := omega) only [kB, kcx, kdm, kdn, kel, aop, resultsL, resultOf, Nat.reduceEqDiff, reduceCtorEq, eq1, apartOK, apart2, AObj.live, Int.reduceEq, Int.reduceLT, Int.reduceLE, Int.reduceAdd, Int.reduceSub, Int.reduceMul, Int.reduceToNat, cutCells, Nat.reduceAdd, Nat.reduceLeDiff, Nat.reduceLT, Nat.reduceMul, Nat.reduceSub, k8, k13]
      refine text_s hx2 k0 kl0 ?_
      rw [ht]
      simp (disch := omega) only [kB, kcx, kdm, kdn, kel, aop, resultsL, resultOf, Nat.reduceEqDiff, reduceCtorEq, eq1, apartOK, apart2, AObj.live, Int.reduceEq, Int.reduceLT, Int.reduceLE, Int.reduceAdd, Int.reduceSub, Int.reduceMul, Int.reduceToNat, cutCells, Nat.reduceAdd, Nat.reduceLeDiff, Nat.reduceLT, Nat.reduceMul, Nat.reduceSub, k8, k13, Bool.bne_true, Bool.bne_false, Bool.not_true, Bool.not_false, Bool.true_bne, Bool.false_bne, Bool.true_beq, Bool.false_beq]
      refine parse_s (txtI_len v k 1 h2) ?_
      rw [text_parse h1 h2 hx (by decide) (by decide) hh]
      simp (disch := omega) only [kB, kcx, kdm, kdn, kel, aop, resultsL, resultOf, Nat.reduceEqDiff, reduceCtorEq, eq1, apartOK, apart2, AObj.live, Int.reduceEq, Int.reduceLT, Int.reduceLE, Int.reduceAdd, Int.reduceSub, Int.reduceMul, Int.reduceToNat, cutCells, Nat.reduceAdd, Nat.reduceLeDiff, Nat.reduceLT, Nat.reduceMul, Nat.reduceSub, k8, k13, eq_bvv, Bool.bne_true, Bool.bne_false, Bool.not_true, Bool.not_false, Bool.true_bne, Bool.false_bne, Bool.true_beq, Bool.false_beq]
      refine text_s hP128 (by rw [hget_old kl0]; exact k0) (by simp) ?_
      obtain ⟨t, htt⟩ : ∃ t, t = textI P.1 (k : Int) 1 := ⟨_, rfl⟩
      rw [← htt]
      have htt1 : t.1 = (textI P.1 (k : Int) 1).1 := by rw [htt]
      cases b with
      | true =>
        simp (disch := omega) only [kB, kcx, kdm, kdn, kel, aop, resultsL, resultOf, Nat.reduceEqDiff, reduceCtorEq, eq1, apartOK, apart2, AObj.live, Int.reduceEq, Int.reduceLT, Int.reduceLE, Int.reduceAdd, Int.reduceSub, Int.reduceMul, Int.reduceToNat, cutCells, Nat.reduceAdd, Nat.reduceLeDiff, Nat.reduceLT, Nat.reduceMul, Nat.reduceSub, k8, k13, Bool.bne_true, Bool.bne_false, Bool.not_true, Bool.not_false, Bool.true_bne, Bool.false_bne, Bool.true_beq, Bool.false_beq]
        obtain ⟨n1, n2⟩ := next 1 t.1 _ (by decide) (by decide) rfl htt1 rfl
        exact ⟨5 - 1, by decide, 2, _, by decide, by decide, by decide, n1, n2, by simp; omega, by rw [hget_old kl0]; exact k0, by rw [hget_old (by omega)]; exact k8, by rw [hget_old (by omega)]; exact k13, by exact ex_env rfl⟩
      | false =>
        simp (disch := omega) only [kB, kcx, kdm, kdn, kel, aop, resultsL, resultOf, Nat.reduceEqDiff, reduceCtorEq, eq1, apartOK, apart2, AObj.live, Int.reduceEq, Int.reduceLT, Int.reduceLE, Int.reduceAdd, Int.reduceSub, Int.reduceMul, Int.reduceToNat, cutCells, Nat.reduceAdd, Nat.reduceLeDiff, Nat.reduceLT, Nat.reduceMul, Nat.reduceSub, k8, k13, Bool.bne_true, Bool.bne_false, Bool.not_true, Bool.not_false, Bool.true_bne, Bool.false_bne, Bool.true_beq, Bool.false_beq]
        obtain ⟨n1, n2⟩ := next 1 t.1 _ (by decide) (by decide) rfl htt1 rfl
        exact ⟨5 - 1, by decide, 2, _, by decide, by decide, by decide, n1, n2, by simp; omega, by rw [hget_old kl0]; exact k0, by rw [hget_old (by omega)]; exact k8, by rw [hget_old (by omega)]; exact k13, by exact ex_env rfl⟩
    · have hh := small 2 (by decide)
      have ht := textI_has (f := 2) h1 h2 hx (by decide) (by decide)
      rw [if_pos hh] at ht
      simp (disch := omega) only [kB, kcx, kdm, kdn, kel, aop, resultsL, resultOf, Nat.reduceEqDiff, reduceCtorEq, eq1, apartOK, apart2, AObj.live, Int.reduceEq, Int.reduceLT, Int.reduceLE, Int.reduceAdd, Int.reduceSub, Int.reduceMul, Int.reduceToNat, cutCells, Nat.reduceAdd, Nat.reduceLeDiff, Nat.reduceLT, Nat.reduceMul, Nat.reduceSub, k8, k13]
      refine text_s hx2 k0 kl0 ?_
      rw [ht]
      simp (disch := omega) only [kB, kcx, kdm, kdn, kel, aop, resultsL, resultOf, Nat.reduceEqDiff, reduceCtorEq, eq1, apartOK, apart2, AObj.live, Int.reduceEq, Int.reduceLT, Int.reduceLE, Int.reduceAdd, Int.reduceSub, Int.reduceMul, Int.reduceToNat, cutCells, Nat.reduceAdd, Nat.reduceLeDiff, Nat.reduceLT, Nat.reduceMul, Nat.reduceSub, k8, k13, Bool.bne_true, Bool.bne_false, Bool.not_true, Bool.not_false, Bool.true_bne, Bool.false_bne, Bool.true_beq, Bool.false_beq]
      refine parse_s (txtI_len v k 2 h2) ?_
      rw [text_parse h1 h2 hx (by decide) (by decide) hh]
      simp (disch := omega) only [kB, kcx, kdm, kdn, kel, aop, resultsL, resultOf, Nat.reduceEqDiff, reduceCtorEq, eq1, apartOK, apart2, AObj.live, Int.reduceEq, Int.reduceLT, Int.reduceLE, Int.reduceAdd, Int.reduceSub, Int.reduceMul, Int.reduceToNat, cutCells, Nat.reduceAdd, Nat.reduceLeDiff, Nat.reduceLT, Nat.reduceMul, Nat.reduceSub, k8, k13, eq_bvv, Bool.bne_true, Bool.bne_false, Bool.not_true, Bool.not_false, Bool.true_bne, Bool.false_bne, Bool.true_beq, Bool.false_beq]
      refine text_s hP128 (by rw [hget_old kl0]; exact k0) (by simp) ?_
      obtain ⟨t, htt⟩ : ∃ t, t = textI P.1 (k : Int) 2 := ⟨_, rfl⟩
      rw [← htt]
      have htt1 : t.1 = (textI P.1 (k : Int) 2).1 := by rw [htt]
      cases b with
      | true =>
        simp (disch := omega) only [kB, kcx, kdm, kdn, kel, aop, resultsL, resultOf, Nat.reduceEqDiff, reduceCtorEq, eq1, apartOK, apart2, AObj.live, Int.reduceEq, Int.reduceLT, Int.reduceLE, Int.reduceAdd, Int.reduceSub, Int.reduceMul, Int.reduceToNat, cutCells, Nat.reduceAdd, Nat.reduceLeDiff, Nat.reduceLT, Nat.reduceMul, Nat.reduceSub, k8, k13, Bool.bne_true, Bool.bne_false, Bool.not_true, Bool.not_false, Bool.true_bne, Bool.false_bne, Bool.true_beq, Bool.false_beq]
        obtain ⟨n1, n2⟩ := next 2 t.1 _ (by decide) (by decide) rfl htt1 rfl
        exact ⟨5 - 2, by decide, 3, _, by decide, by decide, by decide, n1, n2, by simp; omega, by rw [hget_old kl0]; exact k0, by rw [hget_old (by omega)]; exact k8, by rw [hget_old (by omega)]; exact k13, by exact ex_env rfl⟩
      | false =>
        simp (disch := omega) only [kB, kcx, kdm, kdn, kel, aop, resultsL, resultOf, Nat.reduceEqDiff, reduceCtorEq, eq1, apartOK, apart2, AObj.live, Int.reduceEq, Int.reduceLT, Int.reduceLE, Int.reduceAdd, Int.reduceSub, Int.reduceMul, Int.reduceToNat, cutCells, Nat.reduceAdd, Nat.reduceLeDiff, Nat.reduceLT, Nat.reduceMul, Nat.reduceSub, k8, k13, Bool.bne_true, Bool.bne_false, Bool.not_true, Bool.not_false, Bool.true_bne, Bool.false_bne, Bool.true_beq, Bool.false_beq]
        obtain ⟨n1, n2⟩ := next 2 t.1 _ (by decide) (by decide) rfl htt1 rfl
        exact ⟨5 - 2, by decide, 3, _, by decide, by decide, by decide, n1, n2, by simp; omega, by rw [hget_old kl0]; exact k0, by rw [hget_old (by omega)]; exact k8, by rw [hget_old (by omega)]; exact k13, by exact ex_env rfl⟩
    · have hh := small 3 (by decide)
      have ht := textI_has (f := 3) h1 h2 hx (by decide) (by decide)
      rw [if_pos hh] at ht
      simp (disch := omega) only [kB, kcx, kdm, kdn, kel, aop, resultsL, resultOf, Nat.reduceEqDiff, reduceCtorEq, eq1, apartOK, apart2, AObj.live, Int.reduceEq, Int.reduceLT, Int.reduceLE, Int.reduceAdd, Int.reduceSub, Int.reduceMul, Int.reduceToNat, cutCells, Nat.reduceAdd, Nat.reduceLeDiff, Nat.reduceLT, Nat.reduceMul, Nat.reduceSub, k8, k13]
      refine text_s hx2 k0 kl0 ?_
      rw [ht]
      simp (disch := omega) only [kB, kcx, kdm, kdn, kel, aop, resultsL, resultOf, Nat.reduceEqDiff, reduceCtorEq, eq1, apartOK, apart2, AObj.live, Int.reduceEq, Int.reduceLT, Int.reduceLE, Int.reduceAdd, Int.reduceSub, Int.reduceMul, Int.reduceToNat, cutCells, Nat.reduceAdd, Nat.reduceLeDiff, Nat.reduceLT, Nat.reduceMul, Nat.reduceSub, k8, k13, Bool.bne_true, Bool.bne_false, Bool.not_true, Bool.not_false, Bool.true_bne, Bool.false_bne, Bool.true_beq, Bool.false_beq]
      refine parse_s (txtI_len v k 3 h2) ?_
      rw [text_parse h1 h2 hx (by decide) (by decide) hh]
      simp (disch := omega) only [kB, kcx, kdm, kdn, kel, aop, resultsL, resultOf, Nat.reduceEqDiff, reduceCtorEq, eq1, apartOK, apart2, AObj.live, Int.reduceEq, Int.reduceLT, Int.reduceLE, Int.reduceAdd, Int.reduceSub, Int.reduceMul, Int.reduceToNat, cutCells, Nat.reduceAdd, Nat.reduceLeDiff, Nat.reduceLT, Nat.reduceMul, Nat.reduceSub, k8, k13, eq_bvv, Bool.bne_true, Bool.bne_false, Bool.not_true, Bool.not_false, Bool.true_bne, Bool.false_bne, Bool.true_beq, Bool.false_beq]
      refine text_s hP128 (by rw [hget_old kl0]; exact k0) (by simp) ?_
      obtain ⟨t, htt⟩ : ∃ t, t = textI P.1 (k : Int) 3 := ⟨_, rfl⟩
      rw [← htt]
      have htt1 : t.1 = (textI P.1 (k : Int) 3).1 := by rw [htt]
      cases b with
      | true =>
        simp (disch := omega) only [kB, kcx, kdm, kdn, kel, aop, resultsL, resultOf, Nat.reduceEqDiff, reduceCtorEq, eq1, apartOK, apart2, AObj.live, Int.reduceEq, Int.reduceLT, Int.reduceLE, Int.reduceAdd, Int.reduceSub, Int.reduceMul, Int.reduceToNat, cutCells, Nat.reduceAdd, Nat.reduceLeDiff, Nat.reduceLT, Nat.reduceMul, Nat.reduceSub, k8, k13, Bool.bne_true, Bool.bne_false, Bool.not_true, Bool.not_false, Bool.true_bne, Bool.false_bne, Bool.true_beq, Bool.false_beq]
        obtain ⟨n1, n2⟩ := next 3 t.1 _ (by decide) (by decide) rfl htt1 rfl
        exact ⟨5 - 3, by decide, 4, _, by decide, by decide, by decide, n1, n2, by simp; omega, by rw [hget_old kl0]; exact k0, by rw [hget_old (by omega)]; exact k8, by rw [hget_old (by omega)]; exact k13, by exact ex_env rfl⟩
      | false =>
        simp (disch := omega) only [kB, kcx, kdm, kdn, kel, aop, resultsL, resultOf, Nat.reduceEqDiff, reduceCtorEq, eq1, apartOK, apart2, AObj.live, Int.reduceEq, Int.reduceLT, Int.reduceLE, Int.reduceAdd, Int.reduceSub, Int.reduceMul, Int.reduceToNat, cutCells, Nat.reduceAdd, Nat.reduceLeDiff, Nat.reduceLT, Nat.reduceMul, Nat.reduceSub, k8, k13, Bool.bne_true, Bool.bne_false, Bool.not_true, Bool.not_false, Bool.true_bne, Bool.false_bne, Bool.true_beq, Bool.false_beq]
        obtain ⟨n1, n2⟩ := next 3 t.1 _ (by decide) (by decide) rfl htt1 rfl
        exact ⟨5 - 3, by decide, 4, _, by decide, by decide, by decide, n1, n2, by simp; omega, by rw [hget_old kl0]; exact k0, by rw [hget_old (by omega)]; exact k8, by rw [hget_old (by omega)]; exact k13, by exact ex_env rfl⟩
    · by_cases h32 : k = 32
      · have h32' : (k : Int) = 32 := by omega
        have h32e : ((k : Int) = 32) = True := eq_true h32'
        have hh : hasI (k : Int) 4 = true := by rw [hasI, if_pos rfl]; exact decide_eq_true h32'
        have ht := textI_has (f := 4) h1 h2 hx (by decide) (by decide)
        rw [if_pos hh] at ht
        simp (disch := omega) only [kB, kcx, kdm, kdn, kel, aop, resultsL, resultOf, Nat.reduceEqDiff, reduceCtorEq, eq1, apartOK, apart2, AObj.live, Int.reduceEq, Int.reduceLT, Int.reduceLE, Int.reduceAdd, Int.reduceSub, Int.reduceMul, Int.reduceToNat, cutCells, Nat.reduceAdd, Nat.reduceLeDiff, Nat.reduceLT, Nat.reduceMul, Nat.reduceSub, k8, k13]
        refine text_s hx2 k0 kl0 ?_
        rw [ht]
        simp (disch := omega) only [kB, kcx, kdm, kdn, kel, aop, resultsL, resultOf, Nat.reduceEqDiff, reduceCtorEq, eq1, apartOK, apart2, AObj.live, Int.reduceEq, Int.reduceLT, Int.reduceLE, Int.reduceAdd, Int.reduceSub, Int.reduceMul, Int.reduceToNat, cutCells, Nat.reduceAdd, Nat.reduceLeDiff, Nat.reduceLT, Nat.reduceMul, Nat.reduceSub, k8, k13, Bool.bne_true, Bool.bne_false, Bool.not_true, Bool.not_false, Bool.true_bne, Bool.false_bne, Bool.true_beq, Bool.false_beq, h32e]
        refine parse_s (txtI_len v k 4 h2) ?_
        rw [text_parse h1 h2 hx (by decide) (by decide) hh]
        simp (disch := omega) only [kB, kcx, kdm, kdn, kel, aop, resultsL, resultOf, Nat.reduceEqDiff, reduceCtorEq, eq1, apartOK, apart2, AObj.live, Int.reduceEq, Int.reduceLT, Int.reduceLE, Int.reduceAdd, Int.reduceSub, Int.reduceMul, Int.reduceToNat, cutCells, Nat.reduceAdd, Nat.reduceLeDiff, Nat.reduceLT, Nat.reduceMul, Nat.reduceSub, k8, k13, eq_bvv, Bool.bne_true, Bool.bne_false, Bool.not_true, Bool.not_false, Bool.true_bne, Bool.false_bne, Bool.true_beq, Bool.false_beq, h32e]
        refine text_s hP128 (by rw [hget_old kl0]; exact k0) (by simp) ?_
        obtain ⟨t, htt⟩ : ∃ t, t = textI P.1 (k : Int) 4 := ⟨_, rfl⟩
        rw [← htt]
        have htt1 : t.1 = (textI P.1 (k : Int) 4).1 := by rw [htt]
        cases b with
        | true =>
          simp (disch := omega) only [kB, kcx, kdm, kdn, kel, aop, resultsL, resultOf, Nat.reduceEqDiff, reduceCtorEq, eq1, apartOK, apart2, AObj.live, Int.reduceEq, Int.reduceLT, Int.reduceLE, Int.reduceAdd, Int.reduceSub, Int.reduceMul, Int.reduceToNat, cutCells, Nat.reduceAdd, Nat.reduceLeDiff, Nat.reduceLT, Nat.reduceMul, Nat.reduceSub, k8, k13, Bool.bne_true, Bool.bne_false, Bool.not_true, Bool.not_false, Bool.true_bne, Bool.false_bne, Bool.true_beq, Bool.false_beq, h32e]
          obtain ⟨n1, n2⟩ := next 4 t.1 _ (by decide) (by decide) rfl htt1 rfl
          exact ⟨5 - 4, by decide, 5, _, by decide, by decide, by decide, n1, n2, by simp; omega, by rw [hget_old kl0]; exact k0, by rw [hget_old (by omega)]; exact k8, by rw [hget_old (by omega)]; exact k13, by exact ex_env rfl⟩
        | false =>
          simp (disch := omega) only [kB, kcx, kdm, kdn, kel, aop, resultsL, resultOf, Nat.reduceEqDiff, reduceCtorEq, eq1, apartOK, apart2, AObj.live, Int.reduceEq, Int.reduceLT, Int.reduceLE, Int.reduceAdd, Int.reduceSub, Int.reduceMul, Int.reduceToNat, cutCells, Nat.reduceAdd, Nat.reduceLeDiff, Nat.reduceLT, Nat.reduceMul, Nat.reduceSub, k8, k13, Bool.bne_true, Bool.bne_false, Bool.not_true, Bool.not_false, Bool.true_bne, Bool.false_bne, Bool.true_beq, Bool.false_beq, h32e]
          obtain ⟨n1, n2⟩ := next 4 t.1 _ (by decide) (by decide) rfl htt1 rfl
          exact ⟨5 - 4, by decide, 5, _, by decide, by decide, by decide, n1, n2, by simp; omega, by rw [hget_old kl0]; exact k0, by rw [hget_old (by omega)]; exact k8, by rw [hget_old (by omega)]; exact k13, by exact ex_env rfl⟩
      · have h32' : ¬ (k : Int) = 32 := by omega
        have hh : hasI (k : Int) 4 = false := by rw [hasI, if_pos rfl]; exact decide_eq_false h32'
        have ht := textI_has (f := 4) h1 h2 hx (by decide) (by decide)
        rw [if_neg (by rw [hh]; decide)] at ht
        simp (disch := omega) only [kB, kcx, kdm, kdn, kel, aop, resultsL, resultOf, Nat.reduceEqDiff, reduceCtorEq, eq1, apartOK, apart2, AObj.live, Int.reduceEq, Int.reduceLT, Int.reduceLE, Int.reduceAdd, Int.reduceSub, Int.reduceMul, Int.reduceToNat, cutCells, Nat.reduceAdd, Nat.reduceLeDiff, Nat.reduceLT, Nat.reduceMul, Nat.reduceSub, k8, k13]
        refine text_s hx2 k0 kl0 ?_
        rw [ht]
        simp (disch := omega) only [kB, kcx, kdm, kdn, kel, aop, resultsL, resultOf, Nat.reduceEqDiff, reduceCtorEq, eq1, apartOK, apart2, AObj.live, Int.reduceEq, Int.reduceLT, Int.reduceLE, Int.reduceAdd, Int.reduceSub, Int.reduceMul, Int.reduceToNat, cutCells, Nat.reduceAdd, Nat.reduceLeDiff, Nat.reduceLT, Nat.reduceMul, Nat.reduceSub, k8, k13, Bool.bne_true, Bool.bne_false, Bool.not_true, Bool.not_false, Bool.true_bne, Bool.false_bne, Bool.true_beq, Bool.false_beq, h32']
        refine text_s hP128 k0 kl0 ?_
        obtain ⟨t, htt⟩ : ∃ t, t = textI P.1 (k : Int) 4 := ⟨_, rfl⟩
        rw [← htt]
        have htt1 : t.1 = (textI P.1 (k : Int) 4).1 := by rw [htt]
        cases b with
        | true =>
          simp (disch := omega) only [kB, kcx, kdm, kdn, kel, aop, resultsL, resultOf, Nat.reduceEqDiff, reduceCtorEq, eq1, apartOK, apart2, AObj.live, Int.reduceEq, Int.reduceLT, Int.reduceLE, Int.reduceAdd, Int.reduceSub, Int.reduceMul, Int.reduceToNat, cutCells, Nat.reduceAdd, Nat.reduceLeDiff, Nat.reduceLT, Nat.reduceMul, Nat.reduceSub, k8, k13, Bool.bne_true, Bool.bne_false, Bool.not_true, Bool.not_false, Bool.true_bne, Bool.false_bne, Bool.true_beq, Bool.false_beq, h32']
          obtain ⟨n1, n2⟩ := next 4 t.1 _ (by decide) (by decide) rfl htt1 rfl
          exact ⟨5 - 4, by decide, 5, _, by decide, by decide, by decide, n1, n2, kl, k0, k8, k13, by exact ex_env rfl⟩
        | false =>
          simp (disch := omega) only [kB, kcx, kdm, kdn, kel, aop, resultsL, resultOf, Nat.reduceEqDiff, reduceCtorEq, eq1, apartOK, apart2, AObj.live, Int.reduceEq, Int.reduceLT, Int.reduceLE, Int.reduceAdd, Int.reduceSub, Int.reduceMul, Int.reduceToNat, cutCells, Nat.reduceAdd, Nat.reduceLeDiff, Nat.reduceLT, Nat.reduceMul, Nat.reduceSub, k8, k13, Bool.bne_true, Bool.bne_false, Bool.not_true, Bool.not_false, Bool.true_bne, Bool.false_bne, Bool.true_beq, Bool.false_beq, h32']
          obtain ⟨n1, n2⟩ := next 4 t.1 _ (by decide) (by decide) rfl htt1 rfl
          exact ⟨5 - 4, by decide, 5, _, by decide, by decide, by decide, n1, n2, kl, k0, k8, k13, by exact ex_env rfl⟩
    · have hh5 : hasI (k : Int) 5 = (decide (16 ≤ (k : Int)) && decide ((k : Int) % 8 = 0)) := by rw [hasI, if_neg (by decide), if_pos rfl, isw_nat h1 h2, Bool.true_and]
      by_cases h8 : k % 8 = 0
      · have h8' : ((k % 8 : Nat) : Int) = 0 := by omega
        by_cases h9 : 8 < k
        · have h9' : (8 : Int) < (k : Int) := by omega
          have hh : hasI (k : Int) 5 = true := by rw [hh5, decide_eq_true (by omega), decide_eq_true (by omega)]; rfl
          have ht := textI_has (f := 5) h1 h2 hx (by decide) (by decide)
          rw [if_pos hh] at ht
          simp (disch := omega) only [kB, kcx, kdm, kdn, kel, aop, resultsL, resultOf, Nat.reduceEqDiff, reduceCtorEq, eq1, apartOK, apart2, AObj.live, Int.reduceEq, Int.reduceLT, Int.reduceLE, Int.reduceAdd, Int.reduceSub, Int.reduceMul, Int.reduceToNat, cutCells, Nat.reduceAdd, Nat.reduceLeDiff, Nat.reduceLT, Nat.reduceMul, Nat.reduceSub, k8, k13]
          refine text_s hx2 k0 kl0 ?_
          rw [ht]
          simp (disch := omega) only [kB, kcx, kdm, kdn, kel, aop, resultsL, resultOf, Nat.reduceEqDiff, reduceCtorEq, eq1, apartOK, apart2, AObj.live, Int.reduceEq, Int.reduceLT, Int.reduceLE, Int.reduceAdd, Int.reduceSub, Int.reduceMul, Int.reduceToNat, cutCells, Nat.reduceAdd, Nat.reduceLeDiff, Nat.reduceLT, Nat.reduceMul, Nat.reduceSub, k8, k13, Bool.bne_true, Bool.bne_false, Bool.not_true, Bool.not_false, Bool.true_bne, Bool.false_bne, Bool.true_beq, Bool.false_beq, hr8, h8', h9']
          refine parse_s (txtI_len v k 5 h2) ?_
          rw [text_parse h1 h2 hx (by decide) (by decide) hh]
          simp (disch := omega) only [kB, kcx, kdm, kdn, kel, aop, resultsL, resultOf, Nat.reduceEqDiff, reduceCtorEq, eq1, apartOK, apart2, AObj.live, Int.reduceEq, Int.reduceLT, Int.reduceLE, Int.reduceAdd, Int.reduceSub, Int.reduceMul, Int.reduceToNat, cutCells, Nat.reduceAdd, Nat.reduceLeDiff, Nat.reduceLT, Nat.reduceMul, Nat.reduceSub, k8, k13, eq_bvv, Bool.bne_true, Bool.bne_false, Bool.not_true, Bool.not_false, Bool.true_bne, Bool.false_bne, Bool.true_beq, Bool.false_beq, hr8, h8', h9']
          refine text_s hP128 (by rw [hget_old kl0]; exact k0) (by simp) ?_
          obtain ⟨t, htt⟩ : ∃ t, t = textI P.1 (k : Int) 5 := ⟨_, rfl⟩
          rw [← htt]
          have htt1 : t.1 = (textI P.1 (k : Int) 5).1 := by rw [htt]
          cases b with
          | true =>
            simp (disch := omega) only [kB, kcx, kdm, kdn, kel, aop, resultsL, resultOf, Nat.reduceEqDiff, reduceCtorEq, eq1, apartOK, apart2, AObj.live, Int.reduceEq, Int.reduceLT, Int.reduceLE, Int.reduceAdd, Int.reduceSub, Int.reduceMul, Int.reduceToNat, cutCells, Nat.reduceAdd, Nat.reduceLeDiff, Nat.reduceLT, Nat.reduceMul, Nat.reduceSub, k8, k13, Bool.bne_true, Bool.bne_false, Bool.not_true, Bool.not_false, Bool.true_bne, Bool.false_bne, Bool.true_beq, Bool.false_beq, hr8, h8', h9']
            obtain ⟨n1, n2⟩ := next 5 t.1 _ (by decide) (by decide) rfl htt1 rfl
            exact ⟨5 - 5, by decide, 6, _, by decide, by decide, by decide, n1, n2, by simp; omega, by rw [hget_old kl0]; exact k0, by rw [hget_old (by omega)]; exact k8, by rw [hget_old (by omega)]; exact k13, by exact ex_env rfl⟩
          | false =>
            simp (disch := omega) only [kB, kcx, kdm, kdn, kel, aop, resultsL, resultOf, Nat.reduceEqDiff, reduceCtorEq, eq1, apartOK, apart2, AObj.live, Int.reduceEq, Int.reduceLT, Int.reduceLE, Int.reduceAdd, Int.reduceSub, Int.reduceMul, Int.reduceToNat, cutCells, Nat.reduceAdd, Nat.reduceLeDiff, Nat.reduceLT, Nat.reduceMul, Nat.reduceSub, k8, k13, Bool.bne_true, Bool.bne_false, Bool.not_true, Bool.not_false, Bool.true_bne, Bool.false_bne, Bool.true_beq, Bool.false_beq, hr8, h8', h9']
            obtain ⟨n1, n2⟩ := next 5 t.1 _ (by decide) (by decide) rfl htt1 rfl
            exact ⟨5 - 5, by decide, 6, _, by decide, by decide, by decide, n1, n2, by simp; omega, by rw [hget_old kl0]; exact k0, by rw [hget_old (by omega)]; exact k8, by rw [hget_old (by omega)]; exact k13, by exact ex_env rfl⟩
        · have h9' : ¬ (8 : Int) < (k : Int) := by omega
          have hh : hasI (k : Int) 5 = false := by rw [hh5, decide_eq_false (by omega)]; rfl
          have ht := textI_has (f := 5) h1 h2 hx (by decide) (by decide)
          rw [if_neg (by rw [hh]; decide)] at ht
          simp (disch := omega) only [kB, kcx, kdm, kdn, kel, aop, resultsL, resultOf, Nat.reduceEqDiff, reduceCtorEq, eq1, apartOK, apart2, AObj.live, Int.reduceEq, Int.reduceLT, Int.reduceLE, Int.reduceAdd, Int.reduceSub, Int.reduceMul, Int.reduceToNat, cutCells, Nat.reduceAdd, Nat.reduceLeDiff, Nat.reduceLT, Nat.reduceMul, Nat.reduceSub, k8, k13]
          refine text_s hx2 k0 kl0 ?_
          rw [ht]
          simp (disch := omega) only [kB, kcx, kdm, kdn, kel, aop, resultsL, resultOf, Nat.reduceEqDiff, reduceCtorEq, eq1, apartOK, apart2, AObj.live, Int.reduceEq, Int.reduceLT, Int.reduceLE, Int.reduceAdd, Int.reduceSub, Int.reduceMul, Int.reduceToNat, cutCells, Nat.reduceAdd, Nat.reduceLeDiff, Nat.reduceLT, Nat.reduceMul, Nat.reduceSub, k8, k13, Bool.bne_true, Bool.bne_false, Bool.not_true, Bool.not_false, Bool.true_bne, Bool.false_bne, Bool.true_beq, Bool.false_beq, hr8, h8', h9']
          refine text_s hP128 k0 kl0 ?_
          obtain ⟨t, htt⟩ : ∃ t, t = textI P.1 (k : Int) 5 := ⟨_, rfl⟩
          rw [← htt]
          have htt1 : t.1 = (textI P.1 (k : Int) 5).1 := by rw [htt]
          cases b with
          | true =>
            simp (disch := omega) only [kB, kcx, kdm, kdn, kel, aop, resultsL, resultOf, Nat.reduceEqDiff, reduceCtorEq, eq1, apartOK, apart2, AObj.live, Int.reduceEq, Int.reduceLT, Int.reduceLE, Int.reduceAdd, Int.reduceSub, Int.reduceMul, Int.reduceToNat, cutCells, Nat.reduceAdd, Nat.reduceLeDiff, Nat.reduceLT, Nat.reduceMul, Nat.reduceSub, k8, k13, Bool.bne_true, Bool.bne_false, Bool.not_true, Bool.not_false, Bool.true_bne, Bool.false_bne, Bool.true_beq, Bool.false_beq, hr8, h8', h9']
            obtain ⟨n1, n2⟩ := next 5 t.1 _ (by decide) (by decide) rfl htt1 rfl
            exact ⟨5 - 5, by decide, 6, _, by decide, by decide, by decide, n1, n2, kl, k0, k8, k13, by exact ex_env rfl⟩
          | false =>
            simp (disch := omega) only [kB, kcx, kdm, kdn, kel, aop, resultsL, resultOf, Nat.reduceEqDiff, reduceCtorEq, eq1, apartOK, apart2, AObj.live, Int.reduceEq, Int.reduceLT, Int.reduceLE, Int.reduceAdd, Int.reduceSub, Int.reduceMul, Int.reduceToNat, cutCells, Nat.reduceAdd, Nat.reduceLeDiff, Nat.reduceLT, Nat.reduceMul, Nat.reduceSub, k8, k13, Bool.bne_true, Bool.bne_false, Bool.not_true, Bool.not_false, Bool.true_bne, Bool.false_bne, Bool.true_beq, Bool.false_beq, hr8, h8', h9']
            obtain ⟨n1, n2⟩ := next 5 t.1 _ (by decide) (by decide) rfl htt1 rfl
            exact ⟨5 - 5, by decide, 6, _, by decide, by decide, by decide, n1, n2, kl, k0, k8, k13, by exact ex_env rfl⟩
      · have h8' : ¬ ((k % 8 : Nat) : Int) = 0 := by omega
        have hh : hasI (k : Int) 5 = false := by rw [hh5, decide_eq_false (show ¬ (k : Int) % 8 = 0 by omega), Bool.and_false]
        have ht := textI_has (f := 5) h1 h2 hx (by decide) (by decide)
        rw [if_neg (by rw [hh]; decide)] at ht
        simp (disch := omega) only [kB, kcx, kdm, kdn, kel, aop, resultsL, resultOf, Nat.reduceEqDiff, reduceCtorEq, eq1, apartOK, apart2, AObj.live, Int.reduceEq, Int.reduceLT, Int.reduceLE, Int.reduceAdd, Int.reduceSub, Int.reduceMul, Int.reduceToNat, cutCells, Nat.reduceAdd, Nat.reduceLeDiff, Nat.reduceLT, Nat.reduceMul, Nat.reduceSub, k8, k13]
        refine text_s hx2 k0 kl0 ?_
        rw [ht]
        simp (disch := omega) only [kB, kcx, kdm, kdn, kel, aop, resultsL, resultOf, Nat.reduceEqDiff, reduceCtorEq, eq1, apartOK, apart2, AObj.live, Int.reduceEq, Int.reduceLT, Int.reduceLE, Int.reduceAdd, Int.reduceSub, Int.reduceMul, Int.reduceToNat, cutCells, Nat.reduceAdd, Nat.reduceLeDiff, Nat.reduceLT, Nat.reduceMul, Nat.reduceSub, k8, k13, Bool.bne_true, Bool.bne_false, Bool.not_true, Bool.not_false, Bool.true_bne, Bool.false_bne, Bool.true_beq, Bool.false_beq, hr8, h8']
        refine text_s hP128 k0 kl0 ?_
        obtain ⟨t, htt⟩ : ∃ t, t = textI P.1 (k : Int) 5 := ⟨_, rfl⟩
        rw [← htt]
        have htt1 : t.1 = (textI P.1 (k : Int) 5).1 := by rw [htt]
        cases b with
        | true =>
          simp (disch := omega) only [kB, kcx, kdm, kdn, kel, aop, resultsL, resultOf, Nat.reduceEqDiff, reduceCtorEq, eq1, apartOK, apart2, AObj.live, Int.reduceEq, Int.reduceLT, Int.reduceLE, Int.reduceAdd, Int.reduceSub, Int.reduceMul, Int.reduceToNat, cutCells, Nat.reduceAdd, Nat.reduceLeDiff, Nat.reduceLT, Nat.reduceMul, Nat.reduceSub, k8, k13, Bool.bne_true, Bool.bne_false, Bool.not_true, Bool.not_false, Bool.true_bne, Bool.false_bne, Bool.true_beq, Bool.false_beq, hr8, h8']
          obtain ⟨n1, n2⟩ := next 5 t.1 _ (by decide) (by decide) rfl htt1 rfl
          exact ⟨5 - 5, by decide, 6, _, by decide, by decide, by decide, n1, n2, kl, k0, k8, k13, by exact ex_env rfl⟩
        | false =>
          simp (disch := omega) only [kB, kcx, kdm, kdn, kel, aop, resultsL, resultOf, Nat.reduceEqDiff, reduceCtorEq, eq1, apartOK, apart2, AObj.live, Int.reduceEq, Int.reduceLT, Int.reduceLE, Int.reduceAdd, Int.reduceSub, Int.reduceMul, Int.reduceToNat, cutCells, Nat.reduceAdd, Nat.reduceLeDiff, Nat.reduceLT, Nat.reduceMul, Nat.reduceSub, k8, k13, Bool.bne_true, Bool.bne_false, Bool.not_true, Bool.not_false, Bool.true_bne, Bool.false_bne, Bool.true_beq, Bool.false_beq, hr8, h8']
          obtain ⟨n1, n2⟩ := next 5 t.1 _ (by decide) (by decide) rfl htt1 rfl
          exact ⟨5 - 5, by decide, 6, _, by decide, by decide, by decide, n1, n2, kl, k0, k8, k13, by exact ex_env rfl⟩
  · have hf : f = 6 := by omega
    subst hf
    have := hdone b hb1 hb2
    subst this
    simp (disch := omega) only [kB, kcx, kdm, kdn, kel, aop, resultsL, resultOf, Nat.reduceEqDiff, reduceCtorEq, eq1, apartOK, apart2, AObj.live, Int.reduceEq, Int.reduceLT, Int.reduceLE, Int.reduceAdd, Int.reduceSub, Int.reduceMul, Int.reduceToNat, cutCells, Nat.reduceAdd, Nat.reduceLeDiff, Nat.reduceLT, Nat.reduceMul, Nat.reduceSub]

end Go.Proofs.YtkhkmgcegicmoaaDoor.Ev

/- A law's arguments as its row reads them: rows of cells that nothing writes, and what stands in them. Conditions: none. -/
namespace Go.Proofs.YtkhkmgcegicmoaaDoor.Ev
open Go.RowKit Go.ChangeShapes Go.WideShapes

/-- What data stands in some cells. -/
inductive Rep (P : Program) (H : Heap) {X : Type} : TypeId → DataW X → List Value → Prop where
  | bool {t : TypeId} (b : Bool) (hu : P.underlying t = some .bool) : Rep P H t (.lit (.bool b)) [.bool b]
  | int {t : TypeId} (k : IntKind) (n : Int) (hu : P.underlying t = some (.int k)) (hw : (Lit.int k n).wf = true) : Rep P H t (.lit (.int k n)) [.int k n]
  | str {t : TypeId} (l : List UInt8) (hu : P.underlying t = some .string) (hl : l.length ≤ maxLen) : Rep P H t (.lit (.string l)) [.string (bs l)]
  | struct {t : TypeId} {fs : Array Field} {ds : List (DataW X)} {ass : List (List Value)} (hu : P.underlying t = some (.struct fs)) (h1 : ds.length = fs.size) (h2 : ass.length = fs.size)
      (h : ∀ (i : Nat) (f : Field) (d : DataW X) (cz : List Value), fs[i]? = some f → ds[i]? = some d → ass[i]? = some cz → Rep P H f.type d cz)
      (hl : ∀ (i : Nat) (f : Field) (cz : List Value), fs[i]? = some f → ass[i]? = some cz → cz.length = P.cellsOf f.type) : Rep P H t (.agg ds) ass.flatten
  | nilS {t e : TypeId} (hu : P.underlying t = some (.slice e)) : Rep P H t .nil [.slice none 0 0]
  | empty {t e : TypeId} {sp : List (DataW X)} (hu : P.underlying t = some (.slice e)) : Rep P H t (.slice [] sp) [.slice (some ⟨0, 0, some 0⟩) 0 0]
  | slice {t e : TypeId} {b : Nat} {ds sp : List (DataW X)} {ass : List (List Value)} (hu : P.underlying t = some (.slice e)) (hne : ds ≠ []) (hb : hget H b = .row ass.flatten 0 false) (h2 : ass.length = ds.length)
      (h : ∀ (i : Nat) (d : DataW X) (cz : List Value), ds[i]? = some d → ass[i]? = some cz → Rep P H e d cz)
      (hl : ∀ (i : Nat) (cz : List Value), ass[i]? = some cz → cz.length = P.cellsOf e) : Rep P H t (.slice ds sp) [.slice (some ⟨b, 0, none⟩) ds.length ds.length]

theorem Rep.mono {P : Program} {H g : Heap} {X : Type} {t : TypeId} {d : DataW X} {cz : List Value} (h : Rep P H t d cz) : Rep P (H ++ g) t d cz := by
  induction h with
  | bool b hu => exact .bool b hu
  | int k n hu hw => exact .int k n hu hw
  | str l hu hl => exact .str l hu hl
  | struct hu h1 h2 h hl ih => exact .struct hu h1 h2 ih hl
  | nilS hu => exact .nilS hu
  | empty hu => exact .empty hu
  | slice hu hne hb h2 h hl ih => exact .slice hu hne (by rw [hget_old (hget_lt hb rfl)]; exact hb) h2 ih hl

/-- A set of types of plain data: numbers, texts, structs and lists of them. -/
def plainSet (P : Program) (L : List TypeId) : Bool := L.all fun t => decide (t < P.types.size) && match P.underlying t with
  | some .bool | some (.int _) | some .string => true
  | some (.struct fs) => fs.toList.all fun f => L.contains f.type
  | some (.slice e) => L.contains e && decide (0 < P.cellsOf e)
  | _ => false

def chunks : List Nat → List Value → List (List Value)
  | [], _ => []
  | n :: ns, cs => cs.take n :: chunks ns (cs.drop n)

theorem chunks_flat : ∀ (ns : List Nat) (cs : List Value), cs.length = ns.sum → (chunks ns cs).flatten = cs
  | [], cs, h => by simp at h; simp [chunks, h]
  | n :: ns, cs, h => by
    rw [chunks, List.flatten_cons, chunks_flat ns _ (by simp at h ⊢; omega), List.take_append_drop]

theorem chunks_len : ∀ (ns : List Nat) (cs : List Value), (chunks ns cs).length = ns.length
  | [], _ => rfl
  | n :: ns, cs => by rw [chunks, List.length_cons, List.length_cons, chunks_len ns]

theorem chunks_get : ∀ (ns : List Nat) (cs : List Value) (j n : Nat), ns[j]? = some n → (chunks ns cs)[j]? = some ((cs.drop (ns.take j).sum).take n)
  | [], _, j, n, h => by simp at h
  | m :: ns, cs, 0, n, h => by simp at h; simp [chunks, h]
  | m :: ns, cs, j + 1, n, h => by
    have h' : ns[j]? = some n := by simpa using h
    have := chunks_get ns (cs.drop m) j n h'
    simp only [chunks, List.getElem?_cons_succ, List.take_succ_cons, List.sum_cons]
    rw [this, List.drop_drop]

theorem VL.flat {n : Nat} {ρ : Nat → Place} : ∀ (xss yss : List (List Value)), xss.length = yss.length → (∀ (i : Nat) (xs ys : List Value), xss[i]? = some xs → yss[i]? = some ys → VL n ρ xs ys) → VL n ρ xss.flatten yss.flatten
  | [], [], _, _ => VL.nil
  | [], _ :: _, h, _ => by simp at h
  | _ :: _, [], h, _ => by simp at h
  | xs :: xss, ys :: yss, h, hh => by
    rw [List.flatten_cons, List.flatten_cons]
    exact (hh 0 xs ys rfl rfl).append (VL.flat xss yss (by simpa using h) fun i a b ha hb => hh (i + 1) a b (by simpa using ha) (by simpa using hb))

section
variable {X : Type} {enc : TypeId × Value → X} {P : Program} {G : Nat} {W : World} {base : Nat} {sp : Nat → Bool} {held : Bool} {L : List TypeId}

/-- Some cells can be told in a heap of the evaluator's. -/
def Opens (P : Program) (G : Nat) (W : World) (t : TypeId) (cs : List Value) (d : DataW X) : Prop :=
  ∀ (H : Heap) (ρ : Nat → Place), (∀ o ∈ H, o.wrt = false) → Rel G ρ H W → ∃ (g : Heap) (ρ' : Nat → Place) (cz : List Value), Rel G ρ' (H ++ g) W ∧ (∀ b, b < H.length → ρ' b = ρ b) ∧ (∀ o ∈ g, ∃ c, o = .row c 0 false) ∧ VL (H ++ g).length ρ' cz cs ∧ Rep P (H ++ g) t d cz

theorem ro_app {H g : Heap} (h : ∀ o ∈ H, o.wrt = false) (hg : ∀ o ∈ g, ∃ c, o = .row c 0 false) : ∀ o ∈ H ++ g, o.wrt = false := fun o ho => by
  rcases List.mem_append.1 ho with ho | ho
  · exact h o ho
  · obtain ⟨c, rfl⟩ := hg o ho; rfl

theorem opens_list : ∀ (l : List (TypeId × List Value × DataW X)), (∀ q ∈ l, Opens P G W q.1 q.2.1 q.2.2) → ∀ (H : Heap) (ρ : Nat → Place), (∀ o ∈ H, o.wrt = false) → Rel G ρ H W →
    ∃ (g : Heap) (ρ' : Nat → Place) (ass : List (List Value)), Rel G ρ' (H ++ g) W ∧ (∀ b, b < H.length → ρ' b = ρ b) ∧ (∀ o ∈ g, ∃ c, o = .row c 0 false) ∧ ass.length = l.length ∧
      ∀ (i : Nat) (q : TypeId × List Value × DataW X) (cz : List Value), l[i]? = some q → ass[i]? = some cz → VL (H ++ g).length ρ' cz q.2.1 ∧ Rep P (H ++ g) q.1 q.2.2 cz
  | [], _, H, ρ, _, hr => ⟨[], ρ, [], by simpa using hr, fun _ _ => rfl, fun o ho => (by cases ho), rfl, fun i q cz h => by simp at h⟩
  | q :: l, h, H, ρ, hro, hr => by
    obtain ⟨g, ρ1, cz, hr1, hs1, hg1, hv1, hp1⟩ := h q (by simp) H ρ hro hr
    obtain ⟨g2, ρ2, ass, hr2, hs2, hg2, hl2, hh⟩ := opens_list l (fun q hq => h q (by simp [hq])) (H ++ g) ρ1 (ro_app hro hg1) hr1
    rw [List.append_assoc] at hr2 hh
    refine ⟨g ++ g2, ρ2, cz :: ass, hr2, fun b hb => (hs2 b (by simp; omega)).trans (hs1 b hb), fun o ho => ?_, by simp [hl2], fun i q' cz' hq has => ?_⟩
    · rcases List.mem_append.1 ho with ho | ho
      · exact hg1 o ho
      · exact hg2 o ho
    · cases i with
      | zero =>
        simp at hq has
        subst hq; subst has
        refine ⟨hv1.mono (by simp) hs2, ?_⟩
        rw [← List.append_assoc]
        exact hp1.mono
      | succ i => exact hh i q' cz' (by simpa using hq) (by simpa using has)

theorem mem_plain (hP : plainSet P L = true) {t : TypeId} (ht : L.contains t = true) : (decide (t < P.types.size) && (match P.underlying t with
    | some .bool | some (.int _) | some .string => true
    | some (.struct fs) => fs.toList.all fun f => L.contains f.type
    | some (.slice e) => L.contains e && decide (0 < P.cellsOf e)
    | _ => false)) = true := by
  unfold plainSet at hP
  exact List.all_eq_true.1 hP t (List.contains_iff_mem.1 ht)

theorem flat_get {c : Nat} (hc : 0 < c) : ∀ (css : List (List Value)) (k j : Nat) (cs : List Value), (∀ (i : Nat) (cz : List Value), css[i]? = some cz → cz.length = c) → css[k]? = some cs → j < c → css.flatten[k * c + j]? = cs[j]?
  | [], k, j, cs, _, h, _ => by simp at h
  | a :: css, 0, j, cs, hl, h, hj => by
    have h1 := hl 0 a rfl
    simp at h
    subst h
    rw [List.flatten_cons, Nat.zero_mul, Nat.zero_add, List.getElem?_append_left (by omega)]
  | a :: css, k + 1, j, cs, hl, h, hj => by
    have h1 := hl 0 a rfl
    have := flat_get hc css k j cs (fun i cz hi => hl (i + 1) cz (by simpa using hi)) (by simpa using h) hj
    rw [List.flatten_cons, List.getElem?_append_right (by rw [h1, Nat.add_mul]; omega), h1, show (k + 1) * c + j - c = k * c + j by rw [Nat.add_mul]; omega]
    exact this

theorem flat_len {c : Nat} : ∀ (css : List (List Value)), (∀ (i : Nat) (cz : List Value), css[i]? = some cz → cz.length = c) → css.flatten.length = css.length * c
  | [], _ => by simp
  | a :: css, hl => by
    rw [List.flatten_cons, List.length_append, hl 0 a rfl, flat_len css (fun i cz hi => hl (i + 1) cz (by simpa using hi)), List.length_cons, Nat.add_mul]
    omega

/-- A row that nothing writes, new in the evaluator's heap. -/
theorem rel_row {H : Heap} {ρ : Nat → Place} (hro : ∀ o ∈ H, o.wrt = false) (hr : Rel G ρ H W) {a : Addr} {cs : List Value} {cells : Array Value} {t : TypeId} {fr : Nat × Nat} {ext0 : Nat} (hh : W.heap[a.block]? = some (.cells cells t fr))
    (hc : ∀ (i : Nat) (v : Value), cs[i]? = some v → ∃ v', cells[a.off + i]? = some v' ∧ VR H.length ρ v v') : Rel G (ext ρ H.length ⟨a.block, a.off, ext0⟩) (H ++ [.row cs 0 false]) W := by
  have cases_ : ∀ b u, (H ++ [AObj.row cs 0 false])[b]? = some u → (b < H.length ∧ H[b]? = some u) ∨ (b = H.length ∧ u = .row cs 0 false) := fun b u h => by
    by_cases hb : b < H.length
    · rw [List.getElem?_append_left hb] at h; exact .inl ⟨hb, h⟩
    · rw [List.getElem?_append_right (by omega)] at h
      obtain ⟨h1, h2⟩ := List.getElem?_eq_some_iff.1 h
      simp at h1
      have : b = H.length := by omega
      subst this
      simp at h2
      exact .inr ⟨rfl, h2.symm⟩
  have hlen : (H ++ [AObj.row cs 0 false]).length = H.length + 1 := by simp
  refine ⟨fun b u hu => ?_, fun b c u v hu hv hne hw hl => ?_, fun g hg => ?_, by rw [hlen]; have := hr.many; omega⟩
  · rcases cases_ b u hu with ⟨hb, hu⟩ | ⟨rfl, rfl⟩
    · exact (hr.obj b u hu).mono (by omega) (ext_lt hb) (fun c hc => ext_lt hc) (fun _ => rfl)
    · rw [OR, ext_same]
      refine ⟨cells, t, fr, hh, fun i v hi => ?_, fun h => by cases h⟩
      obtain ⟨v', h1, h2⟩ := hc i v hi
      exact ⟨v', h1, h2.mono (by omega) fun b hb => ext_lt hb⟩
  · rcases cases_ b u hu with ⟨hb, hu2⟩ | ⟨rfl, rfl⟩
    · rw [hro u (List.mem_of_getElem? hu2)] at hw
      cases hw
    · cases hw
  · rw [ext_lt (Nat.lt_of_lt_of_le hg hr.many)]; exact hr.glob g hg

theorem opens_trod (hl : laidOutB P = true) (hm : mapsRowed P = true) (hP : plainSet P L = true) : ∀ (n : Nat) (t : TypeId) (cs : List Value) (x : DataW X × List MemPlace), L.contains t = true →
    DataW.trod enc P W base (fun _ => true) held n t cs = some x → Opens P G W t cs x.1 := by
  intro n
  induction n with
  | zero => intro t cs x _ h; simp [DataW.trod] at h
  | succ n ih =>
    intro t cs x ht h
    have hk := mem_plain hP ht
    simp only [Bool.and_eq_true, decide_eq_true_eq] at hk
    obtain ⟨htp, hk⟩ := hk
    have K := kids_rows hl hm
    intro H ρ hro hr
    split at hk
    · rename_i hu
      obtain ⟨b, rfl, rfl⟩ := DataW.trod_bool hu h
      exact ⟨[], ρ, [.bool b], by simpa using hr, fun _ _ => rfl, fun o ho => (by cases ho), VL.cons (.bool b) VL.nil, .bool b hu⟩
    · rename_i k hu
      obtain ⟨m, rfl, rfl, hw⟩ := DataW.trod_int hu h
      exact ⟨[], ρ, [.int k m], by simpa using hr, fun _ _ => rfl, fun o ho => (by cases ho), VL.cons (.int k m) VL.nil, .int k m hu hw⟩
    · rename_i hu
      obtain ⟨s, rfl, rfl, hs⟩ := DataW.trod_string hu h
      exact ⟨[], ρ, [.string s], by simpa using hr, fun _ _ => rfl, fun o ho => (by cases ho), VL.cons (.string s) VL.nil, .str s.data.toList hu (by simpa using hs)⟩
    · rename_i fs hu
      obtain ⟨xs, m, hm1, rfl, hlen, hxl, hf⟩ := DataW.trod_struct hu h
      cases hm1
      obtain ⟨_, hsum, hoff⟩ := K.struct htp hu
      -- the fields, one by one
      have hget : ∀ (i : Nat) (f : Field) (y : DataW X × List MemPlace), fs[i]? = some f → xs[i]? = some y → DataW.trod enc P W base (fun _ => true) held n f.type ((cs.drop f.offset).take (P.cellsOf f.type)) = some y := fun i f y hfi hy => by
        rw [hf i f hfi, hy]
      let l : List (TypeId × List Value × DataW X) := (List.range fs.size).map fun i => ((fs[i]?.map (·.type)).getD 0, ((chunks (fs.toList.map fun f => P.cellsOf f.type) cs)[i]?).getD [], (xs[i]?.map (·.1)).getD .nil)
      have hl1 : ∀ i, i < fs.size → ∃ f y, fs[i]? = some f ∧ xs[i]? = some y ∧ l[i]? = some (f.type, (cs.drop f.offset).take (P.cellsOf f.type), y.1) := fun i hi => by
        have e1 : fs[i]? = some fs[i] := Array.getElem?_eq_getElem hi
        have e2 : xs[i]? = some (xs[i]'(by omega)) := List.getElem?_eq_getElem (by omega)
        refine ⟨_, _, e1, e2, ?_⟩
        have e3 : fs.toList[i]? = some fs[i] := by rw [Array.getElem?_toList]; exact e1
        have e4 := chunks_get (fs.toList.map fun f => P.cellsOf f.type) cs i (P.cellsOf fs[i].type) (by simp [hi])
        have e5 := hoff i _ e3
        rw [List.map_take] at e5
        rw [← e5] at e4
        simp only [l, List.getElem?_map, List.getElem?_range hi, Option.map_some, e1, e2, e4, Option.getD_some]
      have hlL : l.length = fs.size := by simp [l]
      obtain ⟨g, ρ', ass, hr', hs', hg', hal, hh⟩ := opens_list l (fun q hq => by
        obtain ⟨i, hi⟩ := List.getElem?_of_mem hq
        have hi2 : i < fs.size := by rw [← hlL]; exact (List.getElem?_eq_some_iff.1 hi).1
        obtain ⟨f, y, h1, h2, h3⟩ := hl1 i hi2
        rw [hi] at h3
        cases h3
        refine ih f.type _ y ?_ (hget i f y h1 h2)
        have hmem : f ∈ fs.toList := by
          have : fs.toList[i]? = some f := by simpa using h1
          exact List.mem_of_getElem? this
        exact List.all_eq_true.1 hk f hmem) H ρ hro hr
      refine ⟨g, ρ', ass.flatten, hr', hs', hg', ?_, ?_⟩
      · have hflat := chunks_flat (fs.toList.map fun f => P.cellsOf f.type) cs (by rw [hlen, hsum])
        rw [← hflat]
        refine VL.flat _ _ (by rw [hal, hlL, chunks_len]; simp) fun i a b ha hb => ?_
        have hi : i < fs.size := by rw [← hlL, ← hal]; exact (List.getElem?_eq_some_iff.1 ha).1
        obtain ⟨f, y, h1, h2, h3⟩ := hl1 i hi
        have e4 := chunks_get (fs.toList.map fun f => P.cellsOf f.type) cs i (P.cellsOf f.type) (by
          have : fs.toList[i]? = some f := by simpa using h1
          simp [this])
        have e5 := hoff i f (by simpa using h1)
        rw [List.map_take] at e5
        rw [← e5] at e4
        rw [hb] at e4
        cases e4
        exact (hh i _ a h3 ha).1
      · refine .struct hu (by simpa using hxl) (by rw [hal, hlL]) (fun i f d cz hfi hd ha => ?_) (fun i f cz hfi ha => ?_)
        · have hi : i < fs.size := (Array.getElem?_eq_some_iff.1 hfi).1
          obtain ⟨f', y, h1, h2, h3⟩ := hl1 i hi
          rw [hfi] at h1
          cases h1
          rw [List.getElem?_map, h2] at hd
          cases hd
          exact (hh i _ cz h3 ha).2
        · have hi : i < fs.size := (Array.getElem?_eq_some_iff.1 hfi).1
          obtain ⟨f', y, h1, h2, h3⟩ := hl1 i hi
          rw [hfi] at h1
          cases h1
          have := (hh i _ cz h3 ha).1.1
          rw [this]
          have e5 := hoff i f (by simpa using hfi)
          have hle : f.offset + P.cellsOf f.type ≤ cs.length := by
            rw [hlen, hsum, e5]
            have : fs.toList[i]? = some f := by simpa using hfi
            obtain ⟨h7, h8⟩ := List.getElem?_eq_some_iff.1 this
            have e6 : fs.toList = fs.toList.take i ++ f :: fs.toList.drop (i + 1) := by
              rw [← h8, ← List.drop_eq_getElem_cons h7, List.take_append_drop]
            conv => rhs; rw [e6]
            rw [List.map_append, List.sum_append, List.map_cons, List.sum_cons]
            omega
          rw [List.length_take, List.length_drop]
          omega
    · rename_i e hu
      simp only [Bool.and_eq_true, decide_eq_true_eq] at hk
      rcases DataW.trod_slice hu h with ⟨rfl, rfl⟩ | ⟨a, len, cap, elems, rest, m, hm1, rfl, rfl, hbase, hlc, hcm, hel, hge, _, _⟩
      · exact ⟨[], ρ, [.slice none 0 0], by simpa using hr, fun _ _ => rfl, fun o ho => (by cases ho), VL.cons .slNil VL.nil, .nilS hu⟩
      cases hm1
      by_cases h0 : elems = []
      · subst h0
        obtain rfl : len = 0 := by simpa using hel.symm
        exact ⟨[], ρ, [.slice (some ⟨0, 0, some 0⟩) 0 0], by simpa using hr, fun _ _ => rfl, fun o ho => (by cases ho), VL.cons (.slE 0 0 0 a cap) VL.nil, .empty hu⟩
      have hlen0 : 0 < len := by rw [← hel]; exact List.length_pos_iff.2 h0
      have hcell : ∀ i, i < len → ∃ csi y, W.cells? base (a.add (i * P.cellsOf e)) (P.cellsOf e) = some csi ∧ elems[i]? = some y ∧ DataW.trod enc P W base (fun _ => true) held n e csi = some y := fun i hi => by
        have h1 := hge i hi
        have h2 : elems[i]? = some (elems[i]'(by omega)) := List.getElem?_eq_getElem (by omega)
        rw [h2] at h1
        obtain ⟨csi, h3, h4⟩ := Option.bind_eq_some_iff.1 h1
        exact ⟨csi, _, h3, h2, h4⟩
      let css : List (List Value) := (List.range len).map fun i => (W.cells? base (a.add (i * P.cellsOf e)) (P.cellsOf e)).getD []
      have hcss : ∀ i, i < len → ∃ csi y, css[i]? = some csi ∧ W.cells? base (a.add (i * P.cellsOf e)) (P.cellsOf e) = some csi ∧ elems[i]? = some y ∧ DataW.trod enc P W base (fun _ => true) held n e csi = some y := fun i hi => by
        obtain ⟨csi, y, h1, h2, h3⟩ := hcell i hi
        exact ⟨csi, y, by simp [css, hi, h1], h1, h2, h3⟩
      have hcssL : css.length = len := by simp [css]
      let l : List (TypeId × List Value × DataW X) := (List.range len).map fun i => (e, (css[i]?).getD [], (elems[i]?.map (·.1)).getD .nil)
      have hl1 : ∀ i, i < len → ∃ csi y, css[i]? = some csi ∧ W.cells? base (a.add (i * P.cellsOf e)) (P.cellsOf e) = some csi ∧ elems[i]? = some y ∧ DataW.trod enc P W base (fun _ => true) held n e csi = some y ∧ l[i]? = some (e, csi, y.1) := fun i hi => by
        obtain ⟨csi, y, h1, h2, h3, h4⟩ := hcss i hi
        exact ⟨csi, y, h1, h2, h3, h4, by simp [l, hi, h1, h3]⟩
      have hlL : l.length = len := by simp [l]
      obtain ⟨g, ρ', ass, hr', hs', hg', hal, hh⟩ := opens_list l (fun q hq => by
        obtain ⟨i, hi⟩ := List.getElem?_of_mem hq
        have hi2 : i < len := by rw [← hlL]; exact (List.getElem?_eq_some_iff.1 hi).1
        obtain ⟨csi, y, h1, h2, h3, h4, h5⟩ := hl1 i hi2
        rw [hi] at h5
        cases h5
        exact ih e _ y hk.1 h4) H ρ hro hr
      have hasl : ∀ (i : Nat) (cz : List Value), ass[i]? = some cz → cz.length = P.cellsOf e := fun i cz ha => by
        have hi : i < len := by rw [← hlL, ← hal]; exact (List.getElem?_eq_some_iff.1 ha).1
        obtain ⟨csi, y, h1, h2, h3, h4, h5⟩ := hl1 i hi
        rw [(hh i _ cz h5 ha).1.1]
        exact (World.cells?_some h2).2.1
      -- the block itself
      obtain ⟨cs0, y0, g1, g2, _⟩ := hcell 0 hlen0
      obtain ⟨_, gl, gc⟩ := World.cells?_some g1
      have gc0 := gc 0 hk.2
      rw [Nat.zero_mul] at gc0
      have hadd : ∀ (k j : Nat), ((a.add k).add j) = if k + j = 0 then a else ⟨a.block, a.off + (k + j), none⟩ := fun k j => by
        unfold Addr.add
        by_cases hk0 : k = 0
        · subst hk0
          by_cases hj0 : j = 0
          · subst hj0; rfl
          · simp [hj0]
        · by_cases hj0 : j = 0
          · subst hj0; simp [hk0]
          · simp only [if_neg hk0, if_neg hj0, if_neg (show ¬ k + j = 0 by omega), Nat.add_assoc]
      have hblk : ∃ cells ty fr, W.heap[a.block]? = some (.cells cells ty fr) ∧ a.spot = none := by
        have h7 : W.cell? a = cs0[0]? := by simpa [hadd] using gc0
        have h8 : cs0[0]? = some (cs0[0]'(by omega)) := List.getElem?_eq_getElem (by omega)
        rw [h8] at h7
        unfold World.cell? at h7
        split at h7
        · rename_i c ty fr hc
          split at h7
          · cases h7
          · rename_i hsp
            exact ⟨c, ty, fr, hc, by simpa using hsp⟩
        · cases h7
      obtain ⟨cells, ty, fr, hh0, hsp⟩ := hblk
      have hcellat : ∀ (i : Nat) (v : Value), ass.flatten[i]? = some v → ∃ v', cells[a.off + i]? = some v' ∧ VR (H ++ g).length ρ' v v' := fun i v hv => by
        have hi : i < ass.flatten.length := (List.getElem?_eq_some_iff.1 hv).1
        rw [flat_len ass hasl, hal, hlL] at hi
        have hq : i / P.cellsOf e < len := (Nat.div_lt_iff_lt_mul hk.2).2 hi
        have hm2 : i % P.cellsOf e < P.cellsOf e := Nat.mod_lt _ hk.2
        have hid : i / P.cellsOf e * P.cellsOf e + i % P.cellsOf e = i := Nat.div_add_mod' i (P.cellsOf e)
        obtain ⟨csi, y, h1, h2, h3, h4, h5⟩ := hl1 _ hq
        have ha : ass[i / P.cellsOf e]? = some (ass[i / P.cellsOf e]'(by rw [hal, hlL]; exact hq)) := List.getElem?_eq_getElem _
        obtain ⟨hv1, _⟩ := hh _ _ _ h5 ha
        have hfg := flat_get hk.2 ass _ _ _ hasl ha hm2
        rw [hid, hv] at hfg
        obtain ⟨v', hv', hvr⟩ := hv1.get hfg.symm
        refine ⟨v', ?_, hvr⟩
        have h9 := (World.cells?_some h2).2.2 _ hm2
        rw [hadd, hid, hv'] at h9
        by_cases hi0 : i = 0
        · subst hi0
          simp only [if_true] at h9
          unfold World.cell? at h9
          rw [hh0, hsp] at h9
          simpa using h9
        · rw [if_neg hi0] at h9
          unfold World.cell? at h9
          simpa [hh0] using h9
      have hr2 := rel_row (a := a) (cs := ass.flatten) (ext0 := cap - len) (ro_app hro hg') hr' hh0 hcellat
      refine ⟨g ++ [.row ass.flatten 0 false], ext ρ' (H ++ g).length ⟨a.block, a.off, cap - len⟩, [.slice (some ⟨(H ++ g).length, 0, none⟩) len len], by rw [← List.append_assoc]; exact hr2, fun b hb => ?_, fun o ho => ?_, ?_, ?_⟩
      · rw [ext_lt (by rw [List.length_append]; omega)]; exact hs' b hb
      · rcases List.mem_append.1 ho with ho | ho
        · exact hg' o ho
        · rw [List.mem_singleton.1 ho]; exact ⟨_, rfl⟩
      · have := VR.sl (n := (H ++ (g ++ [AObj.row ass.flatten 0 false])).length) (ρ := ext ρ' (H ++ g).length ⟨a.block, a.off, cap - len⟩) (H ++ g).length 0 len len cap (by simp only [List.length_append, List.length_cons, List.length_nil]; omega) (Nat.le_refl _) hlc (by rw [ext_same]; show cap ≤ len + (cap - len); omega)
        rw [ext_same, Nat.add_zero] at this
        have ha2 : (⟨a.block, a.off, none⟩ : Addr) = a := by rw [← hsp]
        rw [ha2] at this
        exact VL.cons this VL.nil
      · have := Rep.slice (P := P) (H := H ++ (g ++ [AObj.row ass.flatten 0 false])) (t := t) (e := e) (b := (H ++ g).length) (ds := elems.map (·.1)) (sp := rest.map (·.1)) (ass := ass) hu (by simpa using h0) (by rw [← List.append_assoc]; exact hget_last _ _) (by rw [hal, hlL, List.length_map, hel])
          (fun i d cz hd ha => by
            have hi : i < len := by rw [← hlL, ← hal]; exact (List.getElem?_eq_some_iff.1 ha).1
            obtain ⟨csi, y, h1, h2, h3, h4, h5⟩ := hl1 i hi
            rw [List.getElem?_map, h3] at hd
            cases hd
            have := (hh i _ cz h5 ha).2
            rw [← List.append_assoc]
            exact this.mono) hasl
        rw [List.length_map, hel] at this
        exact this
    · cases hk

/-! ### The call's end -/

def slicesPos (P : Program) : Bool := (List.range P.types.size).all fun t => match P.underlying t with
  | some (.slice e) => decide (0 < P.cellsOf e)
  | _ => true

theorem args_stay {W' : World} (hl : laidOutB P = true) (hm : mapsRowed P = true) (hp : slicesPos P = true) (bel : Below W.heap.size W W') :
    ∀ {ts : List TypeId} {vs : List Value} {ds : List (DataW X)} {ps : List MemPlace}, (∀ t ∈ ts, t < P.types.size) → DataW.TrodAll enc P W 0 (fun _ => true) true ts vs ds ps →
      DataW.TrodAll enc P W' 0 (fun b => decide (b < W.heap.size)) true ts vs ds ps
  | [], vs, ds, ps, _, h => by
    obtain ⟨rfl, rfl, rfl⟩ := trodAll_nil h
    rfl
  | t :: ts, vs, ds, ps, ht, h => by
    obtain ⟨v, vs1, d, ds1, p, q, rfl, rfl, rfl, ⟨fuel, h1⟩, h2⟩ := trodAll_cons h
    have hlt := DataW.trod_lt fuel t v.cells.toList _ h1
    refine ⟨p, q, ⟨fuel, DataW.trod_stays (kids_rows hl hm) (fun {t e} htt hu => ?_) (fun h => by cases h) (ht t (by simp)) h1 (fun x hx => bel.same (hlt x hx)) (fun x hx => by simpa using hlt x hx)⟩, args_stay hl hm hp bel (fun u hu => ht u (by simp [hu])) h2, rfl⟩
    have := List.all_eq_true.1 hp t (List.mem_range.2 htt)
    simpa [hu] using this

/-! ### The call's arguments -/

/-- An argument tells some data. -/
def ArgRep (P : Program) (H : Heap) (t : TypeId) (d : DataW X) (a : Value) : Prop := ∃ cz, Rep P H t d cz ∧ (((∃ fs, P.underlying t = some (.struct fs)) ∧ a = .agg cz.toArray) ∨ cz = [a])

theorem ArgRep.mono {H g : Heap} {t : TypeId} {d : DataW X} {a : Value} (h : ArgRep P H t d a) : ArgRep P (H ++ g) t d a := by
  obtain ⟨cz, h1, h2⟩ := h
  exact ⟨cz, h1.mono, h2⟩

theorem vr_single {n : Nat} {ρ : Nat → Place} {a : Value} {v : Value} (h : VL n ρ [a] v.cells.toList) (hv : ∀ cs, v ≠ .agg cs) : VR n ρ a v := by
  have : v.cells.toList = [v] := by
    cases v <;> first | rfl | exact absurd rfl (hv _)
  rw [this] at h
  exact h.head

theorem open_args (hl : laidOutB P = true) (hm : mapsRowed P = true) (hP : plainSet P L = true) {r : Reach} {b0 : Nat} : ∀ {ts : List TypeId} {vs : List Value} {ds : List (DataW X)} {ps : List MemPlace},
    (∀ t ∈ ts, L.contains t = true) → DataW.TrodAll enc P W base (fun _ => true) held ts vs ds ps → (∀ (j : Nat) t v, ts[j]? = some t → vs[j]? = some v → Value.okWide P W r b0 t v) →
    ∀ (H : Heap) (ρ : Nat → Place), (∀ o ∈ H, o.wrt = false) → Rel G ρ H W → ∃ (g : Heap) (ρ' : Nat → Place) (avs : List Value), Rel G ρ' (H ++ g) W ∧ (∀ b, b < H.length → ρ' b = ρ b) ∧ (∀ o ∈ g, ∃ c, o = .row c 0 false) ∧
      VL (H ++ g).length ρ' avs vs ∧ avs.length = ts.length ∧ ∀ (j : Nat) t d a, ts[j]? = some t → ds[j]? = some d → avs[j]? = some a → ArgRep P (H ++ g) t d a
  | [], vs, ds, ps, _, h, _, H, ρ, hro, hr => by
    obtain ⟨rfl, rfl, rfl⟩ := trodAll_nil h
    exact ⟨[], ρ, [], by simpa using hr, fun _ _ => rfl, fun o ho => (by cases ho), VL.nil, rfl, fun j t d a h => by simp at h⟩
  | t :: ts, vs, ds, ps, hts, h, hok, H, ρ, hro, hr => by
    obtain ⟨v, vs1, d, ds1, p, q, rfl, rfl, rfl, ⟨fuel, h1⟩, h2⟩ := trodAll_cons h
    have htc := hts t (by simp)
    obtain ⟨g, ρ1, cz, hr1, hs1, hg1, hv1, hp1⟩ := opens_trod (G := G) hl hm hP fuel t _ _ htc h1 H ρ hro hr
    obtain ⟨g2, ρ2, avs, hr2, hs2, hg2, hv2, hl2, hh⟩ := open_args hl hm hP (fun u hu => hts u (by simp [hu])) h2 (fun j t v hj hv => hok (j + 1) t v (by simpa using hj) (by simpa using hv)) (H ++ g) ρ1 (ro_app hro hg1) hr1
    rw [List.append_assoc] at hr2 hh hv2
    have hval := hok 0 t v rfl rfl
    have hk := mem_plain hP htc
    simp only [Bool.and_eq_true, decide_eq_true_eq] at hk
    obtain ⟨_, hk⟩ := hk
    have single : (∀ cs, v ≠ .agg cs) → (∃ a, cz = [a]) → ∃ a, VR (H ++ g).length ρ1 a v ∧ ArgRep P (H ++ g) t d a := fun hna ⟨a, ha⟩ => by
      subst ha
      exact ⟨a, vr_single hv1 hna, [a], hp1, .inr rfl⟩
    have one : (∀ cs, v ≠ .agg cs) → ∃ a, cz = [a] := fun hna => by
      have : v.cells.toList = [v] := by
        cases v <;> first | rfl | exact absurd rfl (hna _)
      have h3 := hv1.1
      rw [this] at h3
      match cz, h3 with
      | [a], _ => exact ⟨a, rfl⟩
    have hex : ∃ a, VR (H ++ g).length ρ1 a v ∧ ArgRep P (H ++ g) t d a := by
      split at hk
      · rename_i hu
        obtain ⟨b, rfl⟩ := okWide_bool hu hval
        exact single (fun _ h => by cases h) (one fun _ h => by cases h)
      · rename_i k hu
        obtain ⟨b, rfl⟩ := okWide_int hu hval
        exact single (fun _ h => by cases h) (one fun _ h => by cases h)
      · rename_i hu
        obtain ⟨b, rfl⟩ := okWide_string hu hval
        exact single (fun _ h => by cases h) (one fun _ h => by cases h)
      · rename_i fs hu
        obtain ⟨cs, rfl, _⟩ := okWide_struct hu hval
        refine ⟨.agg cz.toArray, ?_, cz, hp1, .inl ⟨⟨fs, hu⟩, rfl⟩⟩
        have := hv1.agg
        simpa [Value.cells] using this
      · rename_i e hu
        obtain ⟨a, l, c, rfl⟩ := okWide_slice hu hval
        exact single (fun _ h => by cases h) (one fun _ h => by cases h)
      · cases hk
    obtain ⟨a, ha1, ha2⟩ := hex
    refine ⟨g ++ g2, ρ2, a :: avs, hr2, fun b hb => (hs2 b (by simp; omega)).trans (hs1 b hb), fun o ho => ?_, VL.cons (ha1.mono (by simp) hs2) hv2, by simp [hl2], fun j t' d' a' hj hd ha => ?_⟩
    · rcases List.mem_append.1 ho with ho | ho
      · exact hg1 o ho
      · exact hg2 o ho
    · cases j with
      | zero =>
        simp at hj hd ha
        subst hj; subst hd; subst ha
        rw [← List.append_assoc]
        exact ha2.mono
      | succ j => exact hh j t' d' a' (by simpa using hj) (by simpa using hd) (by simpa using ha)

/-! ### What an argument is -/

theorem Rep.inv_int {H : Heap} {t : TypeId} {k : IntKind} {d : DataW X} {cz : List Value} (hu : P.underlying t = some (.int k)) (h : Rep P H t d cz) : ∃ n, d = .lit (.int k n) ∧ cz = [.int k n] ∧ (Lit.int k n).wf = true := by
  cases h with
  | int k' n hu' hw => rw [hu] at hu'; cases hu'; exact ⟨n, rfl, rfl, hw⟩
  | bool b hu' => rw [hu] at hu'; cases hu'
  | str l hu' hl => rw [hu] at hu'; cases hu'
  | struct hu' => rw [hu] at hu'; cases hu'
  | nilS hu' => rw [hu] at hu'; cases hu'
  | empty hu' => rw [hu] at hu'; cases hu'
  | slice hu' => rw [hu] at hu'; cases hu'

theorem Rep.inv_bool {H : Heap} {t : TypeId} {d : DataW X} {cz : List Value} (hu : P.underlying t = some .bool) (h : Rep P H t d cz) : ∃ b, d = .lit (.bool b) ∧ cz = [.bool b] := by
  cases h with
  | int k' n hu' hw => rw [hu] at hu'; cases hu'
  | bool b hu' => exact ⟨b, rfl, rfl⟩
  | str l hu' hl => rw [hu] at hu'; cases hu'
  | struct hu' => rw [hu] at hu'; cases hu'
  | nilS hu' => rw [hu] at hu'; cases hu'
  | empty hu' => rw [hu] at hu'; cases hu'
  | slice hu' => rw [hu] at hu'; cases hu'

theorem Rep.inv_str {H : Heap} {t : TypeId} {d : DataW X} {cz : List Value} (hu : P.underlying t = some .string) (h : Rep P H t d cz) : ∃ l, d = .lit (.string l) ∧ cz = [.string (bs l)] ∧ l.length ≤ maxLen := by
  cases h with
  | int k' n hu' hw => rw [hu] at hu'; cases hu'
  | bool b hu' => rw [hu] at hu'; cases hu'
  | str l hu' hl => exact ⟨l, rfl, rfl, hl⟩
  | struct hu' => rw [hu] at hu'; cases hu'
  | nilS hu' => rw [hu] at hu'; cases hu'
  | empty hu' => rw [hu] at hu'; cases hu'
  | slice hu' => rw [hu] at hu'; cases hu'

theorem Rep.inv_struct {H : Heap} {t : TypeId} {fs : Array Field} {d : DataW X} {cz : List Value} (hu : P.underlying t = some (.struct fs)) (h : Rep P H t d cz) : ∃ (ds : List (DataW X)) (ass : List (List Value)), d = .agg ds ∧ cz = ass.flatten ∧ ds.length = fs.size ∧ ass.length = fs.size ∧
    ∀ (i : Nat) (f : Field) (d : DataW X) (cz : List Value), fs[i]? = some f → ds[i]? = some d → ass[i]? = some cz → Rep P H f.type d cz := by
  cases h with
  | int k' n hu' hw => rw [hu] at hu'; cases hu'
  | bool b hu' => rw [hu] at hu'; cases hu'
  | str l hu' hl => rw [hu] at hu'; cases hu'
  | struct hu' h1 h2 h3 h4 => rw [hu] at hu'; cases hu'; exact ⟨_, _, rfl, rfl, h1, h2, h3⟩
  | nilS hu' => rw [hu] at hu'; cases hu'
  | empty hu' => rw [hu] at hu'; cases hu'
  | slice hu' => rw [hu] at hu'; cases hu'

theorem Rep.inv_slice {H : Heap} {t e : TypeId} {d : DataW X} {cz : List Value} (hu : P.underlying t = some (.slice e)) (h : Rep P H t d cz) : (d = .nil ∧ cz = [.slice none 0 0]) ∨ (∃ sp, d = .slice [] sp ∧ cz = [.slice (some ⟨0, 0, some 0⟩) 0 0]) ∨
    ∃ (b : Nat) (ds sp : List (DataW X)) (ass : List (List Value)), d = .slice ds sp ∧ ds ≠ [] ∧ cz = [.slice (some ⟨b, 0, none⟩) ds.length ds.length] ∧ hget H b = .row ass.flatten 0 false ∧ ass.length = ds.length ∧
      (∀ (i : Nat) (d : DataW X) (cz : List Value), ds[i]? = some d → ass[i]? = some cz → Rep P H e d cz) ∧ (∀ (i : Nat) (cz : List Value), ass[i]? = some cz → cz.length = P.cellsOf e) := by
  cases h with
  | int k' n hu' hw => rw [hu] at hu'; cases hu'
  | bool b hu' => rw [hu] at hu'; cases hu'
  | str l hu' hl => rw [hu] at hu'; cases hu'
  | struct hu' => rw [hu] at hu'; cases hu'
  | nilS hu' => exact .inl ⟨rfl, rfl⟩
  | empty hu' => exact .inr (.inl ⟨_, rfl, rfl⟩)
  | slice hu' hne hb h2 h3 h4 => rw [hu] at hu'; cases hu'; exact .inr (.inr ⟨_, _, _, _, rfl, hne, rfl, hb, h2, h3, h4⟩)

/-- A struct of two fields. -/
theorem Rep.inv_two {H : Heap} {t : TypeId} {f0 f1 : Field} {d : DataW X} {cz : List Value} (hu : P.underlying t = some (.struct #[f0, f1])) (h : Rep P H t d cz) : ∃ d0 d1 a0 a1, d = .agg [d0, d1] ∧ cz = a0 ++ a1 ∧ Rep P H f0.type d0 a0 ∧ Rep P H f1.type d1 a1 := by
  obtain ⟨ds, ass, rfl, rfl, h1, h2, h3⟩ := h.inv_struct hu
  match ds, ass, h1, h2, h3 with
  | [d0, d1], [a0, a1], _, _, h3 => exact ⟨d0, d1, a0, a1, rfl, by simp, h3 0 f0 d0 a0 rfl rfl rfl, h3 1 f1 d1 a1 rfl rfl rfl⟩

/-- An unsigned number of 64 bits. -/
theorem Rep.inv_u64 {H : Heap} {t : TypeId} {d : DataW X} {cz : List Value} (hu : P.underlying t = some (.int .u64)) (h : Rep P H t d cz) : ∃ n : Nat, d = .lit (.int .u64 n) ∧ cz = [.int .u64 (n : Int)] ∧ n < 18446744073709551616 := by
  obtain ⟨n, rfl, rfl, hw⟩ := h.inv_int hu
  have hw : (0 : Int) ≤ n ∧ n ≤ 18446744073709551615 := by
    simpa [Lit.wf, IntKind.min, IntKind.max, IntKind.signed, IntKind.bits] using hw
  refine ⟨n.toNat, ?_, ?_, by omega⟩ <;> rw [Int.toNat_of_nonneg hw.1]

/-- A number of 64 bits. -/
theorem Rep.inv_i64 {H : Heap} {t : TypeId} {d : DataW X} {cz : List Value} (hu : P.underlying t = some (.int .i64)) (h : Rep P H t d cz) : ∃ n : Int, d = .lit (.int .i64 n) ∧ cz = [.int .i64 n] ∧ -9223372036854775808 ≤ n ∧ n < 9223372036854775808 := by
  obtain ⟨n, rfl, rfl, hw⟩ := h.inv_int hu
  have hw : (-9223372036854775808 : Int) ≤ n ∧ n ≤ 9223372036854775807 := by
    simpa [Lit.wf, IntKind.min, IntKind.max, IntKind.signed, IntKind.bits] using hw
  exact ⟨n, rfl, rfl, hw.1, by omega⟩

end

end Go.Proofs.YtkhkmgcegicmoaaDoor.Ev

/- ValueBack: a value's texts and bytes are read as it was, in every form that its width has; a text that is read is that of its value in some form: whatever the inputs, the law answers true. Conditions: the listed variables read as the program's text lays them. -/
namespace Go.Proofs.YtkhkmgcegicmoaaDoor.Ev
open Go.ChangeShapes Go.WideShapes Go.ChangeAt Go.RowKit

theorem own : ownKnob Tryd.prog.godebug = none := by kernel_rfl

theorem VL.narrow {n m : Nat} {ρ ρ' : Nat → Place} {xs ys : List Value} (h : VL m ρ' xs ys) (hs : ∀ x ∈ xs, Scoped n x) (he : ∀ b, b < n → ρ' b = ρ b) : VL n ρ xs ys :=
  ⟨h.1, fun i x y hx hy => ((h.2 i x y hx hy).narrow (hs x (List.mem_of_getElem? hx))).mono (Nat.le_refl _) fun b hb => (he b hb).symm⟩

theorem bits_arg {P : Program} {H : Heap} {X : Type} {t : TypeId} {f0 f1 : Field} {d : DataW X} {a : Value} (hu : P.underlying t = some (.struct #[f0, f1])) (h0 : P.underlying f0.type = some (.int .u64)) (h1 : P.underlying f1.type = some (.int .u64))
    (h : ArgRep P H t d a) : ∃ v, v < W64 * W64 ∧ a = .agg #[.int .u64 ((v / W64 : Nat) : Int), .int .u64 ((v % W64 : Nat) : Int)] := by
  obtain ⟨cs, hr, hcase⟩ := h
  obtain ⟨d0, d1, a0, a1, rfl, rfl, r0, r1⟩ := hr.inv_two hu
  obtain ⟨x, rfl, rfl, hx⟩ := r0.inv_u64 h0
  obtain ⟨y, rfl, rfl, hy⟩ := r1.inv_u64 h1
  rcases hcase with ⟨_, rfl⟩ | h
  · have e1 : (x * W64 + y) / W64 = x := by show (x * 18446744073709551616 + y) / 18446744073709551616 = x; omega
    have e2 : (x * W64 + y) % W64 = y := by show (x * 18446744073709551616 + y) % 18446744073709551616 = y; omega
    refine ⟨x * W64 + y, ?_, ?_⟩
    · show x * 18446744073709551616 + y < 18446744073709551616 * 18446744073709551616; omega
    · rw [e1, e2]; rfl
  · simp at h

theorem int_arg {P : Program} {H : Heap} {X : Type} {t : TypeId} {d : DataW X} {a : Value} (hu : P.underlying t = some (.int .i64)) (h : ArgRep P H t d a) : ∃ n : Int, d = .lit (.int .i64 n) ∧ a = .int .i64 n := by
  obtain ⟨cs, hr, hcase⟩ := h
  obtain ⟨n, rfl, rfl, _⟩ := hr.inv_i64 hu
  rcases hcase with ⟨⟨fs, hf⟩, _⟩ | h
  · rw [hu] at hf; cases hf
  · simp at h; exact ⟨n, rfl, h.symm⟩

theorem str_arg {P : Program} {H : Heap} {X : Type} {t : TypeId} {d : DataW X} {a : Value} (hu : P.underlying t = some .string) (h : ArgRep P H t d a) : ∃ l, d = .lit (.string l) ∧ a = .string (bs l) := by
  obtain ⟨cs, hr, hcase⟩ := h
  obtain ⟨l, rfl, rfl, _⟩ := hr.inv_str hu
  rcases hcase with ⟨⟨fs, hf⟩, _⟩ | h
  · rw [hu] at hf; cases hf
  · simp at h; exact ⟨l, rfl, h.symm⟩

set_option maxRecDepth 100000 in
theorem valueBack_lifted (os : Os) (started : os.Started) (H : Type) (enc : TypeId × Value → H) :
    ReturnsInHanded {} Tryd.checked os 5 .any (fun w args => (Rows.valueBackSpec.pre enc Tryd.prog Tryd.f5 [] false w args ∧ laidMetH Tryd.prog laidL w) ∧ sizedMet enc Tryd.prog Tryd.f5 (OpenSpec.ofChange Rows.valueBackSpec) false w args)
      (Rows.valueBackSpec.post enc Tryd.prog Tryd.f5 false true false false) := by
  refine returnsInHanded_of_change_and (C := Tryd.checked) (X := fun w _ => laidMetH Tryd.prog laidL w) (fun _ _ _ hh h => h.of_heap hh) own started (by kernel_rfl) Tryd.func5
    (ChangeSpec.witness_at (enc := enc) (C := Tryd.checked) (os := os) (X := fun w _ => laidMetH Tryd.prog laidL w) false (laidWorld os) #[.agg #[.int .u64 0, .int .u64 0], .int .i64 0, .string ByteArray.empty] 8 rfl (by kernel_rfl) (by kernel_rfl) (by kernel_rfl) (by kernel_rfl) (by kernel_rfl) (laidWorld_met os _)) ?_
  intro W base args ds gs before hval0 hW _ hsz hL _
  have hval : ∀ (j : Nat) t v, Tryd.f5.params[j]? = some t → args[j]? = some v → Value.okWide Tryd.prog W .any base t v := hval0
  have hW' := hW
  obtain ⟨p, q, hA0, hV, rfl, hfz, hnd⟩ := hW
  have hA : DataW.TrodAll enc Tryd.prog W 0 (fun _ => true) true Tryd.f5.params.toList args.toList ds p := hA0
  rw [Tryd.params5] at hA hval
  obtain ⟨rfl, rfl⟩ := trodVars_none hV
  obtain ⟨g, ρ', avs, hr, hs, hg, hvl, hlen, hrep⟩ := open_args (G := 6) (L := [24, 22, 3, 9]) (by kernel_rfl) (by kernel_rfl) (by kernel_rfl) (by decide) hA (fun j t v h1 h2 => hval j t v (by simpa using h1) (by simpa using h2)) H0 ρ0 H0_ro (rel_of_laid hL)
  have hA1 := hA
  obtain ⟨v0, vs0, d0, ds0, p0, q0, hargs, rfl, rfl, h0, r0⟩ := trodAll_cons hA1
  obtain ⟨v1, vs1, d1, ds1, p1, q1, rfl, rfl, rfl, h1, r1⟩ := trodAll_cons r0
  obtain ⟨v2, vs2, d2, ds2, p2, q2, rfl, rfl, rfl, h2, r2⟩ := trodAll_cons r1
  obtain ⟨rfl, rfl, rfl⟩ := trodAll_nil r2
  obtain rfl : args = #[v0, v1, v2] := by cases args; simp_all
  match avs, hlen with
  | [a0, a1, a2], _ =>
  obtain ⟨x0, y0, rfl⟩ := bits_arg Tryd.underlying24 Tryd.underlying22 Tryd.underlying22 (hrep 0 24 d0 a0 rfl rfl rfl)
  obtain ⟨x1, rfl, rfl⟩ := int_arg Tryd.underlying3 (hrep 1 3 d1 a1 rfl rfl rfl)
  obtain ⟨x2, rfl, rfl⟩ := str_arg Tryd.underlying9 (hrep 2 9 d2 a2 rfl rfl rfl)
  have y2 : x2.length ≤ 140737488351232 := by
    have hsz' := hsz
    have z := sized_string hsz' (j := 2) (t := 9) rfl rfl
    have z2 : x2.length ≤ reachBytes := by simpa using z
    exact z2
  have hG : T.G = 6 := by unfold T; kernel_rfl
  refine (wd_true t5 (H := H0) (back_w y0 y2) (by rw [hG]; exact rel_of_laid hL) (args' := #[v0, v1, v2]) (VL.narrow hvl (fun x hx => ?_) hs) H0_ro).mono fun e W' ⟨he, bel⟩ => ?_
  · simp only [List.mem_cons, List.not_mem_nil, or_false] at hx
    rcases hx with rfl | rfl | rfl <;> exact .closed rfl
  subst he
  exact ⟨_, rfl, _, _, _, [], _, [], hW', trodAll_mk1 (shut_bool Tryd.underlying4 _), args_stay (by kernel_rfl) (by kernel_rfl) (by kernel_rfl) bel (by decide) hA, rfl, bel.frame _, fun h => by cases h⟩

theorem valueBack_holds : Rows.ValueBackSaid :=
  OpenClaim.holds_of_wide 5 Tryd.f5 rfl rfl rfl rfl rfl rfl rfl ⟨rfl, rfl, rfl, rfl, rfl⟩ rfl rfl rfl rfl rfl (by kernel_rfl) Tryd.func5 (by kernel_rfl)
    (of_decide_eq_true (by kernel_rfl)) (by unfold Func.isWrapper; first | (rw [if_pos (by decide +kernel)]; kernel_rfl) | (rw [if_neg (by decide +kernel)]; exact ⟨rfl, rfl⟩))
    (fun os started H enc _ => valueBack_lifted os started H enc)

theorem valueBack_card : Rows.ValueBackCardSaid :=
  Claim7.holds_tied_plain_at .later [] [.data, .data, .pinned] true (true, "764e126c04e3df85a29b907664f7bdd7858c56c45a012816159f0e78ad711cc5") false
    valueBack_holds (fun _ h => by cases h) (by kernel_rfl) (fun _ h => by cases h) valueBack_row_tie rfl ⟨rfl, rfl⟩ (by kernel_rfl) rfl
    (fun f fn hf hfn => by
      obtain rfl : f = 5 := Option.some.inj ((show Tryd.prog.funcNamed "turnout/turnoutlaw01.ValueBack" = some 5 by kernel_rfl).symm.trans hf) |>.symm
      obtain rfl : fn = Tryd.f5 := (Option.some.inj (Tryd.func5.symm.trans hfn)).symm
      exact ⟨by kernel_rfl, fun j t ht => by
        rw [Tryd.params5] at ht
        have h3 : t = 24 ∨ t = 3 ∨ t = 9 := by
          rcases j with _ | _ | _ | j
          · have : t = 24 := by simpa using ht.symm
            subst this; simp
          · have : t = 3 := by simpa using ht.symm
            subst this; simp
          · have : t = 9 := by simpa using ht.symm
            subst this; simp
          · simp at ht
        rcases h3 with rfl | rfl | rfl
        · exact (show Tryd.prog.wantsStandIn 24 = false by kernel_rfl)
        · exact (show Tryd.prog.wantsStandIn 3 = false by kernel_rfl)
        · exact (show Tryd.prog.wantsStandIn 9 = false by kernel_rfl)⟩)
    (by kernel_rfl)
#print axioms valueBack_card
end Go.Proofs.YtkhkmgcegicmoaaDoor.Ev
