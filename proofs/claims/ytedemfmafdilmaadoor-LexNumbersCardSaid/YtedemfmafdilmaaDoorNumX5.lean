/- LexNumbers: any value, written in tens, in sixteens (capitals, too) and in twos, is read as it was; with a needless nought, a letter behind, or more digits than there may be, it is none; whatever the inputs, the law answers true. Conditions: the two listed variables of the package read as the program's text lays them. -/
import Derived.Test.YtedemfmafdilmaaDoorNumX4
import Derived.ChangeArms
import Derived.ChangeStays
import Derived.ChangeOld
import Derived.ChangeShapes
import Derived.WideShapes
import Derived.DataReads
import Derived.RowKit
import Derived.Test.YtedemfmafdilmaaDoorTie
import Derived.Test.YtedemfmafdilmaaDoorCards
import Derived.ProofKit
import Derived.OpenShut
import Derived.SizedLaws
import Derived.SevenTiedAt
/- The law LexNumbers: what the words of its texts are. -/
namespace Go.Proofs.YtedemfmafdilmaaDoor.Ev
set_option maxRecDepth 100000
set_option linter.unusedSimpArgs false
set_option linter.unusedVariables false

theorem part_digs {base f v : Nat} (h1 : 0 < base) (h2 : base ≤ 16) : ∀ b ∈ digs base f v, partQ b = true := fun b hb => by
  obtain ⟨d, hd, rfl⟩ := digs_mem h1 f v b hb
  exact part_digC d (by omega)

theorem part_up {f v : Nat} : ∀ b ∈ (digs 16 f v).map upC, partQ b = true := fun b hb => by
  obtain ⟨c, hc, rfl⟩ := List.mem_map.1 hb
  obtain ⟨d, hd, rfl⟩ := digs_mem (base := 16) (by decide) f v c hc
  exact (digV_up d hd).2

theorem ten_head (f v : Nat) : digQ ((digs 10 (f + 1) v).headD 0) = true := by
  have hne := digs_ne 10 (f + 1) v (by omega)
  cases hl : digs 10 (f + 1) v with
  | nil => exact absurd hl hne
  | cons b l =>
    obtain ⟨d, hd, e⟩ := digs_mem (base := 10) (by decide) (f + 1) v b (by rw [hl]; simp)
    rw [List.headD_cons, e]
    exact digQ_digC d hd

theorem head48 (l : List UInt8) : digQ (((48 : UInt8) :: l).headD 0) = true := (by decide : digQ 48 = true)

def goodT (v : Nat) : List UInt8 :=
  digs 10 128 v ++ (32 :: ((48 :: 120 :: digs 16 128 v) ++ (10 :: ((48 :: 120 :: 48 :: 48 :: (digs 16 128 v).map upC) ++ (32 :: (48 :: 98 :: digs 2 128 v))))))

theorem cons2 {a b : UInt8} {l : List UInt8} (ha : partQ a = true) (hb : partQ b = true) (h : ∀ c ∈ l, partQ c = true) : ∀ c ∈ a :: b :: l, partQ c = true := fun c hc => by
  rcases List.mem_cons.1 hc with rfl | hc
  · exact ha
  · rcases List.mem_cons.1 hc with rfl | hc
    · exact hb
    · exact h c hc

theorem head_of {a : UInt8} {l : List UInt8} (h : partQ a = false) : ∀ c, (a :: l).head? = some c → partQ c = false := fun c hc => by
  simp only [List.head?_cons, Option.some.injEq] at hc
  rw [← hc]
  exact h

theorem good_L {v : Nat} (hv : v < W64 * W64) : ∃ w1 w2 w3 w4 p2 p3 p4, lexL (goodT v) (1, 1) = ([⟨3, w1, v, (1, 1)⟩, ⟨3, w2, v, p2⟩, ⟨3, w3, v, p3⟩, ⟨3, w4, v, p4⟩], (0, 0, 0)) := by
  have s2 := part_digs (base := 2) (f := 128) (v := v) (by decide) (by decide)
  have s10 := part_digs (base := 10) (f := 128) (v := v) (by decide) (by decide)
  have s16 := part_digs (base := 16) (f := 128) (v := v) (by decide) (by decide)
  have k4 : ∀ p, lexL (48 :: 98 :: digs 2 128 v) p = ([⟨3, _, v, p⟩], (0, 0, 0)) := fun p => by
    have := lexL_num (rest := []) (p := p) (cons2 (by decide) (by decide) s2) (fun c hc => by cases hc) (head48 _) (by simp) (numV_two hv)
    rw [List.append_nil, lexL_end (l := []) rfl] at this
    exact this
  rw [goodT, lexL_num s10 (head_of (by decide)) (ten_head _ _) (digs_ne _ _ _ (by decide)) (numV_ten hv), lexL_blank (by decide),
    lexL_num (cons2 (by decide) (by decide) s16) (head_of (by decide)) (head48 _) (by simp) (numV_six hv), lexL_blank (by decide),
    lexL_num (cons2 (by decide) (by decide) (cons2 (by decide) (by decide) part_up)) (head_of (by decide)) (head48 _) (by simp) (numV_big hv), lexL_blank (by decide), k4]
  exact ⟨_, _, _, _, _, _, _, rfl⟩

theorem good_len (v : Nat) : (goodT v).length ≤ 65536 := by
  have h2 := digs_len 2 128 v
  have h10 := digs_len 10 128 v
  have h16 := digs_len 16 128 v
  simp only [goodT, List.length_append, List.length_cons, List.length_map]
  omega

theorem good_T {v : Nat} (hv : v < W64 * W64) : ∃ w1 w2 w3 w4 p2 p3 p4, lexT (goodT v) = ([⟨3, w1, v, (1, 1)⟩, ⟨3, w2, v, p2⟩, ⟨3, w3, v, p3⟩, ⟨3, w4, v, p4⟩], (0, 0, 0)) := by
  obtain ⟨w1, w2, w3, w4, p2, p3, p4, e⟩ := good_L hv
  exact ⟨w1, w2, w3, w4, p2, p3, p4, by rw [lexT, if_pos (good_len v), e]; rfl⟩

/-- Of a text that is no number, whatever stands behind. -/
theorem bad_T {w behind : List UInt8} (hw : ∀ b ∈ w, partQ b = true) (hd : digQ (w.headD 0) = true) (hne : w ≠ []) (hv : numV w = none) :
    (lexT (w ++ 32 :: behind)).2 = (61, 1, 1) ∨ (lexT (w ++ 32 :: behind)).2 = (2, 0, 0) := by
  have e := lexL_bad (rest := 32 :: behind) hw (head_of (by decide)) hd hne hv
  by_cases hl : (w ++ 32 :: behind).length ≤ 65536
  · rw [lexT, if_pos hl, e]
    exact Or.inl rfl
  · rw [lexT, if_neg hl]
    exact Or.inr rfl

/-- The texts that are no numbers. -/
def badL (v : Nat) : List (List UInt8) :=
  [48 :: digs 10 128 v, digs 10 128 v ++ [120], digs 10 128 v ++ [95], [48, 120], 48 :: 120 :: (digs 16 128 v ++ [103]), 48 :: 98 :: (digs 2 128 v ++ [50]), 48 :: 88 :: digs 16 128 v,
    "0x100000000000000000000000000000000".toUTF8.data.toList, "340282366920938463463374607431768211456".toUTF8.data.toList]

theorem snoc1 {a : UInt8} {l : List UInt8} (ha : partQ a = true) (h : ∀ c ∈ l, partQ c = true) : ∀ c ∈ l ++ [a], partQ c = true := fun c hc => by
  rcases List.mem_append.1 hc with hc | hc
  · exact h c hc
  · rw [List.mem_singleton.1 hc]; exact ha

theorem ten_head' (f v : Nat) (c : UInt8) : digQ ((digs 10 (f + 1) v ++ [c]).headD 0) = true := by
  have h := ten_head f v
  have hne := digs_ne 10 (f + 1) v (by omega)
  cases hl : digs 10 (f + 1) v with
  | nil => exact absurd hl hne
  | cons b l => rw [hl] at h; exact h

theorem badL_all {v : Nat} (hv : v < W64 * W64) : ∀ w ∈ badL v, (∀ b ∈ w, partQ b = true) ∧ digQ (w.headD 0) = true ∧ w ≠ [] ∧ numV w = none := by
  have s2 := part_digs (base := 2) (f := 128) (v := v) (by decide) (by decide)
  have s10 := part_digs (base := 10) (f := 128) (v := v) (by decide) (by decide)
  have s16 := part_digs (base := 16) (f := 128) (v := v) (by decide) (by decide)
  intro w hw
  simp only [badL, List.mem_cons, List.not_mem_nil, or_false] at hw
  rcases hw with rfl | rfl | rfl | rfl | rfl | rfl | rfl | rfl | rfl
  · refine ⟨fun c hc => ?_, head48 _, by simp, bad_zero v⟩
    rcases List.mem_cons.1 hc with rfl | hc
    · decide
    · exact s10 c hc
  · exact ⟨snoc1 (by decide) s10, ten_head' _ _ _, by simp, bad_tail hv (by decide) (by decide)⟩
  · exact ⟨snoc1 (by decide) s10, ten_head' _ _ _, by simp, bad_tail hv (by decide) (by decide)⟩
  · exact ⟨by decide, by decide, by simp, by decide⟩
  · exact ⟨cons2 (by decide) (by decide) (snoc1 (by decide) s16), head48 _, by simp, bad_g v⟩
  · exact ⟨cons2 (by decide) (by decide) (snoc1 (by decide) s2), head48 _, by simp, bad_2 v⟩
  · exact ⟨cons2 (by decide) (by decide) s16, head48 _, by simp, bad_X _⟩
  · exact ⟨by decide +kernel, by decide +kernel, by decide +kernel, by decide +kernel⟩
  · exact ⟨by decide +kernel, by decide +kernel, by decide +kernel, by decide +kernel⟩

end Go.Proofs.YtedemfmafdilmaaDoor.Ev

/- The document's numbers: eight parts of 16 bits. -/
namespace Go.Proofs.YtedemfmafdilmaaDoor.Ev
set_option maxRecDepth 100000
set_option linter.unusedSimpArgs false
set_option linter.unusedVariables false
variable {R : FRes → Heap → Prop} {H : Heap}

theorem bin_quo {k : IntKind} {a b : Nat} (hb : 0 < b) : binV .quo (.int k (a : Int)) (.int k (b : Int)) = some (.int k (k.wrap ((a / b : Nat) : Int))) := by
  have h0 : ¬ (b : Int) = 0 := by omega
  have : pr (Op.intDiv .quo k (a : Int) (b : Int)) = some (.int k (k.wrap ((a : Int).tdiv (b : Int)))) := by unfold Op.intDiv; rw [if_neg h0]; rfl
  simp only [binV, intBin, if_true, if_neg h0, this]
  rfl
theorem bin_rem {k : IntKind} {a b : Nat} (hb : 0 < b) : binV .rem (.int k (a : Int)) (.int k (b : Int)) = some (.int k ((a % b : Nat) : Int)) := by
  have h0 : ¬ (b : Int) = 0 := by omega
  have : pr (Op.intDiv .rem k (a : Int) (b : Int)) = some (.int k ((a : Int).tmod (b : Int))) := by unfold Op.intDiv; rw [if_neg h0]; rfl
  simp only [binV, intBin, if_true, if_neg h0, this]
  rfl
theorem bin_quo16 {k : IntKind} {a : Nat} : binV .quo (.int k (a : Int)) (.int k 65536) = some (.int k (k.wrap ((a / 65536 : Nat) : Int))) := bin_quo (b := 65536) (by decide)
theorem bin_rem16 {k : IntKind} {a : Nat} : binV .rem (.int k (a : Int)) (.int k 65536) = some (.int k ((a % 65536 : Nat) : Int)) := bin_rem (b := 65536) (by decide)
theorem nmul (a b : Nat) : (a : Int) * (b : Int) = ((a * b : Nat) : Int) := rfl

/-- The first so many parts of a number. -/
def dgN (w : Nat) : Nat → List Value
  | 0 => []
  | n + 1 => dgN w n ++ [.int .i64 ((w / 65536 ^ n % 65536 : Nat) : Int)]
theorem dgN_len (w : Nat) : ∀ n, (dgN w n).length = n
  | 0 => rfl
  | n + 1 => by simp [dgN, dgN_len w n]
theorem dgN_get (w : Nat) : ∀ n i, i < n → (dgN w n)[i]? = some (.int .i64 ((w / 65536 ^ i % 65536 : Nat) : Int))
  | n + 1, i, h => by
    by_cases hi : i < n
    · rw [dgN, List.getElem?_append_left (by rw [dgN_len]; exact hi)]
      exact dgN_get w n i hi
    · obtain rfl : i = n := by omega
      rw [dgN, List.getElem?_append_right (by rw [dgN_len]; exact Nat.le_refl _), dgN_len, Nat.sub_self]
      rfl

theorem dgN_closed (w : Nat) {m : Nat} : ∀ n, ∀ v ∈ dgN w n, Scoped m v
  | 0, v, h => by simp [dgN] at h
  | n + 1, v, h => by
    rw [dgN, List.mem_append] at h
    rcases h with h | h
    · exact dgN_closed w n v h
    · simp at h; subst h; exact .int

/-- A carry. -/
theorem carry_step (v base d0 i : Nat) :
    ((v % 65536 ^ i * base + d0) / 65536 ^ i + v / 65536 ^ i % 65536 * base) % 65536 = (v * base + d0) / 65536 ^ i % 65536 ∧
    ((v % 65536 ^ i * base + d0) / 65536 ^ i + v / 65536 ^ i % 65536 * base) / 65536 = (v % 65536 ^ (i + 1) * base + d0) / 65536 ^ (i + 1) := by
  have hB : 0 < 65536 ^ i := Nat.pow_pos (by decide)
  have hv : v = v / 65536 ^ i * 65536 ^ i + v % 65536 ^ i := (Nat.div_add_mod' v (65536 ^ i)).symm
  have hm : v % 65536 ^ (i + 1) = v / 65536 ^ i % 65536 * 65536 ^ i + v % 65536 ^ i := by
    rw [Nat.pow_succ, Nat.mod_mul, Nat.mul_comm (65536 ^ i), Nat.add_comm]
  generalize hP : 65536 ^ i = P at *
  constructor
  · have e : v * base + d0 = v / P * base * P + (v % P * base + d0) := by
      conv => lhs; rw [hv]
      rw [Nat.add_mul, Nat.mul_right_comm, Nat.add_assoc]
    rw [e, Nat.add_comm (v / P * base * P), Nat.add_mul_div_right _ _ hB, Nat.add_mod, Nat.add_mod ((v % P * base + d0) / P) (v / P * base)]
    congr 2
    rw [Nat.mul_mod, Nat.mod_mod, ← Nat.mul_mod]
  · have e : v % 65536 ^ (i + 1) * base + d0 = v / P % 65536 * base * P + (v % P * base + d0) := by
      rw [hm, Nat.add_mul, Nat.mul_right_comm, Nat.add_assoc]
    rw [e, Nat.pow_succ, hP, ← Nat.div_div_eq_div_mul, Nat.add_comm (v / P % 65536 * base * P), Nat.add_mul_div_right _ _ hB]

theorem carry_bound {v base d0 i : Nat} (hb : base ≤ 16) (hd : d0 < 16) : (v % 65536 ^ i * base + d0) / 65536 ^ i ≤ 16 := by
  have hB : 0 < 65536 ^ i := Nat.pow_pos (by decide)
  have h1 : v % 65536 ^ i < 65536 ^ i := Nat.mod_lt _ hB
  have h2 : v % 65536 ^ i * base ≤ v % 65536 ^ i * 16 := Nat.mul_le_mul_left _ hb
  have h3 : (v % 65536 ^ i * base + d0) < (16 + 1) * 65536 ^ i := by
    generalize 65536 ^ i = P at *
    generalize v % P = q at *
    generalize q * base = r at *
    omega
  exact Nat.le_of_lt_succ (Nat.div_lt_of_lt_mul (by rw [Nat.mul_comm (65536 ^ i)]; exact h3))

def grownI (v base d0 b : Nat) (H : Heap) : Nat → Env → Heap → Prop := fun n e H' =>
  ∃ (G : Heap) (i : Nat) (s8 : Value), i ≤ 8 ∧ n = 8 - i ∧ H' = H ++ G ∧ SL G H.length s8 1 (dgN (v * base + d0) i) ∧
    (∃ x : Nat → Value, e = [.slice (some ⟨b, 0, none⟩) 8 8, .int .i64 base, .int .i64 (((v % 65536 ^ i * base + d0) / 65536 ^ i : Nat) : Int), x 3, x 4, x 5, x 6, x 7, s8, .int .i64 i, x 10, x 11, x 12, x 13, x 14, x 15, x 16, x 17, x 18, x 19, x 20, x 21, x 22, x 23, x 24, x 25, x 26, x 27, x 28, x 29, x 30, x 31])

theorem grown_s {v base d0 b : Nat} (hb : hget H b = .row (dgN v 8) 1 true) (hv : v < 65536 ^ 8) (hbase : base ≤ 16) (hd0 : d0 < 16)
    (h : R (.ret (.tuple #[.slice (some ⟨H.length, 0, none⟩) 8 8, .bool (decide (v * base + d0 < 65536 ^ 8))])) (H ++ [.row (dgN (v * base + d0) 8) 1 true])) :
    WD T 57 [.slice (some ⟨b, 0, none⟩) 8 8, .int .i64 base, .int .i64 d0] H R := by
  have hlt := hget_lt hb rfl
  refine WD.gc1 (WD.of follows t57 (by simp) ?_)
  simp (disch := omega) only [kaa, kab, kac, kad, kae, kaf, kag, kah, kai, kaj, kak, kal, kam, kan, kao, khe, khf, khg, khh, khi, khj, khk, khl, kap, kaq, kar, kas, kat, kau, kav, kaw, kax, kay, kaz, kba, kbb, kbc, kbd, kbe, kbf, kbg, kbh, kbi, kbj, kbk, kbl, kbm, kbn, kbo, kbp, kbq, kbr, kbs, kbt, kbu, kbv, kbw, kbx, kby, kbz, kca, kcb, kcc, kcd, kce, kcf, kcg, kch, kci, kcj, kck, kcl, kcm, aop, kcn, kco, kcp, kcq, kcr, kcs, kct, kcu, kcv, kcw, resultsL, resultOf, kcx, Nat.reduceEqDiff, kcy, kcz, kda, reduceCtorEq, kdb, kdc, kdd, kde, kdf, kdg, kdh, kdi, kdj, kdk, kdl, kdm, kdn, kdo, eq1, kdp, kdq, kdr, kds, kdt, kdu, kdv, kdw, kdx, kdy, kdz, kea, keb, kec, apartOK, apart2, AObj.live, ked, kee, kef, keg, keh, kei, kej, kek, kel, Int.reduceEq, Int.reduceLT, Int.reduceLE, Int.reduceAdd, Int.reduceSub, Int.reduceMul, Int.reduceToNat, kem, ken, keo, kep, keq, ker, kes, ket, keu, kev, kew, kex, key, kez, kfa, kfb, kfc, kfd, kfe, kff, kfg, kfh, kfi, kfj, kfk, kfl, cutCells, kfm, kfn, kfo, kfp, kfq, kfr, kfs, kft, kfu, kfv, kfw, kfx, kfy, Nat.reduceAdd, Nat.reduceLeDiff, Nat.reduceLT, Nat.reduceMul, Nat.reduceSub, kfz, kga, kgb, kgc, kgd, kge, kgf, kgg, kgh, kgi, kgj, kgk, kgl, kgm, kgn, kgo, kgp, kgq, kgr, kgs, kgt, kgu, kgv, kgw, kgx, kgy, kgz, kha, khb, khc, khd]
  refine WLoop.inv (grownI v base d0 b H) ?_ 8 _ _ ⟨[], 0, .slice none 0 0, by omega, rfl, by simp, .inl ⟨rfl, rfl⟩, by simp only [Nat.pow_zero, Nat.mod_one, Nat.zero_mul, Nat.zero_add, Nat.div_one]; exact ex_env rfl⟩
  rintro n e H' ⟨G, i, s8, k1, rfl, rfl, hsl, ⟨x, rfl⟩⟩
  by_cases hi : i < 8
  · have hi' : (i : Int) < 8 := by omega
    have hi2 : (i : Int) < ((8 : Nat) : Int) := by omega
    have hg := dgN_get v 8 i hi
    have hcb := carry_bound (v := v) (i := i) hbase hd0
    obtain ⟨c1, c2⟩ := carry_step v base d0 i
    have hm : v / 65536 ^ i % 65536 * base ≤ 65535 * 16 := Nat.mul_le_mul (by omega) hbase
    have hbG : hget (H ++ G) b = .row (dgN v 8) 1 true := by rw [hget_old hlt]; exact hb
    generalize hW : (v * base + d0) / 65536 ^ i % 65536 = W at c1
    generalize hC : (v % 65536 ^ (i + 1) * base + d0) / 65536 ^ (i + 1) = C at c2
    generalize (v % 65536 ^ i * base + d0) / 65536 ^ i = D at *
    generalize hV : v / 65536 ^ i % 65536 = V at *
    have hcat : dgN (v * base + d0) (i + 1) = dgN (v * base + d0) i ++ [.int .i64 ((W : Nat) : Int)] := by rw [dgN, hW]
    rcases hsl with ⟨rfl, hcs⟩ | ⟨k, l, rfl, hk, hkl, hl0⟩
    · have ha := append_nil (K := H ++ (G ++ [.row [.int .i64 (W : Int)] 1 true])) (bx := H.length + G.length) (unit := 1) (bytes := 8) (xs := [.int .i64 (W : Int)]) (u2 := 1) (w2 := true) (by rw [hget_base, hget_base0]; rfl) rfl (by decide)
      simp (disch := omega) only [kaa, kab, kac, kad, kae, kaf, kag, kah, kai, kaj, kak, kal, kam, kan, kao, khe, khf, khg, khh, khi, khj, khk, khl, kap, kaq, kar, kas, kat, kau, kav, kaw, kax, kay, kaz, kba, kbb, kbc, kbd, kbe, kbf, kbg, kbh, kbi, kbj, kbk, kbl, kbm, kbn, kbo, kbp, kbq, kbr, kbs, kbt, kbu, kbv, kbw, kbx, kby, kbz, kca, kcb, kcc, kcd, kce, kcf, kcg, kch, kci, kcj, kck, kcl, kcm, aop, kcn, kco, kcp, kcq, kcr, kcs, kct, kcu, kcv, kcw, resultsL, resultOf, kcx, Nat.reduceEqDiff, kcy, kcz, kda, reduceCtorEq, kdb, kdc, kdd, kde, kdf, kdg, kdh, kdi, kdj, kdk, kdl, kdm, kdn, kdo, eq1, kdp, kdq, kdr, kds, kdt, kdu, kdv, kdw, kdx, kdy, kdz, kea, keb, kec, apartOK, apart2, AObj.live, ked, kee, kef, keg, keh, kei, kej, kek, kel, Int.reduceEq, Int.reduceLT, Int.reduceLE, Int.reduceAdd, Int.reduceSub, Int.reduceMul, Int.reduceToNat, kem, ken, keo, kep, keq, ker, kes, ket, keu, kev, kew, kex, key, kez, kfa, kfb, kfc, kfd, kfe, kff, kfg, kfh, kfi, kfj, kfk, kfl, cutCells, kfm, kfn, kfo, kfp, kfq, kfr, kfs, kft, kfu, kfv, kfw, kfx, kfy, Nat.reduceAdd, Nat.reduceLeDiff, Nat.reduceLT, Nat.reduceMul, Nat.reduceSub, kfz, kga, kgb, kgc, kgd, kge, kgf, kgg, kgh, kgi, kgj, kgk, kgl, kgm, kgn, kgo, kgp, kgq, kgr, kgs, kgt, kgu, kgv, kgw, kgx, kgy, kgz, kha, khb, khc, khd, hi', hi2, if_pos, hbG, hg, nmul, nadd, wr_i64, bin_rem16, bin_quo16, c1, c2, ha]
      refine ⟨8 - (i + 1), by omega, _, i + 1, _, by omega, rfl, rfl, .inr ⟨G.length + 1, 1, rfl, ?_, by rw [dgN_len]; have := congrArg List.length hcs; rw [dgN_len] at this; simp at this; omega, by omega⟩, ?_⟩
      · simp (disch := omega) only [kaa, kab, kac, kad, kae, kaf, kag, kah, kai, kaj, kak, kal, kam, kan, kao, khe, khf, khg, khh, khi, khj, khk, khl, kap, kaq, kar, kas, kat, kau, kav, kaw, kax, kay, kaz, kba, kbb, kbc, kbd, kbe, kbf, kbg, kbh, kbi, kbj, kbk, kbl, kbm, kbn, kbo, kbp, kbq, kbr, kbs, kbt, kbu, kbv, kbw, kbx, kby, kbz, kca, kcb, kcc, kcd, kce, kcf, kcg, kch, kci, kcj, kck, kcl, kcm, aop, kcn, kco, kcp, kcq, kcr, kcs, kct, kcu, kcv, kcw, resultsL, resultOf, kcx, Nat.reduceEqDiff, kcy, kcz, kda, reduceCtorEq, kdb, kdc, kdd, kde, kdf, kdg, kdh, kdi, kdj, kdk, kdl, kdm, kdn, kdo, eq1, kdp, kdq, kdr, kds, kdt, kdu, kdv, kdw, kdx, kdy, kdz, kea, keb, kec, apartOK, apart2, AObj.live, ked, kee, kef, keg, keh, kei, kej, kek, kel, Int.reduceEq, Int.reduceLT, Int.reduceLE, Int.reduceAdd, Int.reduceSub, Int.reduceMul, Int.reduceToNat, kem, ken, keo, kep, keq, ker, kes, ket, keu, kev, kew, kex, key, kez, kfa, kfb, kfc, kfd, kfe, kff, kfg, kfh, kfi, kfj, kfk, kfl, cutCells, kfm, kfn, kfo, kfp, kfq, kfr, kfs, kft, kfu, kfv, kfw, kfx, kfy, Nat.reduceAdd, Nat.reduceLeDiff, Nat.reduceLT, Nat.reduceMul, Nat.reduceSub, kfz, kga, kgb, kgc, kgd, kge, kgf, kgg, kgh, kgi, kgj, kgk, kgl, kgm, kgn, kgo, kgp, kgq, kgr, kgs, kgt, kgu, kgv, kgw, kgx, kgy, kgz, kha, khb, khc, khd, hcat, hcs]
      · rw [hC]
        exact ex_env rfl
    · have ha := append_one (K := H ++ (G ++ [.row [.int .i64 (W : Int)] 1 true])) (b := H.length + k) (bx := H.length + G.length) (l := l) (unit := 1) (bytes := 8) (cells := dgN (v * base + d0) i) (xs := [.int .i64 (W : Int)]) (u2 := 1) (w2 := true) (by rw [hget_base, hget_old (hget_lt hk rfl)]; exact hk) hkl (by rw [hget_base, hget_base0]; rfl) rfl rfl (by rw [dgN_len] at hkl; simp only [roomMax]; omega)
      have hkG : k < G.length := hget_lt hk rfl
      rw [dgN_len] at hkl
      simp (disch := omega) only [kaa, kab, kac, kad, kae, kaf, kag, kah, kai, kaj, kak, kal, kam, kan, kao, khe, khf, khg, khh, khi, khj, khk, khl, kap, kaq, kar, kas, kat, kau, kav, kaw, kax, kay, kaz, kba, kbb, kbc, kbd, kbe, kbf, kbg, kbh, kbi, kbj, kbk, kbl, kbm, kbn, kbo, kbp, kbq, kbr, kbs, kbt, kbu, kbv, kbw, kbx, kby, kbz, kca, kcb, kcc, kcd, kce, kcf, kcg, kch, kci, kcj, kck, kcl, kcm, aop, kcn, kco, kcp, kcq, kcr, kcs, kct, kcu, kcv, kcw, resultsL, resultOf, kcx, Nat.reduceEqDiff, kcy, kcz, kda, reduceCtorEq, kdb, kdc, kdd, kde, kdf, kdg, kdh, kdi, kdj, kdk, kdl, kdm, kdn, kdo, eq1, kdp, kdq, kdr, kds, kdt, kdu, kdv, kdw, kdx, kdy, kdz, kea, keb, kec, apartOK, apart2, AObj.live, ked, kee, kef, keg, keh, kei, kej, kek, kel, Int.reduceEq, Int.reduceLT, Int.reduceLE, Int.reduceAdd, Int.reduceSub, Int.reduceMul, Int.reduceToNat, kem, ken, keo, kep, keq, ker, kes, ket, keu, kev, kew, kex, key, kez, kfa, kfb, kfc, kfd, kfe, kff, kfg, kfh, kfi, kfj, kfk, kfl, cutCells, kfm, kfn, kfo, kfp, kfq, kfr, kfs, kft, kfu, kfv, kfw, kfx, kfy, Nat.reduceAdd, Nat.reduceLeDiff, Nat.reduceLT, Nat.reduceMul, Nat.reduceSub, kfz, kga, kgb, kgc, kgd, kge, kgf, kgg, kgh, kgi, kgj, kgk, kgl, kgm, kgn, kgo, kgp, kgq, kgr, kgs, kgt, kgu, kgv, kgw, kgx, kgy, kgz, kha, khb, khc, khd, hi', hi2, if_pos, hbG, hg, nmul, nadd, wr_i64, bin_rem16, bin_quo16, c1, c2, ha]
      refine ⟨8 - (i + 1), by omega, _, i + 1, _, by omega, rfl, rfl, .inr ⟨G.length + 1, l + 1, rfl, ?_, by rw [dgN_len]; omega, by omega⟩, ?_⟩
      · simp (disch := omega) only [kaa, kab, kac, kad, kae, kaf, kag, kah, kai, kaj, kak, kal, kam, kan, kao, khe, khf, khg, khh, khi, khj, khk, khl, kap, kaq, kar, kas, kat, kau, kav, kaw, kax, kay, kaz, kba, kbb, kbc, kbd, kbe, kbf, kbg, kbh, kbi, kbj, kbk, kbl, kbm, kbn, kbo, kbp, kbq, kbr, kbs, kbt, kbu, kbv, kbw, kbx, kby, kbz, kca, kcb, kcc, kcd, kce, kcf, kcg, kch, kci, kcj, kck, kcl, kcm, aop, kcn, kco, kcp, kcq, kcr, kcs, kct, kcu, kcv, kcw, resultsL, resultOf, kcx, Nat.reduceEqDiff, kcy, kcz, kda, reduceCtorEq, kdb, kdc, kdd, kde, kdf, kdg, kdh, kdi, kdj, kdk, kdl, kdm, kdn, kdo, eq1, kdp, kdq, kdr, kds, kdt, kdu, kdv, kdw, kdx, kdy, kdz, kea, keb, kec, apartOK, apart2, AObj.live, ked, kee, kef, keg, keh, kei, kej, kek, kel, Int.reduceEq, Int.reduceLT, Int.reduceLE, Int.reduceAdd, Int.reduceSub, Int.reduceMul, Int.reduceToNat, kem, ken, keo, kep, keq, ker, kes, ket, keu, kev, kew, kex, key, kez, kfa, kfb, kfc, kfd, kfe, kff, kfg, kfh, kfi, kfj, kfk, kfl, cutCells, kfm, kfn, kfo, kfp, kfq, kfr, kfs, kft, kfu, kfv, kfw, kfx, kfy, Nat.reduceAdd, Nat.reduceLeDiff, Nat.reduceLT, Nat.reduceMul, Nat.reduceSub, kfz, kga, kgb, kgc, kgd, kge, kgf, kgg, kgh, kgi, kgj, kgk, kgl, kgm, kgn, kgo, kgp, kgq, kgr, kgs, kgt, kgu, kgv, kgw, kgx, kgy, kgz, kha, khb, khc, khd, hcat]
      · rw [hC]
        exact ex_env rfl
  · have hi' : ¬ (i : Int) < 8 := by omega
    obtain rfl : i = 8 := by omega
    have hz : ((((v % 65536 ^ 8 * base + d0) / 65536 ^ 8 : Nat) : Int) = 0) ↔ v * base + d0 < 65536 ^ 8 := by
      rw [Nat.mod_eq_of_lt hv]
      have := Nat.div_eq_zero_iff (a := v * base + d0) (b := 65536 ^ 8)
      constructor
      · intro q
        have q2 : (v * base + d0) / 65536 ^ 8 = 0 := by omega
        exact (this.1 q2).resolve_left (by decide)
      · intro q
        rw [this.2 (.inr q)]
        rfl
    rcases hsl with ⟨rfl, hcs⟩ | ⟨k, l, rfl, hk, hkl, hl0⟩
    · have := congrArg List.length hcs
      rw [dgN_len] at this
      simp at this
    · rw [dgN_len] at hkl
      obtain rfl : l = 8 := by omega
      simp (disch := omega) only [kaa, kab, kac, kad, kae, kaf, kag, kah, kai, kaj, kak, kal, kam, kan, kao, khe, khf, khg, khh, khi, khj, khk, khl, kap, kaq, kar, kas, kat, kau, kav, kaw, kax, kay, kaz, kba, kbb, kbc, kbd, kbe, kbf, kbg, kbh, kbi, kbj, kbk, kbl, kbm, kbn, kbo, kbp, kbq, kbr, kbs, kbt, kbu, kbv, kbw, kbx, kby, kbz, kca, kcb, kcc, kcd, kce, kcf, kcg, kch, kci, kcj, kck, kcl, kcm, aop, kcn, kco, kcp, kcq, kcr, kcs, kct, kcu, kcv, kcw, resultsL, resultOf, kcx, Nat.reduceEqDiff, kcy, kcz, kda, reduceCtorEq, kdb, kdc, kdd, kde, kdf, kdg, kdh, kdi, kdj, kdk, kdl, kdm, kdn, kdo, eq1, kdp, kdq, kdr, kds, kdt, kdu, kdv, kdw, kdx, kdy, kdz, kea, keb, kec, apartOK, apart2, AObj.live, ked, kee, kef, keg, keh, kei, kej, kek, kel, Int.reduceEq, Int.reduceLT, Int.reduceLE, Int.reduceAdd, Int.reduceSub, Int.reduceMul, Int.reduceToNat, kem, ken, keo, kep, keq, ker, kes, ket, keu, kev, kew, kex, key, kez, kfa, kfb, kfc, kfd, kfe, kff, kfg, kfh, kfi, kfj, kfk, kfl, cutCells, kfm, kfn, kfo, kfp, kfq, kfr, kfs, kft, kfu, kfv, kfw, kfx, kfy, Nat.reduceAdd, Nat.reduceLeDiff, Nat.reduceLT, Nat.reduceMul, Nat.reduceSub, kfz, kga, kgb, kgc, kgd, kge, kgf, kgg, kgh, kgi, kgj, kgk, kgl, kgm, kgn, kgo, kgp, kgq, kgr, kgs, kgt, kgu, kgv, kgw, kgx, kgy, kgz, kha, khb, khc, khd, hi']
      have hz2 : decide ((((v % 65536 ^ 8 * base + d0) / 65536 ^ 8 : Nat) : Int) = 0) = decide (v * base + d0 < 65536 ^ 8) := decide_eq_decide.2 hz
      rw [hz2]
      exact ⟨_, _, _, _, _, G, k, rfl, rfl, hget_some hk rfl, dgN_closed _ _, VS.pair (VS.sl (i := 0) rfl) (.old .bool), h⟩

end Go.Proofs.YtedemfmafdilmaaDoor.Ev

/- The law LexNumbers: the limbs of a value. -/
namespace Go.Proofs.YtedemfmafdilmaaDoor.Ev
set_option maxRecDepth 100000
set_option linter.unusedSimpArgs false
set_option linter.unusedVariables false
variable {R : FRes → Heap → Prop} {H : Heap}

theorem rem4 (i : Nat) : binV .rem (.int .i64 (i : Int)) (.int .i64 4) = some (.int .i64 ((i % 4 : Nat) : Int)) := bin_rem (b := 4) (by decide)

def quoI (K : Heap) (p s5 : Value) (base i w : Nat) : Nat → Env → Heap → Prop := fun k e H' =>
  ∃ j, j ≤ i % 4 ∧ k = i % 4 - j ∧ H' = K ∧ (∃ x : Nat → Value, e = [x 0, .int .i64 base, p, x 3, x 4, s5, .int .i64 i, .int .u64 ((w / 65536 ^ j : Nat) : Int), .int .i64 j, x 9, x 10, x 11, x 12, x 13, x 14, x 15, x 16, x 17, x 18, x 19, x 20, x 21, x 22, x 23, x 24, x 25, x 26, x 27, x 28, x 29, x 30, x 31, x 32, x 33, x 34, x 35, x 36, x 37, x 38, x 39, x 40, x 41, x 42, x 43, x 44, x 45, x 46, x 47, x 48, x 49, x 50, x 51, x 52, x 53, x 54, x 55, x 56, x 57, x 58, x 59, x 60, x 61, x 62, x 63, x 64, x 65, x 66, x 67, x 68, x 69, x 70, x 71, x 72])

set_option maxHeartbeats 2000000 in
theorem quo_loop {K : Heap} {p s5 : Value} {base i w : Nat} (hi : i < 8) (hw : w < W64) {Q : Post}
    (hQ : ∀ e, (∃ x : Nat → Value, e = [x 0, .int .i64 base, p, x 3, x 4, s5, .int .i64 i, .int .u64 ((w / 65536 ^ (i % 4) : Nat) : Int), .int .i64 ((i % 4 : Nat) : Int), x 9, x 10, x 11, x 12, x 13, x 14, x 15, x 16, x 17, x 18, x 19, x 20, x 21, x 22, x 23, x 24, x 25, x 26, x 27, x 28, x 29, x 30, x 31, x 32, x 33, x 34, x 35, x 36, x 37, x 38, x 39, x 40, x 41, x 42, x 43, x 44, x 45, x 46, x 47, x 48, x 49, x 50, x 51, x 52, x 53, x 54, x 55, x 56, x 57, x 58, x 59, x 60, x 61, x 62, x 63, x 64, x 65, x 66, x 67, x 68, x 69, x 70, x 71, x 72]) → Q (.exit 2) e K)
    {e : Env} {H1 : Heap} (hI : quoI K p s5 base i w (i % 4) e H1) : WLoop T (g14.body.at [1, 1, 0, 1, 0, 0, 1, 0, 0, 1, 1, 0, 1, 0, 0]) e H1 Q := by
  refine WLoop.inv (quoI K p s5 base i w) ?_ _ _ _ hI
  rintro k e K1 ⟨j, k1, rfl, rfl, ⟨x, rfl⟩⟩
  simp only [AFunc.body, g14, ACode.at]
  by_cases hj : j < i % 4
  · have hj' : (j : Int) < ((i % 4 : Nat) : Int) := by omega
    have hdv : w / 65536 ^ j / 65536 = w / 65536 ^ (j + 1) := by rw [Nat.div_div_eq_div_mul, Nat.pow_succ]
    have hle : w / 65536 ^ (j + 1) ≤ w := Nat.div_le_self _ _
    have hlt : w / 65536 ^ (j + 1) < 18446744073709551616 := Nat.lt_of_le_of_lt hle hw
    have hwr : IntKind.u64.wrap ((w / 65536 ^ (j + 1) : Nat) : Int) = ((w / 65536 ^ (j + 1) : Nat) : Int) := by
      generalize w / 65536 ^ (j + 1) = q at *
      exact wr_u64 (by omega) (by omega)
    simp (disch := omega) only [kaa, kab, kac, kad, kae, kaf, kag, kah, kai, kaj, kak, kal, kam, kan, kao, khe, khf, khg, khh, khi, khj, khk, khl, kap, kaq, kar, kas, kat, kau, kav, kaw, kax, kay, kaz, kba, kbb, kbc, kbd, kbe, kbf, kbg, kbh, kbi, kbj, kbk, kbl, kbm, kbn, kbo, kbp, kbq, kbr, kbs, kbt, kbu, kbv, kbw, kbx, kby, kbz, kca, kcb, kcc, kcd, kce, kcf, kcg, kch, kci, kcj, kck, kcl, kcm, aop, kcn, kco, kcp, kcq, kcr, kcs, kct, kcu, kcv, kcw, resultsL, resultOf, kcx, Nat.reduceEqDiff, kcy, kcz, kda, reduceCtorEq, kdb, kdc, kdd, kde, kdf, kdg, kdh, kdi, kdj, kdk, kdl, kdm, kdn, kdo, eq1, kdp, kdq, kdr, kds, kdt, kdu, kdv, kdw, kdx, kdy, kdz, kea, keb, kec, apartOK, apart2, AObj.live, ked, kee, kef, keg, keh, kei, kej, kek, kel, Int.reduceEq, Int.reduceLT, Int.reduceLE, Int.reduceAdd, Int.reduceSub, Int.reduceMul, Int.reduceToNat, kem, ken, keo, kep, keq, ker, kes, ket, keu, kev, kew, kex, key, kez, kfa, kfb, kfc, kfd, kfe, kff, kfg, kfh, kfi, kfj, kfk, kfl, cutCells, kfm, kfn, kfo, kfp, kfq, kfr, kfs, kft, kfu, kfv, kfw, kfx, kfy, Nat.reduceAdd, Nat.reduceLeDiff, Nat.reduceLT, Nat.reduceMul, Nat.reduceSub, kfz, kga, kgb, kgc, kgd, kge, kgf, kgg, kgh, kgi, kgj, kgk, kgl, kgm, kgn, kgo, kgp, kgq, kgr, kgs, kgt, kgu, kgv, kgw, kgx, kgy, kgz, kha, khb, khc, khd, hj', rem4, bin_quo16, hdv, hwr, nadd1, wr_i64]
    exact ⟨i % 4 - (j + 1), by omega, j + 1, by omega, rfl, rfl, by exact ex_env rfl⟩
  · have hj' : ¬ (j : Int) < ((i % 4 : Nat) : Int) := by omega
    obtain rfl : j = i % 4 := by omega
    simp (disch := omega) only [kaa, kab, kac, kad, kae, kaf, kag, kah, kai, kaj, kak, kal, kam, kan, kao, khe, khf, khg, khh, khi, khj, khk, khl, kap, kaq, kar, kas, kat, kau, kav, kaw, kax, kay, kaz, kba, kbb, kbc, kbd, kbe, kbf, kbg, kbh, kbi, kbj, kbk, kbl, kbm, kbn, kbo, kbp, kbq, kbr, kbs, kbt, kbu, kbv, kbw, kbx, kby, kbz, kca, kcb, kcc, kcd, kce, kcf, kcg, kch, kci, kcj, kck, kcl, kcm, aop, kcn, kco, kcp, kcq, kcr, kcs, kct, kcu, kcv, kcw, resultsL, resultOf, kcx, Nat.reduceEqDiff, kcy, kcz, kda, reduceCtorEq, kdb, kdc, kdd, kde, kdf, kdg, kdh, kdi, kdj, kdk, kdl, kdm, kdn, kdo, eq1, kdp, kdq, kdr, kds, kdt, kdu, kdv, kdw, kdx, kdy, kdz, kea, keb, kec, apartOK, apart2, AObj.live, ked, kee, kef, keg, keh, kei, kej, kek, kel, Int.reduceEq, Int.reduceLT, Int.reduceLE, Int.reduceAdd, Int.reduceSub, Int.reduceMul, Int.reduceToNat, kem, ken, keo, kep, keq, ker, kes, ket, keu, kev, kew, kex, key, kez, kfa, kfb, kfc, kfd, kfe, kff, kfg, kfh, kfi, kfj, kfk, kfl, cutCells, kfm, kfn, kfo, kfp, kfq, kfr, kfs, kft, kfu, kfv, kfw, kfx, kfy, Nat.reduceAdd, Nat.reduceLeDiff, Nat.reduceLT, Nat.reduceMul, Nat.reduceSub, kfz, kga, kgb, kgc, kgd, kge, kgf, kgg, kgh, kgi, kgj, kgk, kgl, kgm, kgn, kgo, kgp, kgq, kgr, kgs, kgt, kgu, kgv, kgw, kgx, kgy, kgz, kha, khb, khc, khd, hj', rem4, wr_u64, nadd1, wr_i64]
    exact hQ _ (by exact ex_env rfl)

end Go.Proofs.YtedemfmafdilmaaDoor.Ev

/- The law LexNumbers: the limbs of a value, the loop. -/
namespace Go.Proofs.YtedemfmafdilmaaDoor.Ev
set_option maxRecDepth 100000
set_option linter.unusedSimpArgs false
set_option linter.unusedVariables false
variable {R : FRes → Heap → Prop} {H : Heap}

theorem limb_lo {a i : Nat} (hi : i < 4) : a % W64 / 65536 ^ (i % 4) % 65536 = a / 65536 ^ i % 65536 := by
  match i, hi with
  | 0, _ => show a % 18446744073709551616 / 1 % 65536 = a / 1 % 65536; omega
  | 1, _ => show a % 18446744073709551616 / 65536 % 65536 = a / 65536 % 65536; omega
  | 2, _ => show a % 18446744073709551616 / 4294967296 % 65536 = a / 4294967296 % 65536; omega
  | 3, _ => show a % 18446744073709551616 / 281474976710656 % 65536 = a / 281474976710656 % 65536; omega

theorem limb_hi {a i : Nat} (h4 : 4 ≤ i) (hi : i < 8) : a / W64 / 65536 ^ (i % 4) % 65536 = a / 65536 ^ i % 65536 := by
  have e : i = 4 + i % 4 := by omega
  have : W64 * 65536 ^ (i % 4) = 65536 ^ i := by
    conv => rhs; rw [e, Nat.pow_add]
  rw [Nat.div_div_eq_div_mul, this]

def limbI (a base : Nat) (H : Heap) : Nat → Env → Heap → Prop := fun n e H' =>
  ∃ (G : Heap) (i : Nat) (s5 : Value), i ≤ 8 ∧ n = 8 - i ∧ H' = H ++ G ∧ hget G 0 = .row [.int .u64 ((a / W64 : Nat) : Int), .int .u64 ((a % W64 : Nat) : Int)] 0 true ∧ SL G H.length s5 1 (dgN a i) ∧
    (∃ x : Nat → Value, e = [x 0, .int .i64 base, .pointer (some ⟨H.length, 0, none⟩), x 3, x 4, s5, .int .i64 i, x 7, x 8, x 9, x 10, x 11, x 12, x 13, x 14, x 15, x 16, x 17, x 18, x 19, x 20, x 21, x 22, x 23, x 24, x 25, x 26, x 27, x 28, x 29, x 30, x 31, x 32, x 33, x 34, x 35, x 36, x 37, x 38, x 39, x 40, x 41, x 42, x 43, x 44, x 45, x 46, x 47, x 48, x 49, x 50, x 51, x 52, x 53, x 54, x 55, x 56, x 57, x 58, x 59, x 60, x 61, x 62, x 63, x 64, x 65, x 66, x 67, x 68, x 69, x 70, x 71, x 72])

set_option maxHeartbeats 4000000 in
theorem limb_loop {a base : Nat} (ha : a < W64 * W64) {Q : Post}
    (hQ : ∀ e G k, hget G k = .row (dgN a 8) 1 true → (∃ x : Nat → Value, e = [x 0, .int .i64 base, x 2, x 3, x 4, .slice (some ⟨H.length + k, 0, none⟩) 8 8, x 6, x 7, x 8, x 9, x 10, x 11, x 12, x 13, x 14, x 15, x 16, x 17, x 18, x 19, x 20, x 21, x 22, x 23, x 24, x 25, x 26, x 27, x 28, x 29, x 30, x 31, x 32, x 33, x 34, x 35, x 36, x 37, x 38, x 39, x 40, x 41, x 42, x 43, x 44, x 45, x 46, x 47, x 48, x 49, x 50, x 51, x 52, x 53, x 54, x 55, x 56, x 57, x 58, x 59, x 60, x 61, x 62, x 63, x 64, x 65, x 66, x 67, x 68, x 69, x 70, x 71, x 72]) → Q (.exit 0) e (H ++ G))
    {e : Env} {H1 : Heap} (hI : limbI a base H 8 e H1) : WLoop T (g14.body.at [1, 1, 0, 1, 0, 0]) e H1 Q := by
  refine WLoop.inv (limbI a base H) ?_ _ _ _ hI
  rintro n e K1 ⟨G, i, s5, k1, rfl, rfl, g0, hsl, ⟨x, rfl⟩⟩
  simp only [AFunc.body, g14, ACode.at]
  have l0 : 0 < G.length := hget_lt g0 rfl
  by_cases hi : i < 8
  · have hi' : (i : Int) < 8 := by omega
    by_cases h4 : 4 ≤ i
    · have h4' : 4 ≤ (i : Int) := by omega
      have hw : a / W64 < W64 := Nat.div_lt_of_lt_mul ha
      simp (disch := omega) only [kaa, kab, kac, kad, kae, kaf, kag, kah, kai, kaj, kak, kal, kam, kan, kao, khe, khf, khg, khh, khi, khj, khk, khl, kap, kaq, kar, kas, kat, kau, kav, kaw, kax, kay, kaz, kba, kbb, kbc, kbd, kbe, kbf, kbg, kbh, kbi, kbj, kbk, kbl, kbm, kbn, kbo, kbp, kbq, kbr, kbs, kbt, kbu, kbv, kbw, kbx, kby, kbz, kca, kcb, kcc, kcd, kce, kcf, kcg, kch, kci, kcj, kck, kcl, kcm, aop, kcn, kco, kcp, kcq, kcr, kcs, kct, kcu, kcv, kcw, resultsL, resultOf, kcx, Nat.reduceEqDiff, kcy, kcz, kda, reduceCtorEq, kdb, kdc, kdd, kde, kdf, kdg, kdh, kdi, kdj, kdk, kdl, kdm, kdn, kdo, eq1, kdp, kdq, kdr, kds, kdt, kdu, kdv, kdw, kdx, kdy, kdz, kea, keb, kec, apartOK, apart2, AObj.live, ked, kee, kef, keg, keh, kei, kej, kek, kel, Int.reduceEq, Int.reduceLT, Int.reduceLE, Int.reduceAdd, Int.reduceSub, Int.reduceMul, Int.reduceToNat, kem, ken, keo, kep, keq, ker, kes, ket, keu, kev, kew, kex, key, kez, kfa, kfb, kfc, kfd, kfe, kff, kfg, kfh, kfi, kfj, kfk, kfl, cutCells, kfm, kfn, kfo, kfp, kfq, kfr, kfs, kft, kfu, kfv, kfw, kfx, kfy, Nat.reduceAdd, Nat.reduceLeDiff, Nat.reduceLT, Nat.reduceMul, Nat.reduceSub, kfz, kga, kgb, kgc, kgd, kge, kgf, kgg, kgh, kgi, kgj, kgk, kgl, kgm, kgn, kgo, kgp, kgq, kgr, kgs, kgt, kgu, kgv, kgw, kgx, kgy, kgz, kha, khb, khc, khd, hi', h4', g0]
      refine quo_loop (w := a / W64) hi hw (fun e he => ?_) ⟨0, by omega, rfl, rfl, by simp only [Nat.pow_zero, Nat.div_one]; exact ex_env rfl⟩
      obtain ⟨x, rfl⟩ := he
      have hl := limb_hi (a := a) h4 hi
      have hcat : dgN a (i + 1) = dgN a i ++ [.int .i64 ((a / 65536 ^ i % 65536 : Nat) : Int)] := rfl
      have hlt : a / 65536 ^ i % 65536 < 65536 := Nat.mod_lt _ (by decide)
      generalize a / 65536 ^ i % 65536 = W at *
      rcases hsl with ⟨rfl, hcs⟩ | ⟨k, l, rfl, hk, hkl, hl0⟩
      · have ha := append_nil (K := H ++ (G ++ [.row [.int .i64 (W : Int)] 1 true])) (bx := H.length + G.length) (unit := 1) (bytes := 8) (xs := [.int .i64 (W : Int)]) (u2 := 1) (w2 := true) (by rw [hget_base, hget_base0]; rfl) rfl (by decide)
        simp (disch := omega) only [kaa, kab, kac, kad, kae, kaf, kag, kah, kai, kaj, kak, kal, kam, kan, kao, khe, khf, khg, khh, khi, khj, khk, khl, kap, kaq, kar, kas, kat, kau, kav, kaw, kax, kay, kaz, kba, kbb, kbc, kbd, kbe, kbf, kbg, kbh, kbi, kbj, kbk, kbl, kbm, kbn, kbo, kbp, kbq, kbr, kbs, kbt, kbu, kbv, kbw, kbx, kby, kbz, kca, kcb, kcc, kcd, kce, kcf, kcg, kch, kci, kcj, kck, kcl, kcm, aop, kcn, kco, kcp, kcq, kcr, kcs, kct, kcu, kcv, kcw, resultsL, resultOf, kcx, Nat.reduceEqDiff, kcy, kcz, kda, reduceCtorEq, kdb, kdc, kdd, kde, kdf, kdg, kdh, kdi, kdj, kdk, kdl, kdm, kdn, kdo, eq1, kdp, kdq, kdr, kds, kdt, kdu, kdv, kdw, kdx, kdy, kdz, kea, keb, kec, apartOK, apart2, AObj.live, ked, kee, kef, keg, keh, kei, kej, kek, kel, Int.reduceEq, Int.reduceLT, Int.reduceLE, Int.reduceAdd, Int.reduceSub, Int.reduceMul, Int.reduceToNat, kem, ken, keo, kep, keq, ker, kes, ket, keu, kev, kew, kex, key, kez, kfa, kfb, kfc, kfd, kfe, kff, kfg, kfh, kfi, kfj, kfk, kfl, cutCells, kfm, kfn, kfo, kfp, kfq, kfr, kfs, kft, kfu, kfv, kfw, kfx, kfy, Nat.reduceAdd, Nat.reduceLeDiff, Nat.reduceLT, Nat.reduceMul, Nat.reduceSub, kfz, kga, kgb, kgc, kgd, kge, kgf, kgg, kgh, kgi, kgj, kgk, kgl, kgm, kgn, kgo, kgp, kgq, kgr, kgs, kgt, kgu, kgv, kgw, kgx, kgy, kgz, kha, khb, khc, khd, bin_rem16, hl, ha, wr_i64, nadd1]
        refine ⟨8 - (i + 1), by omega, _, i + 1, _, by omega, rfl, rfl, ?_, .inr ⟨G.length + 1, 1, rfl, ?_, by rw [dgN_len]; have := congrArg List.length hcs; rw [dgN_len] at this; simp at this; omega, by omega⟩, by exact ex_env rfl⟩
        · simp (disch := omega) only [kaa, kab, kac, kad, kae, kaf, kag, kah, kai, kaj, kak, kal, kam, kan, kao, khe, khf, khg, khh, khi, khj, khk, khl, kap, kaq, kar, kas, kat, kau, kav, kaw, kax, kay, kaz, kba, kbb, kbc, kbd, kbe, kbf, kbg, kbh, kbi, kbj, kbk, kbl, kbm, kbn, kbo, kbp, kbq, kbr, kbs, kbt, kbu, kbv, kbw, kbx, kby, kbz, kca, kcb, kcc, kcd, kce, kcf, kcg, kch, kci, kcj, kck, kcl, kcm, aop, kcn, kco, kcp, kcq, kcr, kcs, kct, kcu, kcv, kcw, resultsL, resultOf, kcx, Nat.reduceEqDiff, kcy, kcz, kda, reduceCtorEq, kdb, kdc, kdd, kde, kdf, kdg, kdh, kdi, kdj, kdk, kdl, kdm, kdn, kdo, eq1, kdp, kdq, kdr, kds, kdt, kdu, kdv, kdw, kdx, kdy, kdz, kea, keb, kec, apartOK, apart2, AObj.live, ked, kee, kef, keg, keh, kei, kej, kek, kel, Int.reduceEq, Int.reduceLT, Int.reduceLE, Int.reduceAdd, Int.reduceSub, Int.reduceMul, Int.reduceToNat, kem, ken, keo, kep, keq, ker, kes, ket, keu, kev, kew, kex, key, kez, kfa, kfb, kfc, kfd, kfe, kff, kfg, kfh, kfi, kfj, kfk, kfl, cutCells, kfm, kfn, kfo, kfp, kfq, kfr, kfs, kft, kfu, kfv, kfw, kfx, kfy, Nat.reduceAdd, Nat.reduceLeDiff, Nat.reduceLT, Nat.reduceMul, Nat.reduceSub, kfz, kga, kgb, kgc, kgd, kge, kgf, kgg, kgh, kgi, kgj, kgk, kgl, kgm, kgn, kgo, kgp, kgq, kgr, kgs, kgt, kgu, kgv, kgw, kgx, kgy, kgz, kha, khb, khc, khd, g0]
        · simp (disch := omega) only [kaa, kab, kac, kad, kae, kaf, kag, kah, kai, kaj, kak, kal, kam, kan, kao, khe, khf, khg, khh, khi, khj, khk, khl, kap, kaq, kar, kas, kat, kau, kav, kaw, kax, kay, kaz, kba, kbb, kbc, kbd, kbe, kbf, kbg, kbh, kbi, kbj, kbk, kbl, kbm, kbn, kbo, kbp, kbq, kbr, kbs, kbt, kbu, kbv, kbw, kbx, kby, kbz, kca, kcb, kcc, kcd, kce, kcf, kcg, kch, kci, kcj, kck, kcl, kcm, aop, kcn, kco, kcp, kcq, kcr, kcs, kct, kcu, kcv, kcw, resultsL, resultOf, kcx, Nat.reduceEqDiff, kcy, kcz, kda, reduceCtorEq, kdb, kdc, kdd, kde, kdf, kdg, kdh, kdi, kdj, kdk, kdl, kdm, kdn, kdo, eq1, kdp, kdq, kdr, kds, kdt, kdu, kdv, kdw, kdx, kdy, kdz, kea, keb, kec, apartOK, apart2, AObj.live, ked, kee, kef, keg, keh, kei, kej, kek, kel, Int.reduceEq, Int.reduceLT, Int.reduceLE, Int.reduceAdd, Int.reduceSub, Int.reduceMul, Int.reduceToNat, kem, ken, keo, kep, keq, ker, kes, ket, keu, kev, kew, kex, key, kez, kfa, kfb, kfc, kfd, kfe, kff, kfg, kfh, kfi, kfj, kfk, kfl, cutCells, kfm, kfn, kfo, kfp, kfq, kfr, kfs, kft, kfu, kfv, kfw, kfx, kfy, Nat.reduceAdd, Nat.reduceLeDiff, Nat.reduceLT, Nat.reduceMul, Nat.reduceSub, kfz, kga, kgb, kgc, kgd, kge, kgf, kgg, kgh, kgi, kgj, kgk, kgl, kgm, kgn, kgo, kgp, kgq, kgr, kgs, kgt, kgu, kgv, kgw, kgx, kgy, kgz, kha, khb, khc, khd, hcat, hcs]
      · have ha := append_one (K := H ++ (G ++ [.row [.int .i64 (W : Int)] 1 true])) (b := H.length + k) (bx := H.length + G.length) (l := l) (unit := 1) (bytes := 8) (cells := dgN a i) (xs := [.int .i64 (W : Int)]) (u2 := 1) (w2 := true) (by rw [hget_base, hget_old (hget_lt hk rfl)]; exact hk) hkl (by rw [hget_base, hget_base0]; rfl) rfl rfl (by rw [dgN_len] at hkl; simp only [roomMax]; omega)
        have hkG : k < G.length := hget_lt hk rfl
        have hk0 : k ≠ 0 := by
          rintro rfl
          rw [g0] at hk
          injection hk with h1 h2 h3
          exact absurd h2 (by decide)
        rw [dgN_len] at hkl
        simp (disch := omega) only [kaa, kab, kac, kad, kae, kaf, kag, kah, kai, kaj, kak, kal, kam, kan, kao, khe, khf, khg, khh, khi, khj, khk, khl, kap, kaq, kar, kas, kat, kau, kav, kaw, kax, kay, kaz, kba, kbb, kbc, kbd, kbe, kbf, kbg, kbh, kbi, kbj, kbk, kbl, kbm, kbn, kbo, kbp, kbq, kbr, kbs, kbt, kbu, kbv, kbw, kbx, kby, kbz, kca, kcb, kcc, kcd, kce, kcf, kcg, kch, kci, kcj, kck, kcl, kcm, aop, kcn, kco, kcp, kcq, kcr, kcs, kct, kcu, kcv, kcw, resultsL, resultOf, kcx, Nat.reduceEqDiff, kcy, kcz, kda, reduceCtorEq, kdb, kdc, kdd, kde, kdf, kdg, kdh, kdi, kdj, kdk, kdl, kdm, kdn, kdo, eq1, kdp, kdq, kdr, kds, kdt, kdu, kdv, kdw, kdx, kdy, kdz, kea, keb, kec, apartOK, apart2, AObj.live, ked, kee, kef, keg, keh, kei, kej, kek, kel, Int.reduceEq, Int.reduceLT, Int.reduceLE, Int.reduceAdd, Int.reduceSub, Int.reduceMul, Int.reduceToNat, kem, ken, keo, kep, keq, ker, kes, ket, keu, kev, kew, kex, key, kez, kfa, kfb, kfc, kfd, kfe, kff, kfg, kfh, kfi, kfj, kfk, kfl, cutCells, kfm, kfn, kfo, kfp, kfq, kfr, kfs, kft, kfu, kfv, kfw, kfx, kfy, Nat.reduceAdd, Nat.reduceLeDiff, Nat.reduceLT, Nat.reduceMul, Nat.reduceSub, kfz, kga, kgb, kgc, kgd, kge, kgf, kgg, kgh, kgi, kgj, kgk, kgl, kgm, kgn, kgo, kgp, kgq, kgr, kgs, kgt, kgu, kgv, kgw, kgx, kgy, kgz, kha, khb, khc, khd, bin_rem16, hl, ha, wr_i64, nadd1]
        refine ⟨8 - (i + 1), by omega, _, i + 1, _, by omega, rfl, rfl, ?_, .inr ⟨G.length + 1, l + 1, rfl, ?_, by rw [dgN_len]; omega, by omega⟩, by exact ex_env rfl⟩
        · simp (disch := omega) only [kaa, kab, kac, kad, kae, kaf, kag, kah, kai, kaj, kak, kal, kam, kan, kao, khe, khf, khg, khh, khi, khj, khk, khl, kap, kaq, kar, kas, kat, kau, kav, kaw, kax, kay, kaz, kba, kbb, kbc, kbd, kbe, kbf, kbg, kbh, kbi, kbj, kbk, kbl, kbm, kbn, kbo, kbp, kbq, kbr, kbs, kbt, kbu, kbv, kbw, kbx, kby, kbz, kca, kcb, kcc, kcd, kce, kcf, kcg, kch, kci, kcj, kck, kcl, kcm, aop, kcn, kco, kcp, kcq, kcr, kcs, kct, kcu, kcv, kcw, resultsL, resultOf, kcx, Nat.reduceEqDiff, kcy, kcz, kda, reduceCtorEq, kdb, kdc, kdd, kde, kdf, kdg, kdh, kdi, kdj, kdk, kdl, kdm, kdn, kdo, eq1, kdp, kdq, kdr, kds, kdt, kdu, kdv, kdw, kdx, kdy, kdz, kea, keb, kec, apartOK, apart2, AObj.live, ked, kee, kef, keg, keh, kei, kej, kek, kel, Int.reduceEq, Int.reduceLT, Int.reduceLE, Int.reduceAdd, Int.reduceSub, Int.reduceMul, Int.reduceToNat, kem, ken, keo, kep, keq, ker, kes, ket, keu, kev, kew, kex, key, kez, kfa, kfb, kfc, kfd, kfe, kff, kfg, kfh, kfi, kfj, kfk, kfl, cutCells, kfm, kfn, kfo, kfp, kfq, kfr, kfs, kft, kfu, kfv, kfw, kfx, kfy, Nat.reduceAdd, Nat.reduceLeDiff, Nat.reduceLT, Nat.reduceMul, Nat.reduceSub, kfz, kga, kgb, kgc, kgd, kge, kgf, kgg, kgh, kgi, kgj, kgk, kgl, kgm, kgn, kgo, kgp, kgq, kgr, kgs, kgt, kgu, kgv, kgw, kgx, kgy, kgz, kha, khb, khc, khd, g0, hget_ne]
        · simp (disch := omega) only [kaa, kab, kac, kad, kae, kaf, kag, kah, kai, kaj, kak, kal, kam, kan, kao, khe, khf, khg, khh, khi, khj, khk, khl, kap, kaq, kar, kas, kat, kau, kav, kaw, kax, kay, kaz, kba, kbb, kbc, kbd, kbe, kbf, kbg, kbh, kbi, kbj, kbk, kbl, kbm, kbn, kbo, kbp, kbq, kbr, kbs, kbt, kbu, kbv, kbw, kbx, kby, kbz, kca, kcb, kcc, kcd, kce, kcf, kcg, kch, kci, kcj, kck, kcl, kcm, aop, kcn, kco, kcp, kcq, kcr, kcs, kct, kcu, kcv, kcw, resultsL, resultOf, kcx, Nat.reduceEqDiff, kcy, kcz, kda, reduceCtorEq, kdb, kdc, kdd, kde, kdf, kdg, kdh, kdi, kdj, kdk, kdl, kdm, kdn, kdo, eq1, kdp, kdq, kdr, kds, kdt, kdu, kdv, kdw, kdx, kdy, kdz, kea, keb, kec, apartOK, apart2, AObj.live, ked, kee, kef, keg, keh, kei, kej, kek, kel, Int.reduceEq, Int.reduceLT, Int.reduceLE, Int.reduceAdd, Int.reduceSub, Int.reduceMul, Int.reduceToNat, kem, ken, keo, kep, keq, ker, kes, ket, keu, kev, kew, kex, key, kez, kfa, kfb, kfc, kfd, kfe, kff, kfg, kfh, kfi, kfj, kfk, kfl, cutCells, kfm, kfn, kfo, kfp, kfq, kfr, kfs, kft, kfu, kfv, kfw, kfx, kfy, Nat.reduceAdd, Nat.reduceLeDiff, Nat.reduceLT, Nat.reduceMul, Nat.reduceSub, kfz, kga, kgb, kgc, kgd, kge, kgf, kgg, kgh, kgi, kgj, kgk, kgl, kgm, kgn, kgo, kgp, kgq, kgr, kgs, kgt, kgu, kgv, kgw, kgx, kgy, kgz, kha, khb, khc, khd, hcat]
    · have h4' : ¬ 4 ≤ (i : Int) := by omega
      have hw : a % W64 < W64 := Nat.mod_lt _ (by decide)
      simp (disch := omega) only [kaa, kab, kac, kad, kae, kaf, kag, kah, kai, kaj, kak, kal, kam, kan, kao, khe, khf, khg, khh, khi, khj, khk, khl, kap, kaq, kar, kas, kat, kau, kav, kaw, kax, kay, kaz, kba, kbb, kbc, kbd, kbe, kbf, kbg, kbh, kbi, kbj, kbk, kbl, kbm, kbn, kbo, kbp, kbq, kbr, kbs, kbt, kbu, kbv, kbw, kbx, kby, kbz, kca, kcb, kcc, kcd, kce, kcf, kcg, kch, kci, kcj, kck, kcl, kcm, aop, kcn, kco, kcp, kcq, kcr, kcs, kct, kcu, kcv, kcw, resultsL, resultOf, kcx, Nat.reduceEqDiff, kcy, kcz, kda, reduceCtorEq, kdb, kdc, kdd, kde, kdf, kdg, kdh, kdi, kdj, kdk, kdl, kdm, kdn, kdo, eq1, kdp, kdq, kdr, kds, kdt, kdu, kdv, kdw, kdx, kdy, kdz, kea, keb, kec, apartOK, apart2, AObj.live, ked, kee, kef, keg, keh, kei, kej, kek, kel, Int.reduceEq, Int.reduceLT, Int.reduceLE, Int.reduceAdd, Int.reduceSub, Int.reduceMul, Int.reduceToNat, kem, ken, keo, kep, keq, ker, kes, ket, keu, kev, kew, kex, key, kez, kfa, kfb, kfc, kfd, kfe, kff, kfg, kfh, kfi, kfj, kfk, kfl, cutCells, kfm, kfn, kfo, kfp, kfq, kfr, kfs, kft, kfu, kfv, kfw, kfx, kfy, Nat.reduceAdd, Nat.reduceLeDiff, Nat.reduceLT, Nat.reduceMul, Nat.reduceSub, kfz, kga, kgb, kgc, kgd, kge, kgf, kgg, kgh, kgi, kgj, kgk, kgl, kgm, kgn, kgo, kgp, kgq, kgr, kgs, kgt, kgu, kgv, kgw, kgx, kgy, kgz, kha, khb, khc, khd, hi', h4', g0]
      refine quo_loop (w := a % W64) hi hw (fun e he => ?_) ⟨0, by omega, rfl, rfl, by simp only [Nat.pow_zero, Nat.div_one]; exact ex_env rfl⟩
      obtain ⟨x, rfl⟩ := he
      have hl := limb_lo (a := a) (i := i) (by omega)
      have hcat : dgN a (i + 1) = dgN a i ++ [.int .i64 ((a / 65536 ^ i % 65536 : Nat) : Int)] := rfl
      have hlt : a / 65536 ^ i % 65536 < 65536 := Nat.mod_lt _ (by decide)
      generalize a / 65536 ^ i % 65536 = W at *
      rcases hsl with ⟨rfl, hcs⟩ | ⟨k, l, rfl, hk, hkl, hl0⟩
      · have ha := append_nil (K := H ++ (G ++ [.row [.int .i64 (W : Int)] 1 true])) (bx := H.length + G.length) (unit := 1) (bytes := 8) (xs := [.int .i64 (W : Int)]) (u2 := 1) (w2 := true) (by rw [hget_base, hget_base0]; rfl) rfl (by decide)
        simp (disch := omega) only [kaa, kab, kac, kad, kae, kaf, kag, kah, kai, kaj, kak, kal, kam, kan, kao, khe, khf, khg, khh, khi, khj, khk, khl, kap, kaq, kar, kas, kat, kau, kav, kaw, kax, kay, kaz, kba, kbb, kbc, kbd, kbe, kbf, kbg, kbh, kbi, kbj, kbk, kbl, kbm, kbn, kbo, kbp, kbq, kbr, kbs, kbt, kbu, kbv, kbw, kbx, kby, kbz, kca, kcb, kcc, kcd, kce, kcf, kcg, kch, kci, kcj, kck, kcl, kcm, aop, kcn, kco, kcp, kcq, kcr, kcs, kct, kcu, kcv, kcw, resultsL, resultOf, kcx, Nat.reduceEqDiff, kcy, kcz, kda, reduceCtorEq, kdb, kdc, kdd, kde, kdf, kdg, kdh, kdi, kdj, kdk, kdl, kdm, kdn, kdo, eq1, kdp, kdq, kdr, kds, kdt, kdu, kdv, kdw, kdx, kdy, kdz, kea, keb, kec, apartOK, apart2, AObj.live, ked, kee, kef, keg, keh, kei, kej, kek, kel, Int.reduceEq, Int.reduceLT, Int.reduceLE, Int.reduceAdd, Int.reduceSub, Int.reduceMul, Int.reduceToNat, kem, ken, keo, kep, keq, ker, kes, ket, keu, kev, kew, kex, key, kez, kfa, kfb, kfc, kfd, kfe, kff, kfg, kfh, kfi, kfj, kfk, kfl, cutCells, kfm, kfn, kfo, kfp, kfq, kfr, kfs, kft, kfu, kfv, kfw, kfx, kfy, Nat.reduceAdd, Nat.reduceLeDiff, Nat.reduceLT, Nat.reduceMul, Nat.reduceSub, kfz, kga, kgb, kgc, kgd, kge, kgf, kgg, kgh, kgi, kgj, kgk, kgl, kgm, kgn, kgo, kgp, kgq, kgr, kgs, kgt, kgu, kgv, kgw, kgx, kgy, kgz, kha, khb, khc, khd, bin_rem16, hl, ha, wr_i64, nadd1]
        refine ⟨8 - (i + 1), by omega, _, i + 1, _, by omega, rfl, rfl, ?_, .inr ⟨G.length + 1, 1, rfl, ?_, by rw [dgN_len]; have := congrArg List.length hcs; rw [dgN_len] at this; simp at this; omega, by omega⟩, by exact ex_env rfl⟩
        · simp (disch := omega) only [kaa, kab, kac, kad, kae, kaf, kag, kah, kai, kaj, kak, kal, kam, kan, kao, khe, khf, khg, khh, khi, khj, khk, khl, kap, kaq, kar, kas, kat, kau, kav, kaw, kax, kay, kaz, kba, kbb, kbc, kbd, kbe, kbf, kbg, kbh, kbi, kbj, kbk, kbl, kbm, kbn, kbo, kbp, kbq, kbr, kbs, kbt, kbu, kbv, kbw, kbx, kby, kbz, kca, kcb, kcc, kcd, kce, kcf, kcg, kch, kci, kcj, kck, kcl, kcm, aop, kcn, kco, kcp, kcq, kcr, kcs, kct, kcu, kcv, kcw, resultsL, resultOf, kcx, Nat.reduceEqDiff, kcy, kcz, kda, reduceCtorEq, kdb, kdc, kdd, kde, kdf, kdg, kdh, kdi, kdj, kdk, kdl, kdm, kdn, kdo, eq1, kdp, kdq, kdr, kds, kdt, kdu, kdv, kdw, kdx, kdy, kdz, kea, keb, kec, apartOK, apart2, AObj.live, ked, kee, kef, keg, keh, kei, kej, kek, kel, Int.reduceEq, Int.reduceLT, Int.reduceLE, Int.reduceAdd, Int.reduceSub, Int.reduceMul, Int.reduceToNat, kem, ken, keo, kep, keq, ker, kes, ket, keu, kev, kew, kex, key, kez, kfa, kfb, kfc, kfd, kfe, kff, kfg, kfh, kfi, kfj, kfk, kfl, cutCells, kfm, kfn, kfo, kfp, kfq, kfr, kfs, kft, kfu, kfv, kfw, kfx, kfy, Nat.reduceAdd, Nat.reduceLeDiff, Nat.reduceLT, Nat.reduceMul, Nat.reduceSub, kfz, kga, kgb, kgc, kgd, kge, kgf, kgg, kgh, kgi, kgj, kgk, kgl, kgm, kgn, kgo, kgp, kgq, kgr, kgs, kgt, kgu, kgv, kgw, kgx, kgy, kgz, kha, khb, khc, khd, g0]
        · simp (disch := omega) only [kaa, kab, kac, kad, kae, kaf, kag, kah, kai, kaj, kak, kal, kam, kan, kao, khe, khf, khg, khh, khi, khj, khk, khl, kap, kaq, kar, kas, kat, kau, kav, kaw, kax, kay, kaz, kba, kbb, kbc, kbd, kbe, kbf, kbg, kbh, kbi, kbj, kbk, kbl, kbm, kbn, kbo, kbp, kbq, kbr, kbs, kbt, kbu, kbv, kbw, kbx, kby, kbz, kca, kcb, kcc, kcd, kce, kcf, kcg, kch, kci, kcj, kck, kcl, kcm, aop, kcn, kco, kcp, kcq, kcr, kcs, kct, kcu, kcv, kcw, resultsL, resultOf, kcx, Nat.reduceEqDiff, kcy, kcz, kda, reduceCtorEq, kdb, kdc, kdd, kde, kdf, kdg, kdh, kdi, kdj, kdk, kdl, kdm, kdn, kdo, eq1, kdp, kdq, kdr, kds, kdt, kdu, kdv, kdw, kdx, kdy, kdz, kea, keb, kec, apartOK, apart2, AObj.live, ked, kee, kef, keg, keh, kei, kej, kek, kel, Int.reduceEq, Int.reduceLT, Int.reduceLE, Int.reduceAdd, Int.reduceSub, Int.reduceMul, Int.reduceToNat, kem, ken, keo, kep, keq, ker, kes, ket, keu, kev, kew, kex, key, kez, kfa, kfb, kfc, kfd, kfe, kff, kfg, kfh, kfi, kfj, kfk, kfl, cutCells, kfm, kfn, kfo, kfp, kfq, kfr, kfs, kft, kfu, kfv, kfw, kfx, kfy, Nat.reduceAdd, Nat.reduceLeDiff, Nat.reduceLT, Nat.reduceMul, Nat.reduceSub, kfz, kga, kgb, kgc, kgd, kge, kgf, kgg, kgh, kgi, kgj, kgk, kgl, kgm, kgn, kgo, kgp, kgq, kgr, kgs, kgt, kgu, kgv, kgw, kgx, kgy, kgz, kha, khb, khc, khd, hcat, hcs]
      · have ha := append_one (K := H ++ (G ++ [.row [.int .i64 (W : Int)] 1 true])) (b := H.length + k) (bx := H.length + G.length) (l := l) (unit := 1) (bytes := 8) (cells := dgN a i) (xs := [.int .i64 (W : Int)]) (u2 := 1) (w2 := true) (by rw [hget_base, hget_old (hget_lt hk rfl)]; exact hk) hkl (by rw [hget_base, hget_base0]; rfl) rfl rfl (by rw [dgN_len] at hkl; simp only [roomMax]; omega)
        have hkG : k < G.length := hget_lt hk rfl
        have hk0 : k ≠ 0 := by
          rintro rfl
          rw [g0] at hk
          injection hk with h1 h2 h3
          exact absurd h2 (by decide)
        rw [dgN_len] at hkl
        simp (disch := omega) only [kaa, kab, kac, kad, kae, kaf, kag, kah, kai, kaj, kak, kal, kam, kan, kao, khe, khf, khg, khh, khi, khj, khk, khl, kap, kaq, kar, kas, kat, kau, kav, kaw, kax, kay, kaz, kba, kbb, kbc, kbd, kbe, kbf, kbg, kbh, kbi, kbj, kbk, kbl, kbm, kbn, kbo, kbp, kbq, kbr, kbs, kbt, kbu, kbv, kbw, kbx, kby, kbz, kca, kcb, kcc, kcd, kce, kcf, kcg, kch, kci, kcj, kck, kcl, kcm, aop, kcn, kco, kcp, kcq, kcr, kcs, kct, kcu, kcv, kcw, resultsL, resultOf, kcx, Nat.reduceEqDiff, kcy, kcz, kda, reduceCtorEq, kdb, kdc, kdd, kde, kdf, kdg, kdh, kdi, kdj, kdk, kdl, kdm, kdn, kdo, eq1, kdp, kdq, kdr, kds, kdt, kdu, kdv, kdw, kdx, kdy, kdz, kea, keb, kec, apartOK, apart2, AObj.live, ked, kee, kef, keg, keh, kei, kej, kek, kel, Int.reduceEq, Int.reduceLT, Int.reduceLE, Int.reduceAdd, Int.reduceSub, Int.reduceMul, Int.reduceToNat, kem, ken, keo, kep, keq, ker, kes, ket, keu, kev, kew, kex, key, kez, kfa, kfb, kfc, kfd, kfe, kff, kfg, kfh, kfi, kfj, kfk, kfl, cutCells, kfm, kfn, kfo, kfp, kfq, kfr, kfs, kft, kfu, kfv, kfw, kfx, kfy, Nat.reduceAdd, Nat.reduceLeDiff, Nat.reduceLT, Nat.reduceMul, Nat.reduceSub, kfz, kga, kgb, kgc, kgd, kge, kgf, kgg, kgh, kgi, kgj, kgk, kgl, kgm, kgn, kgo, kgp, kgq, kgr, kgs, kgt, kgu, kgv, kgw, kgx, kgy, kgz, kha, khb, khc, khd, bin_rem16, hl, ha, wr_i64, nadd1]
        refine ⟨8 - (i + 1), by omega, _, i + 1, _, by omega, rfl, rfl, ?_, .inr ⟨G.length + 1, l + 1, rfl, ?_, by rw [dgN_len]; omega, by omega⟩, by exact ex_env rfl⟩
        · simp (disch := omega) only [kaa, kab, kac, kad, kae, kaf, kag, kah, kai, kaj, kak, kal, kam, kan, kao, khe, khf, khg, khh, khi, khj, khk, khl, kap, kaq, kar, kas, kat, kau, kav, kaw, kax, kay, kaz, kba, kbb, kbc, kbd, kbe, kbf, kbg, kbh, kbi, kbj, kbk, kbl, kbm, kbn, kbo, kbp, kbq, kbr, kbs, kbt, kbu, kbv, kbw, kbx, kby, kbz, kca, kcb, kcc, kcd, kce, kcf, kcg, kch, kci, kcj, kck, kcl, kcm, aop, kcn, kco, kcp, kcq, kcr, kcs, kct, kcu, kcv, kcw, resultsL, resultOf, kcx, Nat.reduceEqDiff, kcy, kcz, kda, reduceCtorEq, kdb, kdc, kdd, kde, kdf, kdg, kdh, kdi, kdj, kdk, kdl, kdm, kdn, kdo, eq1, kdp, kdq, kdr, kds, kdt, kdu, kdv, kdw, kdx, kdy, kdz, kea, keb, kec, apartOK, apart2, AObj.live, ked, kee, kef, keg, keh, kei, kej, kek, kel, Int.reduceEq, Int.reduceLT, Int.reduceLE, Int.reduceAdd, Int.reduceSub, Int.reduceMul, Int.reduceToNat, kem, ken, keo, kep, keq, ker, kes, ket, keu, kev, kew, kex, key, kez, kfa, kfb, kfc, kfd, kfe, kff, kfg, kfh, kfi, kfj, kfk, kfl, cutCells, kfm, kfn, kfo, kfp, kfq, kfr, kfs, kft, kfu, kfv, kfw, kfx, kfy, Nat.reduceAdd, Nat.reduceLeDiff, Nat.reduceLT, Nat.reduceMul, Nat.reduceSub, kfz, kga, kgb, kgc, kgd, kge, kgf, kgg, kgh, kgi, kgj, kgk, kgl, kgm, kgn, kgo, kgp, kgq, kgr, kgs, kgt, kgu, kgv, kgw, kgx, kgy, kgz, kha, khb, khc, khd, g0, hget_ne]
        · simp (disch := omega) only [kaa, kab, kac, kad, kae, kaf, kag, kah, kai, kaj, kak, kal, kam, kan, kao, khe, khf, khg, khh, khi, khj, khk, khl, kap, kaq, kar, kas, kat, kau, kav, kaw, kax, kay, kaz, kba, kbb, kbc, kbd, kbe, kbf, kbg, kbh, kbi, kbj, kbk, kbl, kbm, kbn, kbo, kbp, kbq, kbr, kbs, kbt, kbu, kbv, kbw, kbx, kby, kbz, kca, kcb, kcc, kcd, kce, kcf, kcg, kch, kci, kcj, kck, kcl, kcm, aop, kcn, kco, kcp, kcq, kcr, kcs, kct, kcu, kcv, kcw, resultsL, resultOf, kcx, Nat.reduceEqDiff, kcy, kcz, kda, reduceCtorEq, kdb, kdc, kdd, kde, kdf, kdg, kdh, kdi, kdj, kdk, kdl, kdm, kdn, kdo, eq1, kdp, kdq, kdr, kds, kdt, kdu, kdv, kdw, kdx, kdy, kdz, kea, keb, kec, apartOK, apart2, AObj.live, ked, kee, kef, keg, keh, kei, kej, kek, kel, Int.reduceEq, Int.reduceLT, Int.reduceLE, Int.reduceAdd, Int.reduceSub, Int.reduceMul, Int.reduceToNat, kem, ken, keo, kep, keq, ker, kes, ket, keu, kev, kew, kex, key, kez, kfa, kfb, kfc, kfd, kfe, kff, kfg, kfh, kfi, kfj, kfk, kfl, cutCells, kfm, kfn, kfo, kfp, kfq, kfr, kfs, kft, kfu, kfv, kfw, kfx, kfy, Nat.reduceAdd, Nat.reduceLeDiff, Nat.reduceLT, Nat.reduceMul, Nat.reduceSub, kfz, kga, kgb, kgc, kgd, kge, kgf, kgg, kgh, kgi, kgj, kgk, kgl, kgm, kgn, kgo, kgp, kgq, kgr, kgs, kgt, kgu, kgv, kgw, kgx, kgy, kgz, kha, khb, khc, khd, hcat]
  · have hi' : ¬ (i : Int) < 8 := by omega
    obtain rfl : i = 8 := by omega
    rcases hsl with ⟨rfl, hcs⟩ | ⟨k, l, rfl, hk, hkl, hl0⟩
    · have := congrArg List.length hcs
      rw [dgN_len] at this
      simp at this
    · rw [dgN_len] at hkl
      obtain rfl : l = 8 := by omega
      simp (disch := omega) only [kaa, kab, kac, kad, kae, kaf, kag, kah, kai, kaj, kak, kal, kam, kan, kao, khe, khf, khg, khh, khi, khj, khk, khl, kap, kaq, kar, kas, kat, kau, kav, kaw, kax, kay, kaz, kba, kbb, kbc, kbd, kbe, kbf, kbg, kbh, kbi, kbj, kbk, kbl, kbm, kbn, kbo, kbp, kbq, kbr, kbs, kbt, kbu, kbv, kbw, kbx, kby, kbz, kca, kcb, kcc, kcd, kce, kcf, kcg, kch, kci, kcj, kck, kcl, kcm, aop, kcn, kco, kcp, kcq, kcr, kcs, kct, kcu, kcv, kcw, resultsL, resultOf, kcx, Nat.reduceEqDiff, kcy, kcz, kda, reduceCtorEq, kdb, kdc, kdd, kde, kdf, kdg, kdh, kdi, kdj, kdk, kdl, kdm, kdn, kdo, eq1, kdp, kdq, kdr, kds, kdt, kdu, kdv, kdw, kdx, kdy, kdz, kea, keb, kec, apartOK, apart2, AObj.live, ked, kee, kef, keg, keh, kei, kej, kek, kel, Int.reduceEq, Int.reduceLT, Int.reduceLE, Int.reduceAdd, Int.reduceSub, Int.reduceMul, Int.reduceToNat, kem, ken, keo, kep, keq, ker, kes, ket, keu, kev, kew, kex, key, kez, kfa, kfb, kfc, kfd, kfe, kff, kfg, kfh, kfi, kfj, kfk, kfl, cutCells, kfm, kfn, kfo, kfp, kfq, kfr, kfs, kft, kfu, kfv, kfw, kfx, kfy, Nat.reduceAdd, Nat.reduceLeDiff, Nat.reduceLT, Nat.reduceMul, Nat.reduceSub, kfz, kga, kgb, kgc, kgd, kge, kgf, kgg, kgh, kgi, kgj, kgk, kgl, kgm, kgn, kgo, kgp, kgq, kgr, kgs, kgt, kgu, kgv, kgw, kgx, kgy, kgz, kha, khb, khc, khd, hi']
      exact hQ _ _ _ hk (by exact ex_env rfl)

end Go.Proofs.YtedemfmafdilmaaDoor.Ev

/- The law LexNumbers: long division over limbs. -/
namespace Go.Proofs.YtedemfmafdilmaaDoor.Ev
set_option maxRecDepth 100000
set_option linter.unusedSimpArgs false
set_option linter.unusedVariables false
variable {R : FRes → Heap → Prop} {H : Heap}

/-- One limb of a long division. -/
theorem limb_div {v base i : Nat} (hb : 0 < base) :
    (65536 * (v / 65536 ^ (i + 1) % base) + v / 65536 ^ i % 65536) / base = v / base / 65536 ^ i % 65536 ∧
    (65536 * (v / 65536 ^ (i + 1) % base) + v / 65536 ^ i % 65536) % base = v / 65536 ^ i % base := by
  have e1 : v / 65536 ^ (i + 1) = v / 65536 ^ i / 65536 := by rw [Nat.pow_succ, Nat.div_div_eq_div_mul]
  have e2 : v / base / 65536 ^ i = v / 65536 ^ i / base := by rw [Nat.div_div_eq_div_mul, Nat.div_div_eq_div_mul, Nat.mul_comm]
  rw [e1, e2]
  generalize v / 65536 ^ i = X
  have hX : X = 65536 * (X / 65536) + X % 65536 := (Nat.div_add_mod X 65536).symm
  have hY : X / 65536 = base * (X / 65536 / base) + X / 65536 % base := (Nat.div_add_mod _ base).symm
  have hn : X = (65536 * (X / 65536 % base) + X % 65536) + 65536 * (X / 65536 / base) * base := by
    have : 65536 * (X / 65536) = 65536 * (X / 65536 % base) + 65536 * (X / 65536 / base) * base := by
      conv => lhs; rw [hY, Nat.mul_add, Nat.add_comm]
      rw [Nat.mul_comm base, Nat.mul_assoc]
    omega
  have hlt : 65536 * (X / 65536 % base) + X % 65536 < 65536 * base := by
    have h1 : X / 65536 % base + 1 ≤ base := Nat.mod_lt _ hb
    have h2 := Nat.mul_le_mul_left 65536 h1
    have h3 : X % 65536 < 65536 := Nat.mod_lt _ (by decide)
    omega
  generalize 65536 * (X / 65536 % base) + X % 65536 = n at *
  have hq : n / base < 65536 := Nat.div_lt_of_lt_mul (by rw [Nat.mul_comm]; exact hlt)
  constructor
  · conv => rhs; rw [hn, Nat.add_mul_div_right _ _ hb]
    rw [Nat.add_mul_mod_self_left, Nat.mod_eq_of_lt hq]
  · conv => rhs; rw [hn, Nat.add_mul_mod_self_right]

/-- The limbs while a division is under way: below m they are old. -/
def mixN (v q m : Nat) : List Value := (dgN v 8).take m ++ (dgN q 8).drop m

theorem mixN_len {v q m : Nat} (hm : m ≤ 8) : (mixN v q m).length = 8 := by
  simp only [mixN, List.length_append, List.length_take, List.length_drop, dgN_len]
  omega

theorem mixN_get {v q i : Nat} (hi : i < 8) : (mixN v q (i + 1))[i]? = some (.int .i64 ((v / 65536 ^ i % 65536 : Nat) : Int)) := by
  rw [mixN, List.getElem?_append_left (by rw [List.length_take, dgN_len]; omega), List.getElem?_take, if_pos (by omega), dgN_get v 8 i hi]

theorem mixN_set {v q i : Nat} (hi : i < 8) : (mixN v q (i + 1)).set i (.int .i64 ((q / 65536 ^ i % 65536 : Nat) : Int)) = mixN v q i := by
  match i, hi with
  | 0, _ => rfl
  | 1, _ => rfl
  | 2, _ => rfl
  | 3, _ => rfl
  | 4, _ => rfl
  | 5, _ => rfl
  | 6, _ => rfl
  | 7, _ => rfl

theorem mixN_new {v q i : Nat} (hi : i < 8) : (mixN v q i)[i]? = some (.int .i64 ((q / 65536 ^ i % 65536 : Nat) : Int)) := by
  rw [mixN, List.getElem?_append_right (by rw [List.length_take, dgN_len]; omega), List.getElem?_drop, List.length_take, dgN_len, dgN_get q 8 _ (by omega)]
  congr 4
  congr 2
  omega

theorem mixN_all (v q : Nat) : mixN v q 8 = dgN v 8 := by
  rw [mixN, List.take_of_length_le (by rw [dgN_len]; omega), List.drop_of_length_le (by rw [dgN_len]; omega), List.append_nil]
theorem mixN_none (v q : Nat) : mixN v q 0 = dgN q 8 := by
  rw [mixN, List.take_zero, List.drop_zero, List.nil_append]

end Go.Proofs.YtedemfmafdilmaaDoor.Ev

/- The law LexNumbers: the loop of a long division. -/
namespace Go.Proofs.YtedemfmafdilmaaDoor.Ev
set_option maxRecDepth 100000
set_option linter.unusedSimpArgs false
set_option linter.unusedVariables false
variable {R : FRes → Heap → Prop} {H : Heap}

def divI (K : Heap) (b v base : Nat) (out : Value) : Nat → Env → Heap → Prop := fun n e H' =>
  ∃ m sm : Nat, m ≤ 8 ∧ n = m ∧ H' = K.set b (.row (mixN v (v / base) m) 1 true) ∧ (sm = 0 ↔ v / base / 65536 ^ m = 0) ∧ sm ≤ (8 - m) * 65535 ∧
    (∃ x : Nat → Value, e = [x 0, .int .i64 base, x 2, x 3, x 4, .slice (some ⟨b, 0, none⟩) 8 8, x 6, x 7, x 8, out, .int .i64 ((v / 65536 ^ m % base : Nat) : Int), .int .i64 sm, .int .i64 ((m : Int) - 1), x 13, x 14, x 15, x 16, x 17, x 18, x 19, x 20, x 21, x 22, x 23, x 24, x 25, x 26, x 27, x 28, x 29, x 30, x 31, x 32, x 33, x 34, x 35, x 36, x 37, x 38, x 39, x 40, x 41, x 42, x 43, x 44, x 45, x 46, x 47, x 48, x 49, x 50, x 51, x 52, x 53, x 54, x 55, x 56, x 57, x 58, x 59, x 60, x 61, x 62, x 63, x 64, x 65, x 66, x 67, x 68, x 69, x 70, x 71, x 72])

set_option maxHeartbeats 4000000 in
theorem div_loop {K : Heap} {b v base : Nat} {out : Value} (hb : b < K.length) (hb0 : 0 < base) (hb16 : base ≤ 16) {Q : Post}
    (hQ : ∀ e sm, (sm = 0 ↔ v / base = 0) → (∃ x : Nat → Value, e = [x 0, .int .i64 base, x 2, x 3, x 4, .slice (some ⟨b, 0, none⟩) 8 8, x 6, x 7, x 8, out, .int .i64 ((v % base : Nat) : Int), .int .i64 (sm : Nat), x 12, x 13, x 14, x 15, x 16, x 17, x 18, x 19, x 20, x 21, x 22, x 23, x 24, x 25, x 26, x 27, x 28, x 29, x 30, x 31, x 32, x 33, x 34, x 35, x 36, x 37, x 38, x 39, x 40, x 41, x 42, x 43, x 44, x 45, x 46, x 47, x 48, x 49, x 50, x 51, x 52, x 53, x 54, x 55, x 56, x 57, x 58, x 59, x 60, x 61, x 62, x 63, x 64, x 65, x 66, x 67, x 68, x 69, x 70, x 71, x 72]) → Q (.exit 6) e (K.set b (.row (dgN (v / base) 8) 1 true)))
    {e : Env} {H1 : Heap} (hI : divI K b v base out 8 e H1) : WLoop T (g14.body.at [1, 1, 1, 1, 0, 0, 0, 1, 1, 0, 1, 0, 0]) e H1 Q := by
  refine WLoop.inv (divI K b v base out) ?_ _ _ _ hI
  rintro n e K1 ⟨m, sm, k1, hnm, rfl, hs0, hsm, ⟨x, rfl⟩⟩
  simp only [AFunc.body, g14, ACode.at]
  have hg : ∀ o, hget (K.set b o) b = o := fun o => by simp [hget, List.getElem?_set, hb]
  subst hnm
  cases n with
  | zero =>
    have h0 : ¬ 0 ≤ ((0 : Nat) : Int) - 1 := by omega
    simp (disch := omega) only [kaa, kab, kac, kad, kae, kaf, kag, kah, kai, kaj, kak, kal, kam, kan, kao, khe, khf, khg, khh, khi, khj, khk, khl, kap, kaq, kar, kas, kat, kau, kav, kaw, kax, kay, kaz, kba, kbb, kbc, kbd, kbe, kbf, kbg, kbh, kbi, kbj, kbk, kbl, kbm, kbn, kbo, kbp, kbq, kbr, kbs, kbt, kbu, kbv, kbw, kbx, kby, kbz, kca, kcb, kcc, kcd, kce, kcf, kcg, kch, kci, kcj, kck, kcl, kcm, aop, kcn, kco, kcp, kcq, kcr, kcs, kct, kcu, kcv, kcw, resultsL, resultOf, kcx, Nat.reduceEqDiff, kcy, kcz, kda, reduceCtorEq, kdb, kdc, kdd, kde, kdf, kdg, kdh, kdi, kdj, kdk, kdl, kdm, kdn, kdo, eq1, kdp, kdq, kdr, kds, kdt, kdu, kdv, kdw, kdx, kdy, kdz, kea, keb, kec, apartOK, apart2, AObj.live, ked, kee, kef, keg, keh, kei, kej, kek, kel, Int.reduceEq, Int.reduceLT, Int.reduceLE, Int.reduceAdd, Int.reduceSub, Int.reduceMul, Int.reduceToNat, kem, ken, keo, kep, keq, ker, kes, ket, keu, kev, kew, kex, key, kez, kfa, kfb, kfc, kfd, kfe, kff, kfg, kfh, kfi, kfj, kfk, kfl, cutCells, kfm, kfn, kfo, kfp, kfq, kfr, kfs, kft, kfu, kfv, kfw, kfx, kfy, Nat.reduceAdd, Nat.reduceLeDiff, Nat.reduceLT, Nat.reduceMul, Nat.reduceSub, kfz, kga, kgb, kgc, kgd, kge, kgf, kgg, kgh, kgi, kgj, kgk, kgl, kgm, kgn, kgo, kgp, kgq, kgr, kgs, kgt, kgu, kgv, kgw, kgx, kgy, kgz, kha, khb, khc, khd, h0]
    simp only [Nat.pow_zero, Nat.div_one] at hs0 ⊢
    rw [mixN_none]
    exact hQ _ sm hs0 (by exact ex_env rfl)
  | succ i =>
    have h0 : 0 ≤ ((i + 1 : Nat) : Int) - 1 := by omega
    have e1 : ((i + 1 : Nat) : Int) - 1 = (i : Nat) := by omega
    have hi : i < 8 := by omega
    have hg1 := mixN_get (v := v) (q := v / base) hi
    have hi2 : (i : Int) < ((8 : Nat) : Int) := by omega
    have hset := mixN_set (v := v) (q := v / base) hi
    obtain ⟨d1, d2⟩ := limb_div (v := v) (i := i) hb0
    rw [e1]
    have hn1 := mixN_new (v := v) (q := v / base) hi
    have hA : v / 65536 ^ (i + 1) % base < base := Nat.mod_lt _ hb0
    have hcl : v / 65536 ^ i % 65536 < 65536 := Nat.mod_lt _ (by decide)
    have hql : v / base / 65536 ^ i % 65536 < 65536 := Nat.mod_lt _ (by decide)
    have hs1 : sm + v / base / 65536 ^ i % 65536 = 0 ↔ v / base / 65536 ^ i = 0 := by
      have e3 : v / base / 65536 ^ (i + 1) = v / base / 65536 ^ i / 65536 := by rw [Nat.pow_succ, ← Nat.div_div_eq_div_mul (v / base)]
      rw [e3] at hs0
      generalize v / base / 65536 ^ i = X at *
      omega
    have hwr : IntKind.i64.wrap (IntKind.i64.wrap (65536 * ((v / 65536 ^ (i + 1) % base : Nat) : Int)) + ((v / 65536 ^ i % 65536 : Nat) : Int)) = ((65536 * (v / 65536 ^ (i + 1) % base) + v / 65536 ^ i % 65536 : Nat) : Int) := by
      generalize v / 65536 ^ (i + 1) % base = A at *
      generalize v / 65536 ^ i % 65536 = c at *
      rw [wr_i64 (n := 65536 * (A : Int)) (by omega) (by omega), wr_i64 (by omega) (by omega)]
      omega
    have hws : IntKind.i64.wrap ((sm : Int) + ((v / base / 65536 ^ i % 65536 : Nat) : Int)) = ((sm + v / base / 65536 ^ i % 65536 : Nat) : Int) := by
      generalize v / base / 65536 ^ i % 65536 = c at *
      rw [wr_i64 (by omega) (by omega)]
      omega
    have hwq : IntKind.i64.wrap ((v / base / 65536 ^ i % 65536 : Nat) : Int) = ((v / base / 65536 ^ i % 65536 : Nat) : Int) := by
      generalize v / base / 65536 ^ i % 65536 = c at *
      exact wr_i64 (by omega) (by omega)
    have hq := bin_quo (k := .i64) (a := 65536 * (v / 65536 ^ (i + 1) % base) + v / 65536 ^ i % 65536) hb0
    have hr := bin_rem (k := .i64) (a := 65536 * (v / 65536 ^ (i + 1) % base) + v / 65536 ^ i % 65536) hb0
    rw [d1, hwq] at hq
    rw [d2] at hr
    have hln := mixN_len (v := v) (q := v / base) (m := i + 1) (by omega)
    have hnn : 65536 * ((v / 65536 ^ (i + 1) % base : Nat) : Int) + ((v / 65536 ^ i % 65536 : Nat) : Int) = ((65536 * (v / 65536 ^ (i + 1) % base) + v / 65536 ^ i % 65536 : Nat) : Int) := by
      generalize v / 65536 ^ (i + 1) % base = A at *
      generalize v / 65536 ^ i % 65536 = c at *
      omega
    simp (disch := omega) only [kaa, kab, kac, kad, kae, kaf, kag, kah, kai, kaj, kak, kal, kam, kan, kao, khe, khf, khg, khh, khi, khj, khk, khl, kap, kaq, kar, kas, kat, kau, kav, kaw, kax, kay, kaz, kba, kbb, kbc, kbd, kbe, kbf, kbg, kbh, kbi, kbj, kbk, kbl, kbm, kbn, kbo, kbp, kbq, kbr, kbs, kbt, kbu, kbv, kbw, kbx, kby, kbz, kca, kcb, kcc, kcd, kce, kcf, kcg, kch, kci, kcj, kck, kcl, kcm, aop, kcn, kco, kcp, kcq, kcr, kcs, kct, kcu, kcv, kcw, resultsL, resultOf, kcx, Nat.reduceEqDiff, kcy, kcz, kda, reduceCtorEq, kdb, kdc, kdd, kde, kdf, kdg, kdh, kdi, kdj, kdk, kdl, kdm, kdn, kdo, eq1, kdp, kdq, kdr, kds, kdt, kdu, kdv, kdw, kdx, kdy, kdz, kea, keb, kec, apartOK, apart2, AObj.live, ked, kee, kef, keg, keh, kei, kej, kek, kel, Int.reduceEq, Int.reduceLT, Int.reduceLE, Int.reduceAdd, Int.reduceSub, Int.reduceMul, Int.reduceToNat, kem, ken, keo, kep, keq, ker, kes, ket, keu, kev, kew, kex, key, kez, kfa, kfb, kfc, kfd, kfe, kff, kfg, kfh, kfi, kfj, kfk, kfl, cutCells, kfm, kfn, kfo, kfp, kfq, kfr, kfs, kft, kfu, kfv, kfw, kfx, kfy, Nat.reduceAdd, Nat.reduceLeDiff, Nat.reduceLT, Nat.reduceMul, Nat.reduceSub, kfz, kga, kgb, kgc, kgd, kge, kgf, kgg, kgh, kgi, kgj, kgk, kgl, kgm, kgn, kgo, kgp, kgq, kgr, kgs, kgt, kgu, kgv, kgw, kgx, kgy, kgz, kha, khb, khc, khd, hi2, if_pos, hg, hg1, hnn, hq, hr, hln, hi, hset, List.set_set, hn1, hws, wr_i64]
    exact ⟨i, by omega, i, sm + v / base / 65536 ^ i % 65536, by omega, rfl, rfl, hs1, by omega, by exact ex_env rfl⟩

end Go.Proofs.YtedemfmafdilmaaDoor.Ev

/- The law LexNumbers: the digits of a value. -/
namespace Go.Proofs.YtedemfmafdilmaaDoor.Ev
set_option maxRecDepth 100000
set_option linter.unusedSimpArgs false
set_option linter.unusedVariables false
variable {R : FRes → Heap → Prop} {H : Heap}

theorem digs_fuel {base : Nat} (h2 : 2 ≤ base) : ∀ f g v, v < base ^ f → v < base ^ g → 0 < f → 0 < g → digs base f v = digs base g v
  | 0, _, _, _, _, h, _ => absurd h (by decide)
  | _, 0, _, _, _, _, h => absurd h (by decide)
  | f + 1, g + 1, v, hf, hg, _, _ => by
    rw [digs, digs]
    split
    · rfl
    · rename_i h0
      have d : ∀ n, v < base ^ (n + 1) → v / base < base ^ n := fun n hn => by
        rw [Nat.div_lt_iff_lt_mul (by omega)]
        rwa [Nat.pow_succ] at hn
      have p : ∀ n, v / base < base ^ n → 0 < n := fun n hn => by
        rcases Nat.eq_zero_or_pos n with rfl | h
        · rw [Nat.pow_zero] at hn; exact absurd (Nat.lt_one_iff.1 hn) h0
        · exact h
      rw [digs_fuel h2 f g _ (d f hf) (d g hg) (p f (d f hf)) (p g (d g hg))]

theorem digs_step {base v : Nat} (h2 : 2 ≤ base) (hv : v < W64 * W64) (h0 : v / base ≠ 0) : digs base 128 v = digs base 128 (v / base) ++ [digC (v % base)] := by
  have hle : v / base < W64 * W64 := Nat.lt_of_le_of_lt (Nat.div_le_self _ _) hv
  have : digs base 128 v = digs base 129 v := digs_fuel h2 128 129 v (base_lt h2 hv) (Nat.lt_of_lt_of_le (base_lt h2 hv) (Nat.pow_le_pow_right (by omega) (by decide))) (by decide) (by decide)
  rw [this, digs, if_neg h0]

theorem digs_last {base v : Nat} (h0 : v / base = 0) : digs base 128 v = [digC (v % base)] := by rw [digs, if_pos h0]

end Go.Proofs.YtedemfmafdilmaaDoor.Ev

/- The law LexNumbers: the walk of digits. -/
namespace Go.Proofs.YtedemfmafdilmaaDoor.Ev
set_option maxRecDepth 100000
set_option linter.unusedSimpArgs false
set_option linter.unusedVariables false
variable {R : FRes → Heap → Prop} {H : Heap}

def digI (K : Heap) (b a base : Nat) : Nat → Env → Heap → Prop := fun n e H' =>
  ∃ (v : Nat) (out : List UInt8), n = v ∧ v < W64 * W64 ∧ digs base 128 a = digs base 128 v ++ out ∧ H' = K.set b (.row (dgN v 8) 1 true) ∧
    (∃ x : Nat → Value, e = [x 0, .int .i64 base, x 2, x 3, x 4, .slice (some ⟨b, 0, none⟩) 8 8, x 6, x 7, x 8, .string (bs out), x 10, x 11, x 12, x 13, x 14, x 15, x 16, x 17, x 18, x 19, x 20, x 21, x 22, x 23, x 24, x 25, x 26, x 27, x 28, x 29, x 30, x 31, x 32, x 33, x 34, x 35, x 36, x 37, x 38, x 39, x 40, x 41, x 42, x 43, x 44, x 45, x 46, x 47, x 48, x 49, x 50, x 51, x 52, x 53, x 54, x 55, x 56, x 57, x 58, x 59, x 60, x 61, x 62, x 63, x 64, x 65, x 66, x 67, x 68, x 69, x 70, x 71, x 72])

theorem digC_str : ∀ d, d < 16 → List.drop d ((48 : UInt8) :: List.take d [49, 50, 51, 52, 53, 54, 55, 56, 57, 97, 98, 99, 100, 101, 102]) = [digC d] := by decide

set_option maxHeartbeats 4000000 in
theorem dig_loop {K : Heap} {b a base : Nat} (hb : b < K.length) (h2 : 2 ≤ base) (h16 : base ≤ 16) {Q : Post}
    (hQ : ∀ e o, (∃ x : Nat → Value, e = [x 0, x 1, x 2, x 3, .string (bs (digs base 128 a)), x 5, x 6, x 7, x 8, x 9, x 10, x 11, x 12, x 13, x 14, x 15, x 16, x 17, x 18, x 19, x 20, x 21, x 22, x 23, x 24, x 25, x 26, x 27, x 28, x 29, x 30, x 31, x 32, x 33, x 34, x 35, x 36, x 37, x 38, x 39, x 40, x 41, x 42, x 43, x 44, x 45, x 46, x 47, x 48, x 49, x 50, x 51, x 52, x 53, x 54, x 55, x 56, x 57, x 58, x 59, x 60, x 61, x 62, x 63, x 64, x 65, x 66, x 67, x 68, x 69, x 70, x 71, x 72]) → Q .ret e (K.set b o))
    {e : Env} {H1 : Heap} (hI : digI K b a base a e H1) : WLoop T (g14.body.at [1, 1, 1, 1, 0, 0]) e H1 Q := by
  refine WLoop.inv (digI K b a base) ?_ _ _ _ hI
  rintro n e K1 ⟨v, out, hnm, hv, hdig, rfl, ⟨x, rfl⟩⟩
  subst hnm
  simp only [AFunc.body, g14, ACode.at]
  have hz : n / 65536 ^ 8 = 0 := Nat.div_eq_of_lt hv
  have hz2 : n / base / 65536 ^ 8 = 0 := Nat.div_eq_of_lt (Nat.lt_of_le_of_lt (Nat.div_le_self _ _) hv)
  simp (disch := omega) only [kaa, kab, kac, kad, kae, kaf, kag, kah, kai, kaj, kak, kal, kam, kan, kao, khe, khf, khg, khh, khi, khj, khk, khl, kap, kaq, kar, kas, kat, kau, kav, kaw, kax, kay, kaz, kba, kbb, kbc, kbd, kbe, kbf, kbg, kbh, kbi, kbj, kbk, kbl, kbm, kbn, kbo, kbp, kbq, kbr, kbs, kbt, kbu, kbv, kbw, kbx, kby, kbz, kca, kcb, kcc, kcd, kce, kcf, kcg, kch, kci, kcj, kck, kcl, kcm, aop, kcn, kco, kcp, kcq, kcr, kcs, kct, kcu, kcv, kcw, resultsL, resultOf, kcx, Nat.reduceEqDiff, kcy, kcz, kda, reduceCtorEq, kdb, kdc, kdd, kde, kdf, kdg, kdh, kdi, kdj, kdk, kdl, kdm, kdn, kdo, eq1, kdp, kdq, kdr, kds, kdt, kdu, kdv, kdw, kdx, kdy, kdz, kea, keb, kec, apartOK, apart2, AObj.live, ked, kee, kef, keg, keh, kei, kej, kek, kel, Int.reduceEq, Int.reduceLT, Int.reduceLE, Int.reduceAdd, Int.reduceSub, Int.reduceMul, Int.reduceToNat, kem, ken, keo, kep, keq, ker, kes, ket, keu, kev, kew, kex, key, kez, kfa, kfb, kfc, kfd, kfe, kff, kfg, kfh, kfi, kfj, kfk, kfl, cutCells, kfm, kfn, kfo, kfp, kfq, kfr, kfs, kft, kfu, kfv, kfw, kfx, kfy, Nat.reduceAdd, Nat.reduceLeDiff, Nat.reduceLT, Nat.reduceMul, Nat.reduceSub, kfz, kga, kgb, kgc, kgd, kge, kgf, kgg, kgh, kgi, kgj, kgk, kgl, kgm, kgn, kgo, kgp, kgq, kgr, kgs, kgt, kgu, kgv, kgw, kgx, kgy, kgz, kha, khb, khc, khd]
  refine div_loop (K := K) (b := b) (v := n) (base := base) (out := .string (bs out)) hb (by omega) h16 (fun e sm hsm he => ?_) ⟨8, 0, by omega, rfl, by rw [mixN_all], by rw [hz2], by omega, by rw [hz, Nat.zero_mod]; exact ex_env rfl⟩
  obtain ⟨x, rfl⟩ := he
  have hr : n % base < 16 := Nat.lt_of_lt_of_le (Nat.mod_lt _ (by omega)) h16
  have hdc := digC_str _ hr
  have hol : out.length ≤ 128 := by have := congrArg List.length hdig; have h3 := digs_len base 128 a; rw [List.length_append] at this; omega
  have hadd : binV .add (.string (bs [digC (n % base)])) (.string (bs out)) = some (.string (bs (digC (n % base) :: out))) := bin_str_add (l := [digC (n % base)]) (m := out) (by simp only [List.length_cons, List.length_nil]; omega)
  by_cases h0 : n / base = 0
  · have hs : (sm : Int) = 0 := by have := hsm.2 h0; omega
    simp (disch := omega) only [kaa, kab, kac, kad, kae, kaf, kag, kah, kai, kaj, kak, kal, kam, kan, kao, khe, khf, khg, khh, khi, khj, khk, khl, kap, kaq, kar, kas, kat, kau, kav, kaw, kax, kay, kaz, kba, kbb, kbc, kbd, kbe, kbf, kbg, kbh, kbi, kbj, kbk, kbl, kbm, kbn, kbo, kbp, kbq, kbr, kbs, kbt, kbu, kbv, kbw, kbx, kby, kbz, kca, kcb, kcc, kcd, kce, kcf, kcg, kch, kci, kcj, kck, kcl, kcm, aop, kcn, kco, kcp, kcq, kcr, kcs, kct, kcu, kcv, kcw, resultsL, resultOf, kcx, Nat.reduceEqDiff, kcy, kcz, kda, reduceCtorEq, kdb, kdc, kdd, kde, kdf, kdg, kdh, kdi, kdj, kdk, kdl, kdm, kdn, kdo, eq1, kdp, kdq, kdr, kds, kdt, kdu, kdv, kdw, kdx, kdy, kdz, kea, keb, kec, apartOK, apart2, AObj.live, ked, kee, kef, keg, keh, kei, kej, kek, kel, Int.reduceEq, Int.reduceLT, Int.reduceLE, Int.reduceAdd, Int.reduceSub, Int.reduceMul, Int.reduceToNat, kem, ken, keo, kep, keq, ker, kes, ket, keu, kev, kew, kex, key, kez, kfa, kfb, kfc, kfd, kfe, kff, kfg, kfh, kfi, kfj, kfk, kfl, cutCells, kfm, kfn, kfo, kfp, kfq, kfr, kfs, kft, kfu, kfv, kfw, kfx, kfy, Nat.reduceAdd, Nat.reduceLeDiff, Nat.reduceLT, Nat.reduceMul, Nat.reduceSub, kfz, kga, kgb, kgc, kgd, kge, kgf, kgg, kgh, kgi, kgj, kgk, kgl, kgm, kgn, kgo, kgp, kgq, kgr, kgs, kgt, kgu, kgv, kgw, kgx, kgy, kgz, kha, khb, khc, khd, hs, nadd1, wr_i64, hdc, hadd]
    rw [digs_last h0] at hdig
    exact hQ _ _ (by rw [hdig]; exact ex_env rfl)
  · have hs : ¬ (sm : Int) = 0 := by intro q; exact h0 (hsm.1 (by omega))
    simp (disch := omega) only [kaa, kab, kac, kad, kae, kaf, kag, kah, kai, kaj, kak, kal, kam, kan, kao, khe, khf, khg, khh, khi, khj, khk, khl, kap, kaq, kar, kas, kat, kau, kav, kaw, kax, kay, kaz, kba, kbb, kbc, kbd, kbe, kbf, kbg, kbh, kbi, kbj, kbk, kbl, kbm, kbn, kbo, kbp, kbq, kbr, kbs, kbt, kbu, kbv, kbw, kbx, kby, kbz, kca, kcb, kcc, kcd, kce, kcf, kcg, kch, kci, kcj, kck, kcl, kcm, aop, kcn, kco, kcp, kcq, kcr, kcs, kct, kcu, kcv, kcw, resultsL, resultOf, kcx, Nat.reduceEqDiff, kcy, kcz, kda, reduceCtorEq, kdb, kdc, kdd, kde, kdf, kdg, kdh, kdi, kdj, kdk, kdl, kdm, kdn, kdo, eq1, kdp, kdq, kdr, kds, kdt, kdu, kdv, kdw, kdx, kdy, kdz, kea, keb, kec, apartOK, apart2, AObj.live, ked, kee, kef, keg, keh, kei, kej, kek, kel, Int.reduceEq, Int.reduceLT, Int.reduceLE, Int.reduceAdd, Int.reduceSub, Int.reduceMul, Int.reduceToNat, kem, ken, keo, kep, keq, ker, kes, ket, keu, kev, kew, kex, key, kez, kfa, kfb, kfc, kfd, kfe, kff, kfg, kfh, kfi, kfj, kfk, kfl, cutCells, kfm, kfn, kfo, kfp, kfq, kfr, kfs, kft, kfu, kfv, kfw, kfx, kfy, Nat.reduceAdd, Nat.reduceLeDiff, Nat.reduceLT, Nat.reduceMul, Nat.reduceSub, kfz, kga, kgb, kgc, kgd, kge, kgf, kgg, kgh, kgi, kgj, kgk, kgl, kgm, kgn, kgo, kgp, kgq, kgr, kgs, kgt, kgu, kgv, kgw, kgx, kgy, kgz, kha, khb, khc, khd, hs, nadd1, wr_i64, hdc, hadd]
    rw [digs_step h2 hv h0, List.append_assoc] at hdig
    exact ⟨n / base, Nat.div_lt_self (by rcases Nat.eq_zero_or_pos n with rfl | h; exact absurd (Nat.zero_div _) h0; exact h) (by omega), n / base, _, rfl, Nat.lt_of_le_of_lt (Nat.div_le_self _ _) hv, hdig, rfl, by exact ex_env rfl⟩

end Go.Proofs.YtedemfmafdilmaaDoor.Ev

/- The law LexNumbers: digits. -/
namespace Go.Proofs.YtedemfmafdilmaaDoor.Ev
set_option maxRecDepth 100000
set_option linter.unusedSimpArgs false
set_option linter.unusedVariables false
variable {R : FRes → Heap → Prop} {H : Heap}

set_option maxHeartbeats 4000000 in
theorem digits_s {a base : Nat} (ha : a < W64 * W64) (h2 : 2 ≤ base) (h16 : base ≤ 16) (h : R (.ret (.string (bs (digs base 128 a)))) H) :
    WD T 14 [.agg #[.int .u64 ((a / W64 : Nat) : Int), .int .u64 ((a % W64 : Nat) : Int)], .int .i64 base] H R := by
  refine WD.gc0 (WD.of follows t14 (by simp) ?_)
  simp (disch := omega) only [kaa, kab, kac, kad, kae, kaf, kag, kah, kai, kaj, kak, kal, kam, kan, kao, khe, khf, khg, khh, khi, khj, khk, khl, kap, kaq, kar, kas, kat, kau, kav, kaw, kax, kay, kaz, kba, kbb, kbc, kbd, kbe, kbf, kbg, kbh, kbi, kbj, kbk, kbl, kbm, kbn, kbo, kbp, kbq, kbr, kbs, kbt, kbu, kbv, kbw, kbx, kby, kbz, kca, kcb, kcc, kcd, kce, kcf, kcg, kch, kci, kcj, kck, kcl, kcm, aop, kcn, kco, kcp, kcq, kcr, kcs, kct, kcu, kcv, kcw, resultsL, resultOf, kcx, Nat.reduceEqDiff, kcy, kcz, kda, reduceCtorEq, kdb, kdc, kdd, kde, kdf, kdg, kdh, kdi, kdj, kdk, kdl, kdm, kdn, kdo, eq1, kdp, kdq, kdr, kds, kdt, kdu, kdv, kdw, kdx, kdy, kdz, kea, keb, kec, apartOK, apart2, AObj.live, ked, kee, kef, keg, keh, kei, kej, kek, kel, Int.reduceEq, Int.reduceLT, Int.reduceLE, Int.reduceAdd, Int.reduceSub, Int.reduceMul, Int.reduceToNat, kem, ken, keo, kep, keq, ker, kes, ket, keu, kev, kew, kex, key, kez, kfa, kfb, kfc, kfd, kfe, kff, kfg, kfh, kfi, kfj, kfk, kfl, cutCells, kfm, kfn, kfo, kfp, kfq, kfr, kfs, kft, kfu, kfv, kfw, kfx, kfy, Nat.reduceAdd, Nat.reduceLeDiff, Nat.reduceLT, Nat.reduceMul, Nat.reduceSub, kfz, kga, kgb, kgc, kgd, kge, kgf, kgg, kgh, kgi, kgj, kgk, kgl, kgm, kgn, kgo, kgp, kgq, kgr, kgs, kgt, kgu, kgv, kgw, kgx, kgy, kgz, kha, khb, khc, khd]
  refine limb_loop (H := H) (base := base) ha (fun e G k hk he => ?_) ⟨[.row [.int .u64 ((a / W64 : Nat) : Int), .int .u64 ((a % W64 : Nat) : Int)] 0 true], 0, .slice none 0 0, by omega, rfl, rfl, rfl, .inl ⟨rfl, rfl⟩, by exact ex_env rfl⟩
  obtain ⟨x, rfl⟩ := he
  have hkG : k < G.length := hget_lt hk rfl
  simp (disch := omega) only [kaa, kab, kac, kad, kae, kaf, kag, kah, kai, kaj, kak, kal, kam, kan, kao, khe, khf, khg, khh, khi, khj, khk, khl, kap, kaq, kar, kas, kat, kau, kav, kaw, kax, kay, kaz, kba, kbb, kbc, kbd, kbe, kbf, kbg, kbh, kbi, kbj, kbk, kbl, kbm, kbn, kbo, kbp, kbq, kbr, kbs, kbt, kbu, kbv, kbw, kbx, kby, kbz, kca, kcb, kcc, kcd, kce, kcf, kcg, kch, kci, kcj, kck, kcl, kcm, aop, kcn, kco, kcp, kcq, kcr, kcs, kct, kcu, kcv, kcw, resultsL, resultOf, kcx, Nat.reduceEqDiff, kcy, kcz, kda, reduceCtorEq, kdb, kdc, kdd, kde, kdf, kdg, kdh, kdi, kdj, kdk, kdl, kdm, kdn, kdo, eq1, kdp, kdq, kdr, kds, kdt, kdu, kdv, kdw, kdx, kdy, kdz, kea, keb, kec, apartOK, apart2, AObj.live, ked, kee, kef, keg, keh, kei, kej, kek, kel, Int.reduceEq, Int.reduceLT, Int.reduceLE, Int.reduceAdd, Int.reduceSub, Int.reduceMul, Int.reduceToNat, kem, ken, keo, kep, keq, ker, kes, ket, keu, kev, kew, kex, key, kez, kfa, kfb, kfc, kfd, kfe, kff, kfg, kfh, kfi, kfj, kfk, kfl, cutCells, kfm, kfn, kfo, kfp, kfq, kfr, kfs, kft, kfu, kfv, kfw, kfx, kfy, Nat.reduceAdd, Nat.reduceLeDiff, Nat.reduceLT, Nat.reduceMul, Nat.reduceSub, kfz, kga, kgb, kgc, kgd, kge, kgf, kgg, kgh, kgi, kgj, kgk, kgl, kgm, kgn, kgo, kgp, kgq, kgr, kgs, kgt, kgu, kgv, kgw, kgx, kgy, kgz, kha, khb, khc, khd]
  refine dig_loop (K := H ++ G) (b := H.length + k) (a := a) (base := base) (by rw [List.length_append]; omega) h2 h16 (fun e o he => ?_) ⟨a, [], rfl, ha, by simp, ?_, by exact ex_env rfl⟩
  · obtain ⟨x, rfl⟩ := he
    simp (disch := omega) only [kaa, kab, kac, kad, kae, kaf, kag, kah, kai, kaj, kak, kal, kam, kan, kao, khe, khf, khg, khh, khi, khj, khk, khl, kap, kaq, kar, kas, kat, kau, kav, kaw, kax, kay, kaz, kba, kbb, kbc, kbd, kbe, kbf, kbg, kbh, kbi, kbj, kbk, kbl, kbm, kbn, kbo, kbp, kbq, kbr, kbs, kbt, kbu, kbv, kbw, kbx, kby, kbz, kca, kcb, kcc, kcd, kce, kcf, kcg, kch, kci, kcj, kck, kcl, kcm, aop, kcn, kco, kcp, kcq, kcr, kcs, kct, kcu, kcv, kcw, resultsL, resultOf, kcx, Nat.reduceEqDiff, kcy, kcz, kda, reduceCtorEq, kdb, kdc, kdd, kde, kdf, kdg, kdh, kdi, kdj, kdk, kdl, kdm, kdn, kdo, eq1, kdp, kdq, kdr, kds, kdt, kdu, kdv, kdw, kdx, kdy, kdz, kea, keb, kec, apartOK, apart2, AObj.live, ked, kee, kef, keg, keh, kei, kej, kek, kel, Int.reduceEq, Int.reduceLT, Int.reduceLE, Int.reduceAdd, Int.reduceSub, Int.reduceMul, Int.reduceToNat, kem, ken, keo, kep, keq, ker, kes, ket, keu, kev, kew, kex, key, kez, kfa, kfb, kfc, kfd, kfe, kff, kfg, kfh, kfi, kfj, kfk, kfl, cutCells, kfm, kfn, kfo, kfp, kfq, kfr, kfs, kft, kfu, kfv, kfw, kfx, kfy, Nat.reduceAdd, Nat.reduceLeDiff, Nat.reduceLT, Nat.reduceMul, Nat.reduceSub, kfz, kga, kgb, kgc, kgd, kge, kgf, kgg, kgh, kgi, kgj, kgk, kgl, kgm, kgn, kgo, kgp, kgq, kgr, kgs, kgt, kgu, kgv, kgw, kgx, kgy, kgz, kha, khb, khc, khd]
    exact ⟨_, rfl, ⟨G.set k o, rfl⟩, .closed rfl, h⟩
  · rw [set_self (by rw [hget_base]; exact hk)]

end Go.Proofs.YtedemfmafdilmaaDoor.Ev

/- The law LexNumbers: the capitals. -/
namespace Go.Proofs.YtedemfmafdilmaaDoor.Ev
set_option maxRecDepth 100000
set_option linter.unusedSimpArgs false
set_option linter.unusedVariables false
variable {R : FRes → Heap → Prop} {H : Heap}

def u8c (b : UInt8) : Value := .int .u8 (b.toNat : Int)

def capI (K : Heap) (hb s6 s7 s8 s5 p : Value) (six : List UInt8) : Nat → Env → Heap → Prop := fun n e H' =>
  ∃ (G : Heap) (i : Nat) (s9 : Value), i ≤ six.length ∧ n = six.length - i ∧ H' = K ++ G ∧ SL G K.length s9 1 ((six.take i).map fun c => u8c (upC c)) ∧
    (∃ x : Nat → Value, e = [x 0, hb, p, x 3, x 4, s5, s6, .string (bs six), s8, s9, .int .i64 i, x 11, x 12, x 13, x 14, x 15, x 16, x 17, x 18, x 19, x 20, x 21, x 22, x 23, x 24, x 25, x 26, x 27, x 28, x 29, x 30, x 31, x 32, x 33, x 34, x 35, x 36, x 37, x 38, x 39, x 40, x 41, x 42, x 43, x 44, x 45, x 46, x 47, x 48, x 49, x 50, x 51, x 52, x 53, x 54, x 55, x 56, x 57, x 58, x 59, x 60, x 61, x 62, x 63, x 64, x 65, x 66, x 67, x 68, x 69, x 70, x 71, x 72, x 73, x 74, x 75, x 76, x 77, x 78, x 79, x 80, x 81, x 82, x 83, x 84, x 85, x 86, x 87, x 88, x 89, x 90, x 91, x 92, x 93, x 94, x 95, x 96, x 97, x 98, x 99, x 100, x 101, x 102, x 103, x 104, x 105, x 106, x 107, x 108, x 109, x 110, x 111, x 112, x 113, x 114, x 115, x 116, x 117, x 118, x 119, x 120, x 121, x 122, x 123, x 124, x 125, x 126, x 127, x 128, x 129, x 130, x 131, x 132, x 133, x 134, x 135, x 136, x 137, x 138, x 139])

set_option maxHeartbeats 4000000 in
theorem cap_loop {K : Heap} {hb s6 s7 s8 s5 p : Value} {six : List UInt8} (hne : six ≠ []) (hl : six.length ≤ 1000) (hs : ∀ b ∈ six, b.toNat < 123) {Q : Post}
    (hQ : ∀ e G k, hget G k = .row (six.map fun c => u8c (upC c)) 1 true → (∃ x : Nat → Value, e = [x 0, hb, p, x 3, x 4, s5, s6, .string (bs six), s8, .slice (some ⟨K.length + k, 0, none⟩) six.length six.length, x 10, x 11, x 12, x 13, x 14, x 15, x 16, x 17, x 18, x 19, x 20, x 21, x 22, x 23, x 24, x 25, x 26, x 27, x 28, x 29, x 30, x 31, x 32, x 33, x 34, x 35, x 36, x 37, x 38, x 39, x 40, x 41, x 42, x 43, x 44, x 45, x 46, x 47, x 48, x 49, x 50, x 51, x 52, x 53, x 54, x 55, x 56, x 57, x 58, x 59, x 60, x 61, x 62, x 63, x 64, x 65, x 66, x 67, x 68, x 69, x 70, x 71, x 72, x 73, x 74, x 75, x 76, x 77, x 78, x 79, x 80, x 81, x 82, x 83, x 84, x 85, x 86, x 87, x 88, x 89, x 90, x 91, x 92, x 93, x 94, x 95, x 96, x 97, x 98, x 99, x 100, x 101, x 102, x 103, x 104, x 105, x 106, x 107, x 108, x 109, x 110, x 111, x 112, x 113, x 114, x 115, x 116, x 117, x 118, x 119, x 120, x 121, x 122, x 123, x 124, x 125, x 126, x 127, x 128, x 129, x 130, x 131, x 132, x 133, x 134, x 135, x 136, x 137, x 138, x 139]) → Q (.exit 0) e (K ++ G))
    {e : Env} {H1 : Heap} (hI : capI K hb s6 s7 s8 s5 p six six.length e H1) : WLoop T (g6.body.at [1, 1, 1, 1, 1, 1, 0, 1, 0, 0]) e H1 Q := by
  refine WLoop.inv (capI K hb s6 s7 s8 s5 p six) ?_ _ _ _ hI
  rintro n e K1 ⟨G, i, s9, k1, hnn, rfl, hsl, ⟨x, rfl⟩⟩
  simp only [AFunc.body, g6, ACode.at]
  subst hnn
  by_cases hi : i < six.length
  · have hi' : (i : Int) < six.length := by omega
    have hli : six[i]? = some six[i] := List.getElem?_eq_getElem hi
    by_cases h97 : 97 ≤ (six[i].toNat : Int)
    · have hlt := hs six[i] (List.getElem_mem hi)
      have hwv : IntKind.u8.wrap ((six[i].toNat : Int) - 32) = ((upC six[i]).toNat : Int) := by
        rw [upC, if_pos (by omega), UInt8.toNat_sub_of_le six[i] 32 (UInt8.le_iff_toNat_le.mpr (show 32 ≤ six[i].toNat by omega)), wr_u8 (by omega) (by omega)]
        have : (32 : UInt8).toNat = 32 := rfl
        omega
      have hcat : ((six.take (i + 1)).map fun c => u8c (upC c)) = ((six.take i).map fun c => u8c (upC c)) ++ [.int .u8 ((upC six[i]).toNat : Int)] := by
        rw [List.take_add_one, hli, Option.toList_some, List.map_append]; rfl
      rcases hsl with ⟨rfl, hcs⟩ | ⟨k, l, rfl, hk, hkl, hl0⟩
      · have ha := append_nil (K := K ++ (G ++ [.row [.int .u8 ((upC six[i]).toNat : Int)] 1 true])) (bx := K.length + G.length) (unit := 1) (bytes := 1) (xs := [.int .u8 ((upC six[i]).toNat : Int)]) (u2 := 1) (w2 := true) (by rw [hget_base, hget_base0]; rfl) rfl (by decide)
        simp (disch := omega) only [kaa, kab, kac, kad, kae, kaf, kag, kah, kai, kaj, kak, kal, kam, kan, kao, khe, khf, khg, khh, khi, khj, khk, khl, kap, kaq, kar, kas, kat, kau, kav, kaw, kax, kay, kaz, kba, kbb, kbc, kbd, kbe, kbf, kbg, kbh, kbi, kbj, kbk, kbl, kbm, kbn, kbo, kbp, kbq, kbr, kbs, kbt, kbu, kbv, kbw, kbx, kby, kbz, kca, kcb, kcc, kcd, kce, kcf, kcg, kch, kci, kcj, kck, kcl, kcm, aop, kcn, kco, kcp, kcq, kcr, kcs, kct, kcu, kcv, kcw, resultsL, resultOf, kcx, Nat.reduceEqDiff, kcy, kcz, kda, reduceCtorEq, kdb, kdc, kdd, kde, kdf, kdg, kdh, kdi, kdj, kdk, kdl, kdm, kdn, kdo, eq1, kdp, kdq, kdr, kds, kdt, kdu, kdv, kdw, kdx, kdy, kdz, kea, keb, kec, apartOK, apart2, AObj.live, ked, kee, kef, keg, keh, kei, kej, kek, kel, Int.reduceEq, Int.reduceLT, Int.reduceLE, Int.reduceAdd, Int.reduceSub, Int.reduceMul, Int.reduceToNat, kem, ken, keo, kep, keq, ker, kes, ket, keu, kev, kew, kex, key, kez, kfa, kfb, kfc, kfd, kfe, kff, kfg, kfh, kfi, kfj, kfk, kfl, cutCells, kfm, kfn, kfo, kfp, kfq, kfr, kfs, kft, kfu, kfv, kfw, kfx, kfy, Nat.reduceAdd, Nat.reduceLeDiff, Nat.reduceLT, Nat.reduceMul, Nat.reduceSub, kfz, kga, kgb, kgc, kgd, kge, kgf, kgg, kgh, kgi, kgj, kgk, kgl, kgm, kgn, kgo, kgp, kgq, kgr, kgs, kgt, kgu, kgv, kgw, kgx, kgy, kgz, kha, khb, khc, khd, hi', hli, h97, hwv, ha, nadd1, wr_i64]
        refine ⟨six.length - (i + 1), by omega, _, i + 1, _, by omega, rfl, rfl, .inr ⟨G.length + 1, 1, rfl, ?_, by have h9 := congrArg List.length hcs; rw [List.length_map, List.length_take] at h9 ⊢; simp only [List.length_nil] at h9; omega, by omega⟩, by exact ex_env rfl⟩
        rw [hcat, hcs]
        simp (disch := omega) only [kaa, kab, kac, kad, kae, kaf, kag, kah, kai, kaj, kak, kal, kam, kan, kao, khe, khf, khg, khh, khi, khj, khk, khl, kap, kaq, kar, kas, kat, kau, kav, kaw, kax, kay, kaz, kba, kbb, kbc, kbd, kbe, kbf, kbg, kbh, kbi, kbj, kbk, kbl, kbm, kbn, kbo, kbp, kbq, kbr, kbs, kbt, kbu, kbv, kbw, kbx, kby, kbz, kca, kcb, kcc, kcd, kce, kcf, kcg, kch, kci, kcj, kck, kcl, kcm, aop, kcn, kco, kcp, kcq, kcr, kcs, kct, kcu, kcv, kcw, resultsL, resultOf, kcx, Nat.reduceEqDiff, kcy, kcz, kda, reduceCtorEq, kdb, kdc, kdd, kde, kdf, kdg, kdh, kdi, kdj, kdk, kdl, kdm, kdn, kdo, eq1, kdp, kdq, kdr, kds, kdt, kdu, kdv, kdw, kdx, kdy, kdz, kea, keb, kec, apartOK, apart2, AObj.live, ked, kee, kef, keg, keh, kei, kej, kek, kel, Int.reduceEq, Int.reduceLT, Int.reduceLE, Int.reduceAdd, Int.reduceSub, Int.reduceMul, Int.reduceToNat, kem, ken, keo, kep, keq, ker, kes, ket, keu, kev, kew, kex, key, kez, kfa, kfb, kfc, kfd, kfe, kff, kfg, kfh, kfi, kfj, kfk, kfl, cutCells, kfm, kfn, kfo, kfp, kfq, kfr, kfs, kft, kfu, kfv, kfw, kfx, kfy, Nat.reduceAdd, Nat.reduceLeDiff, Nat.reduceLT, Nat.reduceMul, Nat.reduceSub, kfz, kga, kgb, kgc, kgd, kge, kgf, kgg, kgh, kgi, kgj, kgk, kgl, kgm, kgn, kgo, kgp, kgq, kgr, kgs, kgt, kgu, kgv, kgw, kgx, kgy, kgz, kha, khb, khc, khd]
      · have hkl2 : l = i := by simp at hkl; omega
        have ha := append_one (K := K ++ (G ++ [.row [.int .u8 ((upC six[i]).toNat : Int)] 1 true])) (b := K.length + k) (bx := K.length + G.length) (l := l) (unit := 1) (bytes := 1) (cells := (six.take i).map fun c => u8c (upC c)) (xs := [.int .u8 ((upC six[i]).toNat : Int)]) (u2 := 1) (w2 := true) (by rw [hget_base, hget_old (hget_lt hk rfl)]; exact hk) hkl (by rw [hget_base, hget_base0]; rfl) rfl rfl (by simp only [roomMax]; omega)
        have hkG : k < G.length := hget_lt hk rfl
        simp (disch := omega) only [kaa, kab, kac, kad, kae, kaf, kag, kah, kai, kaj, kak, kal, kam, kan, kao, khe, khf, khg, khh, khi, khj, khk, khl, kap, kaq, kar, kas, kat, kau, kav, kaw, kax, kay, kaz, kba, kbb, kbc, kbd, kbe, kbf, kbg, kbh, kbi, kbj, kbk, kbl, kbm, kbn, kbo, kbp, kbq, kbr, kbs, kbt, kbu, kbv, kbw, kbx, kby, kbz, kca, kcb, kcc, kcd, kce, kcf, kcg, kch, kci, kcj, kck, kcl, kcm, aop, kcn, kco, kcp, kcq, kcr, kcs, kct, kcu, kcv, kcw, resultsL, resultOf, kcx, Nat.reduceEqDiff, kcy, kcz, kda, reduceCtorEq, kdb, kdc, kdd, kde, kdf, kdg, kdh, kdi, kdj, kdk, kdl, kdm, kdn, kdo, eq1, kdp, kdq, kdr, kds, kdt, kdu, kdv, kdw, kdx, kdy, kdz, kea, keb, kec, apartOK, apart2, AObj.live, ked, kee, kef, keg, keh, kei, kej, kek, kel, Int.reduceEq, Int.reduceLT, Int.reduceLE, Int.reduceAdd, Int.reduceSub, Int.reduceMul, Int.reduceToNat, kem, ken, keo, kep, keq, ker, kes, ket, keu, kev, kew, kex, key, kez, kfa, kfb, kfc, kfd, kfe, kff, kfg, kfh, kfi, kfj, kfk, kfl, cutCells, kfm, kfn, kfo, kfp, kfq, kfr, kfs, kft, kfu, kfv, kfw, kfx, kfy, Nat.reduceAdd, Nat.reduceLeDiff, Nat.reduceLT, Nat.reduceMul, Nat.reduceSub, kfz, kga, kgb, kgc, kgd, kge, kgf, kgg, kgh, kgi, kgj, kgk, kgl, kgm, kgn, kgo, kgp, kgq, kgr, kgs, kgt, kgu, kgv, kgw, kgx, kgy, kgz, kha, khb, khc, khd, hi', hli, h97, hwv, ha, nadd1, wr_i64]
        refine ⟨six.length - (i + 1), by omega, _, i + 1, _, by omega, rfl, rfl, .inr ⟨G.length + 1, l + 1, rfl, ?_, by simp; omega, by omega⟩, by exact ex_env rfl⟩
        rw [hcat]
        simp (disch := omega) only [kaa, kab, kac, kad, kae, kaf, kag, kah, kai, kaj, kak, kal, kam, kan, kao, khe, khf, khg, khh, khi, khj, khk, khl, kap, kaq, kar, kas, kat, kau, kav, kaw, kax, kay, kaz, kba, kbb, kbc, kbd, kbe, kbf, kbg, kbh, kbi, kbj, kbk, kbl, kbm, kbn, kbo, kbp, kbq, kbr, kbs, kbt, kbu, kbv, kbw, kbx, kby, kbz, kca, kcb, kcc, kcd, kce, kcf, kcg, kch, kci, kcj, kck, kcl, kcm, aop, kcn, kco, kcp, kcq, kcr, kcs, kct, kcu, kcv, kcw, resultsL, resultOf, kcx, Nat.reduceEqDiff, kcy, kcz, kda, reduceCtorEq, kdb, kdc, kdd, kde, kdf, kdg, kdh, kdi, kdj, kdk, kdl, kdm, kdn, kdo, eq1, kdp, kdq, kdr, kds, kdt, kdu, kdv, kdw, kdx, kdy, kdz, kea, keb, kec, apartOK, apart2, AObj.live, ked, kee, kef, keg, keh, kei, kej, kek, kel, Int.reduceEq, Int.reduceLT, Int.reduceLE, Int.reduceAdd, Int.reduceSub, Int.reduceMul, Int.reduceToNat, kem, ken, keo, kep, keq, ker, kes, ket, keu, kev, kew, kex, key, kez, kfa, kfb, kfc, kfd, kfe, kff, kfg, kfh, kfi, kfj, kfk, kfl, cutCells, kfm, kfn, kfo, kfp, kfq, kfr, kfs, kft, kfu, kfv, kfw, kfx, kfy, Nat.reduceAdd, Nat.reduceLeDiff, Nat.reduceLT, Nat.reduceMul, Nat.reduceSub, kfz, kga, kgb, kgc, kgd, kge, kgf, kgg, kgh, kgi, kgj, kgk, kgl, kgm, kgn, kgo, kgp, kgq, kgr, kgs, kgt, kgu, kgv, kgw, kgx, kgy, kgz, kha, khb, khc, khd]
    · have hwv : upC six[i] = six[i] := by rw [upC, if_neg (by omega)]
      have hcat : ((six.take (i + 1)).map fun c => u8c (upC c)) = ((six.take i).map fun c => u8c (upC c)) ++ [.int .u8 (six[i].toNat : Int)] := by
        rw [List.take_add_one, hli, Option.toList_some, List.map_append, List.map_singleton, u8c, hwv]
      rcases hsl with ⟨rfl, hcs⟩ | ⟨k, l, rfl, hk, hkl, hl0⟩
      · have ha := append_nil (K := K ++ (G ++ [.row [.int .u8 (six[i].toNat : Int)] 1 true])) (bx := K.length + G.length) (unit := 1) (bytes := 1) (xs := [.int .u8 (six[i].toNat : Int)]) (u2 := 1) (w2 := true) (by rw [hget_base, hget_base0]; rfl) rfl (by decide)
        simp (disch := omega) only [kaa, kab, kac, kad, kae, kaf, kag, kah, kai, kaj, kak, kal, kam, kan, kao, khe, khf, khg, khh, khi, khj, khk, khl, kap, kaq, kar, kas, kat, kau, kav, kaw, kax, kay, kaz, kba, kbb, kbc, kbd, kbe, kbf, kbg, kbh, kbi, kbj, kbk, kbl, kbm, kbn, kbo, kbp, kbq, kbr, kbs, kbt, kbu, kbv, kbw, kbx, kby, kbz, kca, kcb, kcc, kcd, kce, kcf, kcg, kch, kci, kcj, kck, kcl, kcm, aop, kcn, kco, kcp, kcq, kcr, kcs, kct, kcu, kcv, kcw, resultsL, resultOf, kcx, Nat.reduceEqDiff, kcy, kcz, kda, reduceCtorEq, kdb, kdc, kdd, kde, kdf, kdg, kdh, kdi, kdj, kdk, kdl, kdm, kdn, kdo, eq1, kdp, kdq, kdr, kds, kdt, kdu, kdv, kdw, kdx, kdy, kdz, kea, keb, kec, apartOK, apart2, AObj.live, ked, kee, kef, keg, keh, kei, kej, kek, kel, Int.reduceEq, Int.reduceLT, Int.reduceLE, Int.reduceAdd, Int.reduceSub, Int.reduceMul, Int.reduceToNat, kem, ken, keo, kep, keq, ker, kes, ket, keu, kev, kew, kex, key, kez, kfa, kfb, kfc, kfd, kfe, kff, kfg, kfh, kfi, kfj, kfk, kfl, cutCells, kfm, kfn, kfo, kfp, kfq, kfr, kfs, kft, kfu, kfv, kfw, kfx, kfy, Nat.reduceAdd, Nat.reduceLeDiff, Nat.reduceLT, Nat.reduceMul, Nat.reduceSub, kfz, kga, kgb, kgc, kgd, kge, kgf, kgg, kgh, kgi, kgj, kgk, kgl, kgm, kgn, kgo, kgp, kgq, kgr, kgs, kgt, kgu, kgv, kgw, kgx, kgy, kgz, kha, khb, khc, khd, hi', hli, h97, hwv, ha, nadd1, wr_i64]
        refine ⟨six.length - (i + 1), by omega, _, i + 1, _, by omega, rfl, rfl, .inr ⟨G.length + 1, 1, rfl, ?_, by have h9 := congrArg List.length hcs; rw [List.length_map, List.length_take] at h9 ⊢; simp only [List.length_nil] at h9; omega, by omega⟩, by exact ex_env rfl⟩
        rw [hcat, hcs]
        simp (disch := omega) only [kaa, kab, kac, kad, kae, kaf, kag, kah, kai, kaj, kak, kal, kam, kan, kao, khe, khf, khg, khh, khi, khj, khk, khl, kap, kaq, kar, kas, kat, kau, kav, kaw, kax, kay, kaz, kba, kbb, kbc, kbd, kbe, kbf, kbg, kbh, kbi, kbj, kbk, kbl, kbm, kbn, kbo, kbp, kbq, kbr, kbs, kbt, kbu, kbv, kbw, kbx, kby, kbz, kca, kcb, kcc, kcd, kce, kcf, kcg, kch, kci, kcj, kck, kcl, kcm, aop, kcn, kco, kcp, kcq, kcr, kcs, kct, kcu, kcv, kcw, resultsL, resultOf, kcx, Nat.reduceEqDiff, kcy, kcz, kda, reduceCtorEq, kdb, kdc, kdd, kde, kdf, kdg, kdh, kdi, kdj, kdk, kdl, kdm, kdn, kdo, eq1, kdp, kdq, kdr, kds, kdt, kdu, kdv, kdw, kdx, kdy, kdz, kea, keb, kec, apartOK, apart2, AObj.live, ked, kee, kef, keg, keh, kei, kej, kek, kel, Int.reduceEq, Int.reduceLT, Int.reduceLE, Int.reduceAdd, Int.reduceSub, Int.reduceMul, Int.reduceToNat, kem, ken, keo, kep, keq, ker, kes, ket, keu, kev, kew, kex, key, kez, kfa, kfb, kfc, kfd, kfe, kff, kfg, kfh, kfi, kfj, kfk, kfl, cutCells, kfm, kfn, kfo, kfp, kfq, kfr, kfs, kft, kfu, kfv, kfw, kfx, kfy, Nat.reduceAdd, Nat.reduceLeDiff, Nat.reduceLT, Nat.reduceMul, Nat.reduceSub, kfz, kga, kgb, kgc, kgd, kge, kgf, kgg, kgh, kgi, kgj, kgk, kgl, kgm, kgn, kgo, kgp, kgq, kgr, kgs, kgt, kgu, kgv, kgw, kgx, kgy, kgz, kha, khb, khc, khd]
      · have hkl2 : l = i := by simp at hkl; omega
        have ha := append_one (K := K ++ (G ++ [.row [.int .u8 (six[i].toNat : Int)] 1 true])) (b := K.length + k) (bx := K.length + G.length) (l := l) (unit := 1) (bytes := 1) (cells := (six.take i).map fun c => u8c (upC c)) (xs := [.int .u8 (six[i].toNat : Int)]) (u2 := 1) (w2 := true) (by rw [hget_base, hget_old (hget_lt hk rfl)]; exact hk) hkl (by rw [hget_base, hget_base0]; rfl) rfl rfl (by simp only [roomMax]; omega)
        have hkG : k < G.length := hget_lt hk rfl
        simp (disch := omega) only [kaa, kab, kac, kad, kae, kaf, kag, kah, kai, kaj, kak, kal, kam, kan, kao, khe, khf, khg, khh, khi, khj, khk, khl, kap, kaq, kar, kas, kat, kau, kav, kaw, kax, kay, kaz, kba, kbb, kbc, kbd, kbe, kbf, kbg, kbh, kbi, kbj, kbk, kbl, kbm, kbn, kbo, kbp, kbq, kbr, kbs, kbt, kbu, kbv, kbw, kbx, kby, kbz, kca, kcb, kcc, kcd, kce, kcf, kcg, kch, kci, kcj, kck, kcl, kcm, aop, kcn, kco, kcp, kcq, kcr, kcs, kct, kcu, kcv, kcw, resultsL, resultOf, kcx, Nat.reduceEqDiff, kcy, kcz, kda, reduceCtorEq, kdb, kdc, kdd, kde, kdf, kdg, kdh, kdi, kdj, kdk, kdl, kdm, kdn, kdo, eq1, kdp, kdq, kdr, kds, kdt, kdu, kdv, kdw, kdx, kdy, kdz, kea, keb, kec, apartOK, apart2, AObj.live, ked, kee, kef, keg, keh, kei, kej, kek, kel, Int.reduceEq, Int.reduceLT, Int.reduceLE, Int.reduceAdd, Int.reduceSub, Int.reduceMul, Int.reduceToNat, kem, ken, keo, kep, keq, ker, kes, ket, keu, kev, kew, kex, key, kez, kfa, kfb, kfc, kfd, kfe, kff, kfg, kfh, kfi, kfj, kfk, kfl, cutCells, kfm, kfn, kfo, kfp, kfq, kfr, kfs, kft, kfu, kfv, kfw, kfx, kfy, Nat.reduceAdd, Nat.reduceLeDiff, Nat.reduceLT, Nat.reduceMul, Nat.reduceSub, kfz, kga, kgb, kgc, kgd, kge, kgf, kgg, kgh, kgi, kgj, kgk, kgl, kgm, kgn, kgo, kgp, kgq, kgr, kgs, kgt, kgu, kgv, kgw, kgx, kgy, kgz, kha, khb, khc, khd, hi', hli, h97, hwv, ha, nadd1, wr_i64]
        refine ⟨six.length - (i + 1), by omega, _, i + 1, _, by omega, rfl, rfl, .inr ⟨G.length + 1, l + 1, rfl, ?_, by simp; omega, by omega⟩, by exact ex_env rfl⟩
        rw [hcat]
        simp (disch := omega) only [kaa, kab, kac, kad, kae, kaf, kag, kah, kai, kaj, kak, kal, kam, kan, kao, khe, khf, khg, khh, khi, khj, khk, khl, kap, kaq, kar, kas, kat, kau, kav, kaw, kax, kay, kaz, kba, kbb, kbc, kbd, kbe, kbf, kbg, kbh, kbi, kbj, kbk, kbl, kbm, kbn, kbo, kbp, kbq, kbr, kbs, kbt, kbu, kbv, kbw, kbx, kby, kbz, kca, kcb, kcc, kcd, kce, kcf, kcg, kch, kci, kcj, kck, kcl, kcm, aop, kcn, kco, kcp, kcq, kcr, kcs, kct, kcu, kcv, kcw, resultsL, resultOf, kcx, Nat.reduceEqDiff, kcy, kcz, kda, reduceCtorEq, kdb, kdc, kdd, kde, kdf, kdg, kdh, kdi, kdj, kdk, kdl, kdm, kdn, kdo, eq1, kdp, kdq, kdr, kds, kdt, kdu, kdv, kdw, kdx, kdy, kdz, kea, keb, kec, apartOK, apart2, AObj.live, ked, kee, kef, keg, keh, kei, kej, kek, kel, Int.reduceEq, Int.reduceLT, Int.reduceLE, Int.reduceAdd, Int.reduceSub, Int.reduceMul, Int.reduceToNat, kem, ken, keo, kep, keq, ker, kes, ket, keu, kev, kew, kex, key, kez, kfa, kfb, kfc, kfd, kfe, kff, kfg, kfh, kfi, kfj, kfk, kfl, cutCells, kfm, kfn, kfo, kfp, kfq, kfr, kfs, kft, kfu, kfv, kfw, kfx, kfy, Nat.reduceAdd, Nat.reduceLeDiff, Nat.reduceLT, Nat.reduceMul, Nat.reduceSub, kfz, kga, kgb, kgc, kgd, kge, kgf, kgg, kgh, kgi, kgj, kgk, kgl, kgm, kgn, kgo, kgp, kgq, kgr, kgs, kgt, kgu, kgv, kgw, kgx, kgy, kgz, kha, khb, khc, khd]
  · have hi' : ¬ (i : Int) < six.length := by omega
    obtain rfl : i = six.length := by omega
    rw [List.take_length] at hsl
    rcases hsl with ⟨rfl, hcs⟩ | ⟨k, l, rfl, hk, hkl, hl0⟩
    · exact absurd (List.map_eq_nil_iff.1 hcs) hne
    · obtain rfl : l = six.length := by simp at hkl; omega
      simp (disch := omega) only [kaa, kab, kac, kad, kae, kaf, kag, kah, kai, kaj, kak, kal, kam, kan, kao, khe, khf, khg, khh, khi, khj, khk, khl, kap, kaq, kar, kas, kat, kau, kav, kaw, kax, kay, kaz, kba, kbb, kbc, kbd, kbe, kbf, kbg, kbh, kbi, kbj, kbk, kbl, kbm, kbn, kbo, kbp, kbq, kbr, kbs, kbt, kbu, kbv, kbw, kbx, kby, kbz, kca, kcb, kcc, kcd, kce, kcf, kcg, kch, kci, kcj, kck, kcl, kcm, aop, kcn, kco, kcp, kcq, kcr, kcs, kct, kcu, kcv, kcw, resultsL, resultOf, kcx, Nat.reduceEqDiff, kcy, kcz, kda, reduceCtorEq, kdb, kdc, kdd, kde, kdf, kdg, kdh, kdi, kdj, kdk, kdl, kdm, kdn, kdo, eq1, kdp, kdq, kdr, kds, kdt, kdu, kdv, kdw, kdx, kdy, kdz, kea, keb, kec, apartOK, apart2, AObj.live, ked, kee, kef, keg, keh, kei, kej, kek, kel, Int.reduceEq, Int.reduceLT, Int.reduceLE, Int.reduceAdd, Int.reduceSub, Int.reduceMul, Int.reduceToNat, kem, ken, keo, kep, keq, ker, kes, ket, keu, kev, kew, kex, key, kez, kfa, kfb, kfc, kfd, kfe, kff, kfg, kfh, kfi, kfj, kfk, kfl, cutCells, kfm, kfn, kfo, kfp, kfq, kfr, kfs, kft, kfu, kfv, kfw, kfx, kfy, Nat.reduceAdd, Nat.reduceLeDiff, Nat.reduceLT, Nat.reduceMul, Nat.reduceSub, kfz, kga, kgb, kgc, kgd, kge, kgf, kgg, kgh, kgi, kgj, kgk, kgl, kgm, kgn, kgo, kgp, kgq, kgr, kgs, kgt, kgu, kgv, kgw, kgx, kgy, kgz, kha, khb, khc, khd, hi']
      exact hQ _ _ _ hk (by exact ex_env rfl)

end Go.Proofs.YtedemfmafdilmaaDoor.Ev

/- The law LexNumbers: the walk. -/
namespace Go.Proofs.YtedemfmafdilmaaDoor.Ev
set_option maxRecDepth 100000
set_option linter.unusedSimpArgs false
set_option linter.unusedVariables false
variable {R : FRes → Heap → Prop} {H : Heap}

theorem bytes_u8 : ∀ l : List UInt8, bytesOf (l.map u8c) = some l
  | [] => rfl
  | b :: l => by
    rw [List.map_cons, u8c, bytesOf, bytes_u8 l]
    simp

theorem six_lt {a : Nat} : ∀ b ∈ digs 16 128 a, b.toNat < 123 := fun b hb => by
  obtain ⟨d, hd, rfl⟩ := digs_mem (base := 16) (by decide) 128 a b hb
  exact (by decide : ∀ d, d < 16 → (digC d).toNat < 123) d hd

def valI (K : Heap) (e1 e2 e6 e7 e8 e12 : Value) : Nat → Env → Heap → Prop := fun n e H' =>
  ∃ i : Nat, i ≤ 4 ∧ n = 4 - i ∧ H' = K ∧ (∃ x : Nat → Value, e = [x 0, e1, e2, x 3, x 4, x 5, e6, e7, e8, x 9, x 10, x 11, e12, x 13, .int .i64 i, x 15, x 16, x 17, x 18, x 19, x 20, x 21, x 22, x 23, x 24, x 25, x 26, x 27, x 28, x 29, x 30, x 31, x 32, x 33, x 34, x 35, x 36, x 37, x 38, x 39, x 40, x 41, x 42, x 43, x 44, x 45, x 46, x 47, x 48, x 49, x 50, x 51, x 52, x 53, x 54, x 55, x 56, x 57, x 58, x 59, x 60, x 61, x 62, x 63, x 64, x 65, x 66, x 67, x 68, x 69, x 70, x 71, x 72, x 73, x 74, x 75, x 76, x 77, x 78, x 79, x 80, x 81, x 82, x 83, x 84, x 85, x 86, x 87, x 88, x 89, x 90, x 91, x 92, x 93, x 94, x 95, x 96, x 97, x 98, x 99, x 100, x 101, x 102, x 103, x 104, x 105, x 106, x 107, x 108, x 109, x 110, x 111, x 112, x 113, x 114, x 115, x 116, x 117, x 118, x 119, x 120, x 121, x 122, x 123, x 124, x 125, x 126, x 127, x 128, x 129, x 130, x 131, x 132, x 133, x 134, x 135, x 136, x 137, x 138, x 139])

set_option maxHeartbeats 4000000 in
theorem val_loop {K : Heap} {b m : Nat} {a : Nat} {ts : List Tk} (hts : ts.length = 4) (hall : ∀ t ∈ ts, t.kind = 3 ∧ t.val = a) (hb : hget K b = .row (ts.map Tk.cells).flatten 6 true)
    (hm : hget K m = .row [.int .u64 ((a / W64 : Nat) : Int), .int .u64 ((a % W64 : Nat) : Int)] 0 true) {e1 e6 e7 e8 : Value} {Q : Post}
    (hQ : ∀ e, (∃ x : Nat → Value, e = [x 0, e1, x 2, x 3, x 4, x 5, e6, e7, e8, x 9, x 10, x 11, x 12, x 13, x 14, x 15, x 16, x 17, x 18, x 19, x 20, x 21, x 22, x 23, x 24, x 25, x 26, x 27, x 28, x 29, x 30, x 31, x 32, x 33, x 34, x 35, x 36, x 37, x 38, x 39, x 40, x 41, x 42, x 43, x 44, x 45, x 46, x 47, x 48, x 49, x 50, x 51, x 52, x 53, x 54, x 55, x 56, x 57, x 58, x 59, x 60, x 61, x 62, x 63, x 64, x 65, x 66, x 67, x 68, x 69, x 70, x 71, x 72, x 73, x 74, x 75, x 76, x 77, x 78, x 79, x 80, x 81, x 82, x 83, x 84, x 85, x 86, x 87, x 88, x 89, x 90, x 91, x 92, x 93, x 94, x 95, x 96, x 97, x 98, x 99, x 100, x 101, x 102, x 103, x 104, x 105, x 106, x 107, x 108, x 109, x 110, x 111, x 112, x 113, x 114, x 115, x 116, x 117, x 118, x 119, x 120, x 121, x 122, x 123, x 124, x 125, x 126, x 127, x 128, x 129, x 130, x 131, x 132, x 133, x 134, x 135, x 136, x 137, x 138, x 139]) → Q (.exit 2) e K)
    {e : Env} {H1 : Heap} (hI : valI K e1 (.pointer (some ⟨m, 0, none⟩)) e6 e7 e8 (.slice (some ⟨b, 0, none⟩) 4 4) 4 e H1) : WLoop T (g6.body.at [1, 1, 1, 1, 1, 1, 1, 1, 1, 0, 1, 0, 0]) e H1 Q := by
  refine WLoop.inv (valI K e1 (.pointer (some ⟨m, 0, none⟩)) e6 e7 e8 (.slice (some ⟨b, 0, none⟩) 4 4)) ?_ _ _ _ hI
  rintro n e K1 ⟨i, k1, rfl, rfl, ⟨x, rfl⟩⟩
  simp only [AFunc.body, g6, ACode.at]
  by_cases hi : i < 4
  · have hi' : (i : Int) < 4 := by omega
    have hil : i < ts.length := by omega
    obtain ⟨hk, hv⟩ := hall ts[i] (List.getElem_mem hil)
    have rr : ∀ k, k < 6 → (ts.map Tk.cells).flatten[i * 6 + k]? = ts[i].cells[k]? := fun k hk => by
      have := congrArg (fun l => l[k]?) (cut_flat ts i hil)
      simpa [List.getElem?_take, List.getElem?_drop, hk] using this
    have r0 : (ts.map Tk.cells).flatten[i * 6]? = some (.int .i64 3) := by
      have h0 : (ts.map Tk.cells).flatten[i * 6]? = some (.int .i64 ts[i].kind) := rr 0 (by decide)
      rw [h0, hk]
    have hle2 : i * 6 + 2 + 2 ≤ (ts.map Tk.cells).flatten.length := by rw [flat6]; omega
    have r23 : ((ts.map Tk.cells).flatten.drop (i * 6 + 2)).take 2 = [.int .u64 ((a / W64 : Nat) : Int), .int .u64 ((a % W64 : Nat) : Int)] := by
      have := congrArg (fun l => (l.drop 2).take 2) (cut_flat ts i hil)
      rw [List.drop_take, List.take_take, List.drop_drop] at this
      rw [← hv]
      simpa [Tk.cells, tk] using this
    have heq : eqL [(1, .int .u64 ((a / W64 : Nat) : Int), .int .u64 ((a / W64 : Nat) : Int)), (1, .int .u64 ((a % W64 : Nat) : Int), .int .u64 ((a % W64 : Nat) : Int))] = some true := by simp [eqL, eqT1]
    simp (disch := omega) only [kaa, kab, kac, kad, kae, kaf, kag, kah, kai, kaj, kak, kal, kam, kan, kao, khe, khf, khg, khh, khi, khj, khk, khl, kap, kaq, kar, kas, kat, kau, kav, kaw, kax, kay, kaz, kba, kbb, kbc, kbd, kbe, kbf, kbg, kbh, kbi, kbj, kbk, kbl, kbm, kbn, kbo, kbp, kbq, kbr, kbs, kbt, kbu, kbv, kbw, kbx, kby, kbz, kca, kcb, kcc, kcd, kce, kcf, kcg, kch, kci, kcj, kck, kcl, kcm, aop, kcn, kco, kcp, kcq, kcr, kcs, kct, kcu, kcv, kcw, resultsL, resultOf, kcx, Nat.reduceEqDiff, kcy, kcz, kda, reduceCtorEq, kdb, kdc, kdd, kde, kdf, kdg, kdh, kdi, kdj, kdk, kdl, kdm, kdn, kdo, eq1, kdp, kdq, kdr, kds, kdt, kdu, kdv, kdw, kdx, kdy, kdz, kea, keb, kec, apartOK, apart2, AObj.live, ked, kee, kef, keg, keh, kei, kej, kek, kel, Int.reduceEq, Int.reduceLT, Int.reduceLE, Int.reduceAdd, Int.reduceSub, Int.reduceMul, Int.reduceToNat, kem, ken, keo, kep, keq, ker, kes, ket, keu, kev, kew, kex, key, kez, kfa, kfb, kfc, kfd, kfe, kff, kfg, kfh, kfi, kfj, kfk, kfl, cutCells, kfm, kfn, kfo, kfp, kfq, kfr, kfs, kft, kfu, kfv, kfw, kfx, kfy, Nat.reduceAdd, Nat.reduceLeDiff, Nat.reduceLT, Nat.reduceMul, Nat.reduceSub, kfz, kga, kgb, kgc, kgd, kge, kgf, kgg, kgh, kgi, kgj, kgk, kgl, kgm, kgn, kgo, kgp, kgq, kgr, kgs, kgt, kgu, kgv, kgw, kgx, kgy, kgz, kha, khb, khc, khd, hi', hb, hm, r0, r23, hle2, heq, ofO, if_pos, nadd1, wr_i64]
    exact ⟨4 - (i + 1), by omega, i + 1, by omega, rfl, rfl, by exact ex_env rfl⟩
  · have hi' : ¬ (i : Int) < 4 := by omega
    simp (disch := omega) only [kaa, kab, kac, kad, kae, kaf, kag, kah, kai, kaj, kak, kal, kam, kan, kao, khe, khf, khg, khh, khi, khj, khk, khl, kap, kaq, kar, kas, kat, kau, kav, kaw, kax, kay, kaz, kba, kbb, kbc, kbd, kbe, kbf, kbg, kbh, kbi, kbj, kbk, kbl, kbm, kbn, kbo, kbp, kbq, kbr, kbs, kbt, kbu, kbv, kbw, kbx, kby, kbz, kca, kcb, kcc, kcd, kce, kcf, kcg, kch, kci, kcj, kck, kcl, kcm, aop, kcn, kco, kcp, kcq, kcr, kcs, kct, kcu, kcv, kcw, resultsL, resultOf, kcx, Nat.reduceEqDiff, kcy, kcz, kda, reduceCtorEq, kdb, kdc, kdd, kde, kdf, kdg, kdh, kdi, kdj, kdk, kdl, kdm, kdn, kdo, eq1, kdp, kdq, kdr, kds, kdt, kdu, kdv, kdw, kdx, kdy, kdz, kea, keb, kec, apartOK, apart2, AObj.live, ked, kee, kef, keg, keh, kei, kej, kek, kel, Int.reduceEq, Int.reduceLT, Int.reduceLE, Int.reduceAdd, Int.reduceSub, Int.reduceMul, Int.reduceToNat, kem, ken, keo, kep, keq, ker, kes, ket, keu, kev, kew, kex, key, kez, kfa, kfb, kfc, kfd, kfe, kff, kfg, kfh, kfi, kfj, kfk, kfl, cutCells, kfm, kfn, kfo, kfp, kfq, kfr, kfs, kft, kfu, kfv, kfw, kfx, kfy, Nat.reduceAdd, Nat.reduceLeDiff, Nat.reduceLT, Nat.reduceMul, Nat.reduceSub, kfz, kga, kgb, kgc, kgd, kge, kgf, kgg, kgh, kgi, kgj, kgk, kgl, kgm, kgn, kgo, kgp, kgq, kgr, kgs, kgt, kgu, kgv, kgw, kgx, kgy, kgz, kha, khb, khc, khd, hi']
    exact hQ _ (by exact ex_env rfl)

theorem bad_len (v : Nat) : ∀ w ∈ badL v, w.length ≤ 1000 := fun w hw => by
  have n2 := digs_len 2 128 v
  have n10 := digs_len 10 128 v
  have n16 := digs_len 16 128 v
  simp only [badL, List.mem_cons, List.not_mem_nil, or_false] at hw
  rcases hw with rfl | rfl | rfl | rfl | rfl | rfl | rfl | rfl | rfl
  · simp only [List.length_cons]; omega
  · simp only [List.length_append, List.length_cons, List.length_nil]; omega
  · simp only [List.length_append, List.length_cons, List.length_nil]; omega
  · decide
  · simp only [List.length_append, List.length_cons, List.length_nil]; omega
  · simp only [List.length_append, List.length_cons, List.length_nil]; omega
  · simp only [List.length_cons]; omega
  · decide +kernel
  · decide +kernel

def badI (K : Heap) (e1 e15 : Value) : Nat → Env → Heap → Prop := fun n e H' =>
  ∃ (i : Nat) (G : Heap), i ≤ 9 ∧ n = 9 - i ∧ H' = K ++ G ∧ (∃ x : Nat → Value, e = [x 0, e1, x 2, x 3, x 4, x 5, x 6, x 7, x 8, x 9, x 10, x 11, x 12, x 13, x 14, e15, .int .i64 i, x 17, x 18, x 19, x 20, x 21, x 22, x 23, x 24, x 25, x 26, x 27, x 28, x 29, x 30, x 31, x 32, x 33, x 34, x 35, x 36, x 37, x 38, x 39, x 40, x 41, x 42, x 43, x 44, x 45, x 46, x 47, x 48, x 49, x 50, x 51, x 52, x 53, x 54, x 55, x 56, x 57, x 58, x 59, x 60, x 61, x 62, x 63, x 64, x 65, x 66, x 67, x 68, x 69, x 70, x 71, x 72, x 73, x 74, x 75, x 76, x 77, x 78, x 79, x 80, x 81, x 82, x 83, x 84, x 85, x 86, x 87, x 88, x 89, x 90, x 91, x 92, x 93, x 94, x 95, x 96, x 97, x 98, x 99, x 100, x 101, x 102, x 103, x 104, x 105, x 106, x 107, x 108, x 109, x 110, x 111, x 112, x 113, x 114, x 115, x 116, x 117, x 118, x 119, x 120, x 121, x 122, x 123, x 124, x 125, x 126, x 127, x 128, x 129, x 130, x 131, x 132, x 133, x 134, x 135, x 136, x 137, x 138, x 139])

set_option maxHeartbeats 4000000 in
theorem bad_loop {K : Heap} {c a : Nat} {s : List UInt8} (ha : a < W64 * W64) (hs : s.length ≤ 140737488351232) (hon : On0 K) (hc : hget K c = .row ((badL a).map fun w => .string (bs w)) 1 true) {Q : Post}
    (hQ : ∀ e H, Q (.exit 4) e H)
    {e : Env} {H1 : Heap} (hI : badI K (.string (bs s)) (.slice (some ⟨c, 0, none⟩) 9 9) 9 e H1) : WLoop T (g6.body.at [1, 1, 1, 1, 1, 1, 1, 1, 1, 1, 1, 0, 1, 0, 0]) e H1 Q := by
  refine WLoop.inv (badI K (.string (bs s)) (.slice (some ⟨c, 0, none⟩) 9 9)) ?_ _ _ _ hI
  rintro n e K1 ⟨i, G, k1, rfl, rfl, ⟨x, rfl⟩⟩
  simp only [AFunc.body, g6, ACode.at]
  have n9 : ((9 : Nat) : Int) = 9 := rfl
  have hcl : c < K.length := hget_lt hc rfl
  by_cases hi : i < 9
  · have hi' : (i : Int) < 9 := by omega
    have hil : i < (badL a).length := hi
    obtain ⟨hw1, hw2, hw3, hw4⟩ := badL_all ha _ (List.getElem_mem hil)
    have hwl := bad_len a _ (List.getElem_mem hil)
    have r0 : ((badL a).map fun w => (.string (bs w) : Value))[i * 1]? = some (.string (bs (badL a)[i])) := by
      rw [Nat.mul_one, List.getElem?_map, List.getElem?_eq_getElem hil]; rfl
    have r0' : ((badL a).map fun w => (.string (bs w) : Value))[i]? = some (.string (bs (badL a)[i])) := by
      rw [List.getElem?_map, List.getElem?_eq_getElem hil]; rfl
    generalize (badL a)[i] = w at *
    have a1 : binV .add (.string (bs w)) (.string (bs [32])) = some (.string (bs (w ++ [32]))) := bin_str_add (by simp only [List.length_cons, List.length_nil]; omega)
    have a2 : binV .add (.string (bs (w ++ [32]))) (.string (bs s)) = some (.string (bs (w ++ 32 :: s))) := (bin_str_add (l := w ++ [32]) (m := s) (by simp only [List.length_append, List.length_cons, List.length_nil]; omega)).trans (by simp)
    simp (disch := omega) only [kaa, kab, kac, kad, kae, kaf, kag, kah, kai, kaj, kak, kal, kam, kan, kao, khe, khf, khg, khh, khi, khj, khk, khl, kap, kaq, kar, kas, kat, kau, kav, kaw, kax, kay, kaz, kba, kbb, kbc, kbd, kbe, kbf, kbg, kbh, kbi, kbj, kbk, kbl, kbm, kbn, kbo, kbp, kbq, kbr, kbs, kbt, kbu, kbv, kbw, kbx, kby, kbz, kca, kcb, kcc, kcd, kce, kcf, kcg, kch, kci, kcj, kck, kcl, kcm, aop, kcn, kco, kcp, kcq, kcr, kcs, kct, kcu, kcv, kcw, resultsL, resultOf, kcx, Nat.reduceEqDiff, kcy, kcz, kda, reduceCtorEq, kdb, kdc, kdd, kde, kdf, kdg, kdh, kdi, kdj, kdk, kdl, kdm, kdn, kdo, eq1, kdp, kdq, kdr, kds, kdt, kdu, kdv, kdw, kdx, kdy, kdz, kea, keb, kec, apartOK, apart2, AObj.live, ked, kee, kef, keg, keh, kei, kej, kek, kel, Int.reduceEq, Int.reduceLT, Int.reduceLE, Int.reduceAdd, Int.reduceSub, Int.reduceMul, Int.reduceToNat, kem, ken, keo, kep, keq, ker, kes, ket, keu, kev, kew, kex, key, kez, kfa, kfb, kfc, kfd, kfe, kff, kfg, kfh, kfi, kfj, kfk, kfl, cutCells, kfm, kfn, kfo, kfp, kfq, kfr, kfs, kft, kfu, kfv, kfw, kfx, kfy, Nat.reduceAdd, Nat.reduceLeDiff, Nat.reduceLT, Nat.reduceMul, Nat.reduceSub, kfz, kga, kgb, kgc, kgd, kge, kgf, kgg, kgh, kgi, kgj, kgk, kgl, kgm, kgn, kgo, kgp, kgq, kgr, kgs, kgt, kgu, kgv, kgw, kgx, kgy, kgz, kha, khb, khc, khd, hi', n9, hc, r0, r0', a1, a2, if_pos]
    refine lexTokens_u (hon.app G).gh fun q G1 hq => ?_
    rcases bad_T hw1 hw2 hw3 hw4 (behind := s) with h | h
    · have heq : eqL [(1, .int .i64 1, .int .i64 1), (1, .int .i64 1, .int .i64 1)] = some true := by simp [eqL, eqT1]
      rw [h]
      simp (disch := omega) only [kaa, kab, kac, kad, kae, kaf, kag, kah, kai, kaj, kak, kal, kam, kan, kao, khe, khf, khg, khh, khi, khj, khk, khl, kap, kaq, kar, kas, kat, kau, kav, kaw, kax, kay, kaz, kba, kbb, kbc, kbd, kbe, kbf, kbg, kbh, kbi, kbj, kbk, kbl, kbm, kbn, kbo, kbp, kbq, kbr, kbs, kbt, kbu, kbv, kbw, kbx, kby, kbz, kca, kcb, kcc, kcd, kce, kcf, kcg, kch, kci, kcj, kck, kcl, kcm, aop, kcn, kco, kcp, kcq, kcr, kcs, kct, kcu, kcv, kcw, resultsL, resultOf, kcx, Nat.reduceEqDiff, kcy, kcz, kda, reduceCtorEq, kdb, kdc, kdd, kde, kdf, kdg, kdh, kdi, kdj, kdk, kdl, kdm, kdn, kdo, eq1, kdp, kdq, kdr, kds, kdt, kdu, kdv, kdw, kdx, kdy, kdz, kea, keb, kec, apartOK, apart2, AObj.live, ked, kee, kef, keg, keh, kei, kej, kek, kel, Int.reduceEq, Int.reduceLT, Int.reduceLE, Int.reduceAdd, Int.reduceSub, Int.reduceMul, Int.reduceToNat, kem, ken, keo, kep, keq, ker, kes, ket, keu, kev, kew, kex, key, kez, kfa, kfb, kfc, kfd, kfe, kff, kfg, kfh, kfi, kfj, kfk, kfl, cutCells, kfm, kfn, kfo, kfp, kfq, kfr, kfs, kft, kfu, kfv, kfw, kfx, kfy, Nat.reduceAdd, Nat.reduceLeDiff, Nat.reduceLT, Nat.reduceMul, Nat.reduceSub, kfz, kga, kgb, kgc, kgd, kge, kgf, kgg, kgh, kgi, kgj, kgk, kgl, kgm, kgn, kgo, kgp, kgq, kgr, kgs, kgt, kgu, kgv, kgw, kgx, kgy, kgz, kha, khb, khc, khd, fl, heq, ofO, nadd1, wr_i64]
      exact ⟨9 - (i + 1), by omega, i + 1, _, by omega, rfl, rfl, by exact ex_env rfl⟩
    · rw [h]
      simp (disch := omega) only [kaa, kab, kac, kad, kae, kaf, kag, kah, kai, kaj, kak, kal, kam, kan, kao, khe, khf, khg, khh, khi, khj, khk, khl, kap, kaq, kar, kas, kat, kau, kav, kaw, kax, kay, kaz, kba, kbb, kbc, kbd, kbe, kbf, kbg, kbh, kbi, kbj, kbk, kbl, kbm, kbn, kbo, kbp, kbq, kbr, kbs, kbt, kbu, kbv, kbw, kbx, kby, kbz, kca, kcb, kcc, kcd, kce, kcf, kcg, kch, kci, kcj, kck, kcl, kcm, aop, kcn, kco, kcp, kcq, kcr, kcs, kct, kcu, kcv, kcw, resultsL, resultOf, kcx, Nat.reduceEqDiff, kcy, kcz, kda, reduceCtorEq, kdb, kdc, kdd, kde, kdf, kdg, kdh, kdi, kdj, kdk, kdl, kdm, kdn, kdo, eq1, kdp, kdq, kdr, kds, kdt, kdu, kdv, kdw, kdx, kdy, kdz, kea, keb, kec, apartOK, apart2, AObj.live, ked, kee, kef, keg, keh, kei, kej, kek, kel, Int.reduceEq, Int.reduceLT, Int.reduceLE, Int.reduceAdd, Int.reduceSub, Int.reduceMul, Int.reduceToNat, kem, ken, keo, kep, keq, ker, kes, ket, keu, kev, kew, kex, key, kez, kfa, kfb, kfc, kfd, kfe, kff, kfg, kfh, kfi, kfj, kfk, kfl, cutCells, kfm, kfn, kfo, kfp, kfq, kfr, kfs, kft, kfu, kfv, kfw, kfx, kfy, Nat.reduceAdd, Nat.reduceLeDiff, Nat.reduceLT, Nat.reduceMul, Nat.reduceSub, kfz, kga, kgb, kgc, kgd, kge, kgf, kgg, kgh, kgi, kgj, kgk, kgl, kgm, kgn, kgo, kgp, kgq, kgr, kgs, kgt, kgu, kgv, kgw, kgx, kgy, kgz, kha, khb, khc, khd, fl, ofO, nadd1, wr_i64]
      exact ⟨9 - (i + 1), by omega, i + 1, _, by omega, rfl, rfl, by exact ex_env rfl⟩
  · have hi' : ¬ (i : Int) < 9 := by omega
    simp (disch := omega) only [kaa, kab, kac, kad, kae, kaf, kag, kah, kai, kaj, kak, kal, kam, kan, kao, khe, khf, khg, khh, khi, khj, khk, khl, kap, kaq, kar, kas, kat, kau, kav, kaw, kax, kay, kaz, kba, kbb, kbc, kbd, kbe, kbf, kbg, kbh, kbi, kbj, kbk, kbl, kbm, kbn, kbo, kbp, kbq, kbr, kbs, kbt, kbu, kbv, kbw, kbx, kby, kbz, kca, kcb, kcc, kcd, kce, kcf, kcg, kch, kci, kcj, kck, kcl, kcm, aop, kcn, kco, kcp, kcq, kcr, kcs, kct, kcu, kcv, kcw, resultsL, resultOf, kcx, Nat.reduceEqDiff, kcy, kcz, kda, reduceCtorEq, kdb, kdc, kdd, kde, kdf, kdg, kdh, kdi, kdj, kdk, kdl, kdm, kdn, kdo, eq1, kdp, kdq, kdr, kds, kdt, kdu, kdv, kdw, kdx, kdy, kdz, kea, keb, kec, apartOK, apart2, AObj.live, ked, kee, kef, keg, keh, kei, kej, kek, kel, Int.reduceEq, Int.reduceLT, Int.reduceLE, Int.reduceAdd, Int.reduceSub, Int.reduceMul, Int.reduceToNat, kem, ken, keo, kep, keq, ker, kes, ket, keu, kev, kew, kex, key, kez, kfa, kfb, kfc, kfd, kfe, kff, kfg, kfh, kfi, kfj, kfk, kfl, cutCells, kfm, kfn, kfo, kfp, kfq, kfr, kfs, kft, kfu, kfv, kfw, kfx, kfy, Nat.reduceAdd, Nat.reduceLeDiff, Nat.reduceLT, Nat.reduceMul, Nat.reduceSub, kfz, kga, kgb, kgc, kgd, kge, kgf, kgg, kgh, kgi, kgj, kgk, kgl, kgm, kgn, kgo, kgp, kgq, kgr, kgs, kgt, kgu, kgv, kgw, kgx, kgy, kgz, kha, khb, khc, khd, hi', n9]
    exact hQ _ _

set_option maxHeartbeats 4000000 in
theorem numbers_w {a : Nat} {s : List UInt8} (ha : a < W64 * W64) (hs : s.length ≤ 140737488351232) :
    WD T 6 [.agg #[.int .u64 ((a / W64 : Nat) : Int), .int .u64 ((a % W64 : Nat) : Int)], .string (bs s)] H0 (fun r _ => r = .ret (.bool true)) := by
  refine WD.of follows t6 (by simp) ?_
  have l0 : H0.length = 2 := rfl
  simp (disch := omega) only [kaa, kab, kac, kad, kae, kaf, kag, kah, kai, kaj, kak, kal, kam, kan, kao, khe, khf, khg, khh, khi, khj, khk, khl, kap, kaq, kar, kas, kat, kau, kav, kaw, kax, kay, kaz, kba, kbb, kbc, kbd, kbe, kbf, kbg, kbh, kbi, kbj, kbk, kbl, kbm, kbn, kbo, kbp, kbq, kbr, kbs, kbt, kbu, kbv, kbw, kbx, kby, kbz, kca, kcb, kcc, kcd, kce, kcf, kcg, kch, kci, kcj, kck, kcl, kcm, aop, kcn, kco, kcp, kcq, kcr, kcs, kct, kcu, kcv, kcw, resultsL, resultOf, kcx, Nat.reduceEqDiff, kcy, kcz, kda, reduceCtorEq, kdb, kdc, kdd, kde, kdf, kdg, kdh, kdi, kdj, kdk, kdl, kdm, kdn, kdo, eq1, kdp, kdq, kdr, kds, kdt, kdu, kdv, kdw, kdx, kdy, kdz, kea, keb, kec, apartOK, apart2, AObj.live, ked, kee, kef, keg, keh, kei, kej, kek, kel, Int.reduceEq, Int.reduceLT, Int.reduceLE, Int.reduceAdd, Int.reduceSub, Int.reduceMul, Int.reduceToNat, kem, ken, keo, kep, keq, ker, kes, ket, keu, kev, kew, kex, key, kez, kfa, kfb, kfc, kfd, kfe, kff, kfg, kfh, kfi, kfj, kfk, kfl, cutCells, kfm, kfn, kfo, kfp, kfq, kfr, kfs, kft, kfu, kfv, kfw, kfx, kfy, Nat.reduceAdd, Nat.reduceLeDiff, Nat.reduceLT, Nat.reduceMul, Nat.reduceSub, kfz, kga, kgb, kgc, kgd, kge, kgf, kgg, kgh, kgi, kgj, kgk, kgl, kgm, kgn, kgo, kgp, kgq, kgr, kgs, kgt, kgu, kgv, kgw, kgx, kgy, kgz, kha, khb, khc, khd]
  refine live_s (on0.app _) ?_
  simp (disch := omega) only [kaa, kab, kac, kad, kae, kaf, kag, kah, kai, kaj, kak, kal, kam, kan, kao, khe, khf, khg, khh, khi, khj, khk, khl, kap, kaq, kar, kas, kat, kau, kav, kaw, kax, kay, kaz, kba, kbb, kbc, kbd, kbe, kbf, kbg, kbh, kbi, kbj, kbk, kbl, kbm, kbn, kbo, kbp, kbq, kbr, kbs, kbt, kbu, kbv, kbw, kbx, kby, kbz, kca, kcb, kcc, kcd, kce, kcf, kcg, kch, kci, kcj, kck, kcl, kcm, aop, kcn, kco, kcp, kcq, kcr, kcs, kct, kcu, kcv, kcw, resultsL, resultOf, kcx, Nat.reduceEqDiff, kcy, kcz, kda, reduceCtorEq, kdb, kdc, kdd, kde, kdf, kdg, kdh, kdi, kdj, kdk, kdl, kdm, kdn, kdo, eq1, kdp, kdq, kdr, kds, kdt, kdu, kdv, kdw, kdx, kdy, kdz, kea, keb, kec, apartOK, apart2, AObj.live, ked, kee, kef, keg, keh, kei, kej, kek, kel, Int.reduceEq, Int.reduceLT, Int.reduceLE, Int.reduceAdd, Int.reduceSub, Int.reduceMul, Int.reduceToNat, kem, ken, keo, kep, keq, ker, kes, ket, keu, kev, kew, kex, key, kez, kfa, kfb, kfc, kfd, kfe, kff, kfg, kfh, kfi, kfj, kfk, kfl, cutCells, kfm, kfn, kfo, kfp, kfq, kfr, kfs, kft, kfu, kfv, kfw, kfx, kfy, Nat.reduceAdd, Nat.reduceLeDiff, Nat.reduceLT, Nat.reduceMul, Nat.reduceSub, kfz, kga, kgb, kgc, kgd, kge, kgf, kgg, kgh, kgi, kgj, kgk, kgl, kgm, kgn, kgo, kgp, kgq, kgr, kgs, kgt, kgu, kgv, kgw, kgx, kgy, kgz, kha, khb, khc, khd]
  refine digits_s (a := a) (base := 10) ha (by decide) (by decide) ?_
  simp (disch := omega) only [kaa, kab, kac, kad, kae, kaf, kag, kah, kai, kaj, kak, kal, kam, kan, kao, khe, khf, khg, khh, khi, khj, khk, khl, kap, kaq, kar, kas, kat, kau, kav, kaw, kax, kay, kaz, kba, kbb, kbc, kbd, kbe, kbf, kbg, kbh, kbi, kbj, kbk, kbl, kbm, kbn, kbo, kbp, kbq, kbr, kbs, kbt, kbu, kbv, kbw, kbx, kby, kbz, kca, kcb, kcc, kcd, kce, kcf, kcg, kch, kci, kcj, kck, kcl, kcm, aop, kcn, kco, kcp, kcq, kcr, kcs, kct, kcu, kcv, kcw, resultsL, resultOf, kcx, Nat.reduceEqDiff, kcy, kcz, kda, reduceCtorEq, kdb, kdc, kdd, kde, kdf, kdg, kdh, kdi, kdj, kdk, kdl, kdm, kdn, kdo, eq1, kdp, kdq, kdr, kds, kdt, kdu, kdv, kdw, kdx, kdy, kdz, kea, keb, kec, apartOK, apart2, AObj.live, ked, kee, kef, keg, keh, kei, kej, kek, kel, Int.reduceEq, Int.reduceLT, Int.reduceLE, Int.reduceAdd, Int.reduceSub, Int.reduceMul, Int.reduceToNat, kem, ken, keo, kep, keq, ker, kes, ket, keu, kev, kew, kex, key, kez, kfa, kfb, kfc, kfd, kfe, kff, kfg, kfh, kfi, kfj, kfk, kfl, cutCells, kfm, kfn, kfo, kfp, kfq, kfr, kfs, kft, kfu, kfv, kfw, kfx, kfy, Nat.reduceAdd, Nat.reduceLeDiff, Nat.reduceLT, Nat.reduceMul, Nat.reduceSub, kfz, kga, kgb, kgc, kgd, kge, kgf, kgg, kgh, kgi, kgj, kgk, kgl, kgm, kgn, kgo, kgp, kgq, kgr, kgs, kgt, kgu, kgv, kgw, kgx, kgy, kgz, kha, khb, khc, khd]
  refine digits_s (a := a) (base := 16) ha (by decide) (by decide) ?_
  simp (disch := omega) only [kaa, kab, kac, kad, kae, kaf, kag, kah, kai, kaj, kak, kal, kam, kan, kao, khe, khf, khg, khh, khi, khj, khk, khl, kap, kaq, kar, kas, kat, kau, kav, kaw, kax, kay, kaz, kba, kbb, kbc, kbd, kbe, kbf, kbg, kbh, kbi, kbj, kbk, kbl, kbm, kbn, kbo, kbp, kbq, kbr, kbs, kbt, kbu, kbv, kbw, kbx, kby, kbz, kca, kcb, kcc, kcd, kce, kcf, kcg, kch, kci, kcj, kck, kcl, kcm, aop, kcn, kco, kcp, kcq, kcr, kcs, kct, kcu, kcv, kcw, resultsL, resultOf, kcx, Nat.reduceEqDiff, kcy, kcz, kda, reduceCtorEq, kdb, kdc, kdd, kde, kdf, kdg, kdh, kdi, kdj, kdk, kdl, kdm, kdn, kdo, eq1, kdp, kdq, kdr, kds, kdt, kdu, kdv, kdw, kdx, kdy, kdz, kea, keb, kec, apartOK, apart2, AObj.live, ked, kee, kef, keg, keh, kei, kej, kek, kel, Int.reduceEq, Int.reduceLT, Int.reduceLE, Int.reduceAdd, Int.reduceSub, Int.reduceMul, Int.reduceToNat, kem, ken, keo, kep, keq, ker, kes, ket, keu, kev, kew, kex, key, kez, kfa, kfb, kfc, kfd, kfe, kff, kfg, kfh, kfi, kfj, kfk, kfl, cutCells, kfm, kfn, kfo, kfp, kfq, kfr, kfs, kft, kfu, kfv, kfw, kfx, kfy, Nat.reduceAdd, Nat.reduceLeDiff, Nat.reduceLT, Nat.reduceMul, Nat.reduceSub, kfz, kga, kgb, kgc, kgd, kge, kgf, kgg, kgh, kgi, kgj, kgk, kgl, kgm, kgn, kgo, kgp, kgq, kgr, kgs, kgt, kgu, kgv, kgw, kgx, kgy, kgz, kha, khb, khc, khd]
  refine digits_s (a := a) (base := 2) ha (by decide) (by decide) ?_
  simp (disch := omega) only [kaa, kab, kac, kad, kae, kaf, kag, kah, kai, kaj, kak, kal, kam, kan, kao, khe, khf, khg, khh, khi, khj, khk, khl, kap, kaq, kar, kas, kat, kau, kav, kaw, kax, kay, kaz, kba, kbb, kbc, kbd, kbe, kbf, kbg, kbh, kbi, kbj, kbk, kbl, kbm, kbn, kbo, kbp, kbq, kbr, kbs, kbt, kbu, kbv, kbw, kbx, kby, kbz, kca, kcb, kcc, kcd, kce, kcf, kcg, kch, kci, kcj, kck, kcl, kcm, aop, kcn, kco, kcp, kcq, kcr, kcs, kct, kcu, kcv, kcw, resultsL, resultOf, kcx, Nat.reduceEqDiff, kcy, kcz, kda, reduceCtorEq, kdb, kdc, kdd, kde, kdf, kdg, kdh, kdi, kdj, kdk, kdl, kdm, kdn, kdo, eq1, kdp, kdq, kdr, kds, kdt, kdu, kdv, kdw, kdx, kdy, kdz, kea, keb, kec, apartOK, apart2, AObj.live, ked, kee, kef, keg, keh, kei, kej, kek, kel, Int.reduceEq, Int.reduceLT, Int.reduceLE, Int.reduceAdd, Int.reduceSub, Int.reduceMul, Int.reduceToNat, kem, ken, keo, kep, keq, ker, kes, ket, keu, kev, kew, kex, key, kez, kfa, kfb, kfc, kfd, kfe, kff, kfg, kfh, kfi, kfj, kfk, kfl, cutCells, kfm, kfn, kfo, kfp, kfq, kfr, kfs, kft, kfu, kfv, kfw, kfx, kfy, Nat.reduceAdd, Nat.reduceLeDiff, Nat.reduceLT, Nat.reduceMul, Nat.reduceSub, kfz, kga, kgb, kgc, kgd, kge, kgf, kgg, kgh, kgi, kgj, kgk, kgl, kgm, kgn, kgo, kgp, kgq, kgr, kgs, kgt, kgu, kgv, kgw, kgx, kgy, kgz, kha, khb, khc, khd]
  refine cap_loop (s7 := undef) (K := H0 ++ [.row [.int .u64 ((a / W64 : Nat) : Int), .int .u64 ((a % W64 : Nat) : Int)] 0 true]) (digs_ne 16 128 a (by decide)) (by have := digs_len 16 128 a; omega) (fun b hb => six_lt b hb) (fun e G k hk he => ?_) ⟨[], 0, .slice none 0 0, by omega, rfl, by simp, .inl ⟨rfl, rfl⟩, by exact ex_env rfl⟩
  obtain ⟨x, rfl⟩ := he
  have n2 := digs_len 2 128 a
  have n10 := digs_len 10 128 a
  have n16 := digs_len 16 128 a
  have hkk : hget (H0 ++ .row [.int .u64 ((a / W64 : Nat) : Int), .int .u64 ((a % W64 : Nat) : Int)] 0 true :: G) (H0.length + 1 + k) = .row ((digs 16 128 a).map fun c => u8c (upC c)) 1 true := by
    rw [Nat.add_assoc, hget_base, Nat.add_comm 1 k]
    exact hk
  have hsrc : (srcCells (H0 ++ .row [.int .u64 ((a / W64 : Nat) : Int), .int .u64 ((a % W64 : Nat) : Int)] 0 true :: G) 1 (digs 16 128 a).length (.slice (some ⟨H0.length + 1 + k, 0, none⟩) (digs 16 128 a).length (digs 16 128 a).length)).bind bytesOf = some ((digs 16 128 a).map upC) := by
    simp only [srcCells, hkk]
    rw [if_pos (by simp), List.drop_zero, Nat.mul_one, List.take_of_length_le (by simp), Option.bind_some]
    have := bytes_u8 ((digs 16 128 a).map upC)
    rwa [List.map_map] at this
  have a1 : binV .add (.string (bs (digs 10 128 a))) (.string (bs ([32, 48, 120]))) = some (.string (bs (digs 10 128 a ++ [32, 48, 120]))) := (bin_str_add (l := digs 10 128 a) (m := [32, 48, 120]) (by simp only [List.length_append, List.length_cons, List.length_nil, List.length_map]; omega)).trans (by simp)
  have a2 : binV .add (.string (bs (digs 10 128 a ++ [32, 48, 120]))) (.string (bs (digs 16 128 a))) = some (.string (bs (digs 10 128 a ++ 32 :: 48 :: 120 :: digs 16 128 a))) := (bin_str_add (l := digs 10 128 a ++ [32, 48, 120]) (m := digs 16 128 a) (by simp only [List.length_append, List.length_cons, List.length_nil, List.length_map]; omega)).trans (by simp)
  have a3 : binV .add (.string (bs (digs 10 128 a ++ 32 :: 48 :: 120 :: digs 16 128 a))) (.string (bs ([10, 48, 120, 48, 48]))) = some (.string (bs (digs 10 128 a ++ 32 :: 48 :: 120 :: (digs 16 128 a ++ [10, 48, 120, 48, 48])))) := (bin_str_add (l := digs 10 128 a ++ 32 :: 48 :: 120 :: digs 16 128 a) (m := [10, 48, 120, 48, 48]) (by simp only [List.length_append, List.length_cons, List.length_nil, List.length_map]; omega)).trans (by simp)
  have a4 : binV .add (.string (bs (digs 10 128 a ++ 32 :: 48 :: 120 :: (digs 16 128 a ++ [10, 48, 120, 48, 48])))) (.string ⟨((digs 16 128 a).map upC).toArray⟩) = some (.string (bs (digs 10 128 a ++ 32 :: 48 :: 120 :: (digs 16 128 a ++ 10 :: 48 :: 120 :: 48 :: 48 :: (digs 16 128 a).map upC)))) := (bin_str_add (l := digs 10 128 a ++ 32 :: 48 :: 120 :: (digs 16 128 a ++ [10, 48, 120, 48, 48])) (m := (digs 16 128 a).map upC) (by simp only [List.length_append, List.length_cons, List.length_nil, List.length_map]; omega)).trans (by simp)
  have a5 : binV .add (.string (bs (digs 10 128 a ++ 32 :: 48 :: 120 :: (digs 16 128 a ++ 10 :: 48 :: 120 :: 48 :: 48 :: (digs 16 128 a).map upC)))) (.string (bs ([32, 48, 98]))) = some (.string (bs (digs 10 128 a ++ 32 :: 48 :: 120 :: (digs 16 128 a ++ 10 :: 48 :: 120 :: 48 :: 48 :: ((digs 16 128 a).map upC ++ [32, 48, 98]))))) := (bin_str_add (l := digs 10 128 a ++ 32 :: 48 :: 120 :: (digs 16 128 a ++ 10 :: 48 :: 120 :: 48 :: 48 :: (digs 16 128 a).map upC)) (m := [32, 48, 98]) (by simp only [List.length_append, List.length_cons, List.length_nil, List.length_map]; omega)).trans (by simp)
  have a6 : binV .add (.string (bs (digs 10 128 a ++ 32 :: 48 :: 120 :: (digs 16 128 a ++ 10 :: 48 :: 120 :: 48 :: 48 :: ((digs 16 128 a).map upC ++ [32, 48, 98]))))) (.string (bs (digs 2 128 a))) = some (.string (bs (goodT a))) := (bin_str_add (l := digs 10 128 a ++ 32 :: 48 :: 120 :: (digs 16 128 a ++ 10 :: 48 :: 120 :: 48 :: 48 :: ((digs 16 128 a).map upC ++ [32, 48, 98]))) (m := digs 2 128 a) (by simp only [List.length_append, List.length_cons, List.length_nil, List.length_map]; omega)).trans (by simp [goodT])
  have hon : On0 (H0 ++ .row [.int .u64 ((a / W64 : Nat) : Int), .int .u64 ((a % W64 : Nat) : Int)] 0 true :: G) := on0.app _
  obtain ⟨w1, w2, w3, w4, p2, p3, p4, hgt⟩ := good_T ha
  simp (disch := omega) only [kaa, kab, kac, kad, kae, kaf, kag, kah, kai, kaj, kak, kal, kam, kan, kao, khe, khf, khg, khh, khi, khj, khk, khl, kap, kaq, kar, kas, kat, kau, kav, kaw, kax, kay, kaz, kba, kbb, kbc, kbd, kbe, kbf, kbg, kbh, kbi, kbj, kbk, kbl, kbm, kbn, kbo, kbp, kbq, kbr, kbs, kbt, kbu, kbv, kbw, kbx, kby, kbz, kca, kcb, kcc, kcd, kce, kcf, kcg, kch, kci, kcj, kck, kcl, kcm, aop, kcn, kco, kcp, kcq, kcr, kcs, kct, kcu, kcv, kcw, resultsL, resultOf, kcx, Nat.reduceEqDiff, kcy, kcz, kda, reduceCtorEq, kdb, kdc, kdd, kde, kdf, kdg, kdh, kdi, kdj, kdk, kdl, kdm, kdn, kdo, eq1, kdp, kdq, kdr, kds, kdt, kdu, kdv, kdw, kdx, kdy, kdz, kea, keb, kec, apartOK, apart2, AObj.live, ked, kee, kef, keg, keh, kei, kej, kek, kel, Int.reduceEq, Int.reduceLT, Int.reduceLE, Int.reduceAdd, Int.reduceSub, Int.reduceMul, Int.reduceToNat, kem, ken, keo, kep, keq, ker, kes, ket, keu, kev, kew, kex, key, kez, kfa, kfb, kfc, kfd, kfe, kff, kfg, kfh, kfi, kfj, kfk, kfl, cutCells, kfm, kfn, kfo, kfp, kfq, kfr, kfs, kft, kfu, kfv, kfw, kfx, kfy, Nat.reduceAdd, Nat.reduceLeDiff, Nat.reduceLT, Nat.reduceMul, Nat.reduceSub, kfz, kga, kgb, kgc, kgd, kge, kgf, kgg, kgh, kgi, kgj, kgk, kgl, kgm, kgn, kgo, kgp, kgq, kgr, kgs, kgt, kgu, kgv, kgw, kgx, kgy, kgz, kha, khb, khc, khd, a1, a2, a3, lenV, hsrc, a4, a5, a6]
  refine lexTokens_u hon.gh fun q G1 hq => ?_
  rw [hgt] at hq ⊢
  obtain ⟨b, rfl, hb⟩ := hq (by simp)
  have n4 : ((4 : Nat) : Int) = 4 := rfl
  simp (disch := omega) only [kaa, kab, kac, kad, kae, kaf, kag, kah, kai, kaj, kak, kal, kam, kan, kao, khe, khf, khg, khh, khi, khj, khk, khl, kap, kaq, kar, kas, kat, kau, kav, kaw, kax, kay, kaz, kba, kbb, kbc, kbd, kbe, kbf, kbg, kbh, kbi, kbj, kbk, kbl, kbm, kbn, kbo, kbp, kbq, kbr, kbs, kbt, kbu, kbv, kbw, kbx, kby, kbz, kca, kcb, kcc, kcd, kce, kcf, kcg, kch, kci, kcj, kck, kcl, kcm, aop, kcn, kco, kcp, kcq, kcr, kcs, kct, kcu, kcv, kcw, resultsL, resultOf, kcx, Nat.reduceEqDiff, kcy, kcz, kda, reduceCtorEq, kdb, kdc, kdd, kde, kdf, kdg, kdh, kdi, kdj, kdk, kdl, kdm, kdn, kdo, eq1, kdp, kdq, kdr, kds, kdt, kdu, kdv, kdw, kdx, kdy, kdz, kea, keb, kec, apartOK, apart2, AObj.live, ked, kee, kef, keg, keh, kei, kej, kek, kel, Int.reduceEq, Int.reduceLT, Int.reduceLE, Int.reduceAdd, Int.reduceSub, Int.reduceMul, Int.reduceToNat, kem, ken, keo, kep, keq, ker, kes, ket, keu, kev, kew, kex, key, kez, kfa, kfb, kfc, kfd, kfe, kff, kfg, kfh, kfi, kfj, kfk, kfl, cutCells, kfm, kfn, kfo, kfp, kfq, kfr, kfs, kft, kfu, kfv, kfw, kfx, kfy, Nat.reduceAdd, Nat.reduceLeDiff, Nat.reduceLT, Nat.reduceMul, Nat.reduceSub, kfz, kga, kgb, kgc, kgd, kge, kgf, kgg, kgh, kgi, kgj, kgk, kgl, kgm, kgn, kgo, kgp, kgq, kgr, kgs, kgt, kgu, kgv, kgw, kgx, kgy, kgz, kha, khb, khc, khd, fl, n4]
  have hon2 : On0 (H0 ++ .row [.int .u64 ((a / W64 : Nat) : Int), .int .u64 ((a % W64 : Nat) : Int)] 0 true :: (G ++ (G1 ++ [.row [.int .i64 0, .int .i64 0, .int .i64 0] 0 true]))) := on0.app _
  have hm2 : hget (H0 ++ .row [.int .u64 ((a / W64 : Nat) : Int), .int .u64 ((a % W64 : Nat) : Int)] 0 true :: (G ++ (G1 ++ [.row [.int .i64 0, .int .i64 0, .int .i64 0] 0 true]))) H0.length = .row [.int .u64 ((a / W64 : Nat) : Int), .int .u64 ((a % W64 : Nat) : Int)] 0 true := by
    rw [hget_base0]; rfl
  have hb2 : hget (H0 ++ .row [.int .u64 ((a / W64 : Nat) : Int), .int .u64 ((a % W64 : Nat) : Int)] 0 true :: (G ++ (G1 ++ [.row [.int .i64 0, .int .i64 0, .int .i64 0] 0 true]))) b = .row (([⟨3, w1, a, (1, 1)⟩, ⟨3, w2, a, p2⟩, ⟨3, w3, a, p3⟩, ⟨3, w4, a, p4⟩] : List Tk).map Tk.cells).flatten 6 true := by
    have := (hget_old (G := [.row [.int .i64 0, .int .i64 0, .int .i64 0] 0 true]) (hget_lt hb rfl)).trans hb
    simpa using this
  clear hb hq
  generalize H0 ++ AObj.row [.int .u64 ((a / W64 : Nat) : Int), .int .u64 ((a % W64 : Nat) : Int)] 0 true :: (G ++ (G1 ++ [.row [.int .i64 0, .int .i64 0, .int .i64 0] 0 true])) = K at *
  refine val_loop rfl (fun t ht => by simp only [List.mem_cons, List.not_mem_nil, or_false] at ht; rcases ht with rfl | rfl | rfl | rfl <;> exact ⟨rfl, rfl⟩) hb2 hm2 (fun e he => ?_) ⟨0, by omega, rfl, rfl, by exact ex_env rfl⟩
  obtain ⟨x, rfl⟩ := he
  have b1 : binV .add (.string (bs [48])) (.string (bs (digs 10 128 a))) = some (.string (bs (48 :: digs 10 128 a))) := bin_str_add (l := [48]) (by simp only [List.length_cons, List.length_nil]; omega)
  have b2 : binV .add (.string (bs (digs 10 128 a))) (.string (bs [120])) = some (.string (bs (digs 10 128 a ++ [120]))) := bin_str_add (by simp only [List.length_cons, List.length_nil]; omega)
  have b3 : binV .add (.string (bs (digs 10 128 a))) (.string (bs [95])) = some (.string (bs (digs 10 128 a ++ [95]))) := bin_str_add (by simp only [List.length_cons, List.length_nil]; omega)
  have b4 : binV .add (.string (bs [48, 120])) (.string (bs (digs 16 128 a))) = some (.string (bs (48 :: 120 :: digs 16 128 a))) := bin_str_add (l := [48, 120]) (by simp only [List.length_cons, List.length_nil]; omega)
  have b5 : binV .add (.string (bs (48 :: 120 :: digs 16 128 a))) (.string (bs [103])) = some (.string (bs (48 :: 120 :: (digs 16 128 a ++ [103])))) := bin_str_add (l := 48 :: 120 :: digs 16 128 a) (by simp only [List.length_cons, List.length_nil]; omega)
  have b6 : binV .add (.string (bs [48, 98])) (.string (bs (digs 2 128 a))) = some (.string (bs (48 :: 98 :: digs 2 128 a))) := bin_str_add (l := [48, 98]) (by simp only [List.length_cons, List.length_nil]; omega)
  have b7 : binV .add (.string (bs (48 :: 98 :: digs 2 128 a))) (.string (bs [50])) = some (.string (bs (48 :: 98 :: (digs 2 128 a ++ [50])))) := bin_str_add (l := 48 :: 98 :: digs 2 128 a) (by simp only [List.length_cons, List.length_nil]; omega)
  have b8 : binV .add (.string (bs [48, 88])) (.string (bs (digs 16 128 a))) = some (.string (bs (48 :: 88 :: digs 16 128 a))) := bin_str_add (l := [48, 88]) (by simp only [List.length_cons, List.length_nil]; omega)
  simp (disch := omega) only [kaa, kab, kac, kad, kae, kaf, kag, kah, kai, kaj, kak, kal, kam, kan, kao, khe, khf, khg, khh, khi, khj, khk, khl, kap, kaq, kar, kas, kat, kau, kav, kaw, kax, kay, kaz, kba, kbb, kbc, kbd, kbe, kbf, kbg, kbh, kbi, kbj, kbk, kbl, kbm, kbn, kbo, kbp, kbq, kbr, kbs, kbt, kbu, kbv, kbw, kbx, kby, kbz, kca, kcb, kcc, kcd, kce, kcf, kcg, kch, kci, kcj, kck, kcl, kcm, aop, kcn, kco, kcp, kcq, kcr, kcs, kct, kcu, kcv, kcw, resultsL, resultOf, kcx, Nat.reduceEqDiff, kcy, kcz, kda, reduceCtorEq, kdb, kdc, kdd, kde, kdf, kdg, kdh, kdi, kdj, kdk, kdl, kdm, kdn, kdo, eq1, kdp, kdq, kdr, kds, kdt, kdu, kdv, kdw, kdx, kdy, kdz, kea, keb, kec, apartOK, apart2, AObj.live, ked, kee, kef, keg, keh, kei, kej, kek, kel, Int.reduceEq, Int.reduceLT, Int.reduceLE, Int.reduceAdd, Int.reduceSub, Int.reduceMul, Int.reduceToNat, kem, ken, keo, kep, keq, ker, kes, ket, keu, kev, kew, kex, key, kez, kfa, kfb, kfc, kfd, kfe, kff, kfg, kfh, kfi, kfj, kfk, kfl, cutCells, kfm, kfn, kfo, kfp, kfq, kfr, kfs, kft, kfu, kfv, kfw, kfx, kfy, Nat.reduceAdd, Nat.reduceLeDiff, Nat.reduceLT, Nat.reduceMul, Nat.reduceSub, kfz, kga, kgb, kgc, kgd, kge, kgf, kgg, kgh, kgi, kgj, kgk, kgl, kgm, kgn, kgo, kgp, kgq, kgr, kgs, kgt, kgu, kgv, kgw, kgx, kgy, kgz, kha, khb, khc, khd, b1, b2, b3, b4, b5, b6, b7, b8]
  refine bad_loop (K := K ++ _) (c := K.length) (a := a) ha hs (hon2.app _) ?_ (fun e H => ?_) ⟨0, [], by omega, rfl, (List.append_nil _).symm, by exact ex_env rfl⟩
  · rw [hget_base0]
    rfl
  · simp (disch := omega) only [kaa, kab, kac, kad, kae, kaf, kag, kah, kai, kaj, kak, kal, kam, kan, kao, khe, khf, khg, khh, khi, khj, khk, khl, kap, kaq, kar, kas, kat, kau, kav, kaw, kax, kay, kaz, kba, kbb, kbc, kbd, kbe, kbf, kbg, kbh, kbi, kbj, kbk, kbl, kbm, kbn, kbo, kbp, kbq, kbr, kbs, kbt, kbu, kbv, kbw, kbx, kby, kbz, kca, kcb, kcc, kcd, kce, kcf, kcg, kch, kci, kcj, kck, kcl, kcm, aop, kcn, kco, kcp, kcq, kcr, kcs, kct, kcu, kcv, kcw, resultsL, resultOf, kcx, Nat.reduceEqDiff, kcy, kcz, kda, reduceCtorEq, kdb, kdc, kdd, kde, kdf, kdg, kdh, kdi, kdj, kdk, kdl, kdm, kdn, kdo, eq1, kdp, kdq, kdr, kds, kdt, kdu, kdv, kdw, kdx, kdy, kdz, kea, keb, kec, apartOK, apart2, AObj.live, ked, kee, kef, keg, keh, kei, kej, kek, kel, Int.reduceEq, Int.reduceLT, Int.reduceLE, Int.reduceAdd, Int.reduceSub, Int.reduceMul, Int.reduceToNat, kem, ken, keo, kep, keq, ker, kes, ket, keu, kev, kew, kex, key, kez, kfa, kfb, kfc, kfd, kfe, kff, kfg, kfh, kfi, kfj, kfk, kfl, cutCells, kfm, kfn, kfo, kfp, kfq, kfr, kfs, kft, kfu, kfv, kfw, kfx, kfy, Nat.reduceAdd, Nat.reduceLeDiff, Nat.reduceLT, Nat.reduceMul, Nat.reduceSub, kfz, kga, kgb, kgc, kgd, kge, kgf, kgg, kgh, kgi, kgj, kgk, kgl, kgm, kgn, kgo, kgp, kgq, kgr, kgs, kgt, kgu, kgv, kgw, kgx, kgy, kgz, kha, khb, khc, khd, get_same]

end Go.Proofs.YtedemfmafdilmaaDoor.Ev

/- A law's arguments as its row reads them: rows of cells that nothing writes, and what stands in them. Conditions: none. -/
namespace Go.Proofs.YtedemfmafdilmaaDoor.Ev
open Go.RowKit Go.ChangeShapes Go.WideShapes

/-- What data stands in some cells. -/
inductive Rep (P : Program) (H : Heap) {X : Type} : TypeId → DataW X → List Value → Prop where
  | bool {t : TypeId} (b : Bool) (hu : P.underlying t = some .bool) : Rep P H t (.lit (.bool b)) [.bool b]
  | int {t : TypeId} (k : IntKind) (n : Int) (hu : P.underlying t = some (.int k)) (hw : (Lit.int k n).wf = true) : Rep P H t (.lit (.int k n)) [.int k n]
  | str {t : TypeId} (l : List UInt8) (hu : P.underlying t = some .string) (hl : l.length ≤ maxLen) : Rep P H t (.lit (.string l)) [.string (bs l)]
  | struct {t : TypeId} {fs : Array Field} {ds : List (DataW X)} {ass : List (List Value)} (hu : P.underlying t = some (.struct fs)) (h1 : ds.length = fs.size) (h2 : ass.length = fs.size)
      (h : ∀ (i : Nat) (f : Field) (d : DataW X) (cz : List Value), fs[i]? = some f → ds[i]? = some d → ass[i]? = some cz → Rep P H f.type d cz)
      (hl : ∀ (i : Nat) (f : Field) (cz : List Value), fs[i]? = some f → ass[i]? = some cz → cz.length = P.cellsOf f.type) : Rep P H t (.agg ds) ass.flatten
  | nilS {t e : TypeId} (hu : P.underlying t = some (.slice e)) : Rep P H t .nil [.slice none 0 0]
  | empty {t e : TypeId} {sp : List (DataW X)} (hu : P.underlying t = some (.slice e)) : Rep P H t (.slice [] sp) [.slice (some ⟨0, 0, some 0⟩) 0 0]
  | slice {t e : TypeId} {b : Nat} {ds sp : List (DataW X)} {ass : List (List Value)} (hu : P.underlying t = some (.slice e)) (hne : ds ≠ []) (hb : hget H b = .row ass.flatten 0 false) (h2 : ass.length = ds.length)
      (h : ∀ (i : Nat) (d : DataW X) (cz : List Value), ds[i]? = some d → ass[i]? = some cz → Rep P H e d cz)
      (hl : ∀ (i : Nat) (cz : List Value), ass[i]? = some cz → cz.length = P.cellsOf e) : Rep P H t (.slice ds sp) [.slice (some ⟨b, 0, none⟩) ds.length ds.length]

theorem Rep.mono {P : Program} {H g : Heap} {X : Type} {t : TypeId} {d : DataW X} {cz : List Value} (h : Rep P H t d cz) : Rep P (H ++ g) t d cz := by
  induction h with
  | bool b hu => exact .bool b hu
  | int k n hu hw => exact .int k n hu hw
  | str l hu hl => exact .str l hu hl
  | struct hu h1 h2 h hl ih => exact .struct hu h1 h2 ih hl
  | nilS hu => exact .nilS hu
  | empty hu => exact .empty hu
  | slice hu hne hb h2 h hl ih => exact .slice hu hne (by rw [hget_old (hget_lt hb rfl)]; exact hb) h2 ih hl

/-- A set of types of plain data: numbers, texts, structs and lists of them. -/
def plainSet (P : Program) (L : List TypeId) : Bool := L.all fun t => decide (t < P.types.size) && match P.underlying t with
  | some .bool | some (.int _) | some .string => true
  | some (.struct fs) => fs.toList.all fun f => L.contains f.type
  | some (.slice e) => L.contains e && decide (0 < P.cellsOf e)
  | _ => false

def chunks : List Nat → List Value → List (List Value)
  | [], _ => []
  | n :: ns, cs => cs.take n :: chunks ns (cs.drop n)

theorem chunks_flat : ∀ (ns : List Nat) (cs : List Value), cs.length = ns.sum → (chunks ns cs).flatten = cs
  | [], cs, h => by simp at h; simp [chunks, h]
  | n :: ns, cs, h => by
    rw [chunks, List.flatten_cons, chunks_flat ns _ (by simp at h ⊢; omega), List.take_append_drop]

theorem chunks_len : ∀ (ns : List Nat) (cs : List Value), (chunks ns cs).length = ns.length
  | [], _ => rfl
  | n :: ns, cs => by rw [chunks, List.length_cons, List.length_cons, chunks_len ns]

theorem chunks_get : ∀ (ns : List Nat) (cs : List Value) (j n : Nat), ns[j]? = some n → (chunks ns cs)[j]? = some ((cs.drop (ns.take j).sum).take n)
  | [], _, j, n, h => by simp at h
  | m :: ns, cs, 0, n, h => by simp at h; simp [chunks, h]
  | m :: ns, cs, j + 1, n, h => by
    have h' : ns[j]? = some n := by simpa using h
    have := chunks_get ns (cs.drop m) j n h'
    simp only [chunks, List.getElem?_cons_succ, List.take_succ_cons, List.sum_cons]
    rw [this, List.drop_drop]

theorem VL.flat {n : Nat} {ρ : Nat → Place} : ∀ (xss yss : List (List Value)), xss.length = yss.length → (∀ (i : Nat) (xs ys : List Value), xss[i]? = some xs → yss[i]? = some ys → VL n ρ xs ys) → VL n ρ xss.flatten yss.flatten
  | [], [], _, _ => VL.nil
  | [], _ :: _, h, _ => by simp at h
  | _ :: _, [], h, _ => by simp at h
  | xs :: xss, ys :: yss, h, hh => by
    rw [List.flatten_cons, List.flatten_cons]
    exact (hh 0 xs ys rfl rfl).append (VL.flat xss yss (by simpa using h) fun i a b ha hb => hh (i + 1) a b (by simpa using ha) (by simpa using hb))

section
variable {X : Type} {enc : TypeId × Value → X} {P : Program} {G : Nat} {W : World} {base : Nat} {sp : Nat → Bool} {held : Bool} {L : List TypeId}

/-- Some cells can be told in a heap of the evaluator's. -/
def Opens (P : Program) (G : Nat) (W : World) (t : TypeId) (cs : List Value) (d : DataW X) : Prop :=
  ∀ (H : Heap) (ρ : Nat → Place), (∀ o ∈ H, o.wrt = false) → Rel G ρ H W → ∃ (g : Heap) (ρ' : Nat → Place) (cz : List Value), Rel G ρ' (H ++ g) W ∧ (∀ b, b < H.length → ρ' b = ρ b) ∧ (∀ o ∈ g, ∃ c, o = .row c 0 false) ∧ VL (H ++ g).length ρ' cz cs ∧ Rep P (H ++ g) t d cz

theorem ro_app {H g : Heap} (h : ∀ o ∈ H, o.wrt = false) (hg : ∀ o ∈ g, ∃ c, o = .row c 0 false) : ∀ o ∈ H ++ g, o.wrt = false := fun o ho => by
  rcases List.mem_append.1 ho with ho | ho
  · exact h o ho
  · obtain ⟨c, rfl⟩ := hg o ho; rfl

theorem opens_list : ∀ (l : List (TypeId × List Value × DataW X)), (∀ q ∈ l, Opens P G W q.1 q.2.1 q.2.2) → ∀ (H : Heap) (ρ : Nat → Place), (∀ o ∈ H, o.wrt = false) → Rel G ρ H W →
    ∃ (g : Heap) (ρ' : Nat → Place) (ass : List (List Value)), Rel G ρ' (H ++ g) W ∧ (∀ b, b < H.length → ρ' b = ρ b) ∧ (∀ o ∈ g, ∃ c, o = .row c 0 false) ∧ ass.length = l.length ∧
      ∀ (i : Nat) (q : TypeId × List Value × DataW X) (cz : List Value), l[i]? = some q → ass[i]? = some cz → VL (H ++ g).length ρ' cz q.2.1 ∧ Rep P (H ++ g) q.1 q.2.2 cz
  | [], _, H, ρ, _, hr => ⟨[], ρ, [], by simpa using hr, fun _ _ => rfl, fun o ho => (by cases ho), rfl, fun i q cz h => by simp at h⟩
  | q :: l, h, H, ρ, hro, hr => by
    obtain ⟨g, ρ1, cz, hr1, hs1, hg1, hv1, hp1⟩ := h q (by simp) H ρ hro hr
    obtain ⟨g2, ρ2, ass, hr2, hs2, hg2, hl2, hh⟩ := opens_list l (fun q hq => h q (by simp [hq])) (H ++ g) ρ1 (ro_app hro hg1) hr1
    rw [List.append_assoc] at hr2 hh
    refine ⟨g ++ g2, ρ2, cz :: ass, hr2, fun b hb => (hs2 b (by simp; omega)).trans (hs1 b hb), fun o ho => ?_, by simp [hl2], fun i q' cz' hq has => ?_⟩
    · rcases List.mem_append.1 ho with ho | ho
      · exact hg1 o ho
      · exact hg2 o ho
    · cases i with
      | zero =>
        simp at hq has
        subst hq; subst has
        refine ⟨hv1.mono (by simp) hs2, ?_⟩
        rw [← List.append_assoc]
        exact hp1.mono
      | succ i => exact hh i q' cz' (by simpa using hq) (by simpa using has)

theorem mem_plain (hP : plainSet P L = true) {t : TypeId} (ht : L.contains t = true) : (decide (t < P.types.size) && (match P.underlying t with
    | some .bool | some (.int _) | some .string => true
    | some (.struct fs) => fs.toList.all fun f => L.contains f.type
    | some (.slice e) => L.contains e && decide (0 < P.cellsOf e)
    | _ => false)) = true := by
  unfold plainSet at hP
  exact List.all_eq_true.1 hP t (List.contains_iff_mem.1 ht)

theorem flat_get {c : Nat} (hc : 0 < c) : ∀ (css : List (List Value)) (k j : Nat) (cs : List Value), (∀ (i : Nat) (cz : List Value), css[i]? = some cz → cz.length = c) → css[k]? = some cs → j < c → css.flatten[k * c + j]? = cs[j]?
  | [], k, j, cs, _, h, _ => by simp at h
  | a :: css, 0, j, cs, hl, h, hj => by
    have h1 := hl 0 a rfl
    simp at h
    subst h
    rw [List.flatten_cons, Nat.zero_mul, Nat.zero_add, List.getElem?_append_left (by omega)]
  | a :: css, k + 1, j, cs, hl, h, hj => by
    have h1 := hl 0 a rfl
    have := flat_get hc css k j cs (fun i cz hi => hl (i + 1) cz (by simpa using hi)) (by simpa using h) hj
    rw [List.flatten_cons, List.getElem?_append_right (by rw [h1, Nat.add_mul]; omega), h1, show (k + 1) * c + j - c = k * c + j by rw [Nat.add_mul]; omega]
    exact this

theorem flat_len {c : Nat} : ∀ (css : List (List Value)), (∀ (i : Nat) (cz : List Value), css[i]? = some cz → cz.length = c) → css.flatten.length = css.length * c
  | [], _ => by simp
  | a :: css, hl => by
    rw [List.flatten_cons, List.length_append, hl 0 a rfl, flat_len css (fun i cz hi => hl (i + 1) cz (by simpa using hi)), List.length_cons, Nat.add_mul]
    omega

/-- A row that nothing writes, new in the evaluator's heap. -/
theorem rel_row {H : Heap} {ρ : Nat → Place} (hro : ∀ o ∈ H, o.wrt = false) (hr : Rel G ρ H W) {a : Addr} {cs : List Value} {cells : Array Value} {t : TypeId} {fr : Nat × Nat} {ext0 : Nat} (hh : W.heap[a.block]? = some (.cells cells t fr))
    (hc : ∀ (i : Nat) (v : Value), cs[i]? = some v → ∃ v', cells[a.off + i]? = some v' ∧ VR H.length ρ v v') : Rel G (ext ρ H.length ⟨a.block, a.off, ext0⟩) (H ++ [.row cs 0 false]) W := by
  have cases_ : ∀ b u, (H ++ [AObj.row cs 0 false])[b]? = some u → (b < H.length ∧ H[b]? = some u) ∨ (b = H.length ∧ u = .row cs 0 false) := fun b u h => by
    by_cases hb : b < H.length
    · rw [List.getElem?_append_left hb] at h; exact .inl ⟨hb, h⟩
    · rw [List.getElem?_append_right (by omega)] at h
      obtain ⟨h1, h2⟩ := List.getElem?_eq_some_iff.1 h
      simp at h1
      have : b = H.length := by omega
      subst this
      simp at h2
      exact .inr ⟨rfl, h2.symm⟩
  have hlen : (H ++ [AObj.row cs 0 false]).length = H.length + 1 := by simp
  refine ⟨fun b u hu => ?_, fun b c u v hu hv hne hw hl => ?_, fun g hg => ?_, by rw [hlen]; have := hr.many; omega⟩
  · rcases cases_ b u hu with ⟨hb, hu⟩ | ⟨rfl, rfl⟩
    · exact (hr.obj b u hu).mono (by omega) (ext_lt hb) (fun c hc => ext_lt hc) (fun _ => rfl)
    · rw [OR, ext_same]
      refine ⟨cells, t, fr, hh, fun i v hi => ?_, fun h => by cases h⟩
      obtain ⟨v', h1, h2⟩ := hc i v hi
      exact ⟨v', h1, h2.mono (by omega) fun b hb => ext_lt hb⟩
  · rcases cases_ b u hu with ⟨hb, hu2⟩ | ⟨rfl, rfl⟩
    · rw [hro u (List.mem_of_getElem? hu2)] at hw
      cases hw
    · cases hw
  · rw [ext_lt (Nat.lt_of_lt_of_le hg hr.many)]; exact hr.glob g hg

theorem opens_trod (hl : laidOutB P = true) (hm : mapsRowed P = true) (hP : plainSet P L = true) : ∀ (n : Nat) (t : TypeId) (cs : List Value) (x : DataW X × List MemPlace), L.contains t = true →
    DataW.trod enc P W base (fun _ => true) held n t cs = some x → Opens P G W t cs x.1 := by
  intro n
  induction n with
  | zero => intro t cs x _ h; simp [DataW.trod] at h
  | succ n ih =>
    intro t cs x ht h
    have hk := mem_plain hP ht
    simp only [Bool.and_eq_true, decide_eq_true_eq] at hk
    obtain ⟨htp, hk⟩ := hk
    have K := kids_rows hl hm
    intro H ρ hro hr
    split at hk
    · rename_i hu
      obtain ⟨b, rfl, rfl⟩ := DataW.trod_bool hu h
      exact ⟨[], ρ, [.bool b], by simpa using hr, fun _ _ => rfl, fun o ho => (by cases ho), VL.cons (.bool b) VL.nil, .bool b hu⟩
    · rename_i k hu
      obtain ⟨m, rfl, rfl, hw⟩ := DataW.trod_int hu h
      exact ⟨[], ρ, [.int k m], by simpa using hr, fun _ _ => rfl, fun o ho => (by cases ho), VL.cons (.int k m) VL.nil, .int k m hu hw⟩
    · rename_i hu
      obtain ⟨s, rfl, rfl, hs⟩ := DataW.trod_string hu h
      exact ⟨[], ρ, [.string s], by simpa using hr, fun _ _ => rfl, fun o ho => (by cases ho), VL.cons (.string s) VL.nil, .str s.data.toList hu (by simpa using hs)⟩
    · rename_i fs hu
      obtain ⟨xs, m, hm1, rfl, hlen, hxl, hf⟩ := DataW.trod_struct hu h
      cases hm1
      obtain ⟨_, hsum, hoff⟩ := K.struct htp hu
      -- the fields, one by one
      have hget : ∀ (i : Nat) (f : Field) (y : DataW X × List MemPlace), fs[i]? = some f → xs[i]? = some y → DataW.trod enc P W base (fun _ => true) held n f.type ((cs.drop f.offset).take (P.cellsOf f.type)) = some y := fun i f y hfi hy => by
        rw [hf i f hfi, hy]
      let l : List (TypeId × List Value × DataW X) := (List.range fs.size).map fun i => ((fs[i]?.map (·.type)).getD 0, ((chunks (fs.toList.map fun f => P.cellsOf f.type) cs)[i]?).getD [], (xs[i]?.map (·.1)).getD .nil)
      have hl1 : ∀ i, i < fs.size → ∃ f y, fs[i]? = some f ∧ xs[i]? = some y ∧ l[i]? = some (f.type, (cs.drop f.offset).take (P.cellsOf f.type), y.1) := fun i hi => by
        have e1 : fs[i]? = some fs[i] := Array.getElem?_eq_getElem hi
        have e2 : xs[i]? = some (xs[i]'(by omega)) := List.getElem?_eq_getElem (by omega)
        refine ⟨_, _, e1, e2, ?_⟩
        have e3 : fs.toList[i]? = some fs[i] := by rw [Array.getElem?_toList]; exact e1
        have e4 := chunks_get (fs.toList.map fun f => P.cellsOf f.type) cs i (P.cellsOf fs[i].type) (by simp [hi])
        have e5 := hoff i _ e3
        rw [List.map_take] at e5
        rw [← e5] at e4
        simp only [l, List.getElem?_map, List.getElem?_range hi, Option.map_some, e1, e2, e4, Option.getD_some]
      have hlL : l.length = fs.size := by simp [l]
      obtain ⟨g, ρ', ass, hr', hs', hg', hal, hh⟩ := opens_list l (fun q hq => by
        obtain ⟨i, hi⟩ := List.getElem?_of_mem hq
        have hi2 : i < fs.size := by rw [← hlL]; exact (List.getElem?_eq_some_iff.1 hi).1
        obtain ⟨f, y, h1, h2, h3⟩ := hl1 i hi2
        rw [hi] at h3
        cases h3
        refine ih f.type _ y ?_ (hget i f y h1 h2)
        have hmem : f ∈ fs.toList := by
          have : fs.toList[i]? = some f := by simpa using h1
          exact List.mem_of_getElem? this
        exact List.all_eq_true.1 hk f hmem) H ρ hro hr
      refine ⟨g, ρ', ass.flatten, hr', hs', hg', ?_, ?_⟩
      · have hflat := chunks_flat (fs.toList.map fun f => P.cellsOf f.type) cs (by rw [hlen, hsum])
        rw [← hflat]
        refine VL.flat _ _ (by rw [hal, hlL, chunks_len]; simp) fun i a b ha hb => ?_
        have hi : i < fs.size := by rw [← hlL, ← hal]; exact (List.getElem?_eq_some_iff.1 ha).1
        obtain ⟨f, y, h1, h2, h3⟩ := hl1 i hi
        have e4 := chunks_get (fs.toList.map fun f => P.cellsOf f.type) cs i (P.cellsOf f.type) (by
          have : fs.toList[i]? = some f := by simpa using h1
          simp [this])
        have e5 := hoff i f (by simpa using h1)
        rw [List.map_take] at e5
        rw [← e5] at e4
        rw [hb] at e4
        cases e4
        exact (hh i _ a h3 ha).1
      · refine .struct hu (by simpa using hxl) (by rw [hal, hlL]) (fun i f d cz hfi hd ha => ?_) (fun i f cz hfi ha => ?_)
        · have hi : i < fs.size := (Array.getElem?_eq_some_iff.1 hfi).1
          obtain ⟨f', y, h1, h2, h3⟩ := hl1 i hi
          rw [hfi] at h1
          cases h1
          rw [List.getElem?_map, h2] at hd
          cases hd
          exact (hh i _ cz h3 ha).2
        · have hi : i < fs.size := (Array.getElem?_eq_some_iff.1 hfi).1
          obtain ⟨f', y, h1, h2, h3⟩ := hl1 i hi
          rw [hfi] at h1
          cases h1
          have := (hh i _ cz h3 ha).1.1
          rw [this]
          have e5 := hoff i f (by simpa using hfi)
          have hle : f.offset + P.cellsOf f.type ≤ cs.length := by
            rw [hlen, hsum, e5]
            have : fs.toList[i]? = some f := by simpa using hfi
            obtain ⟨h7, h8⟩ := List.getElem?_eq_some_iff.1 this
            have e6 : fs.toList = fs.toList.take i ++ f :: fs.toList.drop (i + 1) := by
              rw [← h8, ← List.drop_eq_getElem_cons h7, List.take_append_drop]
            conv => rhs; rw [e6]
            rw [List.map_append, List.sum_append, List.map_cons, List.sum_cons]
            omega
          rw [List.length_take, List.length_drop]
          omega
    · rename_i e hu
      simp only [Bool.and_eq_true, decide_eq_true_eq] at hk
      rcases DataW.trod_slice hu h with ⟨rfl, rfl⟩ | ⟨a, len, cap, elems, rest, m, hm1, rfl, rfl, hbase, hlc, hcm, hel, hge, _, _⟩
      · exact ⟨[], ρ, [.slice none 0 0], by simpa using hr, fun _ _ => rfl, fun o ho => (by cases ho), VL.cons .slNil VL.nil, .nilS hu⟩
      cases hm1
      by_cases h0 : elems = []
      · subst h0
        obtain rfl : len = 0 := by simpa using hel.symm
        exact ⟨[], ρ, [.slice (some ⟨0, 0, some 0⟩) 0 0], by simpa using hr, fun _ _ => rfl, fun o ho => (by cases ho), VL.cons (.slE 0 0 0 a cap) VL.nil, .empty hu⟩
      have hlen0 : 0 < len := by rw [← hel]; exact List.length_pos_iff.2 h0
      have hcell : ∀ i, i < len → ∃ csi y, W.cells? base (a.add (i * P.cellsOf e)) (P.cellsOf e) = some csi ∧ elems[i]? = some y ∧ DataW.trod enc P W base (fun _ => true) held n e csi = some y := fun i hi => by
        have h1 := hge i hi
        have h2 : elems[i]? = some (elems[i]'(by omega)) := List.getElem?_eq_getElem (by omega)
        rw [h2] at h1
        obtain ⟨csi, h3, h4⟩ := Option.bind_eq_some_iff.1 h1
        exact ⟨csi, _, h3, h2, h4⟩
      let css : List (List Value) := (List.range len).map fun i => (W.cells? base (a.add (i * P.cellsOf e)) (P.cellsOf e)).getD []
      have hcss : ∀ i, i < len → ∃ csi y, css[i]? = some csi ∧ W.cells? base (a.add (i * P.cellsOf e)) (P.cellsOf e) = some csi ∧ elems[i]? = some y ∧ DataW.trod enc P W base (fun _ => true) held n e csi = some y := fun i hi => by
        obtain ⟨csi, y, h1, h2, h3⟩ := hcell i hi
        exact ⟨csi, y, by simp [css, hi, h1], h1, h2, h3⟩
      have hcssL : css.length = len := by simp [css]
      let l : List (TypeId × List Value × DataW X) := (List.range len).map fun i => (e, (css[i]?).getD [], (elems[i]?.map (·.1)).getD .nil)
      have hl1 : ∀ i, i < len → ∃ csi y, css[i]? = some csi ∧ W.cells? base (a.add (i * P.cellsOf e)) (P.cellsOf e) = some csi ∧ elems[i]? = some y ∧ DataW.trod enc P W base (fun _ => true) held n e csi = some y ∧ l[i]? = some (e, csi, y.1) := fun i hi => by
        obtain ⟨csi, y, h1, h2, h3, h4⟩ := hcss i hi
        exact ⟨csi, y, h1, h2, h3, h4, by simp [l, hi, h1, h3]⟩
      have hlL : l.length = len := by simp [l]
      obtain ⟨g, ρ', ass, hr', hs', hg', hal, hh⟩ := opens_list l (fun q hq => by
        obtain ⟨i, hi⟩ := List.getElem?_of_mem hq
        have hi2 : i < len := by rw [← hlL]; exact (List.getElem?_eq_some_iff.1 hi).1
        obtain ⟨csi, y, h1, h2, h3, h4, h5⟩ := hl1 i hi2
        rw [hi] at h5
        cases h5
        exact ih e _ y hk.1 h4) H ρ hro hr
      have hasl : ∀ (i : Nat) (cz : List Value), ass[i]? = some cz → cz.length = P.cellsOf e := fun i cz ha => by
        have hi : i < len := by rw [← hlL, ← hal]; exact (List.getElem?_eq_some_iff.1 ha).1
        obtain ⟨csi, y, h1, h2, h3, h4, h5⟩ := hl1 i hi
        rw [(hh i _ cz h5 ha).1.1]
        exact (World.cells?_some h2).2.1
      -- the block itself
      obtain ⟨cs0, y0, g1, g2, _⟩ := hcell 0 hlen0
      obtain ⟨_, gl, gc⟩ := World.cells?_some g1
      have gc0 := gc 0 hk.2
      rw [Nat.zero_mul] at gc0
      have hadd : ∀ (k j : Nat), ((a.add k).add j) = if k + j = 0 then a else ⟨a.block, a.off + (k + j), none⟩ := fun k j => by
        unfold Addr.add
        by_cases hk0 : k = 0
        · subst hk0
          by_cases hj0 : j = 0
          · subst hj0; rfl
          · simp [hj0]
        · by_cases hj0 : j = 0
          · subst hj0; simp [hk0]
          · simp only [if_neg hk0, if_neg hj0, if_neg (show ¬ k + j = 0 by omega), Nat.add_assoc]
      have hblk : ∃ cells ty fr, W.heap[a.block]? = some (.cells cells ty fr) ∧ a.spot = none := by
        have h7 : W.cell? a = cs0[0]? := by simpa [hadd] using gc0
        have h8 : cs0[0]? = some (cs0[0]'(by omega)) := List.getElem?_eq_getElem (by omega)
        rw [h8] at h7
        unfold World.cell? at h7
        split at h7
        · rename_i c ty fr hc
          split at h7
          · cases h7
          · rename_i hsp
            exact ⟨c, ty, fr, hc, by simpa using hsp⟩
        · cases h7
      obtain ⟨cells, ty, fr, hh0, hsp⟩ := hblk
      have hcellat : ∀ (i : Nat) (v : Value), ass.flatten[i]? = some v → ∃ v', cells[a.off + i]? = some v' ∧ VR (H ++ g).length ρ' v v' := fun i v hv => by
        have hi : i < ass.flatten.length := (List.getElem?_eq_some_iff.1 hv).1
        rw [flat_len ass hasl, hal, hlL] at hi
        have hq : i / P.cellsOf e < len := (Nat.div_lt_iff_lt_mul hk.2).2 hi
        have hm2 : i % P.cellsOf e < P.cellsOf e := Nat.mod_lt _ hk.2
        have hid : i / P.cellsOf e * P.cellsOf e + i % P.cellsOf e = i := Nat.div_add_mod' i (P.cellsOf e)
        obtain ⟨csi, y, h1, h2, h3, h4, h5⟩ := hl1 _ hq
        have ha : ass[i / P.cellsOf e]? = some (ass[i / P.cellsOf e]'(by rw [hal, hlL]; exact hq)) := List.getElem?_eq_getElem _
        obtain ⟨hv1, _⟩ := hh _ _ _ h5 ha
        have hfg := flat_get hk.2 ass _ _ _ hasl ha hm2
        rw [hid, hv] at hfg
        obtain ⟨v', hv', hvr⟩ := hv1.get hfg.symm
        refine ⟨v', ?_, hvr⟩
        have h9 := (World.cells?_some h2).2.2 _ hm2
        rw [hadd, hid, hv'] at h9
        by_cases hi0 : i = 0
        · subst hi0
          simp only [if_true] at h9
          unfold World.cell? at h9
          rw [hh0, hsp] at h9
          simpa using h9
        · rw [if_neg hi0] at h9
          unfold World.cell? at h9
          simpa [hh0] using h9
      have hr2 := rel_row (a := a) (cs := ass.flatten) (ext0 := cap - len) (ro_app hro hg') hr' hh0 hcellat
      refine ⟨g ++ [.row ass.flatten 0 false], ext ρ' (H ++ g).length ⟨a.block, a.off, cap - len⟩, [.slice (some ⟨(H ++ g).length, 0, none⟩) len len], by rw [← List.append_assoc]; exact hr2, fun b hb => ?_, fun o ho => ?_, ?_, ?_⟩
      · rw [ext_lt (by rw [List.length_append]; omega)]; exact hs' b hb
      · rcases List.mem_append.1 ho with ho | ho
        · exact hg' o ho
        · rw [List.mem_singleton.1 ho]; exact ⟨_, rfl⟩
      · have := VR.sl (n := (H ++ (g ++ [AObj.row ass.flatten 0 false])).length) (ρ := ext ρ' (H ++ g).length ⟨a.block, a.off, cap - len⟩) (H ++ g).length 0 len len cap (by simp only [List.length_append, List.length_cons, List.length_nil]; omega) (Nat.le_refl _) hlc (by rw [ext_same]; show cap ≤ len + (cap - len); omega)
        rw [ext_same, Nat.add_zero] at this
        have ha2 : (⟨a.block, a.off, none⟩ : Addr) = a := by rw [← hsp]
        rw [ha2] at this
        exact VL.cons this VL.nil
      · have := Rep.slice (P := P) (H := H ++ (g ++ [AObj.row ass.flatten 0 false])) (t := t) (e := e) (b := (H ++ g).length) (ds := elems.map (·.1)) (sp := rest.map (·.1)) (ass := ass) hu (by simpa using h0) (by rw [← List.append_assoc]; exact hget_last _ _) (by rw [hal, hlL, List.length_map, hel])
          (fun i d cz hd ha => by
            have hi : i < len := by rw [← hlL, ← hal]; exact (List.getElem?_eq_some_iff.1 ha).1
            obtain ⟨csi, y, h1, h2, h3, h4, h5⟩ := hl1 i hi
            rw [List.getElem?_map, h3] at hd
            cases hd
            have := (hh i _ cz h5 ha).2
            rw [← List.append_assoc]
            exact this.mono) hasl
        rw [List.length_map, hel] at this
        exact this
    · cases hk

/-! ### The call's end -/

def slicesPos (P : Program) : Bool := (List.range P.types.size).all fun t => match P.underlying t with
  | some (.slice e) => decide (0 < P.cellsOf e)
  | _ => true

theorem args_stay {W' : World} (hl : laidOutB P = true) (hm : mapsRowed P = true) (hp : slicesPos P = true) (bel : Below W.heap.size W W') :
    ∀ {ts : List TypeId} {vs : List Value} {ds : List (DataW X)} {ps : List MemPlace}, (∀ t ∈ ts, t < P.types.size) → DataW.TrodAll enc P W 0 (fun _ => true) true ts vs ds ps →
      DataW.TrodAll enc P W' 0 (fun b => decide (b < W.heap.size)) true ts vs ds ps
  | [], vs, ds, ps, _, h => by
    obtain ⟨rfl, rfl, rfl⟩ := trodAll_nil h
    rfl
  | t :: ts, vs, ds, ps, ht, h => by
    obtain ⟨v, vs1, d, ds1, p, q, rfl, rfl, rfl, ⟨fuel, h1⟩, h2⟩ := trodAll_cons h
    have hlt := DataW.trod_lt fuel t v.cells.toList _ h1
    refine ⟨p, q, ⟨fuel, DataW.trod_stays (kids_rows hl hm) (fun {t e} htt hu => ?_) (fun h => by cases h) (ht t (by simp)) h1 (fun x hx => bel.same (hlt x hx)) (fun x hx => by simpa using hlt x hx)⟩, args_stay hl hm hp bel (fun u hu => ht u (by simp [hu])) h2, rfl⟩
    have := List.all_eq_true.1 hp t (List.mem_range.2 htt)
    simpa [hu] using this

/-! ### The call's arguments -/

/-- An argument tells some data. -/
def ArgRep (P : Program) (H : Heap) (t : TypeId) (d : DataW X) (a : Value) : Prop := ∃ cz, Rep P H t d cz ∧ (((∃ fs, P.underlying t = some (.struct fs)) ∧ a = .agg cz.toArray) ∨ cz = [a])

theorem ArgRep.mono {H g : Heap} {t : TypeId} {d : DataW X} {a : Value} (h : ArgRep P H t d a) : ArgRep P (H ++ g) t d a := by
  obtain ⟨cz, h1, h2⟩ := h
  exact ⟨cz, h1.mono, h2⟩

theorem vr_single {n : Nat} {ρ : Nat → Place} {a : Value} {v : Value} (h : VL n ρ [a] v.cells.toList) (hv : ∀ cs, v ≠ .agg cs) : VR n ρ a v := by
  have : v.cells.toList = [v] := by
    cases v <;> first | rfl | exact absurd rfl (hv _)
  rw [this] at h
  exact h.head

theorem open_args (hl : laidOutB P = true) (hm : mapsRowed P = true) (hP : plainSet P L = true) {r : Reach} {b0 : Nat} : ∀ {ts : List TypeId} {vs : List Value} {ds : List (DataW X)} {ps : List MemPlace},
    (∀ t ∈ ts, L.contains t = true) → DataW.TrodAll enc P W base (fun _ => true) held ts vs ds ps → (∀ (j : Nat) t v, ts[j]? = some t → vs[j]? = some v → Value.okWide P W r b0 t v) →
    ∀ (H : Heap) (ρ : Nat → Place), (∀ o ∈ H, o.wrt = false) → Rel G ρ H W → ∃ (g : Heap) (ρ' : Nat → Place) (avs : List Value), Rel G ρ' (H ++ g) W ∧ (∀ b, b < H.length → ρ' b = ρ b) ∧ (∀ o ∈ g, ∃ c, o = .row c 0 false) ∧
      VL (H ++ g).length ρ' avs vs ∧ avs.length = ts.length ∧ ∀ (j : Nat) t d a, ts[j]? = some t → ds[j]? = some d → avs[j]? = some a → ArgRep P (H ++ g) t d a
  | [], vs, ds, ps, _, h, _, H, ρ, hro, hr => by
    obtain ⟨rfl, rfl, rfl⟩ := trodAll_nil h
    exact ⟨[], ρ, [], by simpa using hr, fun _ _ => rfl, fun o ho => (by cases ho), VL.nil, rfl, fun j t d a h => by simp at h⟩
  | t :: ts, vs, ds, ps, hts, h, hok, H, ρ, hro, hr => by
    obtain ⟨v, vs1, d, ds1, p, q, rfl, rfl, rfl, ⟨fuel, h1⟩, h2⟩ := trodAll_cons h
    have htc := hts t (by simp)
    obtain ⟨g, ρ1, cz, hr1, hs1, hg1, hv1, hp1⟩ := opens_trod (G := G) hl hm hP fuel t _ _ htc h1 H ρ hro hr
    obtain ⟨g2, ρ2, avs, hr2, hs2, hg2, hv2, hl2, hh⟩ := open_args hl hm hP (fun u hu => hts u (by simp [hu])) h2 (fun j t v hj hv => hok (j + 1) t v (by simpa using hj) (by simpa using hv)) (H ++ g) ρ1 (ro_app hro hg1) hr1
    rw [List.append_assoc] at hr2 hh hv2
    have hval := hok 0 t v rfl rfl
    have hk := mem_plain hP htc
    simp only [Bool.and_eq_true, decide_eq_true_eq] at hk
    obtain ⟨_, hk⟩ := hk
    have single : (∀ cs, v ≠ .agg cs) → (∃ a, cz = [a]) → ∃ a, VR (H ++ g).length ρ1 a v ∧ ArgRep P (H ++ g) t d a := fun hna ⟨a, ha⟩ => by
      subst ha
      exact ⟨a, vr_single hv1 hna, [a], hp1, .inr rfl⟩
    have one : (∀ cs, v ≠ .agg cs) → ∃ a, cz = [a] := fun hna => by
      have : v.cells.toList = [v] := by
        cases v <;> first | rfl | exact absurd rfl (hna _)
      have h3 := hv1.1
      rw [this] at h3
      match cz, h3 with
      | [a], _ => exact ⟨a, rfl⟩
    have hex : ∃ a, VR (H ++ g).length ρ1 a v ∧ ArgRep P (H ++ g) t d a := by
      split at hk
      · rename_i hu
        obtain ⟨b, rfl⟩ := okWide_bool hu hval
        exact single (fun _ h => by cases h) (one fun _ h => by cases h)
      · rename_i k hu
        obtain ⟨b, rfl⟩ := okWide_int hu hval
        exact single (fun _ h => by cases h) (one fun _ h => by cases h)
      · rename_i hu
        obtain ⟨b, rfl⟩ := okWide_string hu hval
        exact single (fun _ h => by cases h) (one fun _ h => by cases h)
      · rename_i fs hu
        obtain ⟨cs, rfl, _⟩ := okWide_struct hu hval
        refine ⟨.agg cz.toArray, ?_, cz, hp1, .inl ⟨⟨fs, hu⟩, rfl⟩⟩
        have := hv1.agg
        simpa [Value.cells] using this
      · rename_i e hu
        obtain ⟨a, l, c, rfl⟩ := okWide_slice hu hval
        exact single (fun _ h => by cases h) (one fun _ h => by cases h)
      · cases hk
    obtain ⟨a, ha1, ha2⟩ := hex
    refine ⟨g ++ g2, ρ2, a :: avs, hr2, fun b hb => (hs2 b (by simp; omega)).trans (hs1 b hb), fun o ho => ?_, VL.cons (ha1.mono (by simp) hs2) hv2, by simp [hl2], fun j t' d' a' hj hd ha => ?_⟩
    · rcases List.mem_append.1 ho with ho | ho
      · exact hg1 o ho
      · exact hg2 o ho
    · cases j with
      | zero =>
        simp at hj hd ha
        subst hj; subst hd; subst ha
        rw [← List.append_assoc]
        exact ha2.mono
      | succ j => exact hh j t' d' a' (by simpa using hj) (by simpa using hd) (by simpa using ha)

/-! ### What an argument is -/

theorem Rep.inv_int {H : Heap} {t : TypeId} {k : IntKind} {d : DataW X} {cz : List Value} (hu : P.underlying t = some (.int k)) (h : Rep P H t d cz) : ∃ n, d = .lit (.int k n) ∧ cz = [.int k n] ∧ (Lit.int k n).wf = true := by
  cases h with
  | int k' n hu' hw => rw [hu] at hu'; cases hu'; exact ⟨n, rfl, rfl, hw⟩
  | bool b hu' => rw [hu] at hu'; cases hu'
  | str l hu' hl => rw [hu] at hu'; cases hu'
  | struct hu' => rw [hu] at hu'; cases hu'
  | nilS hu' => rw [hu] at hu'; cases hu'
  | empty hu' => rw [hu] at hu'; cases hu'
  | slice hu' => rw [hu] at hu'; cases hu'

theorem Rep.inv_bool {H : Heap} {t : TypeId} {d : DataW X} {cz : List Value} (hu : P.underlying t = some .bool) (h : Rep P H t d cz) : ∃ b, d = .lit (.bool b) ∧ cz = [.bool b] := by
  cases h with
  | int k' n hu' hw => rw [hu] at hu'; cases hu'
  | bool b hu' => exact ⟨b, rfl, rfl⟩
  | str l hu' hl => rw [hu] at hu'; cases hu'
  | struct hu' => rw [hu] at hu'; cases hu'
  | nilS hu' => rw [hu] at hu'; cases hu'
  | empty hu' => rw [hu] at hu'; cases hu'
  | slice hu' => rw [hu] at hu'; cases hu'

theorem Rep.inv_str {H : Heap} {t : TypeId} {d : DataW X} {cz : List Value} (hu : P.underlying t = some .string) (h : Rep P H t d cz) : ∃ l, d = .lit (.string l) ∧ cz = [.string (bs l)] ∧ l.length ≤ maxLen := by
  cases h with
  | int k' n hu' hw => rw [hu] at hu'; cases hu'
  | bool b hu' => rw [hu] at hu'; cases hu'
  | str l hu' hl => exact ⟨l, rfl, rfl, hl⟩
  | struct hu' => rw [hu] at hu'; cases hu'
  | nilS hu' => rw [hu] at hu'; cases hu'
  | empty hu' => rw [hu] at hu'; cases hu'
  | slice hu' => rw [hu] at hu'; cases hu'

theorem Rep.inv_struct {H : Heap} {t : TypeId} {fs : Array Field} {d : DataW X} {cz : List Value} (hu : P.underlying t = some (.struct fs)) (h : Rep P H t d cz) : ∃ (ds : List (DataW X)) (ass : List (List Value)), d = .agg ds ∧ cz = ass.flatten ∧ ds.length = fs.size ∧ ass.length = fs.size ∧
    ∀ (i : Nat) (f : Field) (d : DataW X) (cz : List Value), fs[i]? = some f → ds[i]? = some d → ass[i]? = some cz → Rep P H f.type d cz := by
  cases h with
  | int k' n hu' hw => rw [hu] at hu'; cases hu'
  | bool b hu' => rw [hu] at hu'; cases hu'
  | str l hu' hl => rw [hu] at hu'; cases hu'
  | struct hu' h1 h2 h3 h4 => rw [hu] at hu'; cases hu'; exact ⟨_, _, rfl, rfl, h1, h2, h3⟩
  | nilS hu' => rw [hu] at hu'; cases hu'
  | empty hu' => rw [hu] at hu'; cases hu'
  | slice hu' => rw [hu] at hu'; cases hu'

theorem Rep.inv_slice {H : Heap} {t e : TypeId} {d : DataW X} {cz : List Value} (hu : P.underlying t = some (.slice e)) (h : Rep P H t d cz) : (d = .nil ∧ cz = [.slice none 0 0]) ∨ (∃ sp, d = .slice [] sp ∧ cz = [.slice (some ⟨0, 0, some 0⟩) 0 0]) ∨
    ∃ (b : Nat) (ds sp : List (DataW X)) (ass : List (List Value)), d = .slice ds sp ∧ ds ≠ [] ∧ cz = [.slice (some ⟨b, 0, none⟩) ds.length ds.length] ∧ hget H b = .row ass.flatten 0 false ∧ ass.length = ds.length ∧
      (∀ (i : Nat) (d : DataW X) (cz : List Value), ds[i]? = some d → ass[i]? = some cz → Rep P H e d cz) ∧ (∀ (i : Nat) (cz : List Value), ass[i]? = some cz → cz.length = P.cellsOf e) := by
  cases h with
  | int k' n hu' hw => rw [hu] at hu'; cases hu'
  | bool b hu' => rw [hu] at hu'; cases hu'
  | str l hu' hl => rw [hu] at hu'; cases hu'
  | struct hu' => rw [hu] at hu'; cases hu'
  | nilS hu' => exact .inl ⟨rfl, rfl⟩
  | empty hu' => exact .inr (.inl ⟨_, rfl, rfl⟩)
  | slice hu' hne hb h2 h3 h4 => rw [hu] at hu'; cases hu'; exact .inr (.inr ⟨_, _, _, _, rfl, hne, rfl, hb, h2, h3, h4⟩)

/-- A struct of two fields. -/
theorem Rep.inv_two {H : Heap} {t : TypeId} {f0 f1 : Field} {d : DataW X} {cz : List Value} (hu : P.underlying t = some (.struct #[f0, f1])) (h : Rep P H t d cz) : ∃ d0 d1 a0 a1, d = .agg [d0, d1] ∧ cz = a0 ++ a1 ∧ Rep P H f0.type d0 a0 ∧ Rep P H f1.type d1 a1 := by
  obtain ⟨ds, ass, rfl, rfl, h1, h2, h3⟩ := h.inv_struct hu
  match ds, ass, h1, h2, h3 with
  | [d0, d1], [a0, a1], _, _, h3 => exact ⟨d0, d1, a0, a1, rfl, by simp, h3 0 f0 d0 a0 rfl rfl rfl, h3 1 f1 d1 a1 rfl rfl rfl⟩

/-- An unsigned number of 64 bits. -/
theorem Rep.inv_u64 {H : Heap} {t : TypeId} {d : DataW X} {cz : List Value} (hu : P.underlying t = some (.int .u64)) (h : Rep P H t d cz) : ∃ n : Nat, d = .lit (.int .u64 n) ∧ cz = [.int .u64 (n : Int)] ∧ n < 18446744073709551616 := by
  obtain ⟨n, rfl, rfl, hw⟩ := h.inv_int hu
  have hw : (0 : Int) ≤ n ∧ n ≤ 18446744073709551615 := by
    simpa [Lit.wf, IntKind.min, IntKind.max, IntKind.signed, IntKind.bits] using hw
  refine ⟨n.toNat, ?_, ?_, by omega⟩ <;> rw [Int.toNat_of_nonneg hw.1]

/-- A number of 64 bits. -/
theorem Rep.inv_i64 {H : Heap} {t : TypeId} {d : DataW X} {cz : List Value} (hu : P.underlying t = some (.int .i64)) (h : Rep P H t d cz) : ∃ n : Int, d = .lit (.int .i64 n) ∧ cz = [.int .i64 n] ∧ -9223372036854775808 ≤ n ∧ n < 9223372036854775808 := by
  obtain ⟨n, rfl, rfl, hw⟩ := h.inv_int hu
  have hw : (-9223372036854775808 : Int) ≤ n ∧ n ≤ 9223372036854775807 := by
    simpa [Lit.wf, IntKind.min, IntKind.max, IntKind.signed, IntKind.bits] using hw
  exact ⟨n, rfl, rfl, hw.1, by omega⟩

end

end Go.Proofs.YtedemfmafdilmaaDoor.Ev

/- LexNumbers: any value, written in tens, in sixteens (capitals, too) and in twos, is read as it was; with a needless nought, a letter behind, or more digits than there may be, it is none; whatever the inputs, the law answers true. Conditions: the two listed variables of the package read as the program's text lays them. -/
namespace Go.Proofs.YtedemfmafdilmaaDoor.Ev
open Go.ChangeShapes Go.WideShapes Go.ChangeAt Go.RowKit

theorem own : ownKnob Tryd.prog.godebug = none := by kernel_rfl

theorem VL.narrow {n m : Nat} {ρ ρ' : Nat → Place} {xs ys : List Value} (h : VL m ρ' xs ys) (hs : ∀ x ∈ xs, Scoped n x) (he : ∀ b, b < n → ρ' b = ρ b) : VL n ρ xs ys :=
  ⟨h.1, fun i x y hx hy => ((h.2 i x y hx hy).narrow (hs x (List.mem_of_getElem? hx))).mono (Nat.le_refl _) fun b hb => (he b hb).symm⟩

theorem bits_arg {P : Program} {H : Heap} {X : Type} {t : TypeId} {f0 f1 : Field} {d : DataW X} {a : Value} (hu : P.underlying t = some (.struct #[f0, f1])) (h0 : P.underlying f0.type = some (.int .u64)) (h1 : P.underlying f1.type = some (.int .u64))
    (h : ArgRep P H t d a) : ∃ v, v < W64 * W64 ∧ a = .agg #[.int .u64 ((v / W64 : Nat) : Int), .int .u64 ((v % W64 : Nat) : Int)] := by
  obtain ⟨cs, hr, hcase⟩ := h
  obtain ⟨d0, d1, a0, a1, rfl, rfl, r0, r1⟩ := hr.inv_two hu
  obtain ⟨x, rfl, rfl, hx⟩ := r0.inv_u64 h0
  obtain ⟨y, rfl, rfl, hy⟩ := r1.inv_u64 h1
  rcases hcase with ⟨_, rfl⟩ | h
  · have e1 : (x * W64 + y) / W64 = x := by show (x * 18446744073709551616 + y) / 18446744073709551616 = x; omega
    have e2 : (x * W64 + y) % W64 = y := by show (x * 18446744073709551616 + y) % 18446744073709551616 = y; omega
    refine ⟨x * W64 + y, ?_, ?_⟩
    · show x * 18446744073709551616 + y < 18446744073709551616 * 18446744073709551616; omega
    · rw [e1, e2]; rfl
  · simp at h

theorem str_arg {P : Program} {H : Heap} {X : Type} {t : TypeId} {d : DataW X} {a : Value} (hu : P.underlying t = some .string) (h : ArgRep P H t d a) : ∃ l, d = .lit (.string l) ∧ a = .string (bs l) := by
  obtain ⟨cs, hr, hcase⟩ := h
  obtain ⟨l, rfl, rfl, _⟩ := hr.inv_str hu
  rcases hcase with ⟨⟨fs, hf⟩, _⟩ | h
  · rw [hu] at hf; cases hf
  · simp at h; exact ⟨l, rfl, h.symm⟩

set_option maxRecDepth 100000 in
theorem lexNumbers_lifted (os : Os) (started : os.Started) (H : Type) (enc : TypeId × Value → H) :
    ReturnsInHanded {} Tryd.checked os 6 .any (fun w args => (Rows.lexNumbersSpec.pre enc Tryd.prog Tryd.f6 [] false w args ∧ laidMetH Tryd.prog laidL w) ∧ sizedMet enc Tryd.prog Tryd.f6 (OpenSpec.ofChange Rows.lexNumbersSpec) false w args)
      (Rows.lexNumbersSpec.post enc Tryd.prog Tryd.f6 false true false false) := by
  refine returnsInHanded_of_change_and (C := Tryd.checked) (X := fun w _ => laidMetH Tryd.prog laidL w) (fun _ _ _ hh h => h.of_heap hh) own started (by kernel_rfl) Tryd.func6
    (ChangeSpec.witness_at (enc := enc) (C := Tryd.checked) (os := os) (X := fun w _ => laidMetH Tryd.prog laidL w) false (laidWorld os) #[.agg #[.int .u64 0, .int .u64 0], .string ByteArray.empty] 8 rfl (by kernel_rfl) (by kernel_rfl) (by kernel_rfl) (by kernel_rfl) (by kernel_rfl) (laidWorld_met os _)) ?_
  intro W base args ds gs before hval0 hW _ hsz hL _
  have hval : ∀ (j : Nat) t v, Tryd.f6.params[j]? = some t → args[j]? = some v → Value.okWide Tryd.prog W .any base t v := hval0
  have hW' := hW
  obtain ⟨p, q, hA0, hV, rfl, hfz, hnd⟩ := hW
  have hA : DataW.TrodAll enc Tryd.prog W 0 (fun _ => true) true Tryd.f6.params.toList args.toList ds p := hA0
  rw [Tryd.params6] at hA hval
  obtain ⟨rfl, rfl⟩ := trodVars_none hV
  obtain ⟨g, ρ', avs, hr, hs, hg, hvl, hlen, hrep⟩ := open_args (G := 2) (L := [37, 9, 35]) (by kernel_rfl) (by kernel_rfl) (by kernel_rfl) (by decide) hA (fun j t v h1 h2 => hval j t v (by simpa using h1) (by simpa using h2)) H0 ρ0 H0_ro (rel_of_laid hL)
  have hA1 := hA
  obtain ⟨v0, vs0, d0, ds0, p0, q0, hargs, rfl, rfl, h0, r0⟩ := trodAll_cons hA1
  obtain ⟨v1, vs1, d1, ds1, p1, q1, rfl, rfl, rfl, h1, r1⟩ := trodAll_cons r0
  obtain ⟨rfl, rfl, rfl⟩ := trodAll_nil r1
  obtain rfl : args = #[v0, v1] := by cases args; simp_all
  match avs, hlen with
  | [a0, a1], _ =>
  obtain ⟨v, hv, rfl⟩ := bits_arg Tryd.underlying37 Tryd.underlying35 Tryd.underlying35 (hrep 0 37 d0 a0 rfl rfl rfl)
  obtain ⟨l, rfl, rfl⟩ := str_arg Tryd.underlying9 (hrep 1 9 d1 a1 rfl rfl rfl)
  have hsz' : (DataW.weightsEach Tryd.prog (Tryd.f6.params.toList ++ Rows.lexNumbersSpec.plain.varTypes Tryd.prog) ([d0, DataW.lit (Lit.string l)] ++ [])).all (· ≤ reachBytes) = true := hsz
  rw [Tryd.params6] at hsz'
  have w1 : l.length ≤ 140737488351232 := sized_string hsz' (j := 1) (t := 9) rfl rfl
  refine (wd_true t6 (H := H0) (numbers_w hv w1) (rel_of_laid hL) (args' := #[v0, v1]) (VL.narrow hvl (fun x hx => ?_) hs) H0_ro).mono fun e W' ⟨he, bel⟩ => ?_
  · simp only [List.mem_cons, List.not_mem_nil, or_false] at hx
    rcases hx with rfl | rfl
    · exact .closed rfl
    · exact .string
  subst he
  exact ⟨_, rfl, _, _, _, [], _, [], hW', trodAll_mk1 (shut_bool Tryd.underlying4 _), args_stay (by kernel_rfl) (by kernel_rfl) (by kernel_rfl) bel (by decide) hA, rfl, bel.frame _, fun h => by cases h⟩

theorem lexNumbers_holds : Rows.LexNumbersSaid :=
  OpenClaim.holds_of_wide 6 Tryd.f6 rfl rfl rfl rfl rfl rfl rfl ⟨rfl, rfl, rfl, rfl, rfl⟩ rfl rfl rfl rfl rfl (by kernel_rfl) Tryd.func6 (by kernel_rfl)
    (of_decide_eq_true (by kernel_rfl)) (by unfold Func.isWrapper; first | (rw [if_pos (by decide +kernel)]; kernel_rfl) | (rw [if_neg (by decide +kernel)]; exact ⟨rfl, rfl⟩))
    (fun os started H enc _ => lexNumbers_lifted os started H enc)

theorem lexNumbers_card : Rows.LexNumbersCardSaid :=
  Claim7.holds_tied_plain_at .later [] [.widerDeep, .data] true (true, "af44d569235a37a409b0e6fef227592d3eeda13ab14ac31fe215969754f49251") false
    lexNumbers_holds (fun _ h => by cases h) (by kernel_rfl) (fun _ h => by cases h) lexNumbers_row_tie rfl ⟨rfl, rfl⟩ (by kernel_rfl) rfl
    (fun f fn hf hfn => by
      obtain rfl : f = 6 := Option.some.inj ((show Tryd.prog.funcNamed "turnout/turnoutlaw06.LexNumbers" = some 6 by kernel_rfl).symm.trans hf) |>.symm
      obtain rfl : fn = Tryd.f6 := (Option.some.inj (Tryd.func6.symm.trans hfn)).symm
      exact ⟨by kernel_rfl, fun j t ht => by
        rw [Tryd.params6] at ht
        have h3 : t = 37 ∨ t = 9 := by
          rcases j with _ | _ | j
          · left; simpa using ht.symm
          · right; simpa using ht.symm
          · simp at ht
        rcases h3 with rfl | rfl
        · exact (show Tryd.prog.wantsStandIn 37 = false by kernel_rfl)
        · exact (show Tryd.prog.wantsStandIn 9 = false by kernel_rfl)⟩)
    (by kernel_rfl)
#print axioms lexNumbers_card
end Go.Proofs.YtedemfmafdilmaaDoor.Ev
