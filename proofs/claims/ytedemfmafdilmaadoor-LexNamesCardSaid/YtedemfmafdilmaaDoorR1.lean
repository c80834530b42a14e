/- The document's own small functions. -/
import Derived.Test.YtedemfmafdilmaaDoorL9
namespace Go.Proofs.YtedemfmafdilmaaDoor.Ev
set_option maxRecDepth 100000
set_option linter.unusedSimpArgs false
set_option linter.unusedVariables false
variable {R : FRes → Heap → Prop} {H : Heap}

def isBool (b : Bool) : Option (FRes × Heap) → Bool
  | some (.ret (.bool c), _) => b == c
  | _ => false
theorem of_isBool {b : Bool} {x : Option (FRes × Heap)} (h : isBool b x = true) : ∃ H1, x = some (.ret (.bool b), H1) := by
  unfold isBool at h
  split at h
  · obtain rfl : b = _ := by simpa using h
    exact ⟨_, rfl⟩
  · cases h
def isInt (n : Int) : Option (FRes × Heap) → Bool
  | some (.ret (.int .i64 m), _) => n == m
  | _ => false
theorem of_isInt {n : Int} {x : Option (FRes × Heap)} (h : isInt n x = true) : ∃ H1, x = some (.ret (.int .i64 n), H1) := by
  unfold isInt at h
  split at h
  · obtain rfl : n = _ := by simpa using h
    exact ⟨_, rfl⟩
  · cases h

theorem byte_bool {f : FuncId} {g : Nat → Bool} (hc : (List.range 256).all (fun n => isBool (g n) (evalFn Tab 16 f [.int .u8 (n : Int)] H0)) = true) {b : UInt8} (hH : On0 H) (h : R (.ret (.bool (g b.toNat))) H) : WD T f [.int .u8 (b.toNat : Int)] H R := by
  have h1 := List.all_eq_true.1 hc b.toNat (by simpa using b.toNat_lt)
  obtain ⟨H1, he⟩ := of_isBool h1
  exact WD.frame0 hH globs H0_rows (by simp [closedV, closed1]) .bool (WD.ev follows table_ok he rfl) h
theorem byte_int {f : FuncId} {g : Nat → Int} (hc : (List.range 256).all (fun n => isInt (g n) (evalFn Tab 16 f [.int .u8 (n : Int)] H0)) = true) {b : UInt8} (hH : On0 H) (h : R (.ret (.int .i64 (g b.toNat))) H) : WD T f [.int .u8 (b.toNat : Int)] H R := by
  have h1 := List.all_eq_true.1 hc b.toNat (by simpa using b.toNat_lt)
  obtain ⟨H1, he⟩ := of_isInt h1
  exact WD.frame0 hH globs H0_rows (by simp [closedV, closed1]) .int (WD.ev follows table_ok he rfl) h

def smallN (n : Nat) : Bool := decide (97 ≤ n) && decide (n ≤ 122)
def digitN (n : Nat) : Bool := decide (48 ≤ n) && decide (n ≤ 57)
def partN (n : Nat) : Bool := digitN n || smallN n || (decide (65 ≤ n) && decide (n ≤ 90)) || n == 95
def blankN (n : Nat) : Bool := n == 32 || n == 9 || n == 10 || n == 13
def saysN (n : Nat) : Int := if digitN n then (n : Int) - 48 else if 97 ≤ n ∧ n ≤ 102 then (n : Int) - 87 else if 65 ≤ n ∧ n ≤ 70 then (n : Int) - 55 else 99

theorem rsmall_s {b : UInt8} (hH : On0 H) (h : R (.ret (.bool (smallN b.toNat))) H) : WD T 34 [.int .u8 (b.toNat : Int)] H R := byte_bool (by kernel_rfl) hH h
theorem rdigit_s {b : UInt8} (hH : On0 H) (h : R (.ret (.bool (digitN b.toNat))) H) : WD T 35 [.int .u8 (b.toNat : Int)] H R := byte_bool (by kernel_rfl) hH h
theorem rblank_s {b : UInt8} (hH : On0 H) (h : R (.ret (.bool (blankN b.toNat))) H) : WD T 44 [.int .u8 (b.toNat : Int)] H R := byte_bool (by kernel_rfl) hH h
theorem rpart_s {b : UInt8} (hH : On0 H) (h : R (.ret (.bool (partN b.toNat))) H) : WD T 45 [.int .u8 (b.toNat : Int)] H R := byte_bool (by kernel_rfl) hH h
theorem says_s {b : UInt8} (hH : On0 H) (h : R (.ret (.int .i64 (saysN b.toNat))) H) : WD T 56 [.int .u8 (b.toNat : Int)] H R := byte_int (by kernel_rfl) hH h

theorem small_first (b : UInt8) : smallN b.toNat = firstQ b := by
  simp only [smallN, firstQ]
  congr 1 <;> congr 1 <;> simp <;> omega
theorem digit_q (b : UInt8) : digitN b.toNat = digQ b := by
  simp only [digitN, digQ]
  congr 1 <;> congr 1 <;> simp <;> omega

/-- The reserved words, laid anew. -/
theorem rReserved_s (h : R (.ret (.slice (some ⟨H.length, 0, none⟩) 29 29)) (H ++ [.row (strV wordsL) 1 true])) : WD T 20 [] H R := by
  exact WD.ev follows table_ok (show evalFn Tab 2 20 [] H = some (.ret (.slice (some ⟨H.length, 0, none⟩) 29 29), H ++ [.row (strV wordsL) 1 true]) by kernel_rfl) h

def rwordI (l : List UInt8) (H : Heap) : Nat → Env → Heap → Prop := fun n e H' =>
  ∃ i : Nat, i ≤ 29 ∧ n = 29 - i ∧ H' = H ++ [.row (strV wordsL) 1 true] ∧ (∃ x : Nat → Value, e = [.string (bs l), x 1, x 2, .slice (some ⟨H.length, 0, none⟩) 29 29, .int .i64 i, x 5, x 6, x 7, x 8, x 9, x 10, x 11, x 12, x 13, x 14, x 15, x 16, x 17]) ∧ ∀ j (h : j < wordsL.length), j < i → wordsL[j] ≠ l

theorem rIsReserved_s {l : List UInt8} (h : R (.ret (.bool (wordsL.contains l))) H) : WD T 36 [.string (bs l)] H R := by
  refine WD.gc0 (WD.of follows t36 (by simp) ?_)
  simp (disch := omega) only [wops_nil, wops_cons, wops_guard, wops_chk, wg_true, wg_false, wg_tf, wg_ft, wg_undef, wa_true, wr_val, wr_val0, wr_skip0, wr_pan, wr_call, callK_ret, callK_ret0, wc_skip, wc_ops, wc_seq, wc_cond, wc_block, wc_exit, wc_ret, wc_loop, seqK_norm, seqK_ret, seqK_exit, seqK_pan, blockK_norm, blockK_ret, blockK_pan, blockK_exit, wb_true, wb_false, put_zero, put_succ8, put_succ, get_succ8, pad_zero, pad_nil, pad_cons, get_nil, get_zero, get_succ, aev_tmp, aev_const, aev_global, aev_func, ofO_some, retK_ret, retK_norm, retK_pan, pack_one, pack_two, pack_nil, bin_add, bin_sub, bin_mul, bin_eql, bin_neq, bin_lss, bin_leq, bin_gtr, bin_geq, aop, bs_size, boundV_int, bs_extract, Int.toNat_natCast, List.drop_zero, List.take_length, bnd_none, bnd_some, bin_str_eql, bin_str_neq, resultsL, resultOf, ne_eq, Nat.reduceEqDiff, not_false_eq_true, List.map_cons, List.map_nil, reduceCtorEq, List.getElem?_cons_zero, List.getElem?_cons_succ, List.nil_append, List.append_nil, List.cons_append, putO_some, putO_none, decide_true, decide_false, Bool.not_true, Bool.not_false, if_true, if_false, Bool.false_eq_true, Int.natCast_nonneg, not_true_eq_false, not_false_eq_true, or_self, or_false, false_or, or_true, true_or, Option.map_some, Option.map_none, Bool.bne_true, Bool.bne_false, List.getD_cons_zero, List.getD_cons_succ, apartOK, apart2, AObj.live, Nat.add_left_cancel_iff, Nat.left_eq_add, Nat.add_eq_left, Bool.or_true, Bool.or_false, Bool.true_or, Bool.false_or, Nat.reduceEqDiff, Nat.mul_one, eq_self, Int.reduceEq, Int.reduceLT, Int.reduceLE, Int.reduceAdd, Int.reduceSub, Int.reduceMul, Int.reduceToNat, Int.toNat_zero, cof_int, cof_bool, cof_string, cof_ptr, cof_sl, cof_func, cof_nilFunc, cof_nilIface, cof_iface, cof_agg, one_int, one_bool, one_string, one_ptr, one_sl, one_func, one_nilFunc, one_nilIface, one_iface, fill_nil, fill_cons, setL_nil, setL_cons, toList_mk, agg_list, cutCells, List.drop_succ_cons, List.drop_zero, List.take_succ_cons, List.take_zero, List.all_cons, List.all_nil, Bool.and_true, Bool.true_and, and_self, and_true, true_and, List.length_cons, List.length_nil, List.length_set, Nat.reduceAdd, Nat.reduceLeDiff, Nat.reduceLT, Nat.reduceMul, Nat.reduceSub, Nat.le_refl, List.set_cons_zero, List.set_cons_succ, Nat.zero_add, hget_baseSS, hget_baseSS0, set_baseSS, set_baseSS0, hget_oldSS, set_oldSS, hget_setS, hget_oldS, hget_set', set_oldS, hget_old, set_old, bs_list, List.length_set, hget_baseS, hget_baseS0, set_baseS, set_baseS0, List.set_set, List.append_assoc, List.length_append, List.length_cons, List.length_nil, hget_base, hget_base0, set_base, set_base0, hget_c0, hget_cs, List.set_cons_zero, List.set_cons_succ, Nat.zero_add, Nat.reduceAdd, Nat.add_zero]
  (repeat ((first | refine rReserved_s ?_); try simp (disch := omega) only [wops_nil, wops_cons, wops_guard, wops_chk, wg_true, wg_false, wg_tf, wg_ft, wg_undef, wa_true, wr_val, wr_val0, wr_skip0, wr_pan, wr_call, callK_ret, callK_ret0, wc_skip, wc_ops, wc_seq, wc_cond, wc_block, wc_exit, wc_ret, wc_loop, seqK_norm, seqK_ret, seqK_exit, seqK_pan, blockK_norm, blockK_ret, blockK_pan, blockK_exit, wb_true, wb_false, put_zero, put_succ8, put_succ, get_succ8, pad_zero, pad_nil, pad_cons, get_nil, get_zero, get_succ, aev_tmp, aev_const, aev_global, aev_func, ofO_some, retK_ret, retK_norm, retK_pan, pack_one, pack_two, pack_nil, bin_add, bin_sub, bin_mul, bin_eql, bin_neq, bin_lss, bin_leq, bin_gtr, bin_geq, aop, bs_size, boundV_int, bs_extract, Int.toNat_natCast, List.drop_zero, List.take_length, bnd_none, bnd_some, bin_str_eql, bin_str_neq, resultsL, resultOf, ne_eq, Nat.reduceEqDiff, not_false_eq_true, List.map_cons, List.map_nil, reduceCtorEq, List.getElem?_cons_zero, List.getElem?_cons_succ, List.nil_append, List.append_nil, List.cons_append, putO_some, putO_none, decide_true, decide_false, Bool.not_true, Bool.not_false, if_true, if_false, Bool.false_eq_true, Int.natCast_nonneg, not_true_eq_false, not_false_eq_true, or_self, or_false, false_or, or_true, true_or, Option.map_some, Option.map_none, Bool.bne_true, Bool.bne_false, List.getD_cons_zero, List.getD_cons_succ, apartOK, apart2, AObj.live, Nat.add_left_cancel_iff, Nat.left_eq_add, Nat.add_eq_left, Bool.or_true, Bool.or_false, Bool.true_or, Bool.false_or, Nat.reduceEqDiff, Nat.mul_one, eq_self, Int.reduceEq, Int.reduceLT, Int.reduceLE, Int.reduceAdd, Int.reduceSub, Int.reduceMul, Int.reduceToNat, Int.toNat_zero, cof_int, cof_bool, cof_string, cof_ptr, cof_sl, cof_func, cof_nilFunc, cof_nilIface, cof_iface, cof_agg, one_int, one_bool, one_string, one_ptr, one_sl, one_func, one_nilFunc, one_nilIface, one_iface, fill_nil, fill_cons, setL_nil, setL_cons, toList_mk, agg_list, cutCells, List.drop_succ_cons, List.drop_zero, List.take_succ_cons, List.take_zero, List.all_cons, List.all_nil, Bool.and_true, Bool.true_and, and_self, and_true, true_and, List.length_cons, List.length_nil, List.length_set, Nat.reduceAdd, Nat.reduceLeDiff, Nat.reduceLT, Nat.reduceMul, Nat.reduceSub, Nat.le_refl, List.set_cons_zero, List.set_cons_succ, Nat.zero_add, hget_baseSS, hget_baseSS0, set_baseSS, set_baseSS0, hget_oldSS, set_oldSS, hget_setS, hget_oldS, hget_set', set_oldS, hget_old, set_old, bs_list, List.length_set, hget_baseS, hget_baseS0, set_baseS, set_baseS0, List.set_set, List.append_assoc, List.length_append, List.length_cons, List.length_nil, hget_base, hget_base0, set_base, set_base0, hget_c0, hget_cs, List.set_cons_zero, List.set_cons_succ, Nat.zero_add, Nat.reduceAdd, Nat.add_zero]))
  refine WLoop.inv (rwordI l H) ?_ 29 _ _ ⟨0, by simp, rfl, rfl, (ex_env rfl), fun j _ h => by omega⟩
  rintro n e H' ⟨i, h1, rfl, rfl, ⟨x, rfl⟩, h4⟩
  have hlen : wordsL.length = 29 := rfl
  by_cases hi : i < 29
  · have hi' : (i : Int) < 29 := by omega
    have hi2 : (i : Int) < ((29 : Nat) : Int) := by omega
    have hw := strV_get wordsL i (by omega)
    simp (disch := omega) only [wops_nil, wops_cons, wops_guard, wops_chk, wg_true, wg_false, wg_tf, wg_ft, wg_undef, wa_true, wr_val, wr_val0, wr_skip0, wr_pan, wr_call, callK_ret, callK_ret0, wc_skip, wc_ops, wc_seq, wc_cond, wc_block, wc_exit, wc_ret, wc_loop, seqK_norm, seqK_ret, seqK_exit, seqK_pan, blockK_norm, blockK_ret, blockK_pan, blockK_exit, wb_true, wb_false, put_zero, put_succ8, put_succ, get_succ8, pad_zero, pad_nil, pad_cons, get_nil, get_zero, get_succ, aev_tmp, aev_const, aev_global, aev_func, ofO_some, retK_ret, retK_norm, retK_pan, pack_one, pack_two, pack_nil, bin_add, bin_sub, bin_mul, bin_eql, bin_neq, bin_lss, bin_leq, bin_gtr, bin_geq, aop, bs_size, boundV_int, bs_extract, Int.toNat_natCast, List.drop_zero, List.take_length, bnd_none, bnd_some, bin_str_eql, bin_str_neq, resultsL, resultOf, ne_eq, Nat.reduceEqDiff, not_false_eq_true, List.map_cons, List.map_nil, reduceCtorEq, List.getElem?_cons_zero, List.getElem?_cons_succ, List.nil_append, List.append_nil, List.cons_append, putO_some, putO_none, decide_true, decide_false, Bool.not_true, Bool.not_false, if_true, if_false, Bool.false_eq_true, Int.natCast_nonneg, not_true_eq_false, not_false_eq_true, or_self, or_false, false_or, or_true, true_or, Option.map_some, Option.map_none, Bool.bne_true, Bool.bne_false, List.getD_cons_zero, List.getD_cons_succ, apartOK, apart2, AObj.live, Nat.add_left_cancel_iff, Nat.left_eq_add, Nat.add_eq_left, Bool.or_true, Bool.or_false, Bool.true_or, Bool.false_or, Nat.reduceEqDiff, Nat.mul_one, eq_self, Int.reduceEq, Int.reduceLT, Int.reduceLE, Int.reduceAdd, Int.reduceSub, Int.reduceMul, Int.reduceToNat, Int.toNat_zero, cof_int, cof_bool, cof_string, cof_ptr, cof_sl, cof_func, cof_nilFunc, cof_nilIface, cof_iface, cof_agg, one_int, one_bool, one_string, one_ptr, one_sl, one_func, one_nilFunc, one_nilIface, one_iface, fill_nil, fill_cons, setL_nil, setL_cons, toList_mk, agg_list, cutCells, List.drop_succ_cons, List.drop_zero, List.take_succ_cons, List.take_zero, List.all_cons, List.all_nil, Bool.and_true, Bool.true_and, and_self, and_true, true_and, List.length_cons, List.length_nil, List.length_set, Nat.reduceAdd, Nat.reduceLeDiff, Nat.reduceLT, Nat.reduceMul, Nat.reduceSub, Nat.le_refl, List.set_cons_zero, List.set_cons_succ, Nat.zero_add, hget_baseSS, hget_baseSS0, set_baseSS, set_baseSS0, hget_oldSS, set_oldSS, hget_setS, hget_oldS, hget_set', set_oldS, hget_old, set_old, bs_list, List.length_set, hget_baseS, hget_baseS0, set_baseS, set_baseS0, List.set_set, List.append_assoc, List.length_append, List.length_cons, List.length_nil, hget_base, hget_base0, set_base, set_base0, hget_c0, hget_cs, List.set_cons_zero, List.set_cons_succ, Nat.zero_add, Nat.reduceAdd, Nat.add_zero, hi', hi2, hw, if_pos]
    refine wb_dec (fun hx => ?_) (fun hx => ?_) <;> simp (disch := omega) only [wops_nil, wops_cons, wops_guard, wops_chk, wg_true, wg_false, wg_tf, wg_ft, wg_undef, wa_true, wr_val, wr_val0, wr_skip0, wr_pan, wr_call, callK_ret, callK_ret0, wc_skip, wc_ops, wc_seq, wc_cond, wc_block, wc_exit, wc_ret, wc_loop, seqK_norm, seqK_ret, seqK_exit, seqK_pan, blockK_norm, blockK_ret, blockK_pan, blockK_exit, wb_true, wb_false, put_zero, put_succ8, put_succ, get_succ8, pad_zero, pad_nil, pad_cons, get_nil, get_zero, get_succ, aev_tmp, aev_const, aev_global, aev_func, ofO_some, retK_ret, retK_norm, retK_pan, pack_one, pack_two, pack_nil, bin_add, bin_sub, bin_mul, bin_eql, bin_neq, bin_lss, bin_leq, bin_gtr, bin_geq, aop, bs_size, boundV_int, bs_extract, Int.toNat_natCast, List.drop_zero, List.take_length, bnd_none, bnd_some, bin_str_eql, bin_str_neq, resultsL, resultOf, ne_eq, Nat.reduceEqDiff, not_false_eq_true, List.map_cons, List.map_nil, reduceCtorEq, List.getElem?_cons_zero, List.getElem?_cons_succ, List.nil_append, List.append_nil, List.cons_append, putO_some, putO_none, decide_true, decide_false, Bool.not_true, Bool.not_false, if_true, if_false, Bool.false_eq_true, Int.natCast_nonneg, not_true_eq_false, not_false_eq_true, or_self, or_false, false_or, or_true, true_or, Option.map_some, Option.map_none, Bool.bne_true, Bool.bne_false, List.getD_cons_zero, List.getD_cons_succ, apartOK, apart2, AObj.live, Nat.add_left_cancel_iff, Nat.left_eq_add, Nat.add_eq_left, Bool.or_true, Bool.or_false, Bool.true_or, Bool.false_or, Nat.reduceEqDiff, Nat.mul_one, eq_self, Int.reduceEq, Int.reduceLT, Int.reduceLE, Int.reduceAdd, Int.reduceSub, Int.reduceMul, Int.reduceToNat, Int.toNat_zero, cof_int, cof_bool, cof_string, cof_ptr, cof_sl, cof_func, cof_nilFunc, cof_nilIface, cof_iface, cof_agg, one_int, one_bool, one_string, one_ptr, one_sl, one_func, one_nilFunc, one_nilIface, one_iface, fill_nil, fill_cons, setL_nil, setL_cons, toList_mk, agg_list, cutCells, List.drop_succ_cons, List.drop_zero, List.take_succ_cons, List.take_zero, List.all_cons, List.all_nil, Bool.and_true, Bool.true_and, and_self, and_true, true_and, List.length_cons, List.length_nil, List.length_set, Nat.reduceAdd, Nat.reduceLeDiff, Nat.reduceLT, Nat.reduceMul, Nat.reduceSub, Nat.le_refl, List.set_cons_zero, List.set_cons_succ, Nat.zero_add, hget_baseSS, hget_baseSS0, set_baseSS, set_baseSS0, hget_oldSS, set_oldSS, hget_setS, hget_oldS, hget_set', set_oldS, hget_old, set_old, bs_list, List.length_set, hget_baseS, hget_baseS0, set_baseS, set_baseS0, List.set_set, List.append_assoc, List.length_append, List.length_cons, List.length_nil, hget_base, hget_base0, set_base, set_base0, hget_c0, hget_cs, List.set_cons_zero, List.set_cons_succ, Nat.zero_add, Nat.reduceAdd, Nat.add_zero, wr_i64]
    · have e : wordsL.contains l = true := by
        rw [List.contains_iff_mem, ← hx]
        exact List.getElem_mem _
      rw [e] at h
      exact ⟨_, rfl, ⟨_, rfl⟩, .bool, h⟩
    · refine ⟨29 - (i + 1), by omega, i + 1, by omega, rfl, rfl, (ex_env rfl), fun j hj hji => ?_⟩
      · by_cases hji2 : j = i
        · subst hji2; exact hx
        · exact h4 j hj (by omega)
  · have hi' : ¬ (i : Int) < 29 := by omega
    have hi2 : ¬ (i : Int) < ((29 : Nat) : Int) := by omega
    simp (disch := omega) only [wops_nil, wops_cons, wops_guard, wops_chk, wg_true, wg_false, wg_tf, wg_ft, wg_undef, wa_true, wr_val, wr_val0, wr_skip0, wr_pan, wr_call, callK_ret, callK_ret0, wc_skip, wc_ops, wc_seq, wc_cond, wc_block, wc_exit, wc_ret, wc_loop, seqK_norm, seqK_ret, seqK_exit, seqK_pan, blockK_norm, blockK_ret, blockK_pan, blockK_exit, wb_true, wb_false, put_zero, put_succ8, put_succ, get_succ8, pad_zero, pad_nil, pad_cons, get_nil, get_zero, get_succ, aev_tmp, aev_const, aev_global, aev_func, ofO_some, retK_ret, retK_norm, retK_pan, pack_one, pack_two, pack_nil, bin_add, bin_sub, bin_mul, bin_eql, bin_neq, bin_lss, bin_leq, bin_gtr, bin_geq, aop, bs_size, boundV_int, bs_extract, Int.toNat_natCast, List.drop_zero, List.take_length, bnd_none, bnd_some, bin_str_eql, bin_str_neq, resultsL, resultOf, ne_eq, Nat.reduceEqDiff, not_false_eq_true, List.map_cons, List.map_nil, reduceCtorEq, List.getElem?_cons_zero, List.getElem?_cons_succ, List.nil_append, List.append_nil, List.cons_append, putO_some, putO_none, decide_true, decide_false, Bool.not_true, Bool.not_false, if_true, if_false, Bool.false_eq_true, Int.natCast_nonneg, not_true_eq_false, not_false_eq_true, or_self, or_false, false_or, or_true, true_or, Option.map_some, Option.map_none, Bool.bne_true, Bool.bne_false, List.getD_cons_zero, List.getD_cons_succ, apartOK, apart2, AObj.live, Nat.add_left_cancel_iff, Nat.left_eq_add, Nat.add_eq_left, Bool.or_true, Bool.or_false, Bool.true_or, Bool.false_or, Nat.reduceEqDiff, Nat.mul_one, eq_self, Int.reduceEq, Int.reduceLT, Int.reduceLE, Int.reduceAdd, Int.reduceSub, Int.reduceMul, Int.reduceToNat, Int.toNat_zero, cof_int, cof_bool, cof_string, cof_ptr, cof_sl, cof_func, cof_nilFunc, cof_nilIface, cof_iface, cof_agg, one_int, one_bool, one_string, one_ptr, one_sl, one_func, one_nilFunc, one_nilIface, one_iface, fill_nil, fill_cons, setL_nil, setL_cons, toList_mk, agg_list, cutCells, List.drop_succ_cons, List.drop_zero, List.take_succ_cons, List.take_zero, List.all_cons, List.all_nil, Bool.and_true, Bool.true_and, and_self, and_true, true_and, List.length_cons, List.length_nil, List.length_set, Nat.reduceAdd, Nat.reduceLeDiff, Nat.reduceLT, Nat.reduceMul, Nat.reduceSub, Nat.le_refl, List.set_cons_zero, List.set_cons_succ, Nat.zero_add, hget_baseSS, hget_baseSS0, set_baseSS, set_baseSS0, hget_oldSS, set_oldSS, hget_setS, hget_oldS, hget_set', set_oldS, hget_old, set_old, bs_list, List.length_set, hget_baseS, hget_baseS0, set_baseS, set_baseS0, List.set_set, List.append_assoc, List.length_append, List.length_cons, List.length_nil, hget_base, hget_base0, set_base, set_base0, hget_c0, hget_cs, List.set_cons_zero, List.set_cons_succ, Nat.zero_add, Nat.reduceAdd, Nat.add_zero, hi', hi2]
    have e : wordsL.contains l = false := by
      rw [Bool.eq_false_iff]
      intro hc
      rw [List.contains_iff_mem] at hc
      obtain ⟨j, hj, rfl⟩ := List.getElem_of_mem hc
      exact h4 j hj (by omega) rfl
    rw [e] at h
    exact ⟨_, rfl, ⟨_, rfl⟩, .bool, h⟩

end Go.Proofs.YtedemfmafdilmaaDoor.Ev
