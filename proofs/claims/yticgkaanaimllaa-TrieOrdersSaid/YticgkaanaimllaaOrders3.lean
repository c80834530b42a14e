/- Parts of the proof: T7, T8, P2, P3, P4, T9, T10, T11, T12a, T15, T16, T17, P5, P6, P7, P8, T17b, SA, T23, T24, P9. Conditions: none. -/
import Derived.Test.YticgkaanaimllaaOrders2
/- Find, Every, Get. -/
namespace Go.Proofs.Yticgkaanaimllaa.Ev
set_option maxRecDepth 100000
set_option linter.unusedSimpArgs false
set_option linter.unusedVariables false
variable {R : FRes → Heap → Prop} {H : Heap}

theorem pre_of {H H' : Heap} (hl : H.length ≤ H'.length) (h : ∀ c, c < H.length → hget H' c = hget H c) : ∃ g, H' = H ++ g := by
  refine ⟨H'.drop H.length, ?_⟩
  have : H'.take H.length = H := by
    refine List.ext_getElem? fun i => ?_
    rw [List.getElem?_take]
    by_cases hi : i < H.length
    · rw [if_pos hi]
      have := h i hi
      unfold hget at this
      rw [List.getElem?_eq_getElem hi, List.getElem?_eq_getElem (by omega)] at this ⊢
      simp only at this
      rw [this]
    · rw [if_neg hi, List.getElem?_eq_none (by omega)]
  conv => lhs; rw [← List.take_append_drop H.length H', this]

theorem TA.frame {H' : Heap} : ∀ {t : Tr}, TA H t → (∀ c, c < H.length → hget H' c = hget H c) → TA H' t
  | .nil, _, _ => trivial
  | .node b a n full v l r, ⟨⟨wr, h1⟩, h2, h3⟩, h => ⟨⟨wr, (h b (hget_lt h1 rfl)).trans h1⟩, h2.frame h, h3.frame h⟩

theorem wayL_mem {w a : Nat} : ∀ {t : Tr}, TA H t → ∀ nd ∈ wayL w a t, TA H nd ∧ ∃ b c n v l r, nd = .node b c n true v l r
  | .nil, _, nd, h => by cases h
  | .node b c n f v l r, ht, nd, h => by
    rw [wayL] at h
    split at h
    · rcases List.mem_append.1 h with h | h
      · cases f with
        | true =>
          simp only [if_true, List.mem_cons, List.not_mem_nil, or_false] at h
          subst h
          exact ⟨ht, _, _, _, _, _, _, rfl⟩
        | false => simp at h
      · split at h
        · cases h
        · split at h
          · exact wayL_mem ht.2.1 nd h
          · exact wayL_mem ht.2.2 nd h
    · cases h

def lastV (L : List Tr) : Value := match L.getLast? with | some nd => nd.ptr | none => .pointer none
def findR (L : List Tr) : Value := match L.getLast? with
  | some (.node _ c n _ v _ _) => .tuple #[pfv c n, .int .i64 v, .bool true]
  | _ => .tuple #[pfA 0 0 0, .int .i64 0, .bool false]

theorem lastV_snoc (L : List Tr) (nd : Tr) : lastV (L ++ [nd]) = nd.ptr := by simp [lastV]

/-- While the way is gone, for Find. -/
def FindS (H : Heap) (L : List Tr) (H' : Heap) : Prop :=
  H.length + 3 ≤ H'.length ∧ (∀ c, c < H.length → hget H' c = hget H c) ∧ hget H' (H.length + 1) = .row [.int .u64 0, .int .u64 0, .int .i64 0] 0 true ∧ hget H' (H.length + 2) = .row [lastV L] 0 true

theorem cof_last (L : List Tr) : cellsOf (lastV L) = [lastV L] := by
  unfold lastV
  split
  · exact cof_tr _
  · rfl

theorem find_t {b w a : Nat} {m l : Int} {t : Tr} (hd : hget H b = .row [.int .i64 (w : Int), .int .i64 m, .int .i64 l, t.ptr] 0 true) (lies : TA H t) (ok : TW w t) (hw : 1 ≤ w) (hw2 : w ≤ 128) (ha : a < 2 ^ 128)
    (h : R (.ret (findR (if a < 2 ^ w then wayL w a t else []))) H) : WD T 14 [.pointer (some ⟨b, 0, none⟩), bvA a] H R := by
  have lb := hget_lt hd rfl
  refine WD.gc0 (WD.of follows t14 (by simp) ?_)
  simp (disch := omega) only [kB, kcx, kdm, kdn, kel, aop, resultsL, resultOf, Nat.reduceEqDiff, reduceCtorEq, eq1, apartOK, apart2, AObj.live, Int.reduceEq, Int.reduceLT, Int.reduceLE, Int.reduceAdd, Int.reduceSub, Int.reduceMul, Int.reduceToNat, cutCells, Nat.reduceAdd, Nat.reduceLeDiff, Nat.reduceLT, Nat.reduceMul, Nat.reduceSub]
  refine way_t (FindS H) (t0 := t) ⟨by simp, fun c hc => hget_old hc, by rw [hget_base]; rfl, by rw [hget_base]; rfl⟩
    (fun L H' G ⟨s1, s2, s3, s4⟩ => ⟨by simp; omega, fun c hc => by rw [hget_old (by omega)]; exact s2 c hc, by rw [hget_old (by omega)]; exact s3, by rw [hget_old (by omega)]; exact s4⟩)
    (fun L H' ⟨s1, s2, s3, s4⟩ => ⟨m, l, (s2 b lb).trans hd⟩) (fun L H' ⟨s1, s2, s3, s4⟩ => lies.frame s2) ok hw hw2 ha (fun L nd H' ⟨s1, s2, s3, s4⟩ _ hnd hex => ?_) (fun H' hS => ?_)
  · refine WD.of follows t46 (by simp) ?_
    have l2 : H.length + 2 < H'.length := by omega
    simp (disch := omega) only [kB, kcx, kdm, kdn, kel, aop, resultsL, resultOf, Nat.reduceEqDiff, reduceCtorEq, eq1, apartOK, apart2, AObj.live, Int.reduceEq, Int.reduceLT, Int.reduceLE, Int.reduceAdd, Int.reduceSub, Int.reduceMul, Int.reduceToNat, cutCells, Nat.reduceAdd, Nat.reduceLeDiff, Nat.reduceLT, Nat.reduceMul, Nat.reduceSub, s4, cof_tr, one_tr]
    refine ⟨⟨by simp; omega, fun c hc => by rw [hget_ne (by omega)]; exact s2 c hc, by rw [hget_ne (by omega)]; exact s3, by rw [hget_set' l2, lastV_snoc]⟩, fun c hc => ?_⟩
    rw [hget_ne (fun q => ?_)]
    · exact hc
    · subst q
      rw [s4] at hc
      simp at hc
  · obtain ⟨s1, s2, s3, s4⟩ := hS
    have hmem := fun nd hn => wayL_mem (w := w) (a := a) (H := H') (lies.frame s2) nd hn
    have hfit : ∀ nd ∈ (if a < 2 ^ w then wayL w a t else []), TA H' nd ∧ ∃ b c n v l r, nd = .node b c n true v l r := fun nd hn => by
      split at hn
      · exact hmem nd hn
      · cases hn
    generalize (if a < 2 ^ w then wayL w a t else []) = L at *
    obtain ⟨g, rfl⟩ := pre_of (by omega) s2
    have lg : 1 < g.length := by simp at s1; omega
    rw [hget_base] at s3 s4
    cases hL : L.getLast? with
    | none =>
      have e1 : lastV L = .pointer none := by simp only [lastV, hL]
      have e2 : findR L = .tuple #[pfA 0 0 0, .int .i64 0, .bool false] := by simp only [findR, hL]
      rw [e1] at s4
      rw [e2] at h
      simp (disch := omega) only [kB, kcx, kdm, kdn, kel, aop, resultsL, resultOf, Nat.reduceEqDiff, reduceCtorEq, eq1, apartOK, apart2, AObj.live, Int.reduceEq, Int.reduceLT, Int.reduceLE, Int.reduceAdd, Int.reduceSub, Int.reduceMul, Int.reduceToNat, cutCells, Nat.reduceAdd, Nat.reduceLeDiff, Nat.reduceLT, Nat.reduceMul, Nat.reduceSub, s4, eqP_nn, s3]
      exact ⟨_, rfl, ⟨_, rfl⟩, .tup3 (.closed rfl) (.closed rfl) (.closed rfl), h⟩
    | some nd =>
      obtain ⟨h1, b1, c, n, v, l1, r1, rfl⟩ := hfit nd (List.mem_of_getLast? hL)
      have e1 : lastV L = .pointer (some ⟨b1, 0, none⟩) := by simp only [lastV, hL]; rfl
      have e2 : findR L = .tuple #[pfv c n, .int .i64 v, .bool true] := by simp only [findR, hL]
      rw [e1] at s4
      rw [e2] at h
      obtain ⟨⟨wr, q1⟩, _, _⟩ := h1
      unfold nodeRow at q1
      simp (disch := omega) only [kB, kcx, kdm, kdn, kel, aop, resultsL, resultOf, Nat.reduceEqDiff, reduceCtorEq, eq1, apartOK, apart2, AObj.live, Int.reduceEq, Int.reduceLT, Int.reduceLE, Int.reduceAdd, Int.reduceSub, Int.reduceMul, Int.reduceToNat, cutCells, Nat.reduceAdd, Nat.reduceLeDiff, Nat.reduceLT, Nat.reduceMul, Nat.reduceSub, s4, eqP_sn, s3, q1, ite_self]
      exact ⟨_, rfl, ⟨_, rfl⟩, .tup3 (.closed rfl) (.closed rfl) (.closed rfl), h⟩

def getR (w a : Nat) (n : Int) (t : Tr) : Value :=
  if rgt w a n = true then
    match atT w a n.toNat t with
    | .nil => .tuple #[.int .i64 0, .bool false]
    | .node _ c k f v _ _ => if c = a ∧ k = n.toNat ∧ f = true then .tuple #[.int .i64 v, .bool true] else .tuple #[.int .i64 0, .bool false]
  else .tuple #[.int .i64 0, .bool false]

theorem atT_ta {w a k : Nat} : ∀ {t : Tr}, TA H t → TA H (atT w a k t)
  | .nil, _ => trivial
  | .node b c n f v l r, ht => by
    rw [atT]
    split
    · split
      · exact atT_ta ht.2.1
      · exact atT_ta ht.2.2
    · exact ht

theorem get_t {b w a : Nat} {m l n : Int} {t : Tr} (hd : hget H b = .row [.int .i64 (w : Int), .int .i64 m, .int .i64 l, t.ptr] 0 true) (lies : TA H t) (ok : TW w t) (hw : 1 ≤ w) (hw2 : w ≤ 128) (ha : a < 2 ^ 128)
    (h : R (.ret (getR w a n t)) H) : WD T 16 [.pointer (some ⟨b, 0, none⟩), pfv a n] H R := by
  have lb := hget_lt hd rfl
  refine WD.gc0 (WD.of follows t16 (by simp) ?_)
  simp (disch := omega) only [kB, kcx, kdm, kdn, kel, aop, resultsL, resultOf, Nat.reduceEqDiff, reduceCtorEq, eq1, apartOK, apart2, AObj.live, Int.reduceEq, Int.reduceLT, Int.reduceLE, Int.reduceAdd, Int.reduceSub, Int.reduceMul, Int.reduceToNat, cutCells, Nat.reduceAdd, Nat.reduceLeDiff, Nat.reduceLT, Nat.reduceMul, Nat.reduceSub]
  refine at_t (by rw [hget_old lb]; exact hd) hw hw2 ha lies.app ok ?_
  unfold getR at h
  by_cases hr : rgt w a n = true
  case neg =>
    rw [if_neg hr] at h ⊢
    simp (disch := omega) only [kB, kcx, kdm, kdn, kel, aop, resultsL, resultOf, Nat.reduceEqDiff, reduceCtorEq, eq1, apartOK, apart2, AObj.live, Int.reduceEq, Int.reduceLT, Int.reduceLE, Int.reduceAdd, Int.reduceSub, Int.reduceMul, Int.reduceToNat, cutCells, Nat.reduceAdd, Nat.reduceLeDiff, Nat.reduceLT, Nat.reduceMul, Nat.reduceSub, eqP_nn]
    exact ⟨_, rfl, ⟨_, rfl⟩, .tup2 (.closed rfl) (.closed rfl), h⟩
  rw [if_pos hr] at h ⊢
  unfold atV
  have hta := atT_ta (w := w) (a := a) (k := n.toNat) lies
  generalize atT w a n.toNat t = t1 at *
  cases t1 with
  | nil =>
    simp only [atR] at h ⊢
    simp (disch := omega) only [kB, kcx, kdm, kdn, kel, aop, resultsL, resultOf, Nat.reduceEqDiff, reduceCtorEq, eq1, apartOK, apart2, AObj.live, Int.reduceEq, Int.reduceLT, Int.reduceLE, Int.reduceAdd, Int.reduceSub, Int.reduceMul, Int.reduceToNat, cutCells, Nat.reduceAdd, Nat.reduceLeDiff, Nat.reduceLT, Nat.reduceMul, Nat.reduceSub, eqP_nn]
    exact ⟨_, rfl, ⟨_, rfl⟩, .tup2 (.closed rfl) (.closed rfl), h⟩
  | node b1 c k f v l1 r1 =>
    obtain ⟨⟨wr, q1⟩, _, _⟩ := hta
    have l1 := hget_lt q1 rfl
    unfold nodeRow at q1
    simp only [atR] at h ⊢
    split
    · rename_i q
      rw [if_pos q] at h
      simp (disch := omega) only [kB, kcx, kdm, kdn, kel, aop, resultsL, resultOf, Nat.reduceEqDiff, reduceCtorEq, eq1, apartOK, apart2, AObj.live, Int.reduceEq, Int.reduceLT, Int.reduceLE, Int.reduceAdd, Int.reduceSub, Int.reduceMul, Int.reduceToNat, cutCells, Nat.reduceAdd, Nat.reduceLeDiff, Nat.reduceLT, Nat.reduceMul, Nat.reduceSub, eqP_sn, q1]
      exact ⟨_, rfl, ⟨_, rfl⟩, .tup2 (.closed rfl) (.closed rfl), h⟩
    · rename_i q
      rw [if_neg q] at h
      simp (disch := omega) only [kB, kcx, kdm, kdn, kel, aop, resultsL, resultOf, Nat.reduceEqDiff, reduceCtorEq, eq1, apartOK, apart2, AObj.live, Int.reduceEq, Int.reduceLT, Int.reduceLE, Int.reduceAdd, Int.reduceSub, Int.reduceMul, Int.reduceToNat, cutCells, Nat.reduceAdd, Nat.reduceLeDiff, Nat.reduceLT, Nat.reduceMul, Nat.reduceSub, eqP_nn]
      exact ⟨_, rfl, ⟨_, rfl⟩, .tup2 (.closed rfl) (.closed rfl), h⟩

end Go.Proofs.Yticgkaanaimllaa.Ev

/- Every. -/
namespace Go.Proofs.Yticgkaanaimllaa.Ev
set_option maxRecDepth 100000
set_option linter.unusedSimpArgs false
set_option linter.unusedVariables false
variable {R : FRes → Heap → Prop} {H : Heap}

theorem append_one {K : Heap} {b bx l unit bytes u2 : Nat} {cells xs : List Value} {w2 : Bool} (hb : hget K b = .row cells unit true) (hl : cells.length = l * unit) (hx : hget K bx = .row xs u2 w2) (hxl : xs.length = unit) (hall : xs.all oneCell = true)
    (hr : (l + 1) * bytes ≤ roomMax ∧ l + 1 ≤ roomMax) :
    appendV K unit bytes (.slice (some ⟨b, 0, none⟩) l l) (.slice (some ⟨bx, 0, none⟩) 1 1) = .val (.slice (some ⟨K.length, 0, none⟩) (l + 1) (l + 1)) (K.set b .dead ++ [.row (cells ++ xs) unit true]) := by
  simp only [appendV, lenV, srcCells, hx, hb]
  rw [if_pos (by omega)]
  have e1 : List.take (1 * unit) (List.drop 0 xs) = xs := by rw [List.drop_zero, Nat.one_mul, ← hxl, List.take_length]
  have e2 : List.take (l * unit) (List.drop 0 cells) = cells := by rw [List.drop_zero, ← hl, List.take_length]
  simp only [e1]
  rw [if_neg (by omega)]
  simp only [hb, e2]
  rw [if_pos ⟨trivial, by omega, by omega, by omega⟩, if_neg (by omega), if_pos ⟨hr.1, hr.2, hall⟩]

theorem append_nil {K : Heap} {bx unit bytes u2 : Nat} {xs : List Value} {w2 : Bool} (hx : hget K bx = .row xs u2 w2) (hxl : xs.length = unit) (hr : 1 * bytes ≤ roomMax) :
    appendV K unit bytes (.slice none 0 0) (.slice (some ⟨bx, 0, none⟩) 1 1) = .val (.slice (some ⟨K.length, 0, none⟩) 1 1) (K ++ [.row xs unit true]) := by
  simp only [appendV, lenV, srcCells, hx]
  rw [if_pos (by omega)]
  have e1 : List.take (1 * unit) (List.drop 0 xs) = xs := by rw [List.drop_zero, Nat.one_mul, ← hxl, List.take_length]
  simp only [e1]
  rw [if_neg (by omega), if_pos ⟨hr, by decide⟩]


/-- A node's prefix, as cells. -/
def pfC : Tr → List Value
  | .nil => []
  | .node _ c n _ _ _ _ => [.int .u64 ((c / W64 : Nat) : Int), .int .u64 ((c % W64 : Nat) : Int), .int .i64 (n : Int)]
def pfs (L : List Tr) : List Value := (L.map pfC).flatten

/-- A list of prefixes. -/
def PS (n0 : Nat) (H' : Heap) (sv : Value) (L : List Tr) : Prop :=
  (L = [] ∧ sv = .slice none 0 0) ∨ (L ≠ [] ∧ ∃ k, n0 ≤ k ∧ sv = .slice (some ⟨k, 0, none⟩) L.length L.length ∧ hget H' k = .row (pfs L) 3 true ∧ (pfs L).length = L.length * 3)

/-- While the way is gone, for Every. -/
def EvS (H : Heap) (L : List Tr) (H' : Heap) : Prop :=
  H.length + 2 ≤ H'.length ∧ (∀ c, c < H.length → hget H' c = hget H c) ∧ ∃ sv, hget H' (H.length + 1) = .row [sv] 0 true ∧ PS (H.length + 2) H' sv L

theorem every_t {b w a : Nat} {m l : Int} {t : Tr} (hd : hget H b = .row [.int .i64 (w : Int), .int .i64 m, .int .i64 l, t.ptr] 0 true) (lies : TA H t) (ok : TW w t) (hw : 1 ≤ w) (hw2 : w ≤ 128) (ha : a < 2 ^ 128) (hsz : (wayL w a t).length ≤ 1000000)
    (h : ∀ sv g, PS H.length (H ++ g) sv (if a < 2 ^ w then wayL w a t else []) → R (.ret sv) (H ++ g)) : WD T 15 [.pointer (some ⟨b, 0, none⟩), bvA a] H R := by
  have lb := hget_lt hd rfl
  refine WD.of follows t15 (by simp) ?_
  simp (disch := omega) only [kB, kcx, kdm, kdn, kel, aop, resultsL, resultOf, Nat.reduceEqDiff, reduceCtorEq, eq1, apartOK, apart2, AObj.live, Int.reduceEq, Int.reduceLT, Int.reduceLE, Int.reduceAdd, Int.reduceSub, Int.reduceMul, Int.reduceToNat, cutCells, Nat.reduceAdd, Nat.reduceLeDiff, Nat.reduceLT, Nat.reduceMul, Nat.reduceSub]
  refine way_t (EvS H) (t0 := t) ⟨by simp, fun c hc => hget_old hc, _, by rw [hget_base]; rfl, .inl ⟨rfl, rfl⟩⟩
    (fun L H' G ⟨s1, s2, sv, s3, s4⟩ => ⟨by simp; omega, fun c hc => by rw [hget_old (by omega)]; exact s2 c hc, sv, by rw [hget_old (by omega)]; exact s3, s4.imp id fun ⟨q0, k, q1, q2, q3, q4⟩ => ⟨q0, k, q1, q2, by rw [hget_old (hget_lt q3 rfl)]; exact q3, q4⟩⟩)
    (fun L H' ⟨s1, s2, _⟩ => ⟨m, l, (s2 b lb).trans hd⟩) (fun L H' ⟨s1, s2, _⟩ => lies.frame s2) ok hw hw2 ha (fun L nd H' ⟨s1, s2, sv, s3, s4⟩ hlt hnd hex => ?_) (fun H' hS => ?_)
  · obtain ⟨b1, c, n, v, l1, r1, rfl⟩ := hex
    obtain ⟨⟨wr, q1⟩, _, _⟩ := hnd
    have lb1 := hget_lt q1 rfl
    unfold nodeRow at q1
    have l2 : H.length + 1 < H'.length := by omega
    have ptr1 : Tr.ptr (.node b1 c n true v l1 r1) = .pointer (some ⟨b1, 0, none⟩) := rfl
    have hpc : pfs (L ++ [.node b1 c n true v l1 r1]) = pfs L ++ [.int .u64 ((c / W64 : Nat) : Int), .int .u64 ((c % W64 : Nat) : Int), .int .i64 (n : Int)] := by simp [pfs, pfC]
    rw [ptr1]
    refine WD.of follows t47 (by simp) ?_
    rcases s4 with ⟨rfl, rfl⟩ | ⟨q0, k, k0, rfl, k3, k4⟩
    · have ha := append_nil (K := H' ++ [.row [.int .u64 ((c / W64 : Nat) : Int), .int .u64 ((c % W64 : Nat) : Int), .int .i64 (n : Int)] 3 true]) (bx := H'.length) (unit := 3) (bytes := 24) (u2 := 3) (w2 := true) (by rw [hget_base0]; rfl) rfl (by decide)
      simp (disch := omega) only [kB, kcx, kdm, kdn, kel, aop, resultsL, resultOf, Nat.reduceEqDiff, reduceCtorEq, eq1, apartOK, apart2, AObj.live, Int.reduceEq, Int.reduceLT, Int.reduceLE, Int.reduceAdd, Int.reduceSub, Int.reduceMul, Int.reduceToNat, cutCells, Nat.reduceAdd, Nat.reduceLeDiff, Nat.reduceLT, Nat.reduceMul, Nat.reduceSub, q1, s3, ha, l2]
      refine ⟨⟨by simp; omega, fun c hc => by rw [hget_oldS (by omega), hget_ne (by omega)]; exact s2 c hc, .slice (some ⟨H'.length + 1, 0, none⟩) 1 1, ?_, .inr ⟨by simp, H'.length + 1, by omega, rfl, ?_, rfl⟩⟩, fun c2 hc => ?_⟩
      · rw [hget_oldS l2, hget_set' l2]
      · rw [hget_baseS]; rfl
      have lc := hget_lt hc rfl
      rw [hget_oldS lc, hget_ne (fun q => ?_)]
      · exact hc
      · subst q
        rw [s3] at hc
        simp at hc
    · have lk := hget_lt k3 rfl
      have hroom : (L.length + 1) * 24 ≤ roomMax ∧ L.length + 1 ≤ roomMax := by simp only [roomMax]; omega
      have ha := append_one (K := H' ++ [.row [.int .u64 ((c / W64 : Nat) : Int), .int .u64 ((c % W64 : Nat) : Int), .int .i64 (n : Int)] 3 true]) (b := k) (bx := H'.length) (l := L.length) (unit := 3) (bytes := 24) (cells := pfs L) (u2 := 3) (w2 := true) (by rw [hget_old lk]; exact k3) k4 (by rw [hget_base0]; rfl) rfl rfl hroom
      simp (disch := omega) only [kB, kcx, kdm, kdn, kel, aop, resultsL, resultOf, Nat.reduceEqDiff, reduceCtorEq, eq1, apartOK, apart2, AObj.live, Int.reduceEq, Int.reduceLT, Int.reduceLE, Int.reduceAdd, Int.reduceSub, Int.reduceMul, Int.reduceToNat, cutCells, Nat.reduceAdd, Nat.reduceLeDiff, Nat.reduceLT, Nat.reduceMul, Nat.reduceSub, q1, s3, ha, l2, hget_ne]
      refine ⟨⟨by simp; omega, fun c hc => by rw [hget_oldSS (by omega), hget_ne (by omega), hget_ne (by omega)]; exact s2 c hc, _, by rw [hget_oldSS l2, hget_setS l2], .inr ⟨by simp, H'.length + 1, by omega, by simp, ?_, ?_⟩⟩, fun c2 hc => ?_⟩
      · rw [hpc, hget_baseSS]; rfl
      · rw [hpc]; simp [k4]; omega
      have lc := hget_lt hc rfl
      rw [hget_oldSS lc, hget_ne (fun q => ?_), hget_ne (fun q => ?_)]
      · exact hc
      · subst q
        rw [k3] at hc
        simp at hc
      · subst q
        rw [s3] at hc
        simp at hc
  · obtain ⟨s1, s2, sv, s3, s4⟩ := hS
    obtain ⟨g, rfl⟩ := pre_of (by omega) s2
    simp (disch := omega) only [kB, kcx, kdm, kdn, kel, aop, resultsL, resultOf, Nat.reduceEqDiff, reduceCtorEq, eq1, apartOK, apart2, AObj.live, Int.reduceEq, Int.reduceLT, Int.reduceLE, Int.reduceAdd, Int.reduceSub, Int.reduceMul, Int.reduceToNat, cutCells, Nat.reduceAdd, Nat.reduceLeDiff, Nat.reduceLT, Nat.reduceMul, Nat.reduceSub, s3]
    exact h sv g (s4.imp id fun ⟨q0, k, q1, q2⟩ => ⟨q0, k, by omega, q2⟩)

end Go.Proofs.Yticgkaanaimllaa.Ev

/- What a tree of prefixes keeps: plain laws. -/
namespace Go.Proofs.Yticgkaanaimllaa.Ev
set_option linter.unusedSimpArgs false
set_option linter.unusedVariables false

abbrev Mem := Nat × Nat × Int

def PT.mem : PT → List Mem
  | .nil => []
  | .node a n f v l r => (if f = true then [(a, n, v)] else []) ++ (l.mem ++ r.mem)
def PT.nodes : PT → List (Nat × Nat)
  | .nil => []
  | .node a n _ _ l r => (a, n) :: (l.nodes ++ r.nodes)

/-- All lie where they belong. -/
def PW (w : Nat) : PT → Prop
  | .nil => True
  | .node c n _ _ l r => n ≤ w ∧ c < 2 ^ w ∧ (∀ x ∈ l.nodes, n < x.2 ∧ Und w c n x.1 ∧ sideN w x.1 n = 0) ∧ (∀ x ∈ r.nodes, n < x.2 ∧ Und w c n x.1 ∧ sideN w x.1 n = 1) ∧ PW w l ∧ PW w r

theorem mem_nodes : ∀ {t : PT} {x : Mem}, x ∈ t.mem → (x.1, x.2.1) ∈ t.nodes
  | .nil, x, h => by cases h
  | .node a n f v l r, x, h => by
    simp only [PT.mem, List.mem_append] at h
    simp only [PT.nodes, List.mem_cons, List.mem_append]
    rcases h with h | h | h
    · cases f with
      | true => simp only [if_true, List.mem_cons, List.not_mem_nil, or_false] at h; subst h; exact .inl rfl
      | false => simp at h
    · exact .inr (.inl (mem_nodes h))
    · exact .inr (.inr (mem_nodes h))

theorem nodes_ok {w : Nat} : ∀ {t : PT}, PW w t → ∀ x ∈ t.nodes, x.2 ≤ w ∧ x.1 < 2 ^ w
  | .nil, _, x, h => by cases h
  | .node a n f v l r, ⟨h1, h2, _, _, h5, h6⟩, x, h => by
    simp only [PT.nodes, List.mem_cons, List.mem_append] at h
    rcases h with rfl | h | h
    · exact ⟨h1, h2⟩
    · exact nodes_ok h5 x h
    · exact nodes_ok h6 x h

def wayP (w a : Nat) : PT → List Mem
  | .nil => []
  | .node c n f v l r => if n ≤ cmn w c a then (if f = true then [(c, n, v)] else []) ++ (if n = w then [] else if sideN w a n = 0 then wayP w a l else wayP w a r) else []

def trip : Tr → Mem
  | .nil => (0, 0, 0)
  | .node _ c n _ v _ _ => (c, n, v)

theorem way_er {w a : Nat} : ∀ {t : Tr}, (wayL w a t).map trip = wayP w a t.er
  | .nil => rfl
  | .node b c n f v l r => by
    simp only [wayL, Tr.er, wayP]
    split
    · rw [List.map_append]
      congr 1
      · split <;> rfl
      · split
        · rfl
        · split
          · exact way_er
          · exact way_er
    · rfl

theorem filter_nil {α : Type} {p : α → Bool} {l : List α} (h : ∀ x ∈ l, p x = false) : l.filter p = [] := by
  rw [List.filter_eq_nil_iff]
  intro x hx
  rw [h x hx]
  simp

/-- The way tells just those whose prefix the number has, in order. -/
theorem way_filter {w a : Nat} (ha : a < 2 ^ w) : ∀ {t : PT}, PW w t → wayP w a t = t.mem.filter (fun x => decide (Und w x.1 x.2.1 a))
  | .nil, _ => rfl
  | .node c n f v l r, ⟨h1, h2, h3, h4, h5, h6⟩ => by
    have hside : ∀ x : Mem, x.2.1 ≤ w → n < x.2.1 → sideN w x.1 n ≠ sideN w a n → decide (Und w x.1 x.2.1 a) = false := fun x hw hn hs => decide_eq_false fun q => hs (und_bit q hn hw)
    simp only [wayP, PT.mem, List.filter_append]
    by_cases hu : n ≤ cmn w c a
    · rw [if_pos hu]
      have hU := (cmn_ge h1 h2 ha).1 hu
      have hroot : (if f = true then [(c, n, v)] else []) = (if f = true then [(c, n, v)] else []).filter (fun x => decide (Und w x.1 x.2.1 a)) := by
        cases f with
        | true => simp [hU]
        | false => rfl
      rw [← hroot]
      congr 1
      by_cases hnw : n = w
      · rw [if_pos hnw]
        have hl : l.mem.filter (fun x => decide (Und w x.1 x.2.1 a)) = [] := filter_nil fun x hx => by
          have q1 := (h3 _ (mem_nodes hx)).1
          have q2 := (nodes_ok h5 _ (mem_nodes hx)).1
          simp only at q1 q2
          omega
        have hr : r.mem.filter (fun x => decide (Und w x.1 x.2.1 a)) = [] := filter_nil fun x hx => by
          have q1 := (h4 _ (mem_nodes hx)).1
          have q2 := (nodes_ok h6 _ (mem_nodes hx)).1
          simp only at q1 q2
          omega
        rw [hl, hr]
        rfl
      · rw [if_neg hnw]
        rcases sideN_two w a n with hs | hs
        · rw [if_pos hs, way_filter ha h5]
          have hr : r.mem.filter (fun x => decide (Und w x.1 x.2.1 a)) = [] := filter_nil fun x hx => by
            have q1 := h4 _ (mem_nodes hx)
            have q2 := (nodes_ok h6 _ (mem_nodes hx)).1
            exact hside x q2 q1.1 (by rw [q1.2.2, hs]; decide)
          rw [hr, List.append_nil]
        · rw [if_neg (by omega), way_filter ha h6]
          have hl : l.mem.filter (fun x => decide (Und w x.1 x.2.1 a)) = [] := filter_nil fun x hx => by
            have q1 := h3 _ (mem_nodes hx)
            have q2 := (nodes_ok h5 _ (mem_nodes hx)).1
            exact hside x q2 q1.1 (by rw [q1.2.2, hs]; decide)
          rw [hl, List.nil_append]
    · rw [if_neg hu]
      have hU : ¬ Und w c n a := fun q => hu ((cmn_ge h1 h2 ha).2 q)
      have hroot : (if f = true then [(c, n, v)] else []).filter (fun x => decide (Und w x.1 x.2.1 a)) = [] := by
        cases f with
        | true => simp [hU]
        | false => rfl
      have hl : l.mem.filter (fun x => decide (Und w x.1 x.2.1 a)) = [] := filter_nil fun x hx => by
        have q1 := h3 _ (mem_nodes hx)
        exact decide_eq_false fun q => hU (q1.2.1.trans (q.less (Nat.le_of_lt q1.1)))
      have hr : r.mem.filter (fun x => decide (Und w x.1 x.2.1 a)) = [] := filter_nil fun x hx => by
        have q1 := h4 _ (mem_nodes hx)
        exact decide_eq_false fun q => hU (q1.2.1.trans (q.less (Nat.le_of_lt q1.1)))
      rw [hroot, hl, hr]
      rfl

/-- The way's lengths rise. -/
theorem way_rise {w a : Nat} : ∀ {t : PT}, PW w t → (wayP w a t).Pairwise (fun x y => x.2.1 < y.2.1)
  | .nil, _ => List.Pairwise.nil
  | .node c n f v l r, ⟨h1, h2, h3, h4, h5, h6⟩ => by
    have hsub : ∀ {t : PT} {x : Mem}, x ∈ wayP w a t → (x.1, x.2.1) ∈ t.nodes := fun {t} => by
      induction t with
      | nil => intro x h; cases h
      | node c n f v l r ihl ihr =>
        intro x h
        simp only [wayP] at h
        simp only [PT.nodes, List.mem_cons, List.mem_append]
        split at h
        · rcases List.mem_append.1 h with h | h
          · cases f with
            | true => simp only [if_true, List.mem_cons, List.not_mem_nil, or_false] at h; subst h; exact .inl rfl
            | false => simp at h
          · split at h
            · cases h
            · split at h
              · exact .inr (.inl (ihl h))
              · exact .inr (.inr (ihr h))
        · cases h
    simp only [wayP]
    split
    · have rest : (if n = w then ([] : List Mem) else if sideN w a n = 0 then wayP w a l else wayP w a r).Pairwise (fun x y => x.2.1 < y.2.1) := by
        split
        · exact List.Pairwise.nil
        · split
          · exact way_rise h5
          · exact way_rise h6
      have low : ∀ x ∈ (if n = w then ([] : List Mem) else if sideN w a n = 0 then wayP w a l else wayP w a r), n < x.2.1 := fun x hx => by
        split at hx
        · cases hx
        · split at hx
          · exact (h3 _ (hsub hx)).1
          · exact (h4 _ (hsub hx)).1
      cases f with
      | true =>
        simp only [if_true, List.cons_append, List.nil_append]
        exact List.Pairwise.cons low rest
      | false => simpa using rest
    · exact List.Pairwise.nil

end Go.Proofs.Yticgkaanaimllaa.Ev

/- A tree of prefixes: what is found, what is put in: plain laws. -/
namespace Go.Proofs.Yticgkaanaimllaa.Ev
set_option linter.unusedSimpArgs false
set_option linter.unusedVariables false

def atP (w a k : Nat) : PT → Option Int
  | .nil => none
  | .node c n f v l r => if n < k ∧ cmp w c n a k = n then (if sideN w a n = 0 then atP w a k l else atP w a k r) else if c = a ∧ n = k ∧ f = true then some v else none

theorem at_er {w a k : Nat} : ∀ {t : Tr}, (match atT w a k t with | .nil => none | .node _ c n f v _ _ => if c = a ∧ n = k ∧ f = true then some v else none) = atP w a k t.er
  | .nil => rfl
  | .node b c n f v l r => by
    simp only [atT, Tr.er, atP]
    by_cases h1 : n < k ∧ cmp w c n a k = n
    · by_cases h2 : sideN w a n = 0
      · simp only [if_pos h1, if_pos h2]; exact at_er
      · simp only [if_pos h1, if_neg h2]; exact at_er
    · simp only [if_neg h1]

theorem atV_none {w a k : Nat} {t : Tr} : atV w a k t = .pointer none ↔ atP w a k t.er = none := by
  rw [← at_er]
  unfold atV atR
  cases atT w a k t with
  | nil => simp
  | node b c n f v l r =>
    simp only
    split <;> simp

theorem getR_er {w a : Nat} {n : Int} {t : Tr} : getR w a n t = if rgt w a n = true then (match atP w a n.toNat t.er with | some v => .tuple #[.int .i64 v, .bool true] | none => .tuple #[.int .i64 0, .bool false]) else .tuple #[.int .i64 0, .bool false] := by
  rw [← at_er]
  unfold getR
  split
  · cases atT w a n.toNat t with
    | nil => rfl
    | node b c k f v l r =>
      simp only
      split <;> rfl
  · rfl

theorem at_mem {w a k : Nat} {v : Int} (ha : a < 2 ^ w) (hk : k ≤ w) : ∀ {t : PT}, PW w t → (atP w a k t = some v ↔ (a, k, v) ∈ t.mem)
  | .nil, _ => by simp [atP, PT.mem]
  | .node c n f u l r, ⟨h1, h2, h3, h4, h5, h6⟩ => by
    simp only [atP, PT.mem, List.mem_append]
    by_cases hc : n < k ∧ cmp w c n a k = n
    · rw [if_pos hc]
      have hroot : ¬ (a, k, v) ∈ (if f = true then [(c, n, u)] else []) := fun q => by
        cases f with
        | true => simp only [if_true, List.mem_cons, List.not_mem_nil, or_false, Prod.mk.injEq] at q; omega
        | false => simp at q
      rcases sideN_two w a n with hs | hs
      · rw [if_pos hs, at_mem ha hk h5]
        constructor
        · exact fun q => .inr (.inl q)
        · rintro (q | q | q)
          · exact absurd q hroot
          · exact q
          · have := (h4 _ (mem_nodes q)).2.2; simp only at this; omega
      · rw [if_neg (by omega), at_mem ha hk h6]
        constructor
        · exact fun q => .inr (.inr q)
        · rintro (q | q | q)
          · exact absurd q hroot
          · have := (h3 _ (mem_nodes q)).2.2; simp only at this; omega
          · exact q
    · rw [if_neg hc]
      have hkid : ∀ x : Nat × Nat, n < x.2 → Und w c n x.1 → x = (a, k) → False := fun x q1 q2 q3 => by
        subst q3
        exact hc ⟨q1, (cmp_eq h1 h2 ha).2 ⟨Nat.le_of_lt q1, q2⟩⟩
      constructor
      · intro q
        split at q
        · rename_i e
          obtain ⟨rfl, rfl, rfl⟩ := e
          cases q
          exact .inl (by simp)
        · cases q
      · rintro (q | q | q)
        · cases f with
          | true =>
            simp only [if_true, List.mem_cons, List.not_mem_nil, or_false, Prod.mk.injEq] at q
            obtain ⟨rfl, rfl, rfl⟩ := q
            simp
          | false => simp at q
        · have := h3 _ (mem_nodes q)
          exact (hkid _ this.1 this.2.1 rfl).elim
        · have := h4 _ (mem_nodes q)
          exact (hkid _ this.1 this.2.1 rfl).elim

theorem with_mem {w a k : Nat} {v : Int} (hw : w ≤ 128) (ha : a < 2 ^ w) (hk : k ≤ w) (hm : a &&& maskN w k = a) : ∀ {t : PT}, PW w t → TWp w t → atP w a k t = none → (withP w a k v t).mem.Perm ((a, k, v) :: t.mem)
  | .nil, _, _, _ => by simp [withP, PT.mem]
  | .node c n f u l r, ⟨h1, h2, h3, h4, h5, h6⟩, ⟨t1, t2, t3, t4, t5⟩, hat => by
    have hle : cmp w c n a k ≤ n ∧ cmp w c n a k ≤ k := by unfold cmp; omega
    rw [withP]
    by_cases e1 : cmp w c n a k = n ∧ cmp w c n a k = k
    · rw [if_pos e1]
      obtain ⟨e1, e2⟩ := e1
      have hnk : n = k := e1.symm.trans e2
      have hU := ((cmp_eq h1 h2 ha).1 e1).2
      have hca : c = a := pre_eq hw h1 h2 ha t3 (by rw [hnk]; exact hm) hU
      have hf : f = false := by
        cases f with
        | false => rfl
        | true =>
          rw [atP, if_neg (fun q => by omega), if_pos ⟨hca, hnk, rfl⟩] at hat
          cases hat
      subst hf
      simp [PT.mem, hca, hnk]
    · rw [if_neg e1]
      by_cases e2 : cmp w c n a k = n
      · rw [if_pos e2]
        have hnk : n < k := by
          have : ¬ n = k := fun q => e1 ⟨e2, e2.trans q⟩
          omega
        rw [atP, if_pos ⟨hnk, e2⟩] at hat
        rcases sideN_two w a n with hs | hs
        · rw [if_pos hs] at hat ⊢
          simp only [PT.mem]
          refine ((List.Perm.append_left _ ((with_mem hw ha hk hm h5 t4 hat).append_right _)).trans ?_)
          rw [List.cons_append]
          exact List.perm_middle
        · rw [if_neg (by omega)] at hat ⊢
          simp only [PT.mem]
          refine ((List.Perm.append_left _ (List.Perm.append_left _ (with_mem hw ha hk hm h6 t5 hat))).trans ?_)
          refine (List.Perm.append_left _ List.perm_middle).trans ?_
          exact List.perm_middle
      · rw [if_neg e2]
        by_cases e3 : cmp w c n a k = k
        · rw [if_pos e3]
          rcases sideN_two w c (cmp w c n a k) with hs | hs
          · simp only [setK, hs, if_true, PT.mem, List.append_nil, List.cons_append, List.nil_append]
            rw [e3, hm]
          · simp only [setK, show ¬ sideN w c (cmp w c n a k) = 0 by omega, if_false, if_true, PT.mem, List.append_nil, List.cons_append, List.nil_append]
            rw [e3, hm]
        · rw [if_neg e3]
          have hne := side_ne h2 ha h1 rfl e2 e3
          rcases sideN_two w c (cmp w c n a k) with hs | hs
          · have hs2 : sideN w a (cmp w c n a k) = 1 := by rcases sideN_two w a (cmp w c n a k) with q | q <;> omega
            simp only [setK, hs, hs2, if_true, PT.mem, Bool.false_eq_true, if_false, List.nil_append, List.append_nil, Nat.one_ne_zero]
            exact List.perm_append_comm
          · have hs2 : sideN w a (cmp w c n a k) = 0 := by rcases sideN_two w a (cmp w c n a k) with q | q <;> omega
            simp only [setK, hs, hs2, if_true, PT.mem, Bool.false_eq_true, if_false, List.nil_append, List.append_nil, Nat.one_ne_zero]
            exact List.Perm.refl _

end Go.Proofs.Yticgkaanaimllaa.Ev

/- A tree of prefixes stays one: plain laws. -/
namespace Go.Proofs.Yticgkaanaimllaa.Ev
set_option linter.unusedSimpArgs false
set_option linter.unusedVariables false

theorem with_nodes {w a k : Nat} {v : Int} (hm : a &&& maskN w k = a) : ∀ {t : PT} {x : Nat × Nat}, x ∈ (withP w a k v t).nodes →
    x ∈ t.nodes ∨ x = (a, k) ∨ ∃ y ∈ t.nodes, x = (a &&& maskN w (cmp w y.1 y.2 a k), cmp w y.1 y.2 a k) ∧ cmp w y.1 y.2 a k ≠ y.2 ∧ cmp w y.1 y.2 a k ≠ k
  | .nil, x, h => by
    simp only [withP, PT.nodes, List.append_nil, List.mem_cons, List.not_mem_nil, or_false] at h
    exact .inr (.inl h)
  | .node c n f u l r, x, h => by
    rw [withP] at h
    by_cases e1 : cmp w c n a k = n ∧ cmp w c n a k = k
    · rw [if_pos e1] at h
      exact .inl h
    · rw [if_neg e1] at h
      by_cases e2 : cmp w c n a k = n
      · rw [if_pos e2] at h
        have lift : ∀ {s : PT}, (∀ y ∈ s.nodes, y ∈ (PT.node c n f u l r).nodes) → (x ∈ s.nodes ∨ x = (a, k) ∨ ∃ y ∈ s.nodes, x = (a &&& maskN w (cmp w y.1 y.2 a k), cmp w y.1 y.2 a k) ∧ cmp w y.1 y.2 a k ≠ y.2 ∧ cmp w y.1 y.2 a k ≠ k) →
            (x ∈ (PT.node c n f u l r).nodes ∨ x = (a, k) ∨ ∃ y ∈ (PT.node c n f u l r).nodes, x = (a &&& maskN w (cmp w y.1 y.2 a k), cmp w y.1 y.2 a k) ∧ cmp w y.1 y.2 a k ≠ y.2 ∧ cmp w y.1 y.2 a k ≠ k) := fun hs q => by
          rcases q with q | q | ⟨y, q1, q2⟩
          · exact .inl (hs _ q)
          · exact .inr (.inl q)
          · exact .inr (.inr ⟨y, hs _ q1, q2⟩)
        have hl : ∀ y ∈ l.nodes, y ∈ (PT.node c n f u l r).nodes := fun y hy => by simp [PT.nodes, hy]
        have hr : ∀ y ∈ r.nodes, y ∈ (PT.node c n f u l r).nodes := fun y hy => by simp [PT.nodes, hy]
        split at h
        · simp only [PT.nodes, List.mem_cons, List.mem_append] at h
          rcases h with h | h | h
          · exact .inl (by simp [PT.nodes, h])
          · exact lift hl (with_nodes hm h)
          · exact .inl (hr _ h)
        · simp only [PT.nodes, List.mem_cons, List.mem_append] at h
          rcases h with h | h | h
          · exact .inl (by simp [PT.nodes, h])
          · exact .inl (hl _ h)
          · exact lift hr (with_nodes hm h)
      · rw [if_neg e2] at h
        have old : ∀ {s : PT × PT} {j : Nat}, (x ∈ (setK j (PT.node c n f u l r) s).1.nodes ∨ x ∈ (setK j (PT.node c n f u l r) s).2.nodes) → x ∈ (PT.node c n f u l r).nodes ∨ x ∈ s.1.nodes ∨ x ∈ s.2.nodes := fun {s j} q => by
          unfold setK at q
          split at q
          · rcases q with q | q
            · exact .inl q
            · exact .inr (.inr q)
          · rcases q with q | q
            · exact .inr (.inl q)
            · exact .inl q
        by_cases e3 : cmp w c n a k = k
        · rw [if_pos e3, e3, hm] at h
          simp only [PT.nodes, List.mem_cons, List.mem_append] at h
          rcases h with h | h
          · exact .inr (.inl h)
          · rcases old h with q | q | q
            · exact .inl q
            · cases q
            · cases q
        · rw [if_neg e3] at h
          simp only [PT.nodes, List.mem_cons, List.mem_append] at h
          rcases h with h | h
          · exact .inr (.inr ⟨(c, n), by simp [PT.nodes], h, e2, e3⟩)
          · have new : x ∈ (PT.node a k true v .nil .nil).nodes ∨ x ∈ (setK (sideN w c (cmp w c n a k)) (PT.node c n f u l r) (.nil, .nil)).1.nodes ∨ x ∈ (setK (sideN w c (cmp w c n a k)) (PT.node c n f u l r) (.nil, .nil)).2.nodes := by
              have : ∀ (j : Nat) (s : PT × PT), (x ∈ (setK j (PT.node a k true v .nil .nil) s).1.nodes ∨ x ∈ (setK j (PT.node a k true v .nil .nil) s).2.nodes) → x ∈ (PT.node a k true v .nil .nil).nodes ∨ x ∈ s.1.nodes ∨ x ∈ s.2.nodes := fun j s q => by
                unfold setK at q
                split at q
                · rcases q with q | q
                  · exact .inl q
                  · exact .inr (.inr q)
                · rcases q with q | q
                  · exact .inr (.inl q)
                  · exact .inl q
              exact this _ _ h
            rcases new with q | q
            · simp only [PT.nodes, List.append_nil, List.mem_cons, List.not_mem_nil, or_false] at q
              exact .inr (.inl q)
            · rcases old q with q | q | q
              · exact .inl q
              · cases q
              · cases q

/-- What lies on one side of a node stays there. -/
theorem kid_ok {w a k c n s : Nat} {v : Int} {t : PT} (hw : w ≤ 128) (ha : a < 2 ^ w) (hk : k ≤ w) (hm : a &&& maskN w k = a) (hn : n < k) (hU : Und w c n a) (hs : sideN w a n = s) (ht : PW w t)
    (h : ∀ x ∈ t.nodes, n < x.2 ∧ Und w c n x.1 ∧ sideN w x.1 n = s) : ∀ x ∈ (withP w a k v t).nodes, n < x.2 ∧ Und w c n x.1 ∧ sideN w x.1 n = s := by
  intro x hx
  rcases with_nodes hm hx with q | rfl | ⟨y, q1, rfl, q3, q4⟩
  · exact h x q
  · exact ⟨hn, hU, hs⟩
  · obtain ⟨y1, y2, y3⟩ := h y q1
    obtain ⟨z1, z2⟩ := nodes_ok ht y q1
    have hU2 : Und w y.1 (n + 1) a := (und_succ (by omega)).2 ⟨y2.symm.trans hU, by rw [y3, hs]⟩
    have h1 := (cmn_ge (show n + 1 ≤ w by omega) z2 ha).2 hU2
    have h2 : n < cmp w y.1 y.2 a k := by unfold cmp; omega
    have hmw : cmp w y.1 y.2 a k ≤ w := by unfold cmp; omega
    have hc := cut_und (m := cmp w y.1 y.2 a k) hw hmw ha
    refine ⟨h2, hU.trans (hc.less (Nat.le_of_lt h2)).symm, ?_⟩
    simp only
    rw [und_bit hc h2 hmw]
    exact hs

theorem with_pw {w a k : Nat} {v : Int} (hw : w ≤ 128) (ha : a < 2 ^ w) (hk : k ≤ w) (hm : a &&& maskN w k = a) : ∀ {t : PT}, PW w t → PW w (withP w a k v t)
  | .nil, _ => ⟨hk, ha, fun x h => (by cases h), fun x h => (by cases h), trivial, trivial⟩
  | .node c n f u l r, hold => by
    obtain ⟨h1, h2, h3, h4, h5, h6⟩ := hold
    have hle : cmp w c n a k ≤ n ∧ cmp w c n a k ≤ k := by unfold cmp; omega
    rw [withP]
    by_cases e1 : cmp w c n a k = n ∧ cmp w c n a k = k
    · rw [if_pos e1]
      exact ⟨h1, h2, h3, h4, h5, h6⟩
    · rw [if_neg e1]
      by_cases e2 : cmp w c n a k = n
      · rw [if_pos e2]
        have hnk : n < k := by
          have : ¬ n = k := fun q => e1 ⟨e2, e2.trans q⟩
          omega
        have hU := ((cmp_eq h1 h2 ha).1 e2).2
        rcases sideN_two w a n with hs | hs
        · rw [if_pos hs]
          exact ⟨h1, h2, kid_ok hw ha hk hm hnk hU hs h5 h3, h4, with_pw hw ha hk hm h5, h6⟩
        · rw [if_neg (by omega)]
          exact ⟨h1, h2, h3, kid_ok hw ha hk hm hnk hU hs h6 h4, h5, with_pw hw ha hk hm h6⟩
      · rw [if_neg e2]
        have hold : PW w (.node c n f u l r) := ⟨h1, h2, h3, h4, h5, h6⟩
        have hU := cmp_und (k := k) h1 h2 ha
        have hne := fun e3 => side_ne h2 ha h1 (rfl : cmp w c n a k = _) e2 e3
        generalize cmp w c n a k = m at *
        have hmn : m < n := by omega
        have hmw : m ≤ w := by omega
        have hc := cut_und hw hmw ha
        have hlt := cut_lt (m := m) ha
        have olds : ∀ x ∈ (PT.node c n f u l r).nodes, m < x.2 ∧ Und w (a &&& maskN w m) m x.1 ∧ sideN w x.1 m = sideN w c m := fun x hx => by
          have key : ∀ x : Nat × Nat, n ≤ x.2 → Und w c n x.1 → m < x.2 ∧ Und w (a &&& maskN w m) m x.1 ∧ sideN w x.1 m = sideN w c m := fun x q1 q2 =>
            ⟨by omega, (hc.trans hU.symm).trans (q2.less (Nat.le_of_lt hmn)), (und_bit q2 hmn h1).symm⟩
          simp only [PT.nodes, List.mem_cons, List.mem_append] at hx
          rcases hx with rfl | hx | hx
          · exact key _ (Nat.le_refl _) Und.refl
          · exact key _ (Nat.le_of_lt (h3 x hx).1) (h3 x hx).2.1
          · exact key _ (Nat.le_of_lt (h4 x hx).1) (h4 x hx).2.1
        have none_ : ∀ (s : Nat), ∀ x ∈ PT.nil.nodes, m < x.2 ∧ Und w (a &&& maskN w m) m x.1 ∧ sideN w x.1 m = s := fun s x h => by cases h
        by_cases e3 : m = k
        · rw [if_pos e3]
          rcases sideN_two w c m with hs | hs
          · simp only [setK, hs, if_true]
            rw [hs] at olds
            exact ⟨hmw, hlt, olds, none_ 1, hold, trivial⟩
          · simp only [setK, show ¬ sideN w c m = 0 by omega, if_false]
            rw [hs] at olds
            exact ⟨hmw, hlt, none_ 0, olds, trivial, hold⟩
        · rw [if_neg e3]
          have hleaf : PW w (.node a k true v .nil .nil) := ⟨hk, ha, fun x h => (by cases h), fun x h => (by cases h), trivial, trivial⟩
          have leaf : ∀ x ∈ (PT.node a k true v .nil .nil).nodes, m < x.2 ∧ Und w (a &&& maskN w m) m x.1 ∧ sideN w x.1 m = sideN w a m := fun x hx => by
            simp only [PT.nodes, List.append_nil, List.mem_cons, List.not_mem_nil, or_false] at hx
            subst hx
            exact ⟨by simp only; omega, hc, rfl⟩
          have hne2 := hne e3
          rcases sideN_two w c m with hs | hs
          · have hs2 : sideN w a m = 1 := by rcases sideN_two w a m with q | q <;> omega
            simp only [setK, hs, hs2, if_true, Nat.one_ne_zero, if_false]
            rw [hs] at olds
            rw [hs2] at leaf
            exact ⟨hmw, hlt, olds, leaf, hold, hleaf⟩
          · have hs2 : sideN w a m = 0 := by rcases sideN_two w a m with q | q <;> omega
            simp only [setK, hs, hs2, if_true, Nat.one_ne_zero, if_false]
            rw [hs] at olds
            rw [hs2] at leaf
            exact ⟨hmw, hlt, leaf, olds, hleaf, hold⟩

end Go.Proofs.Yticgkaanaimllaa.Ev

/- The document's bits. -/
namespace Go.Proofs.Yticgkaanaimllaa.Ev
set_option maxRecDepth 100000
set_option linter.unusedSimpArgs false
set_option linter.unusedVariables false
variable {R : FRes → Heap → Prop} {H : Heap}

theorem bin_quo {k : IntKind} {a b : Nat} (hb : 0 < b) : binV .quo (.int k (a : Int)) (.int k (b : Int)) = some (.int k (k.wrap ((a / b : Nat) : Int))) := by
  have h0 : ¬ (b : Int) = 0 := by omega
  have : pr (Op.intDiv .quo k (a : Int) (b : Int)) = some (.int k (k.wrap ((a : Int).tdiv (b : Int)))) := by unfold Op.intDiv; rw [if_neg h0]; rfl
  simp only [binV, intBin, if_true, if_neg h0, this]
  rfl
theorem bin_rem {k : IntKind} {a b : Nat} (hb : 0 < b) : binV .rem (.int k (a : Int)) (.int k (b : Int)) = some (.int k ((a % b : Nat) : Int)) := by
  have h0 : ¬ (b : Int) = 0 := by omega
  have : pr (Op.intDiv .rem k (a : Int) (b : Int)) = some (.int k ((a : Int).tmod (b : Int))) := by unfold Op.intDiv; rw [if_neg h0]; rfl
  simp only [binV, intBin, if_true, if_neg h0, this]
  rfl

theorem bit_shr {z i : Nat} : (z >>> i) % 2 = if z.testBit i = true then 1 else 0 := by
  rw [Nat.testBit_eq_decide_div_mod_eq, Nat.shiftRight_eq_div_pow]
  simp only [decide_eq_true_eq]
  split <;> omega

/-- So many halvings are left. -/
def bitI (z : Nat) (i0 : Nat) (H : Heap) (o : AObj) : Nat → Env → Heap → Prop := fun n e H' =>
  ∃ j : Nat, j ≤ i0 ∧ n = i0 - j ∧ H' = H ++ [o] ∧ (∃ x : Nat → Value, e = [x 0, .int .i64 ((i0 - j : Nat) : Int), x 2, x 3, x 4, .int .u64 ((z >>> j : Nat) : Int), x 6, x 7, x 8, x 9, x 10, x 11, x 12, x 13, x 14, x 15, x 16, x 17, x 18, x 19, x 20, x 21, x 22])

theorem refbit_t {a i : Nat} (ha : a < 2 ^ 128) (hi : i < 128) (h : R (.ret (.bool (a.testBit i))) H) : WD T 41 [bvA a, .int .i64 i] H R := by
  refine WD.gc0 (WD.of follows t41 (by simp) ?_)
  have b1 := hi_lt ha
  have b2 := lo_lt a
  -- the loop and what is behind it
  have key : ∀ (z i0 : Nat) (o : AObj) (e : Env), z < 18446744073709551616 → i0 < 128 → (∃ x : Nat → Value, e = [x 0, .int .i64 ((i0 : Nat) : Int), x 2, x 3, x 4, .int .u64 ((z : Nat) : Int), x 6, x 7, x 8, x 9, x 10, x 11, x 12, x 13, x 14, x 15, x 16, x 17, x 18, x 19, x 20, x 21, x 22]) → (z >>> i0) % 2 = (if a.testBit i = true then 1 else 0) →
      WC T (g41.body.at [1, 1, 1]) e (H ++ [o]) (retK [.tmp 4] fun r H1 => ∃ v, r = .ret v ∧ (∃ g, H1 = H ++ g) ∧ Scoped H.length v ∧ R (.ret v) H) := by
    intro z i0 o e hz hi0 he hfin
    obtain ⟨y, rfl⟩ := he
    simp only [AFunc.body, g41, ACode.at]
    simp (disch := omega) only [kB, kcx, kdm, kdn, kel, aop, resultsL, resultOf, Nat.reduceEqDiff, reduceCtorEq, eq1, apartOK, apart2, AObj.live, Int.reduceEq, Int.reduceLT, Int.reduceLE, Int.reduceAdd, Int.reduceSub, Int.reduceMul, Int.reduceToNat, cutCells, Nat.reduceAdd, Nat.reduceLeDiff, Nat.reduceLT, Nat.reduceMul, Nat.reduceSub]
    refine WLoop.inv (bitI z i0 H o) ?_ i0 _ _ ⟨0, by omega, rfl, rfl, by exact ex_env rfl⟩
    rintro n e H' ⟨j, k1, rfl, rfl, ⟨x, rfl⟩⟩
    by_cases hj : j < i0
    · have hj' : (0 : Int) < ((i0 - j : Nat) : Int) := by omega
      have hzj : z >>> j < 18446744073709551616 := Nat.lt_of_le_of_lt (Nat.shiftRight_le _ _) hz
      have e1 := bin_quo (k := .u64) (a := z >>> j) (b := 2) (by decide)
      have e2 : (((2 : Nat) : Int)) = 2 := rfl
      have e3 : IntKind.wrap .u64 ((z >>> j / 2 : Nat) : Int) = ((z >>> (j + 1) : Nat) : Int) := by
        rw [u64_nat (by omega), Nat.shiftRight_succ]
      rw [e2, e3] at e1
      have e4 : ((i0 - j : Nat) : Int) - 1 = ((i0 - (j + 1) : Nat) : Int) := by omega
      simp (disch := omega) only [kB, kcx, kdm, kdn, kel, aop, resultsL, resultOf, Nat.reduceEqDiff, reduceCtorEq, eq1, apartOK, apart2, AObj.live, Int.reduceEq, Int.reduceLT, Int.reduceLE, Int.reduceAdd, Int.reduceSub, Int.reduceMul, Int.reduceToNat, cutCells, Nat.reduceAdd, Nat.reduceLeDiff, Nat.reduceLT, Nat.reduceMul, Nat.reduceSub, hj', e1, wr_i64, e4]
      exact ⟨i0 - (j + 1), by omega, j + 1, by omega, rfl, rfl, ex_env rfl⟩
    · obtain rfl : j = i0 := by omega
      have hj' : ¬ (0 : Int) < ((j - j : Nat) : Int) := by omega
      have e1 := bin_rem (k := .u64) (a := z >>> j) (b := 2) (by decide)
      have e2 : (((2 : Nat) : Int)) = 2 := rfl
      rw [e2, hfin] at e1
      cases hb : a.testBit i with
      | true =>
        rw [hb] at e1 h
        have e8 : (((if true = true then 1 else 0 : Nat)) : Int) = 1 := rfl
        rw [e8] at e1
        simp (disch := omega) only [kB, kcx, kdm, kdn, kel, aop, resultsL, resultOf, Nat.reduceEqDiff, reduceCtorEq, eq1, apartOK, apart2, AObj.live, Int.reduceEq, Int.reduceLT, Int.reduceLE, Int.reduceAdd, Int.reduceSub, Int.reduceMul, Int.reduceToNat, cutCells, Nat.reduceAdd, Nat.reduceLeDiff, Nat.reduceLT, Nat.reduceMul, Nat.reduceSub, hj', e1]
        exact ⟨_, rfl, ⟨_, rfl⟩, .closed rfl, h⟩
      | false =>
        rw [hb] at e1 h
        have e8 : (((if false = true then 1 else 0 : Nat)) : Int) = 0 := rfl
        rw [e8] at e1
        simp (disch := omega) only [kB, kcx, kdm, kdn, kel, aop, resultsL, resultOf, Nat.reduceEqDiff, reduceCtorEq, eq1, apartOK, apart2, AObj.live, Int.reduceEq, Int.reduceLT, Int.reduceLE, Int.reduceAdd, Int.reduceSub, Int.reduceMul, Int.reduceToNat, cutCells, Nat.reduceAdd, Nat.reduceLeDiff, Nat.reduceLT, Nat.reduceMul, Nat.reduceSub, hj', e1]
        exact ⟨_, rfl, ⟨_, rfl⟩, .closed rfl, h⟩
  obtain ⟨Z, hZ⟩ : ∃ Z, Z = WC T (g41.body.at [1, 1, 1]) := ⟨_, rfl⟩
  rw [← hZ] at key
  have hZ' := hZ.symm
  clear hZ
  simp only [AFunc.body, g41, ACode.at] at hZ'
  by_cases h64 : (63 : Int) < (i : Int)
  · have e1 : (i : Int) - 64 = ((i - 64 : Nat) : Int) := by omega
    simp (disch := omega) only [kB, kcx, kdm, kdn, kel, aop, resultsL, resultOf, Nat.reduceEqDiff, reduceCtorEq, eq1, apartOK, apart2, AObj.live, Int.reduceEq, Int.reduceLT, Int.reduceLE, Int.reduceAdd, Int.reduceSub, Int.reduceMul, Int.reduceToNat, cutCells, Nat.reduceAdd, Nat.reduceLeDiff, Nat.reduceLT, Nat.reduceMul, Nat.reduceSub, h64, hZ', wr_i64, e1]
    refine key (a / W64) (i - 64) _ _ b1 (by omega) (by exact ex_env rfl) ?_
    rw [W64, ← Nat.shiftRight_eq_div_pow, ← Nat.shiftRight_add, show 64 + (i - 64) = i by omega]
    exact bit_shr
  · simp (disch := omega) only [kB, kcx, kdm, kdn, kel, aop, resultsL, resultOf, Nat.reduceEqDiff, reduceCtorEq, eq1, apartOK, apart2, AObj.live, Int.reduceEq, Int.reduceLT, Int.reduceLE, Int.reduceAdd, Int.reduceSub, Int.reduceMul, Int.reduceToNat, cutCells, Nat.reduceAdd, Nat.reduceLeDiff, Nat.reduceLT, Nat.reduceMul, Nat.reduceSub, h64, hZ']
    refine key (a % W64) i _ _ b2 (by omega) (by exact ex_env rfl) ?_
    rw [bit_shr, W64, Nat.testBit_mod_two_pow, decide_eq_true (show i < 64 by omega), Bool.true_and]

end Go.Proofs.Yticgkaanaimllaa.Ev

/- The document's text of bits. -/
namespace Go.Proofs.Yticgkaanaimllaa.Ev
set_option maxRecDepth 100000
set_option linter.unusedSimpArgs false
set_option linter.unusedVariables false
variable {R : FRes → Heap → Prop} {H : Heap}

def u8c (b : UInt8) : Value := .int .u8 b.toNat
theorem bytes_u8 : ∀ l : List UInt8, bytesOf (l.map u8c) = some l
  | [] => rfl
  | b :: l => by
    rw [List.map_cons, u8c, bytesOf, bytes_u8 l]
    simp

/-- A number's bits as a text. -/
def bitC (b : Bool) : UInt8 := if b then 49 else 48
def bitS (w a : Nat) : List UInt8 := (List.range w).map fun i => bitC (a.testBit (w - 1 - i))
theorem bitS_len (w a : Nat) : (bitS w a).length = w := by simp [bitS]
theorem bitS_take {w a q : Nat} (hq : q < w) : (bitS w a).take (w - q) = (bitS w a).take (w - (q + 1)) ++ [bitC (a.testBit q)] := by
  rw [show w - q = (w - (q + 1)) + 1 by omega, List.take_add_one]
  congr 1
  have : w - (q + 1) < (bitS w a).length := by rw [bitS_len]; omega
  rw [List.getElem?_eq_getElem this]
  simp only [bitS, List.getElem_map, List.getElem_range, Option.toList_some]
  rw [show w - 1 - (w - (q + 1)) = q by omega]

/-- Bytes that were put together. -/
def BS (n0 : Nat) (G : Heap) (sv : Value) (L : List UInt8) : Prop :=
  (L = [] ∧ sv = .slice none 0 0) ∨ (L ≠ [] ∧ ∃ k, k ≠ 0 ∧ sv = .slice (some ⟨n0 + k, 0, none⟩) L.length L.length ∧ hget G k = .row (L.map u8c) 1 true)

def bitsI (w a : Nat) (H : Heap) : Nat → Env → Heap → Prop := fun n e H' =>
  ∃ (q : Nat) (G : Heap) (sv : Value), q ≤ 128 ∧ n = q ∧ H' = H ++ G ∧ hget G 0 = boxRow a ∧ BS H.length G sv ((bitS w a).take (w - q)) ∧ (∀ j, q ≤ j → w ≤ j → a.testBit j = false) ∧
    (∃ x : Nat → Value, e = [x 0, .int .i64 (w : Int), .pointer (some ⟨H.length, 0, none⟩), x 3, x 4, x 5, sv, .int .i64 ((q : Int) - 1), x 8, x 9, x 10, x 11, x 12, x 13, x 14, x 15, x 16, x 17, x 18, x 19, x 20, x 21, x 22, x 23, x 24, x 25, x 26, x 27, x 28, x 29, x 30, x 31, x 32])

theorem refbits_t {w a : Nat} (hw : 1 ≤ w) (hw2 : w ≤ 128) (ha : a < 2 ^ 128)
    (h : R (.ret (if a < 2 ^ w then .tuple #[.string (bs (bitS w a)), .bool true] else .tuple #[.string (bs []), .bool false])) H) : WD T 11 [bvA a, .int .i64 (w : Int)] H R := by
  refine WD.gc0 (WD.of follows t11 (by simp) ?_)
  simp (disch := omega) only [kB, kcx, kdm, kdn, kel, aop, resultsL, resultOf, Nat.reduceEqDiff, reduceCtorEq, eq1, apartOK, apart2, AObj.live, Int.reduceEq, Int.reduceLT, Int.reduceLE, Int.reduceAdd, Int.reduceSub, Int.reduceMul, Int.reduceToNat, cutCells, Nat.reduceAdd, Nat.reduceLeDiff, Nat.reduceLT, Nat.reduceMul, Nat.reduceSub]
  refine WLoop.inv (bitsI w a H) ?_ 128 _ _ ⟨128, _, _, by omega, rfl, rfl, rfl, .inl ⟨by rw [show w - 128 = 0 by omega]; rfl, rfl⟩, fun j hj _ => lt_bit ha hj, ex_env rfl⟩
  rintro q e H' ⟨_, G, sv, hq, rfl, rfl, g0, hbs, hz, ⟨x, rfl⟩⟩
  have l0 := hget_lt g0 rfl
  cases q with
  | zero =>
    have hj : ¬ (0 : Int) ≤ ((0 : Nat) : Int) - 1 := by omega
    have hfit : a < 2 ^ w := Nat.lt_pow_two_of_testBit a fun i hi => hz i (by omega) hi
    rw [if_pos hfit] at h
    rw [Nat.sub_zero, List.take_of_length_le (by rw [bitS_len]; exact Nat.le_refl _)] at hbs
    rcases hbs with ⟨e1, _⟩ | ⟨_, k, k0, rfl, hk⟩
    · have := bitS_len w a
      rw [e1] at this
      simp at this
      omega
    · have hsrc : (srcCells (H ++ G) 1 (bitS w a).length (.slice (some ⟨H.length + k, 0, none⟩) (bitS w a).length (bitS w a).length)).bind bytesOf = some (bitS w a) := by
        simp only [srcCells, hget_base, hk, List.length_map, Nat.mul_one, Nat.zero_add, Nat.le_refl, if_true, List.drop_zero]
        rw [List.take_of_length_le (by simp)]
        exact bytes_u8 _
      simp (disch := omega) only [kB, kcx, kdm, kdn, kel, aop, resultsL, resultOf, Nat.reduceEqDiff, reduceCtorEq, eq1, apartOK, apart2, AObj.live, Int.reduceEq, Int.reduceLT, Int.reduceLE, Int.reduceAdd, Int.reduceSub, Int.reduceMul, Int.reduceToNat, cutCells, Nat.reduceAdd, Nat.reduceLeDiff, Nat.reduceLT, Nat.reduceMul, Nat.reduceSub, hj, lenV, hsrc]
      exact ⟨_, rfl, ⟨_, rfl⟩, .tup2 .string (.closed rfl), h⟩
  | succ q =>
    have hj : (0 : Int) ≤ ((q + 1 : Nat) : Int) - 1 := by omega
    have e1 : ((q + 1 : Nat) : Int) - 1 = (q : Int) := by omega
    simp (disch := omega) only [kB, kcx, kdm, kdn, kel, aop, resultsL, resultOf, Nat.reduceEqDiff, reduceCtorEq, eq1, apartOK, apart2, AObj.live, Int.reduceEq, Int.reduceLT, Int.reduceLE, Int.reduceAdd, Int.reduceSub, Int.reduceMul, Int.reduceToNat, cutCells, Nat.reduceAdd, Nat.reduceLeDiff, Nat.reduceLT, Nat.reduceMul, Nat.reduceSub, hj, e1, g0]
    refine refbit_t ha (by omega) ?_
    have e2 : ((q + 1 : Nat) : Int) - 1 - 1 = (q : Int) - 1 := by omega
    by_cases hwq : (w : Int) ≤ (q : Int)
    · cases hb : a.testBit q with
      | true =>
        have hfit : ¬ a < 2 ^ w := fun z => by rw [lt_bit z (by omega)] at hb; cases hb
        rw [if_neg hfit] at h
        simp (disch := omega) only [kB, kcx, kdm, kdn, kel, aop, resultsL, resultOf, Nat.reduceEqDiff, reduceCtorEq, eq1, apartOK, apart2, AObj.live, Int.reduceEq, Int.reduceLT, Int.reduceLE, Int.reduceAdd, Int.reduceSub, Int.reduceMul, Int.reduceToNat, cutCells, Nat.reduceAdd, Nat.reduceLeDiff, Nat.reduceLT, Nat.reduceMul, Nat.reduceSub, hwq]
        exact ⟨_, rfl, ⟨_, rfl⟩, .tup2 .string (.closed rfl), h⟩
      | false =>
        have hwq2 : ¬ (q : Int) < (w : Int) := by omega
        simp (disch := omega) only [kB, kcx, kdm, kdn, kel, aop, resultsL, resultOf, Nat.reduceEqDiff, reduceCtorEq, eq1, apartOK, apart2, AObj.live, Int.reduceEq, Int.reduceLT, Int.reduceLE, Int.reduceAdd, Int.reduceSub, Int.reduceMul, Int.reduceToNat, cutCells, Nat.reduceAdd, Nat.reduceLeDiff, Nat.reduceLT, Nat.reduceMul, Nat.reduceSub, hwq, hwq2, wr_i64]
        refine ⟨q, by omega, q, G, sv, by omega, rfl, rfl, g0, ?_, fun j h1 h2 => ?_, ex_env rfl⟩
        · rw [show w - q = 0 by omega]
          rwa [show w - (q + 1) = 0 by omega] at hbs
        · by_cases hjq : j = q
          · rw [hjq]; exact hb
          · exact hz j (by omega) h2
    · have hwq2 : (q : Int) < (w : Int) := by omega
      have htk := bitS_take (a := a) (show q < w by omega)
      generalize hL : (bitS w a).take (w - (q + 1)) = L at *
      have hLl : L.length ≤ 128 := by rw [← hL, List.length_take]; omega
      rcases hbs with ⟨rfl, rfl⟩ | ⟨hne, k, k0, rfl, hk⟩
      · cases hb : a.testBit q with
        | true =>
          have hap := append_nil (K := H ++ (G ++ [.row [.int .u8 49] 1 true])) (bx := H.length + G.length) (unit := 1) (bytes := 1) (u2 := 1) (w2 := true) (by rw [hget_base, hget_base0]; rfl) rfl (by decide)
          simp (disch := omega) only [kB, kcx, kdm, kdn, kel, aop, resultsL, resultOf, Nat.reduceEqDiff, reduceCtorEq, eq1, apartOK, apart2, AObj.live, Int.reduceEq, Int.reduceLT, Int.reduceLE, Int.reduceAdd, Int.reduceSub, Int.reduceMul, Int.reduceToNat, cutCells, Nat.reduceAdd, Nat.reduceLeDiff, Nat.reduceLT, Nat.reduceMul, Nat.reduceSub, hwq, hwq2, hap, wr_i64]
          refine ⟨q, by omega, q, _, _, by omega, rfl, rfl, by rw [hget_old l0]; exact g0, .inr ⟨?_, G.length + 1, by omega, ?_, ?_⟩, fun j h1 h2 => hz j (by omega) h2, ex_env rfl⟩
          · rw [htk]; simp
          · rw [htk]; rfl
          · rw [htk, hb, hget_base]; rfl
        | false =>
          have hap := append_nil (K := H ++ (G ++ [.row [.int .u8 48] 1 true])) (bx := H.length + G.length) (unit := 1) (bytes := 1) (u2 := 1) (w2 := true) (by rw [hget_base, hget_base0]; rfl) rfl (by decide)
          simp (disch := omega) only [kB, kcx, kdm, kdn, kel, aop, resultsL, resultOf, Nat.reduceEqDiff, reduceCtorEq, eq1, apartOK, apart2, AObj.live, Int.reduceEq, Int.reduceLT, Int.reduceLE, Int.reduceAdd, Int.reduceSub, Int.reduceMul, Int.reduceToNat, cutCells, Nat.reduceAdd, Nat.reduceLeDiff, Nat.reduceLT, Nat.reduceMul, Nat.reduceSub, hwq, hwq2, hap, wr_i64]
          refine ⟨q, by omega, q, _, _, by omega, rfl, rfl, by rw [hget_old l0]; exact g0, .inr ⟨?_, G.length + 1, by omega, ?_, ?_⟩, fun j h1 h2 => hz j (by omega) h2, ex_env rfl⟩
          · rw [htk]; simp
          · rw [htk]; rfl
          · rw [htk, hb, hget_base]; rfl
      · have lk := hget_lt hk rfl
        have hroom : (L.length + 1) * 1 ≤ roomMax ∧ L.length + 1 ≤ roomMax := by simp only [roomMax]; omega
        cases hb : a.testBit q with
        | true =>
          have hap := append_one (K := H ++ (G ++ [.row [.int .u8 49] 1 true])) (b := H.length + k) (bx := H.length + G.length) (l := L.length) (unit := 1) (bytes := 1) (cells := L.map u8c) (u2 := 1) (w2 := true) (by rw [hget_base, hget_old lk]; exact hk) (by simp) (by rw [hget_base, hget_base0]; rfl) rfl rfl hroom
          simp (disch := omega) only [kB, kcx, kdm, kdn, kel, aop, resultsL, resultOf, Nat.reduceEqDiff, reduceCtorEq, eq1, apartOK, apart2, AObj.live, Int.reduceEq, Int.reduceLT, Int.reduceLE, Int.reduceAdd, Int.reduceSub, Int.reduceMul, Int.reduceToNat, cutCells, Nat.reduceAdd, Nat.reduceLeDiff, Nat.reduceLT, Nat.reduceMul, Nat.reduceSub, hwq, hwq2, hap, wr_i64]
          refine ⟨q, by omega, q, _, _, by omega, rfl, rfl, by rw [hget_oldS l0, hget_ne k0]; exact g0, .inr ⟨?_, G.length + 1, by omega, ?_, ?_⟩, fun j h1 h2 => hz j (by omega) h2, ex_env rfl⟩
          · rw [htk]; simp
          · rw [htk, List.length_append]; rfl
          · rw [htk, hb, hget_baseS, List.map_append]; rfl
        | false =>
          have hap := append_one (K := H ++ (G ++ [.row [.int .u8 48] 1 true])) (b := H.length + k) (bx := H.length + G.length) (l := L.length) (unit := 1) (bytes := 1) (cells := L.map u8c) (u2 := 1) (w2 := true) (by rw [hget_base, hget_old lk]; exact hk) (by simp) (by rw [hget_base, hget_base0]; rfl) rfl rfl hroom
          simp (disch := omega) only [kB, kcx, kdm, kdn, kel, aop, resultsL, resultOf, Nat.reduceEqDiff, reduceCtorEq, eq1, apartOK, apart2, AObj.live, Int.reduceEq, Int.reduceLT, Int.reduceLE, Int.reduceAdd, Int.reduceSub, Int.reduceMul, Int.reduceToNat, cutCells, Nat.reduceAdd, Nat.reduceLeDiff, Nat.reduceLT, Nat.reduceMul, Nat.reduceSub, hwq, hwq2, hap, wr_i64]
          refine ⟨q, by omega, q, _, _, by omega, rfl, rfl, by rw [hget_oldS l0, hget_ne k0]; exact g0, .inr ⟨?_, G.length + 1, by omega, ?_, ?_⟩, fun j h1 h2 => hz j (by omega) h2, ex_env rfl⟩
          · rw [htk]; simp
          · rw [htk, List.length_append]; rfl
          · rw [htk, hb, hget_baseS, List.map_append]; rfl

end Go.Proofs.Yticgkaanaimllaa.Ev

/- The document's text of a prefix. -/
namespace Go.Proofs.Yticgkaanaimllaa.Ev
set_option maxRecDepth 100000
set_option linter.unusedSimpArgs false
set_option linter.unusedVariables false
variable {R : FRes → Heap → Prop} {H : Heap}

theorem rgt_iff {w a : Nat} {n : Int} (hw : w ≤ 128) : rgt w a n = true ↔ a < 2 ^ w ∧ 0 ≤ n ∧ n ≤ (w : Int) ∧ ∀ i, n.toNat ≤ i → i < w → a.testBit (w - 1 - i) = false := by
  simp only [rgt, Bool.and_eq_true, decide_eq_true_eq]
  constructor
  · rintro ⟨⟨⟨h1, h2⟩, h3⟩, h4⟩
    refine ⟨h3, h1, h2, fun i h5 h6 => ?_⟩
    have := congrArg (fun z => z.testBit (w - 1 - i)) h4
    simp only [Nat.testBit_and, testBit_mask hw (show n.toNat ≤ w by omega)] at this
    rw [decide_eq_false (show ¬ w - n.toNat ≤ w - 1 - i by omega), Bool.false_and, Bool.and_false] at this
    exact this.symm
  · rintro ⟨h3, h1, h2, h4⟩
    refine ⟨⟨⟨h1, h2⟩, h3⟩, Nat.eq_of_testBit_eq fun i => ?_⟩
    rw [Nat.testBit_and, testBit_mask hw (show n.toNat ≤ w by omega)]
    by_cases hi : i < w
    · by_cases hj : w - n.toNat ≤ i
      · simp [hi, hj]
      · have := h4 (w - 1 - i) (by omega) (by omega)
        rw [show w - 1 - (w - 1 - i) = i by omega] at this
        rw [this]; rfl
    · rw [lt_bit h3 (by omega)]; rfl

theorem bitS_get {w a i : Nat} (hi : i < w) : (bitS w a)[i]? = some (bitC (a.testBit (w - 1 - i))) := by
  simp [bitS, hi]

def textI (w a n : Nat) (H H0 : Heap) : Nat → Env → Heap → Prop := fun z e H' =>
  ∃ i : Nat, n ≤ i ∧ i ≤ w ∧ z = w - i ∧ H' = H0 ∧ (∀ j, n ≤ j → j < i → a.testBit (w - 1 - j) = false) ∧
    (∃ x : Nat → Value, e = [x 0, .int .i64 (n : Int), .int .i64 (w : Int), x 3, x 4, x 5, x 6, x 7, .string (bs (bitS w a)), x 9, .int .i64 (i : Int), x 11, x 12, x 13, x 14, x 15, x 16, x 17, x 18, x 19, x 20, x 21, x 22, x 23, x 24, x 25, x 26, x 27, x 28, x 29, x 30, x 31, x 32, x 33, x 34, x 35, x 36, x 37, x 38, x 39, x 40])

theorem reftext_t {w a : Nat} {n : Int} (hw : 1 ≤ w) (hw2 : w ≤ 128) (ha : a < 2 ^ 128)
    (h : R (.ret (if rgt w a n = true then .tuple #[.string (bs ((bitS w a).take n.toNat)), .bool true] else .tuple #[.string (bs []), .bool false])) H) : WD T 13 [bvA a, .int .i64 n, .int .i64 (w : Int)] H R := by
  refine WD.gc0 (WD.of follows t13 (by simp) ?_)
  have hno : rgt w a n = false → R (.ret (.tuple #[.string (bs []), .bool false])) H := fun q => by
    rw [if_neg (by rw [q]; simp)] at h
    exact h
  simp (disch := omega) only [kB, kcx, kdm, kdn, kel, aop, resultsL, resultOf, Nat.reduceEqDiff, reduceCtorEq, eq1, apartOK, apart2, AObj.live, Int.reduceEq, Int.reduceLT, Int.reduceLE, Int.reduceAdd, Int.reduceSub, Int.reduceMul, Int.reduceToNat, cutCells, Nat.reduceAdd, Nat.reduceLeDiff, Nat.reduceLT, Nat.reduceMul, Nat.reduceSub]
  refine refbits_t hw hw2 ha ?_
  by_cases hfit : a < 2 ^ w
  case neg =>
    rw [if_neg hfit]
    have := hno (by cases hr : rgt w a n with | false => rfl | true => exact absurd ((rgt_iff hw2).1 hr).1 hfit)
    simp (disch := omega) only [kB, kcx, kdm, kdn, kel, aop, resultsL, resultOf, Nat.reduceEqDiff, reduceCtorEq, eq1, apartOK, apart2, AObj.live, Int.reduceEq, Int.reduceLT, Int.reduceLE, Int.reduceAdd, Int.reduceSub, Int.reduceMul, Int.reduceToNat, cutCells, Nat.reduceAdd, Nat.reduceLeDiff, Nat.reduceLT, Nat.reduceMul, Nat.reduceSub]
    exact ⟨_, rfl, ⟨_, rfl⟩, .tup2 .string (.closed rfl), this⟩
  rw [if_pos hfit]
  by_cases h1 : n < 0
  · have := hno (by cases hr : rgt w a n with | false => rfl | true => exact absurd ((rgt_iff hw2).1 hr).2.1 (by omega))
    simp (disch := omega) only [kB, kcx, kdm, kdn, kel, aop, resultsL, resultOf, Nat.reduceEqDiff, reduceCtorEq, eq1, apartOK, apart2, AObj.live, Int.reduceEq, Int.reduceLT, Int.reduceLE, Int.reduceAdd, Int.reduceSub, Int.reduceMul, Int.reduceToNat, cutCells, Nat.reduceAdd, Nat.reduceLeDiff, Nat.reduceLT, Nat.reduceMul, Nat.reduceSub, h1]
    exact ⟨_, rfl, ⟨_, rfl⟩, .tup2 .string (.closed rfl), this⟩
  by_cases h2 : (w : Int) < n
  · have := hno (by cases hr : rgt w a n with | false => rfl | true => exact absurd ((rgt_iff hw2).1 hr).2.2.1 (by omega))
    simp (disch := omega) only [kB, kcx, kdm, kdn, kel, aop, resultsL, resultOf, Nat.reduceEqDiff, reduceCtorEq, eq1, apartOK, apart2, AObj.live, Int.reduceEq, Int.reduceLT, Int.reduceLE, Int.reduceAdd, Int.reduceSub, Int.reduceMul, Int.reduceToNat, cutCells, Nat.reduceAdd, Nat.reduceLeDiff, Nat.reduceLT, Nat.reduceMul, Nat.reduceSub, h1, h2]
    exact ⟨_, rfl, ⟨_, rfl⟩, .tup2 .string (.closed rfl), this⟩
  obtain ⟨k, rfl⟩ : ∃ k : Nat, n = k := ⟨n.toNat, by omega⟩
  simp only [Int.toNat_natCast] at h
  simp (disch := omega) only [kB, kcx, kdm, kdn, kel, aop, resultsL, resultOf, Nat.reduceEqDiff, reduceCtorEq, eq1, apartOK, apart2, AObj.live, Int.reduceEq, Int.reduceLT, Int.reduceLE, Int.reduceAdd, Int.reduceSub, Int.reduceMul, Int.reduceToNat, cutCells, Nat.reduceAdd, Nat.reduceLeDiff, Nat.reduceLT, Nat.reduceMul, Nat.reduceSub, h1, h2]
  refine WLoop.inv (textI w a k H _) ?_ (w - k) _ _ ⟨k, by omega, by omega, rfl, rfl, fun j h1 h2 => by omega, ex_env rfl⟩
  rintro z e H' ⟨i, k1, k2, rfl, rfl, k3, ⟨x, rfl⟩⟩
  by_cases hi : i < w
  · have hi' : (i : Int) < (w : Int) := by omega
    have hg := bitS_get (a := a) hi
    have hi0 : (0 : Int) ≤ (i : Int) := by omega
    cases hb : a.testBit (w - 1 - i) with
    | true =>
      have := hno (by cases hr : rgt w a (k : Int) with | false => rfl | true => (have q := ((rgt_iff hw2).1 hr).2.2.2 i (by simpa using k1) hi; rw [hb] at q; cases q))
      rw [hb] at hg
      have hg2 : (bitS w a)[i]? = some 49 := hg
      have e49 : (((49 : UInt8).toNat : Nat) : Int) = 49 := rfl
      simp (disch := omega) only [kB, kcx, kdm, kdn, kel, aop, resultsL, resultOf, Nat.reduceEqDiff, reduceCtorEq, eq1, apartOK, apart2, AObj.live, Int.reduceEq, Int.reduceLT, Int.reduceLE, Int.reduceAdd, Int.reduceSub, Int.reduceMul, Int.reduceToNat, cutCells, Nat.reduceAdd, Nat.reduceLeDiff, Nat.reduceLT, Nat.reduceMul, Nat.reduceSub, hi', hi0, hg2, e49]
      exact ⟨_, rfl, ⟨_, rfl⟩, .tup2 .string (.closed rfl), this⟩
    | false =>
      rw [hb] at hg
      have hg2 : (bitS w a)[i]? = some 48 := hg
      have e48 : (((48 : UInt8).toNat : Nat) : Int) = 48 := rfl
      simp (disch := omega) only [kB, kcx, kdm, kdn, kel, aop, resultsL, resultOf, Nat.reduceEqDiff, reduceCtorEq, eq1, apartOK, apart2, AObj.live, Int.reduceEq, Int.reduceLT, Int.reduceLE, Int.reduceAdd, Int.reduceSub, Int.reduceMul, Int.reduceToNat, cutCells, Nat.reduceAdd, Nat.reduceLeDiff, Nat.reduceLT, Nat.reduceMul, Nat.reduceSub, hi', hi0, hg2, e48, wr_i64, nadd1]
      refine ⟨w - (i + 1), by omega, i + 1, by omega, by omega, rfl, rfl, fun j h1 h2 => ?_, ex_env rfl⟩
      by_cases hj : j = i
      · rw [hj]; exact hb
      · exact k3 j h1 (by omega)
  · obtain rfl : i = w := by omega
    have hi' : ¬ (i : Int) < (i : Int) := by omega
    have hr : rgt i a (k : Int) = true := (rgt_iff hw2).2 ⟨hfit, by omega, by omega, fun j h1 h2 => k3 j (by simpa using h1) h2⟩
    rw [if_pos hr] at h
    have hl := bitS_len i a
    simp (disch := omega) only [kB, kcx, kdm, kdn, kel, aop, resultsL, resultOf, Nat.reduceEqDiff, reduceCtorEq, eq1, apartOK, apart2, AObj.live, Int.reduceEq, Int.reduceLT, Int.reduceLE, Int.reduceAdd, Int.reduceSub, Int.reduceMul, Int.reduceToNat, cutCells, Nat.reduceAdd, Nat.reduceLeDiff, Nat.reduceLT, Nat.reduceMul, Nat.reduceSub, hi', hl]
    exact ⟨_, rfl, ⟨_, rfl⟩, .tup2 .string (.closed rfl), h⟩

end Go.Proofs.Yticgkaanaimllaa.Ev

/- Operations; a number under a prefix, as texts. -/
namespace Go.Proofs.Yticgkaanaimllaa.Ev
set_option maxRecDepth 100000
set_option linter.unusedSimpArgs false
set_option linter.unusedVariables false
variable {R : FRes → Heap → Prop} {H : Heap}

structure Opr where
  k : Int
  a : Nat
  n : Int
  v : Int
def opC (o : Opr) : List Value := [.int .i64 o.k, .int .u64 ((o.a / W64 : Nat) : Int), .int .u64 ((o.a % W64 : Nat) : Int), .int .i64 o.n, .int .i64 o.v]

/-- A list of operations, laid below a block. -/
def OpSl (H : Heap) (ad : Option Addr) (ops : List Opr) (lim : Nat) : Prop := ops ≠ [] → ∃ bl wr, ad = some ⟨bl, 0, none⟩ ∧ bl < lim ∧ hget H bl = .row (ops.map opC).flatten 0 wr

theorem op_flat (ops : List Opr) (i : Nat) (h : i < ops.length) : ((ops.map opC).flatten.drop (i * 5)).take 5 = opC ops[i] := by
  induction ops generalizing i with
  | nil => simp at h
  | cons o ops ih =>
    simp only [List.map_cons, List.flatten_cons]
    cases i with
    | zero => simp [opC]
    | succ i =>
      have : (opC o).length = 5 := rfl
      rw [List.drop_append, this, show (i + 1) * 5 - 5 = i * 5 by omega, List.drop_eq_nil_of_le (by omega), List.nil_append]
      simpa using ih i (by simpa using h)
theorem op_len (ops : List Opr) : (ops.map opC).flatten.length = ops.length * 5 := by
  induction ops with
  | nil => rfl
  | cons o ops ih => simp only [List.map_cons, List.flatten_cons, List.length_append, ih, List.length_cons]; simp [opC]; omega
theorem op_bits (ops : List Opr) (i : Nat) (h : i < ops.length) : ((ops.map opC).flatten.drop (i * 5 + 1)).take 2 = [.int .u64 ((ops[i].a / W64 : Nat) : Int), .int .u64 ((ops[i].a % W64 : Nat) : Int)] := by
  have := congrArg (fun l => (l.drop 1).take 2) (op_flat ops i h)
  simp only [List.drop_take, List.drop_drop, List.take_take] at this
  rw [show min 2 (5 - 1) = 2 by decide] at this
  rw [this]
  rfl
theorem op_n (ops : List Opr) (i : Nat) (h : i < ops.length) : (ops.map opC).flatten[i * 5 + 3]? = some (.int .i64 ops[i].n) := by
  have := congrArg (fun l => l[3]?) (op_flat ops i h)
  simp only [List.getElem?_take_of_lt (show 3 < 5 by decide), List.getElem?_drop] at this
  rw [this]
  rfl

theorem und_take {w c n a : Nat} (hn : n ≤ w) (hc : c < 2 ^ w) (ha : a < 2 ^ w) : (bitS w c).take n = (bitS w a).take n ↔ Und w c n a := by
  constructor
  · intro h
    refine Nat.eq_of_testBit_eq fun i => ?_
    rw [Nat.testBit_shiftRight, Nat.testBit_shiftRight]
    by_cases hi : i < n
    · have := congrArg (fun l => l[n - 1 - i]?) h
      simp only [List.getElem?_take_of_lt (show n - 1 - i < n by omega), bitS_get (show n - 1 - i < w by omega), Option.some.injEq] at this
      rw [show w - 1 - (n - 1 - i) = w - n + i by omega] at this
      cases q1 : c.testBit (w - n + i) <;> cases q2 : a.testBit (w - n + i) <;> rw [q1, q2] at this <;> first | rfl | (simp [bitC] at this)
    · rw [lt_bit hc (by omega), lt_bit ha (by omega)]
  · intro h
    refine List.ext_getElem? fun i => ?_
    by_cases hi : i < n
    · rw [List.getElem?_take_of_lt hi, List.getElem?_take_of_lt hi, bitS_get (by omega), bitS_get (by omega)]
      have := congrArg (fun z => z.testBit (n - 1 - i)) h
      simp only [Nat.testBit_shiftRight] at this
      rw [show w - n + (n - 1 - i) = w - 1 - i by omega] at this
      rw [this]
    · rw [List.getElem?_eq_none (by rw [List.length_take]; omega), List.getElem?_eq_none (by rw [List.length_take]; omega)]

theorem OpSl.same {K K2 : Heap} {ad : Option Addr} {ops : List Opr} {lim : Nat} (h : OpSl K ad ops lim) (hs : ∀ c, c < lim → hget K2 c = hget K c) : OpSl K2 ad ops lim := fun q => by
  obtain ⟨bl, wr, h1, h2, h3⟩ := h q
  exact ⟨bl, wr, h1, h2, (hs bl h2).trans h3⟩

end Go.Proofs.Yticgkaanaimllaa.Ev

/- A trie's nodes in order; an iterator over them. -/
namespace Go.Proofs.Yticgkaanaimllaa.Ev
set_option maxRecDepth 100000
set_option linter.unusedSimpArgs false
set_option linter.unusedVariables false
variable {R : FRes → Heap → Prop} {H : Heap}

/-! ### Slices that grow -/

/-- A slice of elements of so many cells, in a block of its own. -/
def SLs (u n0 : Nat) (H : Heap) (sv : Value) (css : List (List Value)) : Prop :=
  (css = [] ∧ sv = .slice none 0 0) ∨ (css ≠ [] ∧ ∃ k, n0 ≤ k ∧ sv = .slice (some ⟨k, 0, none⟩) css.length css.length ∧ hget H k = .row css.flatten u true ∧ ∀ cs ∈ css, cs.length = u)
def blk : Value → Option Nat
  | .slice (some a) _ _ => some a.block
  | _ => none

theorem flat_len_u {u : Nat} : ∀ {css : List (List Value)}, (∀ cs ∈ css, cs.length = u) → css.flatten.length = css.length * u
  | [], _ => by simp
  | cs :: css, h => by
    rw [List.flatten_cons, List.length_append, h cs (by simp), flat_len_u fun q hq => h q (by simp [hq]), List.length_cons, Nat.succ_mul, Nat.add_comm]
theorem flat_cut {u : Nat} : ∀ {css : List (List Value)} (i : Nat), (∀ cs ∈ css, cs.length = u) → (hi : i < css.length) → ((css.flatten).drop (i * u)).take u = css[i]
  | [], i, _, hi => by simp at hi
  | cs :: css, 0, h, _ => by
    have := h cs (by simp)
    simp [List.take_append, this]
    try rw [← this, List.take_length]
  | cs :: css, i + 1, h, hi => by
    have h1 := h cs (by simp)
    rw [List.flatten_cons, List.drop_append, List.drop_eq_nil_of_le (by rw [h1, Nat.succ_mul]; omega), h1, Nat.succ_mul, Nat.add_sub_cancel, List.nil_append]
    simpa using flat_cut i (fun q hq => h q (by simp [hq])) (by simpa using hi)

theorem SLs.same {u n0 : Nat} {H K : Heap} {sv : Value} {css : List (List Value)} (h : SLs u n0 H sv css) (hs : ∀ c, blk sv = some c → hget K c = hget H c) : SLs u n0 K sv css := by
  rcases h with h | ⟨h1, k, k0, rfl, k2, k3⟩
  · exact .inl h
  · exact .inr ⟨h1, k, k0, rfl, by rw [hs k rfl]; exact k2, k3⟩
theorem SLs.lt {u n0 : Nat} {H : Heap} {sv : Value} {css : List (List Value)} (h : SLs u n0 H sv css) {c : Nat} (hc : blk sv = some c) : c < H.length ∧ n0 ≤ c := by
  rcases h with ⟨_, rfl⟩ | ⟨h1, k, k0, rfl, k2, k3⟩
  · cases hc
  · cases hc; exact ⟨hget_lt k2 rfl, k0⟩
theorem SLs.app {u n0 : Nat} {H G : Heap} {sv : Value} {css : List (List Value)} (h : SLs u n0 H sv css) : SLs u n0 (H ++ G) sv css := h.same fun c hc => hget_old (h.lt hc).1
theorem SLs.ne {u n0 : Nat} {H : Heap} {sv : Value} {css : List (List Value)} (h : SLs u n0 H sv css) {c u2 : Nat} {cs : List Value} {wr : Bool} (hc : hget H c = .row cs u2 wr) (hu : u ≠ u2) : blk sv ≠ some c := by
  intro e
  rcases h with ⟨_, rfl⟩ | ⟨h1, k, k0, rfl, k2, k3⟩
  · cases e
  · cases e
    rw [k2] at hc
    cases hc
    exact hu rfl
theorem SLs.len {u n0 : Nat} {H : Heap} {sv : Value} {css : List (List Value)} (h : SLs u n0 H sv css) : ∃ ad, sv = .slice ad css.length css.length := by
  rcases h with ⟨rfl, rfl⟩ | ⟨h1, k, k0, rfl, k2, k3⟩
  · exact ⟨_, rfl⟩
  · exact ⟨_, rfl⟩

theorem app_sl {u n0 bytes bx u2 : Nat} {K : Heap} {sv : Value} {css : List (List Value)} {xs : List Value} {w2 : Bool} (h : SLs u n0 K sv css) (hn : n0 ≤ K.length) (hx : hget K bx = .row xs u2 w2) (hl : xs.length = u) (hall : xs.all oneCell = true)
    (hr : (css.length + 1) * bytes ≤ roomMax ∧ css.length + 1 ≤ roomMax) : ∃ sv' K', appendV K u bytes sv (.slice (some ⟨bx, 0, none⟩) 1 1) = .val sv' K' ∧ SLs u n0 K' sv' (css ++ [xs]) ∧ K'.length = K.length + 1 ∧ blk sv' = some K.length ∧
      ∀ c, c < K.length → blk sv ≠ some c → hget K' c = hget K c := by
  rcases h with ⟨rfl, rfl⟩ | ⟨h1, k, k0, rfl, k2, k3⟩
  · refine ⟨_, _, append_nil hx hl (by simpa using hr.1), .inr ⟨by simp, K.length, hn, rfl, by simp [hget_last], by simpa using hl⟩, by simp, rfl, fun c hc _ => hget_old hc⟩
  · have lk := hget_lt k2 rfl
    refine ⟨_, _, append_one k2 (flat_len_u k3) hx hl hall hr, .inr ⟨by simp, K.length, hn, by simp, ?_, ?_⟩, by simp, rfl, fun c hc hb => ?_⟩
    · have e : (K.set k AObj.dead).length = K.length := List.length_set ..
      rw [← e, hget_last]
      simp
    · intro cs hcs
      rcases List.mem_append.1 hcs with q | q
      · exact k3 cs q
      · simp at q; rw [q]; exact hl
    · rw [hget_oldS hc, hget_ne (fun q => hb (by rw [q]; rfl))]

/-! ### The nodes in order -/

def Tr.inL : Tr → List Tr
  | .nil => []
  | .node b c n f v l r => .node b c n f v l r :: (l.inL ++ r.inL)

theorem walk_t {f : FuncId} {captured : Array Value} (S : List Tr → Heap → Prop) (Wh : List Tr)
    (hC : ∀ L nd H, S L H → (L ++ [nd]) <+: Wh → (∃ b1 c n f v l r, nd = .node b1 c n f v l r) → WD T f (nd.ptr :: captured.toList) H (fun r H' => r = .ret (.tuple #[]) ∧ S (L ++ [nd]) H')) :
    ∀ (t : Tr) (L0 : List Tr) (H : Heap) (R : FRes → Heap → Prop), S L0 H → (∀ L H, S L H → TA H t) → (L0 ++ t.inL) <+: Wh → (∀ H', S (L0 ++ t.inL) H' → R (.ret (.tuple #[])) H') →
      WD T 71 [t.ptr, .func (.func f) #[] captured] H R
  | .nil, L0, H, R, hS, _, _, h => by
    refine WD.of follows t71 (by simp) ?_
    simp only [Tr.ptr]
    simp (disch := omega) only [kB, kcx, kdm, kdn, kel, aop, resultsL, resultOf, Nat.reduceEqDiff, reduceCtorEq, eq1, apartOK, apart2, AObj.live, Int.reduceEq, Int.reduceLT, Int.reduceLE, Int.reduceAdd, Int.reduceSub, Int.reduceMul, Int.reduceToNat, cutCells, Nat.reduceAdd, Nat.reduceLeDiff, Nat.reduceLT, Nat.reduceMul, Nat.reduceSub, eqP_nn]
    exact h _ (by simpa [Tr.inL] using hS)
  | .node b1 c n full v l r, L0, H, R, hS, hta, hpre, h => by
    have c02 : (0 : Int) < ((2 : Nat) : Int) := by decide
    have c12 : (1 : Int) < ((2 : Nat) : Int) := by decide
    simp only [Tr.inL] at hpre h
    have ptr1 : Tr.ptr (.node b1 c n full v l r) = .pointer (some ⟨b1, 0, none⟩) := rfl
    have hx := hC L0 (.node b1 c n full v l r) H hS (List.IsPrefix.trans ⟨l.inL ++ r.inL, by simp⟩ hpre) ⟨_, _, _, _, _, _, _, rfl⟩
    rw [ptr1] at hx ⊢
    refine WD.of follows t71 (by simp) ?_
    simp (disch := omega) only [kB, kcx, kdm, kdn, kel, aop, resultsL, resultOf, Nat.reduceEqDiff, reduceCtorEq, eq1, apartOK, apart2, AObj.live, Int.reduceEq, Int.reduceLT, Int.reduceLE, Int.reduceAdd, Int.reduceSub, Int.reduceMul, Int.reduceToNat, cutCells, Nat.reduceAdd, Nat.reduceLeDiff, Nat.reduceLT, Nat.reduceMul, Nat.reduceSub, eqP_sn]
    refine WD.mono hx ?_
    rintro r0 H2 ⟨rfl, hS2⟩
    obtain ⟨⟨wr, q1⟩, _, _⟩ := hta _ H2 hS2
    unfold nodeRow at q1
    simp (disch := omega) only [kB, kcx, kdm, kdn, kel, aop, resultsL, resultOf, Nat.reduceEqDiff, reduceCtorEq, eq1, apartOK, apart2, AObj.live, Int.reduceEq, Int.reduceLT, Int.reduceLE, Int.reduceAdd, Int.reduceSub, Int.reduceMul, Int.reduceToNat, cutCells, Nat.reduceAdd, Nat.reduceLeDiff, Nat.reduceLT, Nat.reduceMul, Nat.reduceSub, q1, c02]
    refine walk_t S Wh hC l _ H2 _ hS2 (fun L H q => (hta L H q).2.1) (List.IsPrefix.trans ⟨r.inL, by simp⟩ hpre) fun H3 hS3 => ?_
    obtain ⟨⟨wr3, q3⟩, _, _⟩ := hta _ H3 hS3
    unfold nodeRow at q3
    simp (disch := omega) only [kB, kcx, kdm, kdn, kel, aop, resultsL, resultOf, Nat.reduceEqDiff, reduceCtorEq, eq1, apartOK, apart2, AObj.live, Int.reduceEq, Int.reduceLT, Int.reduceLE, Int.reduceAdd, Int.reduceSub, Int.reduceMul, Int.reduceToNat, cutCells, Nat.reduceAdd, Nat.reduceLeDiff, Nat.reduceLT, Nat.reduceMul, Nat.reduceSub, q3, c12]
    refine walk_t S Wh hC r _ H3 _ hS3 (fun L H q => (hta L H q).2.2) (by simpa using hpre) fun H4 hS4 => ?_
    simp (disch := omega) only [kB, kcx, kdm, kdn, kel, aop, resultsL, resultOf, Nat.reduceEqDiff, reduceCtorEq, eq1, apartOK, apart2, AObj.live, Int.reduceEq, Int.reduceLT, Int.reduceLE, Int.reduceAdd, Int.reduceSub, Int.reduceMul, Int.reduceToNat, cutCells, Nat.reduceAdd, Nat.reduceLeDiff, Nat.reduceLT, Nat.reduceMul, Nat.reduceSub]
    exact h _ (by simpa using hS4)

/-! ### Those that may be told -/

def sel (m : Nat → Nat → Bool) : Tr → Bool
  | .nil => false
  | .node _ c n f _ _ _ => f && m c n
def ndC : Tr → List Value
  | .nil => []
  | .node _ c n f v l r => nodeRow c n f v l.ptr r.ptr
theorem ndC_len {m : Nat → Nat → Bool} {t : Tr} (h : sel m t = true) : (ndC t).length = 7 := by cases t <;> first | rfl | simp [sel] at h

theorem sel_mem {m : Nat → Nat → Bool} : ∀ {t : Tr}, (t.inL.filter (sel m)).map trip = t.er.mem.filter (fun x => m x.1 x.2.1)
  | .nil => rfl
  | .node b c n f v l r => by
    simp only [Tr.inL, Tr.er, PT.mem, List.filter_cons, List.filter_append, sel]
    cases f
    · simp [sel_mem (t := l), sel_mem (t := r)]
    · by_cases h : m c n = true <;> simp [h, sel_mem (t := l), sel_mem (t := r), trip]

end Go.Proofs.Yticgkaanaimllaa.Ev

/- The iterators All and Under: what they tell; a range over one. -/
namespace Go.Proofs.Yticgkaanaimllaa.Ev
set_option maxRecDepth 100000
set_option linter.unusedSimpArgs false
set_option linter.unusedVariables false
variable {R : FRes → Heap → Prop} {H : Heap}

theorem may_all {a : Nat} {n : Int} (h : R (.ret (.bool true)) H) : WD T 49 [pfv a n] H R := by
  refine WD.gc0 (WD.of follows t49 (by simp) ?_)
  simp (disch := omega) only [kB, kcx, kdm, kdn, kel, aop, resultsL, resultOf, Nat.reduceEqDiff, reduceCtorEq, eq1, apartOK, apart2, AObj.live, Int.reduceEq, Int.reduceLT, Int.reduceLE, Int.reduceAdd, Int.reduceSub, Int.reduceMul, Int.reduceToNat, cutCells, Nat.reduceAdd, Nat.reduceLeDiff, Nat.reduceLT, Nat.reduceMul, Nat.reduceSub]
  exact ⟨_, rfl, ⟨_, rfl⟩, .closed rfl, h⟩

/-- May a prefix be told under another? -/
def undM (w a : Nat) (k : Int) (c n : Nat) : Bool := rgt w a k && decide (cmp w a k.toNat c n = k.toNat)

theorem may_under {w b pt pp a c n : Nat} {k : Int} (hw : 1 ≤ w) (hw2 : w ≤ 128) (ha : a < 2 ^ 128) (hc : c < 2 ^ w) (hth : ∃ m l rt wr, hget H b = .row [.int .i64 (w : Int), .int .i64 m, .int .i64 l, rt] 0 wr)
    (ht : hget H pt = .row [.pointer (some ⟨b, 0, none⟩)] 0 true) (hp : hget H pp = .row [.int .u64 ((a / W64 : Nat) : Int), .int .u64 ((a % W64 : Nat) : Int), .int .i64 k] 0 true)
    (h : R (.ret (.bool (undM w a k c n))) H) : WD T 50 [pfv c n, .pointer (some ⟨pt, 0, none⟩), .pointer (some ⟨pp, 0, none⟩)] H R := by
  refine WD.gc0 (WD.of follows t50 (by simp) ?_)
  have lt := hget_lt ht rfl
  have lp := hget_lt hp rfl
  obtain ⟨m, l, rt, wr, hb⟩ := hth
  have lb := hget_lt hb rfl
  simp (disch := omega) only [kB, kcx, kdm, kdn, kel, aop, resultsL, resultOf, Nat.reduceEqDiff, reduceCtorEq, eq1, apartOK, apart2, AObj.live, Int.reduceEq, Int.reduceLT, Int.reduceLE, Int.reduceAdd, Int.reduceSub, Int.reduceMul, Int.reduceToNat, cutCells, Nat.reduceAdd, Nat.reduceLeDiff, Nat.reduceLT, Nat.reduceMul, Nat.reduceSub, ht, hp]
  refine right_t ⟨wr, by rw [hget_old lb]; exact hb⟩ hw hw2 ha ?_
  cases hr : rgt w a k with
  | false =>
    simp only [undM, hr, Bool.false_and] at h
    simp (disch := omega) only [kB, kcx, kdm, kdn, kel, aop, resultsL, resultOf, Nat.reduceEqDiff, reduceCtorEq, eq1, apartOK, apart2, AObj.live, Int.reduceEq, Int.reduceLT, Int.reduceLE, Int.reduceAdd, Int.reduceSub, Int.reduceMul, Int.reduceToNat, cutCells, Nat.reduceAdd, Nat.reduceLeDiff, Nat.reduceLT, Nat.reduceMul, Nat.reduceSub, ht, hp]
    exact ⟨_, rfl, ⟨_, rfl⟩, .closed rfl, h⟩
  | true =>
    have hr2 := hr
    simp only [rgt, Bool.and_eq_true, decide_eq_true_eq] at hr2
    obtain ⟨⟨⟨r1, r2⟩, r3⟩, r4⟩ := hr2
    obtain ⟨k, rfl⟩ : ∃ q : Nat, k = q := ⟨k.toNat, by omega⟩
    simp only [undM, hr, Bool.true_and, Int.toNat_natCast] at h
    simp (disch := omega) only [kB, kcx, kdm, kdn, kel, aop, resultsL, resultOf, Nat.reduceEqDiff, reduceCtorEq, eq1, apartOK, apart2, AObj.live, Int.reduceEq, Int.reduceLT, Int.reduceLE, Int.reduceAdd, Int.reduceSub, Int.reduceMul, Int.reduceToNat, cutCells, Nat.reduceAdd, Nat.reduceLeDiff, Nat.reduceLT, Nat.reduceMul, Nat.reduceSub, ht, hp]
    refine WV.of (fun c hc => ?_) ?_
    · simp only [List.mem_cons, List.not_mem_nil, or_false] at hc
      subst hc
      rw [hget_old lp, hp]
      rfl
    refine common_t (TH.frz ⟨m, l, rt, wr, by rw [hget_old lb]; exact hb⟩ _) hw hw2 r3 hc ?_
    rw [thaw_frz0]
    simp (disch := omega) only [kB, kcx, kdm, kdn, kel, aop, resultsL, resultOf, Nat.reduceEqDiff, reduceCtorEq, eq1, apartOK, apart2, AObj.live, Int.reduceEq, Int.reduceLT, Int.reduceLE, Int.reduceAdd, Int.reduceSub, Int.reduceMul, Int.reduceToNat, cutCells, Nat.reduceAdd, Nat.reduceLeDiff, Nat.reduceLT, Nat.reduceMul, Nat.reduceSub, hp]
    have e : decide (((cmp w a k c n : Nat) : Int) = (k : Int)) = decide (cmp w a k c n = k) := by congr 1; exact propext ⟨fun q => by omega, fun q => by omega⟩
    rw [e]
    exact ⟨_, rfl, ⟨_, rfl⟩, .closed rfl, h⟩

/-! ### The nodes that may be told are copied -/

/-- What a function that chooses answers, over a heap that begins so. -/
def MayS (H0 : Heap) (w : Nat) (fm : FuncId) (cap : Array Value) (m : Nat → Nat → Bool) : Prop :=
  ∀ K : Heap, H0.length ≤ K.length → (∀ c, c < H0.length → hget K c = hget H0 c) → ∀ c n : Nat, c < 2 ^ w → n ≤ w → ∀ R : FRes → Heap → Prop, R (.ret (.bool (m c n))) K → WD T fm (pfv c n :: cap.toList) K R

def WkS (H0 : Heap) (m : Nat → Nat → Bool) (L : List Tr) (K : Heap) : Prop :=
  H0.length + 1 ≤ K.length ∧ (∀ c, c < H0.length → hget K c = hget H0 c) ∧ ∃ sv, hget K H0.length = .row [sv] 0 true ∧ SLs 7 (H0.length + 1) K sv ((L.filter (sel m)).map ndC)

theorem sel_t {H0 : Heap} {w pM : Nat} {fm : FuncId} {cap : Array Value} {m : Nat → Nat → Bool} (hM : hget H0 pM = .row [.func (.func fm) #[] cap] 0 true) (hm : MayS H0 w fm cap m)
    {L : List Tr} {K : Heap} {b1 c n : Nat} {full : Bool} {v : Int} {l r : Tr} (hS : WkS H0 m L K) (hnd : ∃ wr, hget K b1 = .row (nodeRow c n full v l.ptr r.ptr) 0 wr) (hc : c < 2 ^ w) (hn : n ≤ w) (hlen : L.length ≤ 1000000) :
    WD T 80 [Tr.ptr (.node b1 c n full v l r), .pointer (some ⟨pM, 0, none⟩), .pointer (some ⟨H0.length, 0, none⟩)] K (fun r0 H' => r0 = .ret (.tuple #[]) ∧ WkS H0 m (L ++ [.node b1 c n full v l r]) H') := by
  obtain ⟨s1, s2, sv, s3, s4⟩ := hS
  obtain ⟨wr, q1⟩ := hnd
  have lb1 := hget_lt q1 rfl
  have lM := hget_lt hM rfl
  have hM2 : hget K pM = .row [.func (.func fm) #[] cap] 0 true := (s2 pM lM).trans hM
  have ptr1 : Tr.ptr (.node b1 c n full v l r) = .pointer (some ⟨b1, 0, none⟩) := rfl
  unfold nodeRow at q1
  rw [ptr1]
  refine WD.of follows t80 (by simp) ?_
  cases full with
  | false =>
    simp (disch := omega) only [kB, kcx, kdm, kdn, kel, aop, resultsL, resultOf, Nat.reduceEqDiff, reduceCtorEq, eq1, apartOK, apart2, AObj.live, Int.reduceEq, Int.reduceLT, Int.reduceLE, Int.reduceAdd, Int.reduceSub, Int.reduceMul, Int.reduceToNat, cutCells, Nat.reduceAdd, Nat.reduceLeDiff, Nat.reduceLT, Nat.reduceMul, Nat.reduceSub, q1]
    refine ⟨s1, s2, sv, s3, ?_⟩
    simpa [List.filter_append, List.filter_cons, sel] using s4
  | true =>
    simp (disch := omega) only [kB, kcx, kdm, kdn, kel, aop, resultsL, resultOf, Nat.reduceEqDiff, reduceCtorEq, eq1, apartOK, apart2, AObj.live, Int.reduceEq, Int.reduceLT, Int.reduceLE, Int.reduceAdd, Int.reduceSub, Int.reduceMul, Int.reduceToNat, cutCells, Nat.reduceAdd, Nat.reduceLeDiff, Nat.reduceLT, Nat.reduceMul, Nat.reduceSub, q1, hM2]
    refine hm K (by omega) s2 c n hc hn _ ?_
    cases hmc : m c n with
    | false =>
      simp (disch := omega) only [kB, kcx, kdm, kdn, kel, aop, resultsL, resultOf, Nat.reduceEqDiff, reduceCtorEq, eq1, apartOK, apart2, AObj.live, Int.reduceEq, Int.reduceLT, Int.reduceLE, Int.reduceAdd, Int.reduceSub, Int.reduceMul, Int.reduceToNat, cutCells, Nat.reduceAdd, Nat.reduceLeDiff, Nat.reduceLT, Nat.reduceMul, Nat.reduceSub, q1, hM2]
      refine ⟨s1, s2, sv, s3, ?_⟩
      simpa [List.filter_append, List.filter_cons, sel, hmc] using s4
    | true =>
      have hlf : (List.filter (sel m) L).length ≤ L.length := List.length_filter_le _ _
      obtain ⟨sv', K', h1, h2, h3, h4, h5⟩ := app_sl (K := K ++ [.row (nodeRow c n true v l.ptr r.ptr) 7 true]) (bytes := 56) (bx := K.length) (xs := nodeRow c n true v l.ptr r.ptr) (u2 := 7) (w2 := true) s4.app (by simp; omega) (by rw [hget_base0]; rfl) rfl
        (by simp only [nodeRow, List.all_cons, List.all_nil, one_tr, Bool.and_true]; rfl) (by rw [List.length_map]; simp only [roomMax]; omega)
      have l0 : H0.length < K'.length := by rw [h3]; simp; omega
      have nb := s4.ne s3 (by decide)
      obtain ⟨ad, rfl⟩ := h2.len
      generalize hln : (List.map ndC (List.filter (sel m) L) ++ [nodeRow c n true v l.ptr r.ptr]).length = ln at h1 h2 h4
      unfold nodeRow at h1
      have hs : hget K' H0.length = .row [sv] 0 true := by rw [h5 _ (by simp; omega) nb, hget_old (by omega)]; exact s3
      simp (disch := omega) only [kB, kcx, kdm, kdn, kel, aop, resultsL, resultOf, Nat.reduceEqDiff, reduceCtorEq, eq1, apartOK, apart2, AObj.live, Int.reduceEq, Int.reduceLT, Int.reduceLE, Int.reduceAdd, Int.reduceSub, Int.reduceMul, Int.reduceToNat, cutCells, Nat.reduceAdd, Nat.reduceLeDiff, Nat.reduceLT, Nat.reduceMul, Nat.reduceSub, q1, s3, h1, hs, cof_tr, one_tr]
      refine ⟨by rw [List.length_set, h3]; simp; omega, fun c hc => ?_, _, by rw [hget_set' l0], ?_⟩
      · rw [hget_ne (by omega), h5 c (by simp; omega) (fun q => by have := (s4.lt q).2; omega), hget_old (by omega)]
        exact s2 c hc
      · have e : ((L ++ [Tr.node b1 c n true v l r]).filter (sel m)).map ndC = (L.filter (sel m)).map ndC ++ [nodeRow c n true v l.ptr r.ptr] := by simp [List.filter_append, List.filter_cons, sel, hmc, ndC]
        rw [e]
        refine h2.same fun c hc => ?_
        rw [h4] at hc
        cases hc
        rw [hget_ne]
        simp
        omega

end Go.Proofs.Yticgkaanaimllaa.Ev

/- A range over All or Under. -/
namespace Go.Proofs.Yticgkaanaimllaa.Ev
set_option maxRecDepth 100000
set_option linter.unusedSimpArgs false
set_option linter.unusedVariables false
variable {R : FRes → Heap → Prop} {H : Heap}

/-- The lists of nodes from a place on stay. -/
def Keep (N : Nat) (K K2 : Heap) : Prop := K.length ≤ K2.length ∧ ∀ c cs, N ≤ c → hget K c = .row cs 7 true → hget K2 c = .row cs 7 true
theorem Keep.app {N : Nat} {K G : Heap} : Keep N K (K ++ G) := ⟨by simp, fun c cs _ hc => by rw [hget_old (hget_lt hc rfl)]; exact hc⟩
theorem Keep.trans {N : Nat} {K K2 K3 : Heap} (h : Keep N K K2) (g : Keep N K2 K3) : Keep N K K3 := ⟨Nat.le_trans h.1 g.1, fun c cs h1 h2 => g.2 c cs h1 (h.2 c cs h1 h2)⟩
theorem Keep.set {N : Nat} {K : Heap} {o : AObj} {b : Nat} (hb : ∀ cs, hget K b ≠ .row cs 7 true) : Keep N K (K.set b o) := ⟨by simp, fun c cs h1 h2 => by rw [hget_ne (fun q => hb cs (by rw [q]; exact h2))]; exact h2⟩
theorem Keep.set_lt {N : Nat} {K : Heap} {o : AObj} {b : Nat} (hb : b < N) : Keep N K (K.set b o) := ⟨by simp, fun c cs h1 h2 => by rw [hget_ne (by omega)]; exact h2⟩
theorem Keep.rfl {N : Nat} {K : Heap} : Keep N K K := ⟨Nat.le_refl _, fun _ _ _ h => h⟩

/-- What is wanted behind a round. -/
def bodyK (N : Nat) (Q : Post) (e : Env) (I' : Heap → Prop) (K : Heap) : Post := fun r _ K2 =>
  match r with
  | .norm => I' K2 ∧ Keep N K K2
  | .ret => Q .ret e (K2.set N .dead) ∧ N < K2.length
  | .exit id => Q (.exit id) e (K2.set N .dead) ∧ N < K2.length
  | .pan _ => False

theorem set_eq_of_hget {H : Heap} {b : Nat} {o : AObj} (h : hget H b = o) : H.set b o = H := set_self h

abbrev selP (m : Nat → Nat → Bool) (t : Tr) : List Mem := t.er.mem.filter (fun x => m x.1 x.2.1)

theorem sel_get {m : Nat → Nat → Bool} {t : Tr} {i : Nat} {nd : Tr} (h : (t.inL.filter (sel m))[i]? = some nd) : ∃ b1 c n v l r, nd = .node b1 c n true v l r ∧ (selP m t)[i]? = some (c, n, v) := by
  have h1 : sel m nd = true := (List.mem_filter.1 (List.mem_of_getElem? h)).2
  cases nd with
  | nil => simp [sel] at h1
  | node b1 c n f v l r =>
    simp only [sel, Bool.and_eq_true] at h1
    obtain ⟨rfl, _⟩ := h1
    refine ⟨b1, c, n, v, l, r, rfl, ?_⟩
    have := congrArg (fun q => q[i]?) (sel_mem (m := m) (t := t))
    simp only [List.getElem?_map, h, Option.map_some, trip] at this
    exact this.symm

theorem MayS.more {w : Nat} {fm : FuncId} {cap : Array Value} {m : Nat → Nat → Bool} {g : Heap} (h : MayS H w fm cap m) : MayS (H ++ g) w fm cap m := fun K h1 h2 c n hc hn R hR =>
  h K (by simp at h1; omega) (fun d hd => by rw [h2 d (by simp; omega), hget_old hd]) c n hc hn R hR

theorem TA.nodes : ∀ {t : Tr}, TA H t → ∀ b c n f v l r, Tr.node b c n f v l r ∈ t.inL → ∃ wr, hget H b = .row (nodeRow c n f v l.ptr r.ptr) 0 wr
  | .nil, _, _, _, _, _, _, _, _, h => by simp [Tr.inL] at h
  | .node b1 c1 n1 f1 v1 l1 r1, ⟨h1, h2, h3⟩, b, c, n, f, v, l, r, h => by
    simp only [Tr.inL, List.mem_cons, List.mem_append] at h
    rcases h with h | h | h
    · cases h; exact h1
    · exact h2.nodes _ _ _ _ _ _ _ h
    · exact h3.nodes _ _ _ _ _ _ _ h
theorem TW.nodes {w : Nat} : ∀ {t : Tr}, TW w t → ∀ b c n f v l r, Tr.node b c n f v l r ∈ t.inL → c < 2 ^ w ∧ n ≤ w
  | .nil, _, _, _, _, _, _, _, _, h => by simp [Tr.inL] at h
  | .node b1 c1 n1 f1 v1 l1 r1, ⟨h1, h2, _, h3, h4⟩, b, c, n, f, v, l, r, h => by
    simp only [Tr.inL, List.mem_cons, List.mem_append] at h
    rcases h with h | h | h
    · cases h; exact ⟨h2, h1⟩
    · exact h3.nodes _ _ _ _ _ _ _ h
    · exact h4.nodes _ _ _ _ _ _ _ h

theorem range_t {pT pM b w : Nat} {mx l : Int} {t : Tr} {fm : FuncId} {cap : Array Value} {m : Nat → Nat → Bool}
    (hT : hget H pT = .row [.pointer (some ⟨b, 0, none⟩)] 0 true) (hd : hget H b = .row [.int .i64 (w : Int), .int .i64 mx, .int .i64 l, t.ptr] 0 true)
    (hM : hget H pM = .row [.func (.func fm) #[] cap] 0 true) (hm : MayS H w fm cap m) (lies : TA H t) (ok : TW w t) (hsz : t.inL.length ≤ 1000000)
    {ps : List Nat} (hps : ps.length = 2) {cz bd : ACode} {ev : Env} {Q : Post} (I : Nat → Heap → Prop)
    (hI0 : ∀ g, I 0 (H ++ .dead :: g)) (hset : ∀ i K o, I i K → I i (K.set H.length o)) (happ : ∀ i K g, I i K → I i (K ++ g))
    (hbody : ∀ i K x, (selP m t)[i]? = some x → H.length < K.length → I i K → WC T cz (putL ev ps [pfv x.1 (x.2.1 : Nat), .int .i64 x.2.2]) K (asK T bd (bodyK H.length Q ev (I (i + 1)) K)))
    (hQ : ∀ K, I (selP m t).length K → H.length < K.length → Q .norm ev K) :
    WRange T (.func (.func 79) #[] #[.pointer (some ⟨pT, 0, none⟩), .pointer (some ⟨pM, 0, none⟩)]) ps cz bd ev H Q := by
  have lT := hget_lt hT rfl
  have ld := hget_lt hd rfl
  have lM := hget_lt hM rfl
  refine WRange.of t79 ?_
  obtain ⟨lp, hlp⟩ : ∃ lp, lp = AObj.loop T.P T.G .ready none ev ps cz bd := ⟨_, rfl⟩
  rw [← hlp]
  refine WD.of follows t79 (by simp) ?_
  simp (disch := omega) only [kB, kcx, kdm, kdn, kel, aop, resultsL, resultOf, Nat.reduceEqDiff, reduceCtorEq, eq1, apartOK, apart2, AObj.live, Int.reduceEq, Int.reduceLT, Int.reduceLE, Int.reduceAdd, Int.reduceSub, Int.reduceMul, Int.reduceToNat, cutCells, Nat.reduceAdd, Nat.reduceLeDiff, Nat.reduceLT, Nat.reduceMul, Nat.reduceSub, hT, hd, eqP_sn]
  have hH0 : ∀ c, c < H.length → hget (H ++ [lp]) c = hget H c := fun c hc => hget_old hc
  have e0 : H ++ [lp, AObj.row [.slice none 0 0] 0 true] = (H ++ [lp]) ++ [AObj.row [.slice none 0 0] 0 true] := by simp
  have l0 : (H ++ [lp]).length = H.length + 1 := by simp
  rw [e0, ← l0]
  refine walk_t (WkS (H ++ [lp]) m) t.inL (fun L nd K hS hpre hex => ?_) t [] _ _ ⟨by simp, fun c hc => hget_old hc, _, hget_last _ _, .inl ⟨rfl, rfl⟩⟩ (fun L K hS => lies.frame fun c hc => (hS.2.1 c (by simp; omega)).trans (hH0 c hc)) ⟨[], by simp⟩ fun K hS => ?_
  · obtain ⟨b1, c, n, f, v, l1, r1, rfl⟩ := hex
    have hmem : Tr.node b1 c n f v l1 r1 ∈ t.inL := hpre.subset (by simp)
    obtain ⟨c1, c2⟩ := ok.nodes _ _ _ _ _ _ _ hmem
    have hta : TA K t := lies.frame fun c hc => (hS.2.1 c (by simp; omega)).trans (hH0 c hc)
    have hl := hpre.length_le
    simp only [List.length_append, List.length_cons, List.length_nil] at hl
    exact sel_t (by rw [hH0 pM lM]; exact hM) hm.more hS (hta.nodes _ _ _ _ _ _ _ hmem) c1 c2 (by omega)
  obtain ⟨s1, s2, sv, s3, s4⟩ := hS
  simp only [List.nil_append] at s4
  obtain ⟨ad, rfl⟩ := s4.len
  have hlen : (List.map ndC (List.filter (sel m) t.inL)).length = (selP m t).length := by
    have := congrArg List.length (sel_mem (m := m) (t := t))
    simpa using this
  have hlp1 : hget K H.length = lp := by rw [s2 _ (by simp), hget_last]
  have h0 : I 0 K := by
    obtain ⟨g, rfl⟩ := pre_of (H := H ++ [lp]) (by omega) s2
    have q := hset 0 _ lp (hI0 g)
    simpa using q
  rw [l0] at s3 s4
  simp (disch := omega) only [kB, kcx, kdm, kdn, kel, aop, resultsL, resultOf, Nat.reduceEqDiff, reduceCtorEq, eq1, apartOK, apart2, AObj.live, Int.reduceEq, Int.reduceLT, Int.reduceLE, Int.reduceAdd, Int.reduceSub, Int.reduceMul, Int.reduceToNat, cutCells, Nat.reduceAdd, Nat.reduceLeDiff, Nat.reduceLT, Nat.reduceMul, Nat.reduceSub, s3]
  generalize hcss : List.map ndC (List.filter (sel m) t.inL) = css at s4 hlen ⊢
  have hnd : ∀ i (hi : i < css.length), ∃ c n v l1 r1, css[i] = nodeRow c n true v l1 r1 ∧ oneCell l1 = true ∧ oneCell r1 = true ∧ cellsOf l1 = [l1] ∧ cellsOf r1 = [r1] ∧ (selP m t)[i]? = some (c, n, v) := fun i hi => by
    have h1 : i < (t.inL.filter (sel m)).length := by rw [← hcss] at hi; simpa using hi
    obtain ⟨b1, c, n, v, l1, r1, h2, h3⟩ := sel_get (List.getElem?_eq_getElem h1)
    refine ⟨c, n, v, l1.ptr, r1.ptr, ?_, one_tr _, one_tr _, cof_tr _, cof_tr _, h3⟩
    have : css[i] = ndC (t.inL.filter (sel m))[i] := by simp [← hcss]
    rw [this, h2]
    rfl
  have l1 : H.length < K.length := by omega
  have hcl : css.length ≤ 1000000 := by
    have := List.length_filter_le (sel m) t.inL
    rw [← hcss, List.length_map]
    omega
  clear hI0 hcss hm lies hd hT hM s1 s2 s3
  refine WLoop.inv (fun z e K => ∃ i : Nat, i ≤ css.length ∧ z = css.length - i ∧ I i K ∧ H.length < K.length ∧ hget K H.length = lp ∧ SLs 7 (H.length + 1 + 1) K (.slice ad css.length css.length) css ∧
    (∃ x : Nat → Value, e = [.func (.yield H.length) #[] #[], x 1, x 2, x 3, x 4, x 5, x 6, x 7, x 8, x 9, x 10, x 11, x 12, x 13, x 14, .slice ad css.length css.length, .int .i64 (css.length : Nat), .int .i64 (i : Int), x 18, x 19, x 20, x 21, x 22, x 23, x 24, x 25, x 26, x 27, x 28])) ?_ css.length _ _ ⟨0, by omega, by omega, h0, l1, hlp1, s4, by exact ex_env rfl⟩
  clear h0 s4 hlp1 l1
  rintro z e K ⟨i, i1, rfl, hI, lK, hlpK, hsl, ⟨x, rfl⟩⟩
  by_cases hi : (i : Int) < (css.length : Nat)
  case neg =>
    simp (disch := omega) only [kB, kcx, kdm, kdn, kel, aop, resultsL, resultOf, Nat.reduceEqDiff, reduceCtorEq, eq1, apartOK, apart2, AObj.live, Int.reduceEq, Int.reduceLT, Int.reduceLE, Int.reduceAdd, Int.reduceSub, Int.reduceMul, Int.reduceToNat, cutCells, Nat.reduceAdd, Nat.reduceLeDiff, Nat.reduceLT, Nat.reduceMul, Nat.reduceSub, hi]
    subst hlp
    refine rangeK_of (st := .ready) (pe := none) (by simp) ?_ hlpK
    simp only
    refine hQ _ ?_ (by simpa using lK)
    rw [← hlen]
    exact hset _ _ _ (by rw [show css.length = i by omega]; exact hI)
  have hi2 : i < css.length := by omega
  obtain ⟨c, n, v, l1, r1, h1, h2, h3, h4, h5, h6⟩ := hnd i hi2
  have hsl0 := hsl
  rcases hsl with ⟨q, _⟩ | ⟨hne, k, k0, hk, hk2, hk3⟩
  · rw [q] at hi2; simp at hi2
  simp only [Value.slice.injEq] at hk
  obtain ⟨rfl, _⟩ := hk
  have hcut := flat_cut i hk3 hi2
  rw [h1] at hcut
  unfold nodeRow at hcut
  have hfl := flat_len_u hk3
  have c0 : (0 : Int) ≤ (i : Int) := by omega
  have lk := hget_lt hk2 rfl
  simp (disch := omega) only [kB, kcx, kdm, kdn, kel, aop, resultsL, resultOf, Nat.reduceEqDiff, reduceCtorEq, eq1, apartOK, apart2, AObj.live, Int.reduceEq, Int.reduceLT, Int.reduceLE, Int.reduceAdd, Int.reduceSub, Int.reduceMul, Int.reduceToNat, cutCells, Nat.reduceAdd, Nat.reduceLeDiff, Nat.reduceLT, Nat.reduceMul, Nat.reduceSub, hi, hk2, hfl, hcut, h2, h3, h4, h5, if_pos, c0, hi2]
  subst hlp
  refine WY.of follows (by rw [hget_old lK]; exact hlpK) (by simp [hps]) ?_
  have hK' : H.length < ((K ++ [AObj.row (nodeRow c n true v l1 r1) 0 true]).set H.length .dead).length := by simp; omega
  have hh := hbody i _ (c, n, v) h6 hK' (hset _ _ _ (happ _ _ _ hI))
  have lk2 : k ≠ H.length := by omega
  have hkk : hget ((K ++ [AObj.row (nodeRow c n true v l1 r1) 0 true]).set H.length .dead) k = .row css.flatten 7 true := by rw [hget_ne (Ne.symm lk2), hget_old lk]; exact hk2
  have lk3 : k < ((K ++ [AObj.row (nodeRow c n true v l1 r1) 0 true]).set H.length .dead).length := by simp; omega
  clear hbody hfl hcut
  refine WC.mono hh ?_
  intro r e2 K2 hK2
  cases r with
  | ret => exact hK2
  | exit id => exact hK2
  | pan v => exact hK2
  | norm =>
  rw [asK_norm] at hK2 ⊢
  refine WC.mono hK2 ?_
  intro r e3 K3 hK3
  cases r with
  | pan v => exact hK3
  | norm =>
    obtain ⟨hI3, hkp, hkp2⟩ := hK3
    have l3 : H.length < K3.length := Nat.lt_of_lt_of_le hK' hkp
    simp (disch := omega) only [kB, kcx, kdm, kdn, kel, aop, resultsL, resultOf, Nat.reduceEqDiff, reduceCtorEq, eq1, apartOK, apart2, AObj.live, Int.reduceEq, Int.reduceLT, Int.reduceLE, Int.reduceAdd, Int.reduceSub, Int.reduceMul, Int.reduceToNat, cutCells, Nat.reduceAdd, Nat.reduceLeDiff, Nat.reduceLT, Nat.reduceMul, Nat.reduceSub, wr_i64, nadd1]
    refine ⟨css.length - (i + 1), by omega, i + 1, by omega, rfl, hset _ _ _ hI3, by simpa using l3, hsl0.same fun c hc => ?_, ex_env rfl⟩
    cases hc
    rw [hget_ne (Ne.symm lk2), hkp2 k _ (by omega) hkk, hk2]
  | ret =>
    obtain ⟨hq, l3⟩ := hK3
    simp (disch := omega) only [kB, kcx, kdm, kdn, kel, aop, resultsL, resultOf, Nat.reduceEqDiff, reduceCtorEq, eq1, apartOK, apart2, AObj.live, Int.reduceEq, Int.reduceLT, Int.reduceLE, Int.reduceAdd, Int.reduceSub, Int.reduceMul, Int.reduceToNat, cutCells, Nat.reduceAdd, Nat.reduceLeDiff, Nat.reduceLT, Nat.reduceMul, Nat.reduceSub]
    refine rangeK_of (st := .done) (pe := some none) (by simp) ?_ (hget_set' l3)
    simpa [List.set_set] using hq
  | exit id =>
    obtain ⟨hq, l3⟩ := hK3
    simp (disch := omega) only [kB, kcx, kdm, kdn, kel, aop, resultsL, resultOf, Nat.reduceEqDiff, reduceCtorEq, eq1, apartOK, apart2, AObj.live, Int.reduceEq, Int.reduceLT, Int.reduceLE, Int.reduceAdd, Int.reduceSub, Int.reduceMul, Int.reduceToNat, cutCells, Nat.reduceAdd, Nat.reduceLeDiff, Nat.reduceLT, Nat.reduceMul, Nat.reduceSub]
    refine rangeK_of (st := .done) (pe := some (some id)) (by simp) ?_ (hget_set' l3)
    simpa [List.set_set] using hq

end Go.Proofs.Yticgkaanaimllaa.Ev

/- The prefixes of a tree as texts: they rise; those under another one. -/
namespace Go.Proofs.Yticgkaanaimllaa.Ev
set_option linter.unusedSimpArgs false
set_option linter.unusedVariables false

theorem less_pre : ∀ {p : List UInt8} {b : UInt8} {s : List UInt8}, Op.bytesLess p (p ++ b :: s) = true
  | [], b, s => by simp [Op.bytesLess]
  | a :: p, b, s => by
    rw [List.cons_append, Op.bytesLess, less_pre (p := p)]
    simp
theorem less_at {a b : UInt8} (h : a < b) : ∀ {p s s2 : List UInt8}, Op.bytesLess (p ++ a :: s) (p ++ b :: s2) = true
  | [], s, s2 => by
    rw [List.nil_append, List.nil_append, Op.bytesLess]
    simp [h]
  | c :: p, s, s2 => by
    rw [List.cons_append, List.cons_append, Op.bytesLess, less_at h (p := p)]
    simp

def txt (w : Nat) (x : Nat × Nat) : List UInt8 := (bitS w x.1).take x.2
theorem txt_len {w : Nat} {x : Nat × Nat} (h : x.2 ≤ w) : (txt w x).length = x.2 := by
  rw [txt, List.length_take, bitS_len]
  omega

theorem txt_split {w n : Nat} {x : Nat × Nat} (hn : n < x.2) (hx : x.2 ≤ w) : ∃ s, txt w x = (bitS w x.1).take n ++ bitC (x.1.testBit (w - 1 - n)) :: s := by
  refine ⟨(txt w x).drop (n + 1), ?_⟩
  have hl := txt_len hx
  have h1 : (txt w x).take n = (bitS w x.1).take n := by
    rw [txt, List.take_take]
    congr 1
    omega
  have h2 : (txt w x)[n]'(by omega) = bitC (x.1.testBit (w - 1 - n)) := by
    simp [txt, bitS]
  rw [← h1, ← h2, List.getElem_cons_drop, List.take_append_drop]

theorem side_bit {w a n s : Nat} (h : sideN w a n = s) (hs : s = 0 ∨ s = 1) : a.testBit (w - 1 - n) = decide (s = 1) := by
  unfold sideN at h
  split at h
  · rename_i q; rw [q, ← h]; rfl
  · rename_i q; rw [Bool.not_eq_true] at q; rw [q, ← h]; rfl

theorem nodes_rise {w : Nat} : ∀ {t : PT}, PW w t → t.nodes.Pairwise (fun x y => Op.bytesLess (txt w x) (txt w y) = true)
  | .nil, _ => List.Pairwise.nil
  | .node c n f v l r, ⟨h1, h2, h3, h4, h5, h6⟩ => by
    have top : ∀ x : Nat × Nat, x.2 ≤ w → x.1 < 2 ^ w → n < x.2 → Und w c n x.1 → Op.bytesLess (txt w (c, n)) (txt w x) = true := fun x q1 q2 q3 q4 => by
      obtain ⟨s, hs⟩ := txt_split q3 q1
      rw [hs, txt, (und_take h1 h2 q2).2 q4]
      exact less_pre
    rw [PT.nodes, List.pairwise_cons, List.pairwise_append]
    refine ⟨fun x hx => ?_, nodes_rise h5, nodes_rise h6, fun x hx y hy => ?_⟩
    · rcases List.mem_append.1 hx with q | q
      · obtain ⟨q1, q2, _⟩ := h3 x q
        exact top x (nodes_ok h5 x q).1 (nodes_ok h5 x q).2 q1 q2
      · obtain ⟨q1, q2, _⟩ := h4 x q
        exact top x (nodes_ok h6 x q).1 (nodes_ok h6 x q).2 q1 q2
    · obtain ⟨q1, q2, q3⟩ := h3 x hx
      obtain ⟨p1, p2, p3⟩ := h4 y hy
      obtain ⟨o1, o2⟩ := nodes_ok h5 x hx
      obtain ⟨o3, o4⟩ := nodes_ok h6 y hy
      obtain ⟨s, hs⟩ := txt_split q1 o1
      obtain ⟨s2, hs2⟩ := txt_split p1 o3
      rw [hs, hs2, side_bit q3 (.inl rfl), side_bit p3 (.inr rfl), ← (und_take h1 h2 o2).2 q2, ← (und_take h1 h2 o4).2 p2]
      exact less_at (by decide)

theorem mem_sub : ∀ {t : PT}, (t.mem.map fun x => (x.1, x.2.1)).Sublist t.nodes
  | .nil => List.Sublist.refl _
  | .node c n f v l r => by
    simp only [PT.mem, PT.nodes, List.map_append]
    cases f
    · simp only [Bool.false_eq_true, if_false, List.map_nil, List.nil_append]
      exact ((mem_sub (t := l)).append (mem_sub (t := r))).cons _
    · simp only [if_true, List.map_cons, List.map_nil, List.cons_append, List.nil_append]
      exact ((mem_sub (t := l)).append (mem_sub (t := r))).cons_cons _

theorem mem_rise {w : Nat} {t : PT} (h : PW w t) : t.mem.Pairwise (fun x y => Op.bytesLess (txt w (x.1, x.2.1)) (txt w (y.1, y.2.1)) = true) :=
  List.pairwise_map.1 ((nodes_rise h).sublist mem_sub)

/-- Does a text begin so? -/
def inHead (rg : Bool) (hd s : List UInt8) : Bool := rg && decide (hd.length ≤ s.length) && decide (s.take hd.length = hd)
/-- The text of a prefix, where it is one. -/
def headT (w a : Nat) (k : Int) : List UInt8 := if rgt w a k = true then (bitS w a).take k.toNat else []

theorem undM_head {w a c n : Nat} {k : Int} (hw : w ≤ 128) (hc : c < 2 ^ w) (hn : n ≤ w) : undM w a k c n = inHead (rgt w a k) (headT w a k) (txt w (c, n)) := by
  unfold undM inHead headT
  cases hr : rgt w a k with
  | false => rfl
  | true =>
    obtain ⟨r1, r2, r3, r4⟩ := (rgt_iff hw).1 hr
    obtain ⟨k, rfl⟩ : ∃ q : Nat, k = q := ⟨k.toNat, by omega⟩
    have hk : k ≤ w := by omega
    simp only [Int.toNat_natCast, if_true, Bool.true_and, List.length_take, bitS_len, txt]
    rw [Nat.min_eq_left hk, Nat.min_eq_left hn, List.take_take]
    have h1 : cmp w a k c n = k ↔ k ≤ n ∧ Und w a k c := cmp_eq hk r1 hc
    by_cases hkn : k ≤ n
    · rw [Nat.min_eq_left hkn, decide_eq_true hkn, Bool.true_and]
      congr 1
      refine propext ⟨fun q => (und_take hk hc r1).2 (h1.1 q).2.symm, fun q => h1.2 ⟨hkn, ((und_take hk hc r1).1 q).symm⟩⟩
    · rw [decide_eq_false hkn, Bool.false_and, decide_eq_false (fun q => hkn (h1.1 q).1)]

theorem undM_zero {w c n : Nat} : undM w 0 0 c n = true := by
  have h : rgt w 0 0 = true := by
    simp only [rgt, Bool.and_eq_true, decide_eq_true_eq]
    refine ⟨⟨⟨by omega, by omega⟩, Nat.two_pow_pos w⟩, Nat.zero_and _⟩
  simp [undM, h, cmp]

theorem withP_nodes_le {w a k : Nat} {v : Int} : ∀ {t : PT}, (withP w a k v t).nodes.length ≤ t.nodes.length + 2
  | .nil => by simp [withP, PT.nodes]
  | .node c n f u l r => by
    have hl := withP_nodes_le (w := w) (a := a) (k := k) (v := v) (t := l)
    have hr := withP_nodes_le (w := w) (a := a) (k := k) (v := v) (t := r)
    rw [withP]
    repeat' split
    all_goals (try unfold setK); (repeat' split) <;> simp [PT.nodes] <;> omega

theorem inL_len : ∀ {t : Tr}, t.inL.length = t.er.nodes.length
  | .nil => rfl
  | .node b c n f v l r => by simp [Tr.inL, Tr.er, PT.nodes, inL_len (t := l), inL_len (t := r)]

end Go.Proofs.Yticgkaanaimllaa.Ev

/- Sorted lists of texts with a number each: plain laws. -/
namespace Go.Proofs.Yticgkaanaimllaa.Ev
set_option linter.unusedSimpArgs false
set_option linter.unusedVariables false

theorem less_irr : ∀ {l : List UInt8}, Op.bytesLess l l = false
  | [] => rfl
  | a :: l => by
    rw [Op.bytesLess, less_irr (l := l)]
    simp
theorem less_trans : ∀ {a b c : List UInt8}, Op.bytesLess a b = true → Op.bytesLess b c = true → Op.bytesLess a c = true
  | _, [], _, h, _ => by simp [Op.bytesLess] at h
  | _, _ :: _, [], _, h => by simp [Op.bytesLess] at h
  | [], _ :: _, _ :: _, _, _ => by simp [Op.bytesLess]
  | x :: a, y :: b, z :: c, h, k => by
    simp only [Op.bytesLess, Bool.or_eq_true, decide_eq_true_eq, Bool.and_eq_true, beq_iff_eq] at h k ⊢
    rcases h with h | ⟨rfl, h⟩
    · rcases k with k | ⟨rfl, k⟩
      · exact .inl (UInt8.lt_trans h k)
      · exact .inl h
    · rcases k with k | ⟨rfl, k⟩
      · exact .inl k
      · exact .inr ⟨rfl, less_trans h k⟩
theorem less_asym {a b : List UInt8} (h : Op.bytesLess a b = true) : Op.bytesLess b a = false := by
  cases h2 : Op.bytesLess b a
  · rfl
  · have := less_trans h h2
    rw [less_irr] at this
    cases this
theorem less_ne {a b : List UInt8} (h : Op.bytesLess a b = true) : a ≠ b := fun e => by
  rw [e, less_irr] at h
  cases h
theorem less_total : ∀ {a b : List UInt8}, a ≠ b → Op.bytesLess a b = false → Op.bytesLess b a = true
  | [], [], h, _ => absurd rfl h
  | [], _ :: _, _, h => by simp [Op.bytesLess] at h
  | _ :: _, [], _, _ => by simp [Op.bytesLess]
  | x :: a, y :: b, h, k => by
    simp only [Op.bytesLess, Bool.or_eq_false_iff, decide_eq_false_iff_not, Bool.and_eq_false_iff, beq_eq_false_iff_ne, ne_eq] at k
    simp only [Op.bytesLess, Bool.or_eq_true, decide_eq_true_eq, Bool.and_eq_true, beq_iff_eq]
    by_cases e : x = y
    · subst e
      right
      refine ⟨rfl, less_total (fun q => h (by rw [q])) ?_⟩
      rcases k.2 with q | q
      · exact absurd rfl q
      · exact q
    · left
      rcases Nat.lt_trichotomy x.toNat y.toNat with q | q | q
      · exact absurd (UInt8.lt_iff_toNat_lt.2 q) k.1
      · exact absurd (UInt8.toNat_inj.1 q) e
      · exact UInt8.lt_iff_toNat_lt.2 q

abbrev KL := List (List UInt8 × Int)
def SortedK (L : KL) : Prop := L.Pairwise (fun x y => Op.bytesLess x.1 y.1 = true)
/-- Where a text stands, or would. -/
def ixK (s : List UInt8) (L : KL) : Nat := (L.takeWhile (fun x => Op.bytesLess x.1 s)).length
def isK (s : List UInt8) (L : KL) : Bool := match L[ixK s L]? with
  | some y => decide (y.1 = s)
  | none => false

theorem ixK_le (s : List UInt8) (L : KL) : ixK s L ≤ L.length := (List.takeWhile_sublist _).length_le
theorem ixK_cons {s : List UInt8} {x : List UInt8 × Int} {L : KL} : ixK s (x :: L) = if Op.bytesLess x.1 s = true then ixK s L + 1 else 0 := by
  unfold ixK
  rw [List.takeWhile_cons]
  split <;> rfl
theorem isK_cons {s : List UInt8} {x : List UInt8 × Int} {L : KL} : isK s (x :: L) = if Op.bytesLess x.1 s = true then isK s L else decide (x.1 = s) := by
  unfold isK
  rw [ixK_cons]
  by_cases h : Op.bytesLess x.1 s = true
  · rw [if_pos h, if_pos h, List.getElem?_cons_succ]
  · rw [if_neg h, if_neg h, List.getElem?_cons_zero]

theorem isK_iff {s : List UInt8} : ∀ {L : KL}, SortedK L → (isK s L = true ↔ ∃ v, (s, v) ∈ L)
  | [], _ => by simp [isK]
  | x :: L, h => by
    obtain ⟨h1, h2⟩ := List.pairwise_cons.1 h
    rw [isK_cons]
    split
    · rename_i q
      rw [isK_iff h2]
      constructor
      · rintro ⟨v, hv⟩; exact ⟨v, List.mem_cons_of_mem _ hv⟩
      · rintro ⟨v, hv⟩
        rcases List.mem_cons.1 hv with e | e
        · rw [← e, less_irr] at q; cases q
        · exact ⟨v, e⟩
    · rename_i q
      rw [decide_eq_true_eq]
      constructor
      · rintro rfl; exact ⟨x.2, List.mem_cons_self⟩
      · rintro ⟨v, hv⟩
        rcases List.mem_cons.1 hv with e | e
        · rw [← e]
        · exact absurd (h1 _ e) q

theorem ixK_lt {s : List UInt8} {L : KL} (h : isK s L = true) : ixK s L < L.length := by
  unfold isK at h
  split at h
  · rename_i y q; exact (List.getElem?_eq_some_iff.1 q).1
  · cases h
theorem ixK_get {s : List UInt8} {L : KL} (h : isK s L = true) : ∃ v, L[ixK s L]? = some (s, v) := by
  unfold isK at h
  split at h
  · rename_i y q
    rw [decide_eq_true_eq] at h
    refine ⟨y.2, q.trans ?_⟩
    rw [← h]
  · cases h

theorem ins_sorted {s : List UInt8} {v : Int} : ∀ {L : KL}, SortedK L → isK s L = false → SortedK (L.take (ixK s L) ++ (s, v) :: L.drop (ixK s L))
  | [], _, _ => by simp [SortedK]
  | x :: L, h, hn => by
    obtain ⟨h1, h2⟩ := List.pairwise_cons.1 h
    rw [isK_cons] at hn
    rw [ixK_cons]
    split
    · rename_i q
      rw [if_pos q] at hn
      rw [List.take_succ_cons, List.drop_succ_cons, List.cons_append]
      refine List.pairwise_cons.2 ⟨fun y hy => ?_, ins_sorted h2 hn⟩
      rcases List.mem_append.1 hy with e | e
      · exact h1 y (List.mem_of_mem_take e)
      · rcases List.mem_cons.1 e with rfl | e
        · exact q
        · exact h1 y (List.mem_of_mem_drop e)
    · rename_i q
      rw [if_neg q] at hn
      rw [List.take_zero, List.drop_zero, List.nil_append]
      have hx : Op.bytesLess s x.1 = true := less_total (of_decide_eq_false hn) (by simpa using q)
      refine List.pairwise_cons.2 ⟨fun y hy => ?_, h⟩
      rcases List.mem_cons.1 hy with rfl | e
      · exact hx
      · exact less_trans hx (h1 y e)

theorem perm_sorted {L M : KL} (h1 : SortedK L) (h2 : SortedK M) (h : L.Perm M) : L = M :=
  List.Perm.eq_of_pairwise (fun a b _ _ q1 q2 => by
    rw [less_asym q1] at q2
    cases q2) h1 h2 h

theorem ins_perm {s : List UInt8} {v : Int} {L : KL} : (L.take (ixK s L) ++ (s, v) :: L.drop (ixK s L)).Perm ((s, v) :: L) := by
  refine List.perm_middle.trans (List.Perm.cons _ ?_)
  rw [List.take_append_drop]

/-- So many neighbours part where nothing is kept. -/
def cpl : List UInt8 → List UInt8 → List UInt8
  | a :: x, b :: y => if a = b then a :: cpl x y else []
  | _, _ => []
def partK (is : List UInt8 → Bool) : List (List UInt8) → Nat
  | a :: b :: L => (if is (cpl a b) = true then 0 else 1) + partK is (b :: L)
  | _ => 0
def linkK (is : List UInt8 → Bool) (A B : List (List UInt8)) : Nat :=
  match A.getLast?, B.head? with
  | some a, some b => if is (cpl a b) = true then 0 else 1
  | _, _ => 0
theorem part_app {is : List UInt8 → Bool} : ∀ {A B : List (List UInt8)}, partK is (A ++ B) = partK is A + linkK is A B + partK is B
  | [], B => by simp [partK, linkK]
  | [a], [] => by simp [partK, linkK]
  | [a], b :: B => by simp [partK, linkK]
  | a :: c :: A, B => by
    have := part_app (is := is) (A := c :: A) (B := B)
    simp only [List.cons_append] at this ⊢
    rw [partK, this, partK]
    have e : linkK is (a :: c :: A) B = linkK is (c :: A) B := by simp [linkK, List.getLast?_cons_cons]
    rw [e]
    omega

end Go.Proofs.Yticgkaanaimllaa.Ev

/- What is taken out of a tree, put in another's place; its forks: plain laws. -/
namespace Go.Proofs.Yticgkaanaimllaa.Ev
set_option linter.unusedSimpArgs false
set_option linter.unusedVariables false

def nilP : PT → Bool
  | .nil => true
  | _ => false
/-- No node is idle. -/
def NI : PT → Prop
  | .nil => True
  | .node _ _ f _ l r => (f = true ∨ (nilP l = false ∧ nilP r = false)) ∧ NI l ∧ NI r

def joinP (c n : Nat) (f : Bool) (v : Int) (l r : PT) : PT := if f = true ∨ (nilP l = false ∧ nilP r = false) then .node c n f v l r else if nilP l = false then l else r
def dropP (w a k : Nat) : PT → PT
  | .nil => .nil
  | .node c n f v l r => if c = a ∧ n = k then joinP c n false 0 l r else if sideN w a n = 0 then joinP c n f v (dropP w a k l) r else joinP c n f v l (dropP w a k r)
def setP (w a k : Nat) (v : Int) : PT → PT
  | .nil => .nil
  | .node c n f u l r => if c = a ∧ n = k then .node c n f v l r else if sideN w a n = 0 then .node c n f u (setP w a k v l) r else .node c n f u l (setP w a k v r)

theorem nilP_eq {t : PT} (h : nilP t = true) : t = .nil := by cases t <;> first | rfl | cases h
theorem join_mem {c n : Nat} {f : Bool} {v : Int} {l r : PT} : (joinP c n f v l r).mem = (if f = true then [(c, n, v)] else []) ++ (l.mem ++ r.mem) := by
  unfold joinP
  split
  · rfl
  · rename_i h
    have hf : ¬ f = true := fun q => h (.inl q)
    rw [if_neg hf, List.nil_append]
    split
    · rename_i hl
      cases hr : nilP r
      · exact absurd (.inr ⟨hl, hr⟩) h
      · rw [nilP_eq hr]; simp [PT.mem]
    · rename_i hl
      rw [nilP_eq (t := l) (by simpa using hl)]
      simp [PT.mem]
theorem join_nodes {c n : Nat} {f : Bool} {v : Int} {l r : PT} : ∀ x ∈ (joinP c n f v l r).nodes, x = (c, n) ∨ x ∈ l.nodes ∨ x ∈ r.nodes := by
  intro x hx
  unfold joinP at hx
  split at hx
  · simpa [PT.nodes] using hx
  · split at hx
    · exact .inr (.inl hx)
    · exact .inr (.inr hx)
theorem join_ni {c n : Nat} {f : Bool} {v : Int} {l r : PT} (hl : NI l) (hr : NI r) : NI (joinP c n f v l r) := by
  unfold joinP
  split
  · rename_i h; exact ⟨h, hl, hr⟩
  · split
    · exact hl
    · exact hr
theorem join_pw {w c n : Nat} {f : Bool} {v : Int} {l r : PT} (h : PW w (.node c n f v l r)) : PW w (joinP c n f v l r) := by
  unfold joinP
  split
  · exact h
  · split
    · exact h.2.2.2.2.1
    · exact h.2.2.2.2.2
theorem join_tw {w c n : Nat} {f : Bool} {v : Int} {l r : PT} (h : TWp w (.node c n f v l r)) : TWp w (joinP c n f v l r) := by
  unfold joinP
  split
  · exact h
  · split
    · exact h.2.2.2.1
    · exact h.2.2.2.2

theorem drop_nodes {w a k : Nat} : ∀ {t : PT} (x : Nat × Nat), x ∈ (dropP w a k t).nodes → x ∈ t.nodes
  | .nil, x, h => h
  | .node c n f v l r, x, h => by
    rw [dropP] at h
    simp only [PT.nodes, List.mem_cons, List.mem_append]
    split at h
    · exact join_nodes x h
    · split at h
      · rcases join_nodes x h with q | q | q
        · exact .inl q
        · exact .inr (.inl (drop_nodes x q))
        · exact .inr (.inr q)
      · rcases join_nodes x h with q | q | q
        · exact .inl q
        · exact .inr (.inl q)
        · exact .inr (.inr (drop_nodes x q))
theorem drop_pw {w a k : Nat} : ∀ {t : PT}, PW w t → PW w (dropP w a k t)
  | .nil, h => h
  | .node c n f v l r, ⟨h1, h2, h3, h4, h5, h6⟩ => by
    rw [dropP]
    split
    · exact join_pw ⟨h1, h2, h3, h4, h5, h6⟩
    · split
      · exact join_pw ⟨h1, h2, fun x hx => h3 x (drop_nodes x hx), h4, drop_pw h5, h6⟩
      · exact join_pw ⟨h1, h2, h3, fun x hx => h4 x (drop_nodes x hx), h5, drop_pw h6⟩
theorem drop_tw {w a k : Nat} : ∀ {t : PT}, TWp w t → TWp w (dropP w a k t)
  | .nil, h => h
  | .node c n f v l r, ⟨h1, h2, h3, h4, h5⟩ => by
    rw [dropP]
    split
    · exact join_tw ⟨h1, h2, h3, h4, h5⟩
    · split
      · exact join_tw ⟨h1, h2, h3, drop_tw h4, h5⟩
      · exact join_tw ⟨h1, h2, h3, h4, drop_tw h5⟩
theorem drop_ni {w a k : Nat} : ∀ {t : PT}, NI t → NI (dropP w a k t)
  | .nil, h => h
  | .node c n f v l r, ⟨h1, h2, h3⟩ => by
    rw [dropP]
    split
    · exact join_ni h2 h3
    · split
      · exact join_ni (drop_ni h2) h3
      · exact join_ni h2 (drop_ni h3)

/-- Where a prefix that is kept lies. -/
theorem mem_side {w a k c n : Nat} {f : Bool} {v u : Int} {l r : PT} (hpw : PW w (.node c n f u l r)) (hm : (a, k, v) ∈ (PT.node c n f u l r).mem) :
    (c = a ∧ n = k ∧ f = true ∧ u = v ∧ (a, k) ∉ l.nodes ∧ (a, k) ∉ r.nodes) ∨ (¬ (c = a ∧ n = k) ∧ sideN w a n = 0 ∧ (a, k, v) ∈ l.mem) ∨ (¬ (c = a ∧ n = k) ∧ sideN w a n = 1 ∧ (a, k, v) ∈ r.mem) := by
  obtain ⟨h1, h2, h3, h4, h5, h6⟩ := hpw
  simp only [PT.mem, List.mem_append] at hm
  rcases hm with hm | hm | hm
  · left
    cases f with
    | false => simp at hm
    | true =>
      simp at hm
      obtain ⟨rfl, rfl, rfl⟩ := hm
      exact ⟨rfl, rfl, rfl, rfl, fun q => by have := (h3 _ q).1; simp at this, fun q => by have := (h4 _ q).1; simp at this⟩
  · have := h3 _ (mem_nodes hm)
    exact .inr (.inl ⟨fun q => by have := this.1; simp only at this; omega, this.2.2, hm⟩)
  · have := h4 _ (mem_nodes hm)
    exact .inr (.inr ⟨fun q => by have := this.1; simp only at this; omega, this.2.2, hm⟩)

theorem drop_mem {w a k : Nat} {v : Int} : ∀ {t : PT}, PW w t → (a, k, v) ∈ t.mem → t.mem.Perm ((a, k, v) :: (dropP w a k t).mem)
  | .nil, _, h => by cases h
  | .node c n f u l r, hpw, hm => by
    rw [dropP]
    rcases mem_side hpw hm with ⟨rfl, rfl, rfl, rfl, _, _⟩ | ⟨q1, q2, q3⟩ | ⟨q1, q2, q3⟩
    · rw [if_pos ⟨rfl, rfl⟩, join_mem]
      simp [PT.mem]
    · rw [if_neg q1, if_pos q2, join_mem, PT.mem]
      refine ((((drop_mem hpw.2.2.2.2.1 q3).append_right r.mem).append_left (if f = true then [(c, n, u)] else []))).trans ?_
      exact List.perm_middle
    · rw [if_neg q1, if_neg (by omega), join_mem, PT.mem]
      refine ((((drop_mem hpw.2.2.2.2.2 q3).append_left l.mem).append_left (if f = true then [(c, n, u)] else []))).trans ?_
      rw [← List.append_assoc, ← List.append_assoc]
      exact List.perm_middle

theorem set_nodes {w a k : Nat} {v : Int} : ∀ {t : PT}, (setP w a k v t).nodes = t.nodes
  | .nil => rfl
  | .node c n f u l r => by
    rw [setP]
    split
    · rfl
    · split
      · simp [PT.nodes, set_nodes (t := l)]
      · simp [PT.nodes, set_nodes (t := r)]
theorem set_pw {w a k : Nat} {v : Int} : ∀ {t : PT}, PW w t → PW w (setP w a k v t)
  | .nil, h => h
  | .node c n f u l r, ⟨h1, h2, h3, h4, h5, h6⟩ => by
    rw [setP]
    split
    · exact ⟨h1, h2, h3, h4, h5, h6⟩
    · split
      · exact ⟨h1, h2, by rw [set_nodes]; exact h3, h4, set_pw h5, h6⟩
      · exact ⟨h1, h2, h3, by rw [set_nodes]; exact h4, h5, set_pw h6⟩
theorem set_nil {w a k : Nat} {v : Int} {t : PT} : nilP (setP w a k v t) = nilP t := by
  cases t with
  | nil => rfl
  | node c n f u l r =>
    rw [setP]
    repeat' split
    all_goals rfl
theorem set_ni {w a k : Nat} {v : Int} : ∀ {t : PT}, NI t → NI (setP w a k v t)
  | .nil, h => h
  | .node c n f u l r, ⟨h1, h2, h3⟩ => by
    rw [setP]
    split
    · exact ⟨h1, h2, h3⟩
    · split
      · exact ⟨by rw [set_nil]; exact h1, set_ni h2, h3⟩
      · exact ⟨by rw [set_nil]; exact h1, h2, set_ni h3⟩
theorem set_mem {w a k : Nat} {v v0 : Int} : ∀ {t : PT}, PW w t → (a, k, v0) ∈ t.mem → ∃ A B, t.mem = A ++ (a, k, v0) :: B ∧ (setP w a k v t).mem = A ++ (a, k, v) :: B
  | .nil, _, h => by cases h
  | .node c n f u l r, hpw, hm => by
    rw [setP]
    rcases mem_side hpw hm with ⟨rfl, rfl, rfl, rfl, _, _⟩ | ⟨q1, q2, q3⟩ | ⟨q1, q2, q3⟩
    · rw [if_pos ⟨rfl, rfl⟩]
      exact ⟨[], l.mem ++ r.mem, by simp [PT.mem], by simp [PT.mem]⟩
    · rw [if_neg q1, if_pos q2]
      obtain ⟨A, B, h1, h2⟩ := set_mem (v := v) hpw.2.2.2.2.1 q3
      exact ⟨(if f = true then [(c, n, u)] else []) ++ A, B ++ r.mem, by simp [PT.mem, h1], by simp [PT.mem, h2]⟩
    · rw [if_neg q1, if_neg (by omega)]
      obtain ⟨A, B, h1, h2⟩ := set_mem (v := v) hpw.2.2.2.2.2 q3
      exact ⟨(if f = true then [(c, n, u)] else []) ++ (l.mem ++ A), B, by simp [PT.mem, h1], by simp [PT.mem, h2]⟩

theorem with_ni {w a k : Nat} {v : Int} (ha : a < 2 ^ w) : ∀ {t : PT}, PW w t → NI t → NI (withP w a k v t) ∧ nilP (withP w a k v t) = false
  | .nil, _, _ => ⟨⟨.inl rfl, trivial, trivial⟩, rfl⟩
  | .node c n f u l r, ⟨p1, p2, p3, p4, p5, p6⟩, ⟨h1, h2, h3⟩ => by
    rw [withP]
    split
    · exact ⟨⟨.inl rfl, h2, h3⟩, rfl⟩
    · rename_i hne
      split
      · split
        · exact ⟨⟨h1.imp id fun q => ⟨(with_ni ha p5 h2).2, q.2⟩, (with_ni ha p5 h2).1, h3⟩, rfl⟩
        · exact ⟨⟨h1.imp id fun q => ⟨q.1, (with_ni ha p6 h3).2⟩, h2, (with_ni ha p6 h3).1⟩, rfl⟩
      · rename_i hn
        split
        · refine ⟨⟨.inl rfl, ?_, ?_⟩, rfl⟩ <;> (unfold setK; split) <;> first | exact ⟨h1, h2, h3⟩ | trivial
        · rename_i hk
          have hs := side_ne p2 ha p1 rfl hn hk
          generalize cmp w c n a k = m at *
          have new : NI (.node a k true v .nil .nil) := ⟨.inl rfl, trivial, trivial⟩
          have old : NI (.node c n f u l r) := ⟨h1, h2, h3⟩
          rcases sideN_two w a m with q | q <;> rcases sideN_two w c m with q2 | q2
          · exact absurd (q2.trans q.symm) hs
          · rw [q, q2]
            exact ⟨⟨.inr ⟨rfl, rfl⟩, new, old⟩, rfl⟩
          · rw [q, q2]
            exact ⟨⟨.inr ⟨rfl, rfl⟩, old, new⟩, rfl⟩
          · exact absurd (q2.trans q.symm) hs

/-! ### Forks -/

def PT.fnodes : PT → List (Nat × Nat × Bool)
  | .nil => []
  | .node c n f _ l r => (c, n, f) :: (l.fnodes ++ r.fnodes)
theorem fnodes_map : ∀ {t : PT}, t.fnodes.map (fun x => (x.1, x.2.1)) = t.nodes
  | .nil => rfl
  | .node c n f _ l r => by simp [PT.fnodes, PT.nodes, fnodes_map (t := l), fnodes_map (t := r)]
theorem mem_fnodes : ∀ {t : PT} {x : Mem}, x ∈ t.mem → (x.1, x.2.1, true) ∈ t.fnodes
  | .nil, x, h => by cases h
  | .node a n f v l r, x, h => by
    simp only [PT.mem, List.mem_append] at h
    simp only [PT.fnodes, List.mem_cons, List.mem_append]
    rcases h with h | h | h
    · cases f with
      | true => simp only [if_true, List.mem_cons, List.not_mem_nil, or_false] at h; subst h; exact .inl rfl
      | false => simp at h
    · exact .inr (.inl (mem_fnodes h))
    · exact .inr (.inr (mem_fnodes h))
theorem fnodes_mem : ∀ {t : PT} {c n : Nat}, (c, n, true) ∈ t.fnodes → ∃ v, (c, n, v) ∈ t.mem
  | .nil, c, n, h => by cases h
  | .node a m f v l r, c, n, h => by
    simp only [PT.fnodes, List.mem_cons, List.mem_append, Prod.mk.injEq] at h
    rcases h with ⟨rfl, rfl, rfl⟩ | h | h
    · exact ⟨v, by simp [PT.mem]⟩
    · obtain ⟨u, hu⟩ := fnodes_mem h
      exact ⟨u, by simp [PT.mem, hu]⟩
    · obtain ⟨u, hu⟩ := fnodes_mem h
      exact ⟨u, by simp [PT.mem, hu]⟩
theorem pair_all {α : Type} {R : α → α → Prop} : ∀ {L : List α}, L.Pairwise R → ∀ {x y}, x ∈ L → y ∈ L → x = y ∨ R x y ∨ R y x
  | [], _, x, y, h, _ => by cases h
  | a :: L, hp, x, y, hx, hy => by
    obtain ⟨h1, h2⟩ := List.pairwise_cons.1 hp
    rcases List.mem_cons.1 hx with e | hx' <;> rcases List.mem_cons.1 hy with e2 | hy'
    · exact .inl (e.trans e2.symm)
    · rw [e]; exact .inr (.inl (h1 y hy'))
    · rw [e2]; exact .inr (.inr (h1 x hx'))
    · exact pair_all h2 hx' hy'

theorem cpl_app {s x y : List UInt8} {a b : UInt8} (h : a ≠ b) : cpl (s ++ a :: x) (s ++ b :: y) = s := by
  induction s with
  | nil => simp [cpl, h]
  | cons c s ih => simp [cpl, ih]
theorem cpl_pre {s x : List UInt8} : cpl s (s ++ x) = s := by
  induction s with
  | nil => cases x <;> rfl
  | cons c s ih => simp [cpl, ih]

theorem ni_mem : ∀ {t : PT}, NI t → nilP t = false → t.mem ≠ []
  | .nil, _, h => by cases h
  | .node c n f v l r, ⟨h1, h2, h3⟩, _ => by
    rcases h1 with rfl | ⟨h1, _⟩
    · simp [PT.mem]
    · have := ni_mem h2 h1
      intro q
      simp only [PT.mem, List.append_eq_nil_iff] at q
      exact this q.2.1

def txM (w : Nat) (x : Mem) : List UInt8 := txt w (x.1, x.2.1)

theorem nodes_part {w : Nat} {is : List UInt8 → Bool} : ∀ {t : PT}, PW w t → NI t → (∀ c n f, (c, n, f) ∈ t.fnodes → is (txt w (c, n)) = f) → t.nodes.length = t.mem.length + partK is (t.mem.map (txM w))
  | .nil, _, _, _ => rfl
  | .node c n f v l r, ⟨h1, h2, h3, h4, h5, h6⟩, ⟨g1, g2, g3⟩, hi => by
    have il := nodes_part h5 g2 fun c n f h => hi c n f (by simp [PT.fnodes, h])
    have ir := nodes_part h6 g3 fun c n f h => hi c n f (by simp [PT.fnodes, h])
    have his : is (txt w (c, n)) = f := hi c n f (by simp [PT.fnodes])
    have hl : ∀ x ∈ l.mem, ∃ s, txM w x = txt w (c, n) ++ 48 :: s := fun x hx => by
      obtain ⟨q1, q2, q3⟩ := h3 _ (mem_nodes hx)
      obtain ⟨o1, o2⟩ := nodes_ok h5 _ (mem_nodes hx)
      obtain ⟨s, hs⟩ := txt_split q1 o1
      refine ⟨s, ?_⟩
      rw [txM, hs, side_bit q3 (.inl rfl), txt, (und_take h1 h2 o2).2 q2]
      rfl
    have hr : ∀ x ∈ r.mem, ∃ s, txM w x = txt w (c, n) ++ 49 :: s := fun x hx => by
      obtain ⟨q1, q2, q3⟩ := h4 _ (mem_nodes hx)
      obtain ⟨o1, o2⟩ := nodes_ok h6 _ (mem_nodes hx)
      obtain ⟨s, hs⟩ := txt_split q1 o1
      refine ⟨s, ?_⟩
      rw [txM, hs, side_bit q3 (.inr rfl), txt, (und_take h1 h2 o2).2 q2]
      rfl
    have hlink : linkK is (l.mem.map (txM w)) (r.mem.map (txM w)) = if l.mem = [] ∨ r.mem = [] then 0 else if f = true then 0 else 1 := by
      unfold linkK
      by_cases e1 : l.mem = []
      · rw [if_pos (.inl e1), e1]; rfl
      by_cases e2 : r.mem = []
      · rw [if_pos (.inr e2), e2]; simp
      rw [if_neg (by simp [e1, e2])]
      obtain ⟨x, hx⟩ : ∃ x, l.mem.getLast? = some x := by
        cases q : l.mem.getLast? with
        | none => exact absurd (List.getLast?_eq_none_iff.1 q) e1
        | some x => exact ⟨x, rfl⟩
      obtain ⟨y, hy⟩ : ∃ y, r.mem.head? = some y := by
        cases q : r.mem.head? with
        | none => exact absurd (List.head?_eq_none_iff.1 q) e2
        | some x => exact ⟨x, rfl⟩
      obtain ⟨s, hs⟩ := hl x (List.mem_of_getLast? hx)
      obtain ⟨s2, hs2⟩ := hr y (List.mem_of_mem_head? hy)
      rw [List.getLast?_map, List.head?_map, hx, hy]
      simp only [Option.map_some]
      rw [hs, hs2, cpl_app (by decide), his]
    have hAB : partK is (l.mem.map (txM w) ++ r.mem.map (txM w)) = partK is (l.mem.map (txM w)) + (if l.mem = [] ∨ r.mem = [] then 0 else if f = true then 0 else 1) + partK is (r.mem.map (txM w)) := by rw [part_app, hlink]
    cases f with
    | true =>
      have hs : partK is (txt w (c, n) :: (l.mem.map (txM w) ++ r.mem.map (txM w))) = partK is (l.mem.map (txM w) ++ r.mem.map (txM w)) := by
        have := part_app (is := is) (A := [txt w (c, n)]) (B := l.mem.map (txM w) ++ r.mem.map (txM w))
        rw [List.singleton_append] at this
        rw [this]
        have h0 : linkK is [txt w (c, n)] (l.mem.map (txM w) ++ r.mem.map (txM w)) = 0 := by
          unfold linkK
          simp only [List.getLast?_singleton]
          split
          · rename_i a b q1 q2
            cases q1
            have hb := List.mem_of_mem_head? q2
            obtain ⟨t2, ht2⟩ : ∃ s, b = txt w (c, n) ++ s := by
              rcases List.mem_append.1 hb with q | q
              · obtain ⟨x, hx, rfl⟩ := List.mem_map.1 q
                obtain ⟨s, hs⟩ := hl x hx
                exact ⟨_, hs⟩
              · obtain ⟨x, hx, rfl⟩ := List.mem_map.1 q
                obtain ⟨s, hs⟩ := hr x hx
                exact ⟨_, hs⟩
            rw [ht2, cpl_pre, his]
            rfl
          · rfl
        rw [h0]
        simp [partK]
      simp only [PT.mem, PT.nodes, if_true, List.map_append, List.map_cons, List.map_nil, List.cons_append, List.nil_append, List.length_append, List.length_cons, List.length_nil]
      rw [show txM w (c, n, v) = txt w (c, n) from rfl, hs, hAB, il, ir]
      simp only [if_true, ite_self]
      omega
    | false =>
      have e1 := ni_mem g2 (by simpa using (g1.resolve_left (by simp)).1)
      have e2 := ni_mem g3 (by simpa using (g1.resolve_left (by simp)).2)
      simp only [PT.mem, PT.nodes, Bool.false_eq_true, if_false, List.map_append, List.nil_append, List.length_append, List.length_cons, List.length_nil]
      rw [hAB, il, ir, if_neg (by simp [e1, e2])]
      simp only [Bool.false_eq_true, if_false]
      omega

end Go.Proofs.Yticgkaanaimllaa.Ev

/- What a tree keeps, as the document's sorted list. -/
namespace Go.Proofs.Yticgkaanaimllaa.Ev
set_option linter.unusedSimpArgs false
set_option linter.unusedVariables false

def kl (w : Nat) (t : PT) : KL := t.mem.map fun x => (txM w x, x.2.2)
theorem kl_len {w : Nat} {t : PT} : (kl w t).length = t.mem.length := by simp [kl]
theorem kl_keys {w : Nat} {t : PT} : (kl w t).map (·.1) = t.mem.map (txM w) := by simp [kl]
theorem kl_sorted {w : Nat} {t : PT} (h : PW w t) : SortedK (kl w t) := List.pairwise_map.2 (mem_rise h)

theorem mem_rgtP {w : Nat} : ∀ {t : PT}, TWp w t → ∀ x ∈ t.mem, rgt w x.1 (x.2.1 : Nat) = true
  | .nil, _, x, hx => by cases hx
  | .node c n f v l r, ⟨h1, h2, h3, h4, h5⟩, x, hx => by
    simp only [PT.mem, List.mem_append] at hx
    rcases hx with hx | hx | hx
    · cases f with
      | true =>
        simp at hx
        subst hx
        simp only [rgt, Bool.and_eq_true, decide_eq_true_eq, Int.toNat_natCast]
        exact ⟨⟨⟨by omega, by omega⟩, h2⟩, h3⟩
      | false => simp at hx
    · exact mem_rgtP h4 x hx
    · exact mem_rgtP h5 x hx

theorem txt_inj {w a k c n : Nat} (hw : w ≤ 128) (h1 : rgt w a (k : Nat) = true) (h2 : rgt w c (n : Nat) = true) (h : txt w (a, k) = txt w (c, n)) : a = c ∧ k = n := by
  simp only [rgt, Bool.and_eq_true, decide_eq_true_eq, Int.toNat_natCast] at h1 h2
  obtain ⟨⟨⟨_, a1⟩, a2⟩, a3⟩ := h1
  obtain ⟨⟨⟨_, b1⟩, b2⟩, b3⟩ := h2
  have hk : k ≤ w := by omega
  have hn : n ≤ w := by omega
  have hl := congrArg List.length h
  rw [txt_len (x := (a, k)) hk, txt_len (x := (c, n)) hn] at hl
  simp only at hl
  subst hl
  exact ⟨pre_eq hw hk a2 b2 a3 b3 ((und_take hk a2 b2).1 h), rfl⟩

theorem kl_is {w a k : Nat} {t : PT} (hw : w ≤ 128) (hpw : PW w t) (htw : TWp w t) (hr : rgt w a (k : Nat) = true) : isK (txt w (a, k)) (kl w t) = true ↔ ∃ v, (a, k, v) ∈ t.mem := by
  rw [isK_iff (kl_sorted hpw)]
  constructor
  · rintro ⟨v, hv⟩
    obtain ⟨⟨c, n, u⟩, h1, h2⟩ := List.mem_map.1 hv
    simp only [txM, Prod.mk.injEq] at h2
    obtain ⟨h2, rfl⟩ := h2
    obtain ⟨rfl, rfl⟩ := txt_inj hw (mem_rgtP htw _ h1) hr h2
    exact ⟨u, h1⟩
  · rintro ⟨v, hv⟩
    exact ⟨v, List.mem_map.2 ⟨_, hv, rfl⟩⟩

/-- What stands where a prefix is kept. -/
theorem kl_get {w a k : Nat} {v : Int} {t : PT} (hpw : PW w t) (hm : (a, k, v) ∈ t.mem) : isK (txt w (a, k)) (kl w t) = true ∧ (kl w t)[ixK (txt w (a, k)) (kl w t)]? = some (txt w (a, k), v) := by
  have hs := kl_sorted hpw
  have hin : (txt w (a, k), v) ∈ kl w t := List.mem_map.2 ⟨_, hm, rfl⟩
  have his : isK (txt w (a, k)) (kl w t) = true := (isK_iff hs).2 ⟨v, hin⟩
  refine ⟨his, ?_⟩
  obtain ⟨u, hu⟩ := ixK_get his
  have hin2 := List.mem_of_getElem? hu
  rcases pair_all hs hin hin2 with q | q | q
  · rw [hu, q]
  · rw [less_irr] at q; cases q
  · rw [less_irr] at q; cases q

def putKL (s : List UInt8) (v : Int) (L : KL) : KL := L.take (ixK s L) ++ (s, v) :: L.drop (ixK s L)
def dropKL (s : List UInt8) (L : KL) : KL := L.take (ixK s L) ++ L.drop (ixK s L + 1)

theorem kl_put {w a k : Nat} {v : Int} {t : PT} (hw : w ≤ 128) (hpw : PW w t) (htw : TWp w t) (hr : rgt w a (k : Nat) = true) (hn : atP w a k t = none) : kl w (withP w a k v t) = putKL (txt w (a, k)) v (kl w t) := by
  have hr2 := hr
  simp only [rgt, Bool.and_eq_true, decide_eq_true_eq, Int.toNat_natCast] at hr2
  obtain ⟨⟨⟨_, a1⟩, a2⟩, a3⟩ := hr2
  have hk : k ≤ w := by omega
  have hno : isK (txt w (a, k)) (kl w t) = false := by
    cases h : isK (txt w (a, k)) (kl w t)
    · rfl
    · obtain ⟨u, hu⟩ := (kl_is hw hpw htw hr).1 h
      rw [(at_mem a2 hk hpw).2 hu] at hn
      cases hn
  refine perm_sorted (kl_sorted (with_pw hw a2 hk a3 hpw)) (ins_sorted (kl_sorted hpw) hno) ?_
  exact ((with_mem hw a2 hk a3 hpw htw hn).map _).trans ins_perm.symm

theorem drop_sorted {s : List UInt8} {L : KL} (h : SortedK L) : SortedK (dropKL s L) := by
  have : (dropKL s L).Sublist L := by
    conv => rhs; rw [← List.take_append_drop (ixK s L) L]
    refine List.Sublist.append (List.Sublist.refl _) ?_
    rw [← List.drop_drop]
    exact List.drop_sublist 1 _
  exact h.sublist this

theorem kl_drop {w a k : Nat} {v : Int} {t : PT} (hpw : PW w t) (hm : (a, k, v) ∈ t.mem) : kl w (dropP w a k t) = dropKL (txt w (a, k)) (kl w t) := by
  obtain ⟨h1, h2⟩ := kl_get hpw hm
  refine perm_sorted (kl_sorted (drop_pw hpw)) (drop_sorted (kl_sorted hpw)) ?_
  have p1 : (kl w t).Perm ((txt w (a, k), v) :: kl w (dropP w a k t)) := (drop_mem hpw hm).map _
  have p2 : (kl w t).Perm ((txt w (a, k), v) :: dropKL (txt w (a, k)) (kl w t)) := by
    obtain ⟨hi, he⟩ := List.getElem?_eq_some_iff.1 h2
    have e : kl w t = (kl w t).take (ixK (txt w (a, k)) (kl w t)) ++ (txt w (a, k), v) :: (kl w t).drop (ixK (txt w (a, k)) (kl w t) + 1) := by
      conv => lhs; rw [← List.take_append_drop (ixK (txt w (a, k)) (kl w t)) (kl w t), List.drop_eq_getElem_cons hi, he]
    conv => lhs; rw [e]
    exact List.perm_middle
  exact List.Perm.cons_inv (p1.symm.trans p2)

theorem ixK_at {s : List UInt8} {v : Int} : ∀ {A B : KL}, (∀ x ∈ A, Op.bytesLess x.1 s = true) → ixK s (A ++ (s, v) :: B) = A.length
  | [], B, _ => by rw [List.nil_append, ixK_cons, if_neg (by rw [less_irr]; simp)]; rfl
  | x :: A, B, h => by rw [List.cons_append, ixK_cons, if_pos (h x (by simp)), ixK_at fun y hy => h y (by simp [hy])]; rfl

theorem kl_set {w a k : Nat} {v v0 : Int} {t : PT} (hpw : PW w t) (hm : (a, k, v0) ∈ t.mem) : kl w (setP w a k v t) = (kl w t).set (ixK (txt w (a, k)) (kl w t)) (txt w (a, k), v) := by
  obtain ⟨A, B, h1, h2⟩ := set_mem (v := v) hpw hm
  have hs := kl_sorted hpw
  have e1 : kl w t = A.map (fun x => (txM w x, x.2.2)) ++ (txt w (a, k), v0) :: B.map (fun x => (txM w x, x.2.2)) := by simp [kl, h1, txM]
  have e2 : kl w (setP w a k v t) = A.map (fun x => (txM w x, x.2.2)) ++ (txt w (a, k), v) :: B.map (fun x => (txM w x, x.2.2)) := by simp [kl, h2, txM]
  rw [e1] at hs
  have hless : ∀ x ∈ A.map (fun x => (txM w x, x.2.2)), Op.bytesLess x.1 (txt w (a, k)) = true := fun x hx => (List.pairwise_append.1 hs).2.2 x hx _ List.mem_cons_self
  rw [e2, e1, ixK_at hless, List.set_append_right _ _ (Nat.le_refl _), Nat.sub_self, List.set_cons_zero]

theorem kl_nodes {w : Nat} {t : PT} (hpw : PW w t) (hni : NI t) : t.nodes.length = (kl w t).length + partK (fun s => isK s (kl w t)) ((kl w t).map (·.1)) := by
  rw [kl_len, kl_keys]
  refine nodes_part hpw hni fun c n f h => ?_
  have hp : t.fnodes.Pairwise (fun x y => Op.bytesLess (txt w (x.1, x.2.1)) (txt w (y.1, y.2.1)) = true) := by
    have := nodes_rise hpw
    rw [← fnodes_map] at this
    exact List.pairwise_map.1 this
  cases f with
  | true =>
    obtain ⟨v, hv⟩ := fnodes_mem h
    exact (kl_get hpw hv).1
  | false =>
    cases q : isK (txt w (c, n)) (kl w t)
    · rfl
    · obtain ⟨v, hv⟩ := (isK_iff (kl_sorted hpw)).1 q
      obtain ⟨x, h1, h2⟩ := List.mem_map.1 hv
      simp only [Prod.mk.injEq] at h2
      have h3 := mem_fnodes h1
      rcases pair_all hp h h3 with e | e | e
      · cases e
      · have := less_ne e
        exact absurd h2.1.symm this
      · have := less_ne e
        exact absurd h2.1 this

/-- Does a text begin another? -/
def begB (s t : List UInt8) : Bool := decide (s.length ≤ t.length) && decide (t.take s.length = s)

theorem kl_under {w a : Nat} {k : Int} {t : PT} (hw : w ≤ 128) (hpw : PW w t) : (t.mem.filter fun x => undM w a k x.1 x.2.1).map (fun x => (txM w x, x.2.2)) = (if rgt w a k = true then (kl w t).filter (fun y => begB (headT w a k) y.1) else []) := by
  have h1 : (t.mem.filter fun x => undM w a k x.1 x.2.1) = t.mem.filter fun x => rgt w a k && begB (headT w a k) (txM w x) := by
    refine List.filter_congr fun x hx => ?_
    have hk := nodes_ok hpw _ (mem_nodes hx)
    rw [undM_head hw hk.2 hk.1, inHead, begB, Bool.and_assoc]
    rfl
  rw [h1]
  cases rgt w a k
  · simp
  · simp only [Bool.true_and, if_true, kl, List.filter_map]
    rfl

theorem kl_every {w a : Nat} {t : PT} (hpw : PW w t) : (if a < 2 ^ w then wayP w a t else []).map (fun x => (txM w x, x.2.2)) = (if a < 2 ^ w then (kl w t).filter (fun y => begB y.1 (bitS w a)) else []) := by
  split
  · rename_i ha
    rw [way_filter ha hpw]
    have h1 : (t.mem.filter fun x => decide (Und w x.1 x.2.1 a)) = t.mem.filter fun x => begB (txM w x) (bitS w a) := by
      refine List.filter_congr fun x hx => ?_
      have hk := nodes_ok hpw _ (mem_nodes hx)
      have hl : (txM w x).length = x.2.1 := txt_len (x := (x.1, x.2.1)) hk.1
      rw [begB, hl, bitS_len, decide_eq_true hk.1, Bool.true_and]
      congr 1
      refine propext ⟨fun q => ((und_take hk.1 hk.2 ha).2 q).symm, fun q => (und_take hk.1 hk.2 ha).1 q.symm⟩
    rw [h1]
    simp only [kl, List.filter_map]
    rfl
  · rfl

end Go.Proofs.Yticgkaanaimllaa.Ev

/- All and Under laid in memory; a counter. -/
namespace Go.Proofs.Yticgkaanaimllaa.Ev
set_option maxRecDepth 100000
set_option linter.unusedSimpArgs false
set_option linter.unusedVariables false
variable {R : FRes → Heap → Prop} {H : Heap}

def ACode.cz : ACode → ACode
  | .range _ _ c _ => c
  | c => c
def ACode.bd : ACode → ACode
  | .range _ _ _ c => c
  | c => c

theorem bin_str_geq (l m : List UInt8) : binV .geq (.string (bs l)) (.string (bs m)) = some (.bool !(Op.bytesLess l m)) := rfl
theorem some_t {b : Nat} {f : Value} (hf : cellsOf f = [f]) (h : R (.ret (.func (.func 79) #[] #[.pointer (some ⟨H.length, 0, none⟩), .pointer (some ⟨H.length + 1, 0, none⟩)])) (H ++ [.row [.pointer (some ⟨b, 0, none⟩)] 0 true, .row [f] 0 true])) :
    WD T 48 [.pointer (some ⟨b, 0, none⟩), f] H R := by
  refine WD.of follows t48 (by simp) ?_
  simp (disch := omega) only [kB, kcx, kdm, kdn, kel, aop, resultsL, resultOf, Nat.reduceEqDiff, reduceCtorEq, eq1, apartOK, apart2, AObj.live, Int.reduceEq, Int.reduceLT, Int.reduceLE, Int.reduceAdd, Int.reduceSub, Int.reduceMul, Int.reduceToNat, cutCells, Nat.reduceAdd, Nat.reduceLeDiff, Nat.reduceLT, Nat.reduceMul, Nat.reduceSub, hf]
  exact h
theorem all_t {b : Nat} (h : R (.ret (.func (.func 79) #[] #[.pointer (some ⟨H.length, 0, none⟩), .pointer (some ⟨H.length + 1, 0, none⟩)])) (H ++ [.row [.pointer (some ⟨b, 0, none⟩)] 0 true, .row [.func (.func 49) #[] #[]] 0 true])) :
    WD T 17 [.pointer (some ⟨b, 0, none⟩)] H R := by
  refine WD.of follows t17 (by simp) ?_
  simp (disch := omega) only [kB, kcx, kdm, kdn, kel, aop, resultsL, resultOf, Nat.reduceEqDiff, reduceCtorEq, eq1, apartOK, apart2, AObj.live, Int.reduceEq, Int.reduceLT, Int.reduceLE, Int.reduceAdd, Int.reduceSub, Int.reduceMul, Int.reduceToNat, cutCells, Nat.reduceAdd, Nat.reduceLeDiff, Nat.reduceLT, Nat.reduceMul, Nat.reduceSub]
  refine some_t rfl ?_
  simp (disch := omega) only [kB, kcx, kdm, kdn, kel, aop, resultsL, resultOf, Nat.reduceEqDiff, reduceCtorEq, eq1, apartOK, apart2, AObj.live, Int.reduceEq, Int.reduceLT, Int.reduceLE, Int.reduceAdd, Int.reduceSub, Int.reduceMul, Int.reduceToNat, cutCells, Nat.reduceAdd, Nat.reduceLeDiff, Nat.reduceLT, Nat.reduceMul, Nat.reduceSub]
  exact h
/-- What Under lays. -/
def unR (n b a : Nat) (k : Int) : Heap := [.row [.pointer (some ⟨b, 0, none⟩)] 0 true, .row [.int .u64 ((a / W64 : Nat) : Int), .int .u64 ((a % W64 : Nat) : Int), .int .i64 k] 0 true, .row [.pointer (some ⟨b, 0, none⟩)] 0 true,
  .row [.func (.func 50) #[] #[.pointer (some ⟨n, 0, none⟩), .pointer (some ⟨n + 1, 0, none⟩)]] 0 true]
theorem under_t {b a : Nat} {k : Int} (h : R (.ret (.func (.func 79) #[] #[.pointer (some ⟨H.length + 2, 0, none⟩), .pointer (some ⟨H.length + 3, 0, none⟩)])) (H ++ unR H.length b a k)) :
    WD T 18 [.pointer (some ⟨b, 0, none⟩), pfv a k] H R := by
  refine WD.of follows t18 (by simp) ?_
  simp (disch := omega) only [kB, kcx, kdm, kdn, kel, aop, resultsL, resultOf, Nat.reduceEqDiff, reduceCtorEq, eq1, apartOK, apart2, AObj.live, Int.reduceEq, Int.reduceLT, Int.reduceLE, Int.reduceAdd, Int.reduceSub, Int.reduceMul, Int.reduceToNat, cutCells, Nat.reduceAdd, Nat.reduceLeDiff, Nat.reduceLT, Nat.reduceMul, Nat.reduceSub]
  refine some_t rfl ?_
  simp (disch := omega) only [kB, kcx, kdm, kdn, kel, aop, resultsL, resultOf, Nat.reduceEqDiff, reduceCtorEq, eq1, apartOK, apart2, AObj.live, Int.reduceEq, Int.reduceLT, Int.reduceLE, Int.reduceAdd, Int.reduceSub, Int.reduceMul, Int.reduceToNat, cutCells, Nat.reduceAdd, Nat.reduceLeDiff, Nat.reduceLT, Nat.reduceMul, Nat.reduceSub]
  exact h

theorem row_frz {bs : List Nat} {K : Heap} {c u : Nat} {cs : List Value} {wr : Bool} (h : hget K c = .row cs u wr) : ∃ wr, hget (frz K bs) c = .row cs u wr := by
  rcases hget_frz bs K c with q | ⟨cs2, u2, q, q2⟩
  · exact ⟨wr, q.trans h⟩
  · rw [h] at q
    cases q
    exact ⟨_, q2⟩

theorem may_allS {w : Nat} : MayS H w 49 #[] (fun _ _ => true) := fun K h1 h2 c n hc hn R h => may_all h
theorem may_underS {w b pt pp a : Nat} {k : Int} (hw : 1 ≤ w) (hw2 : w ≤ 128) (ha : a < 2 ^ 128) (hth : ∃ m l rt wr, hget H b = .row [.int .i64 (w : Int), .int .i64 m, .int .i64 l, rt] 0 wr)
    (ht : hget H pt = .row [.pointer (some ⟨b, 0, none⟩)] 0 true) (hp : hget H pp = .row [.int .u64 ((a / W64 : Nat) : Int), .int .u64 ((a % W64 : Nat) : Int), .int .i64 k] 0 true) :
    MayS H w 50 #[.pointer (some ⟨pt, 0, none⟩), .pointer (some ⟨pp, 0, none⟩)] (undM w a k) := fun K h1 h2 c n hc hn R h => by
  obtain ⟨m, l, rt, wr, hb⟩ := hth
  exact may_under hw hw2 ha hc ⟨m, l, rt, wr, (h2 b (hget_lt hb rfl)).trans hb⟩ ((h2 pt (hget_lt ht rfl)).trans ht) ((h2 pp (hget_lt hp rfl)).trans hp) h

theorem len_t {b w : Nat} {m l : Int} {rt : Value} {wr : Bool} (hd : hget H b = .row [.int .i64 (w : Int), .int .i64 m, .int .i64 l, rt] 0 wr) (h : R (.ret (.int .i64 l)) H) : WD T 19 [.pointer (some ⟨b, 0, none⟩)] H R := by
  refine WD.of follows t19 (by simp) ?_
  simp (disch := omega) only [kB, kcx, kdm, kdn, kel, aop, resultsL, resultOf, Nat.reduceEqDiff, reduceCtorEq, eq1, apartOK, apart2, AObj.live, Int.reduceEq, Int.reduceLT, Int.reduceLE, Int.reduceAdd, Int.reduceSub, Int.reduceMul, Int.reduceToNat, cutCells, Nat.reduceAdd, Nat.reduceLeDiff, Nat.reduceLT, Nat.reduceMul, Nat.reduceSub, eqP_sn, hd]
  exact h

/-- A counter stands so, all else as it was. -/
structure CI (H2 : Heap) (N p : Nat) (i : Nat) (K : Heap) : Prop where
  len : N ≤ K.length
  fr : ∀ c, c < N → c ≠ p → hget K c = hget H2 c
  ct : hget K p = .row [.int .i64 (i : Int)] 0 true

theorem CI.app {H2 K G : Heap} {N p i : Nat} (hp : p < N) (h : CI H2 N p i K) : CI H2 N p i (K ++ G) := by
  obtain ⟨h1, h2, h3⟩ := h
  exact ⟨by simp; omega, fun c hc hn => by rw [hget_old (by omega)]; exact h2 c hc hn, by rw [hget_old (by omega)]; exact h3⟩
theorem CI.set {H2 K : Heap} {N p i : Nat} {o : AObj} (hp : p < N) (h : CI H2 N p i K) : CI H2 N p i (K.set N o) := by
  obtain ⟨h1, h2, h3⟩ := h
  exact ⟨by simpa using h1, fun c hc hn => by rw [hget_ne (by omega)]; exact h2 c hc hn, by rw [hget_ne (by omega)]; exact h3⟩

theorem get_mem {w c n : Nat} {v : Int} {t : Tr} (hw2 : w ≤ 128) (pw : PW w t.er) (hm : (c, n, v) ∈ t.er.mem) (hr : rgt w c (n : Int) = true) : getR w c (n : Nat) t = .tuple #[.int .i64 v, .bool true] := by
  obtain ⟨q1, q2⟩ := nodes_ok pw _ (mem_nodes hm)
  have h3 := (at_mem q2 q1 pw).2 hm
  rw [getR_er, if_pos hr, Int.toNat_natCast, h3]

def pfM (x : Mem) : List Value := [.int .u64 ((x.1 / W64 : Nat) : Int), .int .u64 ((x.1 % W64 : Nat) : Int), .int .i64 (x.2.1 : Int)]

theorem pfM_u {L : List Mem} : ∀ cs ∈ L.map pfM, cs.length = 3 := by
  intro cs h
  obtain ⟨x, _, rfl⟩ := List.mem_map.1 h
  rfl

theorem pfM_bits {L : List Mem} (i : Nat) (hi : i < L.length) : (((L.map pfM).flatten).drop (i * 3)).take 2 = [.int .u64 ((L[i].1 / W64 : Nat) : Int), .int .u64 ((L[i].1 % W64 : Nat) : Int)] := by
  have := congrArg (fun q => q.take 2) (flat_cut (css := L.map pfM) (u := 3) i pfM_u (by simpa using hi))
  simp only [List.take_take, List.getElem_map] at this
  exact this
theorem pfM_len {L : List Mem} (i : Nat) (hi : i < L.length) : ((L.map pfM).flatten)[i * 3 + 2]? = some (.int .i64 (L[i].2.1 : Int)) := by
  have := congrArg (fun q => q[2]?) (flat_cut (css := L.map pfM) (u := 3) i pfM_u (by simpa using hi))
  simp only [List.getElem?_take_of_lt (show 2 < 3 by decide), List.getElem?_drop, List.getElem_map] at this
  exact this
theorem pfM_all {L : List Mem} (i : Nat) (hi : i < L.length) : (((L.map pfM).flatten).drop (i * 3)).take 3 = pfM L[i] := by
  have := flat_cut (css := L.map pfM) (u := 3) i pfM_u (by simpa using hi)
  rw [this, List.getElem_map]
theorem pfM_flat {L : List Mem} : ((L.map pfM).flatten).length = L.length * 3 := by
  rw [flat_len_u (u := 3) pfM_u, List.length_map]

theorem sl_row {H : Heap} {sv : Value} {css : List (List Value)} {u n0 : Nat} (h : SLs u n0 H sv css) (hL : 0 < css.length) : ∃ k, n0 ≤ k ∧ sv = .slice (some ⟨k, 0, none⟩) css.length css.length ∧ hget H k = .row css.flatten u true ∧ ∀ cs ∈ css, cs.length = u := by
  rcases h with ⟨q, _⟩ | ⟨h1, k, k0, rfl, k2, k3⟩
  · rw [q] at hL
    simp at hL
  · exact ⟨k, k0, rfl, k2, k3⟩

end Go.Proofs.Yticgkaanaimllaa.Ev

/- A trie of texts: its own functions, Put, Get. -/
namespace Go.Proofs.Yticgkaanaimllaa.Ev.S
set_option maxRecDepth 100000
set_option linter.unusedSimpArgs false
set_option linter.unusedVariables false
variable {R : FRes → Heap → Prop} {H : Heap}

/-- The texts that are kept: none, x, other. -/
def vb : Int → ByteArray
  | 0 => bs []
  | 1 => bs [120]
  | _ => bs [111, 116, 104, 101, 114]

theorem new_s {w m : Int} (h : R (if rightN w m = true then .ret (.tuple #[.pointer (some ⟨H.length, 0, none⟩), .int .i64 0]) else .ret (.tuple #[.pointer none, .int .i64 1])) (if rightN w m = true then H ++ [.row [.int .i64 w, .int .i64 m, .int .i64 0, .pointer none] 0 true] else H)) :
    WD T 20 [.int .i64 w, .int .i64 m] H R := by
  refine WD.of follows t20 (by simp) ?_
  unfold rightN at h
  by_cases h1 : w < 1
  · have h1' : ¬ 1 ≤ w := by omega
    simp (disch := omega) only [kB, kcx, kdm, kdn, kel, aop, resultsL, resultOf, Nat.reduceEqDiff, reduceCtorEq, eq1, apartOK, apart2, AObj.live, Int.reduceEq, Int.reduceLT, Int.reduceLE, Int.reduceAdd, Int.reduceSub, Int.reduceMul, Int.reduceToNat, cutCells, Nat.reduceAdd, Nat.reduceLeDiff, Nat.reduceLT, Nat.reduceMul, Nat.reduceSub, h1]
    simpa [h1'] using h
  · have h1' : 1 ≤ w := by omega
    by_cases h2 : 128 < w
    · have h2' : ¬ w ≤ 128 := by omega
      simp (disch := omega) only [kB, kcx, kdm, kdn, kel, aop, resultsL, resultOf, Nat.reduceEqDiff, reduceCtorEq, eq1, apartOK, apart2, AObj.live, Int.reduceEq, Int.reduceLT, Int.reduceLE, Int.reduceAdd, Int.reduceSub, Int.reduceMul, Int.reduceToNat, cutCells, Nat.reduceAdd, Nat.reduceLeDiff, Nat.reduceLT, Nat.reduceMul, Nat.reduceSub, h1, h2]
      simpa [h1', h2'] using h
    · have h2' : w ≤ 128 := by omega
      by_cases h3 : m < 1
      · have h3' : ¬ 1 ≤ m := by omega
        simp (disch := omega) only [kB, kcx, kdm, kdn, kel, aop, resultsL, resultOf, Nat.reduceEqDiff, reduceCtorEq, eq1, apartOK, apart2, AObj.live, Int.reduceEq, Int.reduceLT, Int.reduceLE, Int.reduceAdd, Int.reduceSub, Int.reduceMul, Int.reduceToNat, cutCells, Nat.reduceAdd, Nat.reduceLeDiff, Nat.reduceLT, Nat.reduceMul, Nat.reduceSub, h1, h2, h3]
        simpa [h1', h2', h3'] using h
      · have h3' : 1 ≤ m := by omega
        by_cases h4 : 4096 < m
        · have h4' : ¬ m ≤ 4096 := by omega
          simp (disch := omega) only [kB, kcx, kdm, kdn, kel, aop, resultsL, resultOf, Nat.reduceEqDiff, reduceCtorEq, eq1, apartOK, apart2, AObj.live, Int.reduceEq, Int.reduceLT, Int.reduceLE, Int.reduceAdd, Int.reduceSub, Int.reduceMul, Int.reduceToNat, cutCells, Nat.reduceAdd, Nat.reduceLeDiff, Nat.reduceLT, Nat.reduceMul, Nat.reduceSub, h1, h2, h3, h4]
          simpa [h1', h2', h3', h4'] using h
        · have h4' : m ≤ 4096 := by omega
          simp (disch := omega) only [kB, kcx, kdm, kdn, kel, aop, resultsL, resultOf, Nat.reduceEqDiff, reduceCtorEq, eq1, apartOK, apart2, AObj.live, Int.reduceEq, Int.reduceLT, Int.reduceLE, Int.reduceAdd, Int.reduceSub, Int.reduceMul, Int.reduceToNat, cutCells, Nat.reduceAdd, Nat.reduceLeDiff, Nat.reduceLT, Nat.reduceMul, Nat.reduceSub, h1, h2, h3, h4]
          simpa [h1', h2', h3', h4'] using h

theorem right_t {b w a : Nat} {n m l : Int} {rt : Value} (hb : ∃ wr, hget H b = .row [.int .i64 (w : Int), .int .i64 m, .int .i64 l, rt] 0 wr) (hw : 1 ≤ w) (hw2 : w ≤ 128) (ha : a < 2 ^ 128) (h : R (.ret (.bool (rgt w a n))) H) :
    WD T 52 [.pointer (some ⟨b, 0, none⟩), pfv a n] H R := by
  refine WD.gc0 (WD.of follows t52 (by simp) ?_)
  obtain ⟨wr, hb⟩ := hb
  have lb := hget_lt hb rfl
  by_cases h1 : n < 0
  · have : rgt w a n = false := by simp only [rgt, decide_eq_false (show ¬ 0 ≤ n by omega), Bool.false_and]
    rw [this] at h
    simp (disch := omega) only [kB, kcx, kdm, kdn, kel, aop, resultsL, resultOf, Nat.reduceEqDiff, reduceCtorEq, eq1, apartOK, apart2, AObj.live, Int.reduceEq, Int.reduceLT, Int.reduceLE, Int.reduceAdd, Int.reduceSub, Int.reduceMul, Int.reduceToNat, cutCells, Nat.reduceAdd, Nat.reduceLeDiff, Nat.reduceLT, Nat.reduceMul, Nat.reduceSub, eqT_sn, h1]
    exact ⟨_, rfl, ⟨_, rfl⟩, .closed rfl, h⟩
  by_cases h2 : (w : Int) < n
  · have : rgt w a n = false := by simp only [rgt, decide_eq_false (show ¬ n ≤ (w : Int) by omega), Bool.and_false, Bool.false_and]
    rw [this] at h
    simp (disch := omega) only [kB, kcx, kdm, kdn, kel, aop, resultsL, resultOf, Nat.reduceEqDiff, reduceCtorEq, eq1, apartOK, apart2, AObj.live, Int.reduceEq, Int.reduceLT, Int.reduceLE, Int.reduceAdd, Int.reduceSub, Int.reduceMul, Int.reduceToNat, cutCells, Nat.reduceAdd, Nat.reduceLeDiff, Nat.reduceLT, Nat.reduceMul, Nat.reduceSub, eqT_sn, h1, hb, h2]
    exact ⟨_, rfl, ⟨_, rfl⟩, .closed rfl, h⟩
  simp (disch := omega) only [kB, kcx, kdm, kdn, kel, aop, resultsL, resultOf, Nat.reduceEqDiff, reduceCtorEq, eq1, apartOK, apart2, AObj.live, Int.reduceEq, Int.reduceLT, Int.reduceLE, Int.reduceAdd, Int.reduceSub, Int.reduceMul, Int.reduceToNat, cutCells, Nat.reduceAdd, Nat.reduceLeDiff, Nat.reduceLT, Nat.reduceMul, Nat.reduceSub, eqT_sn, h1, hb, h2]
  refine fits_s hw hw2 ha ?_
  by_cases h3 : a < 2 ^ w
  case neg =>
    have : rgt w a n = false := by simp only [rgt, decide_eq_false h3, Bool.and_false, Bool.false_and]
    rw [this] at h
    simp (disch := omega) only [kB, kcx, kdm, kdn, kel, aop, resultsL, resultOf, Nat.reduceEqDiff, reduceCtorEq, eq1, apartOK, apart2, AObj.live, Int.reduceEq, Int.reduceLT, Int.reduceLE, Int.reduceAdd, Int.reduceSub, Int.reduceMul, Int.reduceToNat, cutCells, Nat.reduceAdd, Nat.reduceLeDiff, Nat.reduceLT, Nat.reduceMul, Nat.reduceSub, h3]
    exact ⟨_, rfl, ⟨_, rfl⟩, .closed rfl, h⟩
  obtain ⟨k, rfl⟩ : ∃ k : Nat, n = k := ⟨n.toNat, by omega⟩
  simp (disch := omega) only [kB, kcx, kdm, kdn, kel, aop, resultsL, resultOf, Nat.reduceEqDiff, reduceCtorEq, eq1, apartOK, apart2, AObj.live, Int.reduceEq, Int.reduceLT, Int.reduceLE, Int.reduceAdd, Int.reduceSub, Int.reduceMul, Int.reduceToNat, cutCells, Nat.reduceAdd, Nat.reduceLeDiff, Nat.reduceLT, Nat.reduceMul, Nat.reduceSub, h3, hb]
  refine mask_s hw hw2 (by omega) ?_
  simp (disch := omega) only [kB, kcx, kdm, kdn, kel, aop, resultsL, resultOf, Nat.reduceEqDiff, reduceCtorEq, eq1, apartOK, apart2, AObj.live, Int.reduceEq, Int.reduceLT, Int.reduceLE, Int.reduceAdd, Int.reduceSub, Int.reduceMul, Int.reduceToNat, cutCells, Nat.reduceAdd, Nat.reduceLeDiff, Nat.reduceLT, Nat.reduceMul, Nat.reduceSub]
  refine WV.of (fun c hc => ?_) ?_
  · simp only [List.mem_cons, List.not_mem_nil, or_false] at hc
    subst hc
    simp (disch := omega) only [kB, kcx, kdm, kdn, kel, aop, resultsL, resultOf, Nat.reduceEqDiff, reduceCtorEq, eq1, apartOK, apart2, AObj.live, Int.reduceEq, Int.reduceLT, Int.reduceLE, Int.reduceAdd, Int.reduceSub, Int.reduceMul, Int.reduceToNat, cutCells, Nat.reduceAdd, Nat.reduceLeDiff, Nat.reduceLT, Nat.reduceMul, Nat.reduceSub]
    rfl
  refine and_s ha (shl_lt _ _) ?_
  rw [thaw_frz0]
  have e1 := eq_bv (v := a &&& maskN w k) (w := a)
  have e2 : decide (a &&& maskN w k = a) = rgt w a (k : Int) := by
    simp only [rgt, decide_eq_true h3, decide_eq_true (show (0 : Int) ≤ (k : Int) by omega), decide_eq_true (show (k : Int) ≤ (w : Int) by omega), Bool.true_and, Int.toNat_natCast]
  rw [e2] at e1
  simp (disch := omega) only [kB, kcx, kdm, kdn, kel, aop, resultsL, resultOf, Nat.reduceEqDiff, reduceCtorEq, eq1, apartOK, apart2, AObj.live, Int.reduceEq, Int.reduceLT, Int.reduceLE, Int.reduceAdd, Int.reduceSub, Int.reduceMul, Int.reduceToNat, cutCells, Nat.reduceAdd, Nat.reduceLeDiff, Nat.reduceLT, Nat.reduceMul, Nat.reduceSub, e1]
  exact ⟨_, rfl, ⟨_, rfl⟩, .closed rfl, h⟩

theorem side_t {b w a n : Nat} (hb : TH H b w) (hw : 1 ≤ w) (hw2 : w ≤ 128) (hn : n < w) (ha : a < 2 ^ 128) (h : R (.ret (.int .i64 (sideN w a n : Nat))) H) : WD T 82 [.pointer (some ⟨b, 0, none⟩), bvA a, .int .i64 n] H R := by
  refine WD.gc0 (WD.of follows t82 (by simp) ?_)
  obtain ⟨m, l, rt, wr, hb⟩ := hb
  have lb := hget_lt hb rfl
  simp (disch := omega) only [kB, kcx, kdm, kdn, kel, aop, resultsL, resultOf, Nat.reduceEqDiff, reduceCtorEq, eq1, apartOK, apart2, AObj.live, Int.reduceEq, Int.reduceLT, Int.reduceLE, Int.reduceAdd, Int.reduceSub, Int.reduceMul, Int.reduceToNat, cutCells, Nat.reduceAdd, Nat.reduceLeDiff, Nat.reduceLT, Nat.reduceMul, Nat.reduceSub, hb]
  refine bit_s hw hw2 hn ha ?_
  unfold sideN at h
  cases hc : a.testBit (w - 1 - n) with
  | true =>
    rw [hc] at h
    simp (disch := omega) only [kB, kcx, kdm, kdn, kel, aop, resultsL, resultOf, Nat.reduceEqDiff, reduceCtorEq, eq1, apartOK, apart2, AObj.live, Int.reduceEq, Int.reduceLT, Int.reduceLE, Int.reduceAdd, Int.reduceSub, Int.reduceMul, Int.reduceToNat, cutCells, Nat.reduceAdd, Nat.reduceLeDiff, Nat.reduceLT, Nat.reduceMul, Nat.reduceSub]
    exact ⟨_, rfl, ⟨_, rfl⟩, .closed rfl, h⟩
  | false =>
    rw [hc] at h
    simp (disch := omega) only [kB, kcx, kdm, kdn, kel, aop, resultsL, resultOf, Nat.reduceEqDiff, reduceCtorEq, eq1, apartOK, apart2, AObj.live, Int.reduceEq, Int.reduceLT, Int.reduceLE, Int.reduceAdd, Int.reduceSub, Int.reduceMul, Int.reduceToNat, cutCells, Nat.reduceAdd, Nat.reduceLeDiff, Nat.reduceLT, Nat.reduceMul, Nat.reduceSub]
    exact ⟨_, rfl, ⟨_, rfl⟩, .closed rfl, h⟩

theorem common_t {b w a n c k : Nat} (hb : TH H b w) (hw : 1 ≤ w) (hw2 : w ≤ 128) (ha : a < 2 ^ w) (hc : c < 2 ^ w) (h : R (.ret (.int .i64 (cmp w a n c k : Nat))) H) : WD T 81 [.pointer (some ⟨b, 0, none⟩), pfv a n, pfv c k] H R := by
  refine WD.gc0 (WD.of follows t81 (by simp) ?_)
  have hb1 := hb
  obtain ⟨m, l, rt, wr, hb⟩ := hb
  have lb := hget_lt hb rfl
  simp (disch := omega) only [kB, kcx, kdm, kdn, kel, aop, resultsL, resultOf, Nat.reduceEqDiff, reduceCtorEq, eq1, apartOK, apart2, AObj.live, Int.reduceEq, Int.reduceLT, Int.reduceLE, Int.reduceAdd, Int.reduceSub, Int.reduceMul, Int.reduceToNat, cutCells, Nat.reduceAdd, Nat.reduceLeDiff, Nat.reduceLT, Nat.reduceMul, Nat.reduceSub, hb]
  refine WV.of (fun c hc => ?_) ?_
  · simp only [List.mem_cons, List.not_mem_nil, or_false] at hc
    rcases hc with rfl | rfl <;> (simp (disch := omega) only [kB, kcx, kdm, kdn, kel, aop, resultsL, resultOf, Nat.reduceEqDiff, reduceCtorEq, eq1, apartOK, apart2, AObj.live, Int.reduceEq, Int.reduceLT, Int.reduceLE, Int.reduceAdd, Int.reduceSub, Int.reduceMul, Int.reduceToNat, cutCells, Nat.reduceAdd, Nat.reduceLeDiff, Nat.reduceLT, Nat.reduceMul, Nat.reduceSub]; rfl)
  refine common_s hw hw2 ha hc ?_
  rw [thaw_frz0]
  have e1 := mm_three (k := .i64) (a := cmn w a c) (b := n) (c := k)
  simp (disch := omega) only [kB, kcx, kdm, kdn, kel, aop, resultsL, resultOf, Nat.reduceEqDiff, reduceCtorEq, eq1, apartOK, apart2, AObj.live, Int.reduceEq, Int.reduceLT, Int.reduceLE, Int.reduceAdd, Int.reduceSub, Int.reduceMul, Int.reduceToNat, cutCells, Nat.reduceAdd, Nat.reduceLeDiff, Nat.reduceLT, Nat.reduceMul, Nat.reduceSub, e1]
  exact ⟨_, rfl, ⟨_, rfl⟩, .closed rfl, h⟩

theorem cut_t {b w a n : Nat} (hb : TH H b w) (hw : 1 ≤ w) (hw2 : w ≤ 128) (hn : n ≤ w) (ha : a < 2 ^ 128) (h : R (.ret (pfv (a &&& maskN w n) n)) H) : WD T 83 [.pointer (some ⟨b, 0, none⟩), bvA a, .int .i64 n] H R := by
  refine WD.gc0 (WD.of follows t83 (by simp) ?_)
  obtain ⟨m, l, rt, wr, hb⟩ := hb
  have lb := hget_lt hb rfl
  simp (disch := omega) only [kB, kcx, kdm, kdn, kel, aop, resultsL, resultOf, Nat.reduceEqDiff, reduceCtorEq, eq1, apartOK, apart2, AObj.live, Int.reduceEq, Int.reduceLT, Int.reduceLE, Int.reduceAdd, Int.reduceSub, Int.reduceMul, Int.reduceToNat, cutCells, Nat.reduceAdd, Nat.reduceLeDiff, Nat.reduceLT, Nat.reduceMul, Nat.reduceSub, hb]
  refine mask_s hw hw2 hn ?_
  simp (disch := omega) only [kB, kcx, kdm, kdn, kel, aop, resultsL, resultOf, Nat.reduceEqDiff, reduceCtorEq, eq1, apartOK, apart2, AObj.live, Int.reduceEq, Int.reduceLT, Int.reduceLE, Int.reduceAdd, Int.reduceSub, Int.reduceMul, Int.reduceToNat, cutCells, Nat.reduceAdd, Nat.reduceLeDiff, Nat.reduceLT, Nat.reduceMul, Nat.reduceSub]
  refine and_s ha (shl_lt _ _) ?_
  simp (disch := omega) only [kB, kcx, kdm, kdn, kel, aop, resultsL, resultOf, Nat.reduceEqDiff, reduceCtorEq, eq1, apartOK, apart2, AObj.live, Int.reduceEq, Int.reduceLT, Int.reduceLE, Int.reduceAdd, Int.reduceSub, Int.reduceMul, Int.reduceToNat, cutCells, Nat.reduceAdd, Nat.reduceLeDiff, Nat.reduceLT, Nat.reduceMul, Nat.reduceSub]
  exact ⟨_, rfl, ⟨_, rfl⟩, .closed rfl, h⟩

def nodeRow (a n : Nat) (full : Bool) (v : Int) (l r : Value) : List Value :=
  [.int .u64 ((a / W64 : Nat) : Int), .int .u64 ((a % W64 : Nat) : Int), .int .i64 (n : Int), .bool full, .string (vb v), l, r]

/-- So the tree lies. -/
def TA (H : Heap) : Tr → Prop
  | .nil => True
  | .node b a n full v l r => (∃ wr, hget H b = .row (nodeRow a n full v l.ptr r.ptr) 0 wr) ∧ TA H l ∧ TA H r

theorem TA.app {G : Heap} : ∀ {t : Tr}, TA H t → TA (H ++ G) t
  | .nil, _ => trivial
  | .node b a n full v l r, ⟨⟨wr, h1⟩, h2, h3⟩ => ⟨⟨wr, by rw [hget_old (hget_lt h1 rfl)]; exact h1⟩, h2.app, h3.app⟩

def atI (w a k b : Nat) (t0 : Tr) (H : Heap) : Nat → Env → Heap → Prop := fun z e H' =>
  ∃ t : Tr, z = t.size ∧ H' = H ++ [.row [.int .u64 ((a / W64 : Nat) : Int), .int .u64 ((a % W64 : Nat) : Int), .int .i64 (k : Int)] 0 true] ∧ TA H t ∧ TW w t ∧ atT w a k t = atT w a k t0 ∧
    (∃ x : Nat → Value, e = [.pointer (some ⟨b, 0, none⟩), x 1, x 2, .pointer (some ⟨H.length, 0, none⟩), x 4, t.ptr, x 6, x 7, x 8, x 9, x 10, x 11, x 12, x 13, x 14, x 15, x 16, x 17, x 18, x 19, x 20, x 21, x 22, x 23, x 24, x 25, x 26, x 27, x 28, x 29, x 30, x 31, x 32, x 33, x 34, x 35, x 36, x 37, x 38, x 39, x 40, x 41, x 42, x 43, x 44, x 45, x 46, x 47, x 48, x 49, x 50, x 51, x 52, x 53, x 54, x 55, x 56, x 57, x 58, x 59, x 60, x 61, x 62, x 63, x 64, x 65, x 66, x 67, x 68, x 69, x 70, x 71, x 72])

/-- Behind the loop: is it just the prefix, with something? -/
theorem at_rest {w a k b : Nat} {t : Tr} (ht : TA H t) {e : Env} (hp : hget H b = .row [.int .u64 ((a / W64 : Nat) : Int), .int .u64 ((a % W64 : Nat) : Int), .int .i64 (k : Int)] 0 true) (he : (∃ x : Nat → Value, e = [x 0, x 1, x 2, .pointer (some ⟨b, 0, none⟩), x 4, t.ptr, x 6, x 7, x 8, x 9, x 10, x 11, x 12, x 13, x 14, x 15, x 16, x 17, x 18, x 19, x 20, x 21, x 22, x 23, x 24, x 25, x 26, x 27, x 28, x 29, x 30, x 31, x 32, x 33, x 34, x 35, x 36, x 37, x 38, x 39, x 40, x 41, x 42, x 43, x 44, x 45, x 46, x 47, x 48, x 49, x 50, x 51, x 52, x 53, x 54, x 55, x 56, x 57, x 58, x 59, x 60, x 61, x 62, x 63, x 64, x 65, x 66, x 67, x 68, x 69, x 70, x 71, x 72]))
    (h : R (.ret (atR a k t)) H) :
    WC T (g53.body.at [1, 1, 1, 1]) e H (retK [.tmp 4] R) := by
  obtain ⟨x, rfl⟩ := he
  simp only [AFunc.body, g53, ACode.at]
  cases t with
  | nil =>
    simp only [Tr.ptr]
    simp only [atR] at h
    simp (disch := omega) only [kB, kcx, kdm, kdn, kel, aop, resultsL, resultOf, Nat.reduceEqDiff, reduceCtorEq, eq1, apartOK, apart2, AObj.live, Int.reduceEq, Int.reduceLT, Int.reduceLE, Int.reduceAdd, Int.reduceSub, Int.reduceMul, Int.reduceToNat, cutCells, Nat.reduceAdd, Nat.reduceLeDiff, Nat.reduceLT, Nat.reduceMul, Nat.reduceSub, eqP_nn]
    exact h
  | node b1 c n full v l r =>
    obtain ⟨⟨wr, h1⟩, _, _⟩ := ht
    simp only [Tr.ptr]
    simp only [atR] at h
    by_cases q : c = a ∧ n = k
    · have e1 := eq_pf (a := c) (n := n) (c := a) (k := k)
      rw [decide_eq_true q] at e1
      cases full with
      | true =>
        simp (disch := omega) only [kB, kcx, kdm, kdn, kel, aop, resultsL, resultOf, Nat.reduceEqDiff, reduceCtorEq, eq1, apartOK, apart2, AObj.live, Int.reduceEq, Int.reduceLT, Int.reduceLE, Int.reduceAdd, Int.reduceSub, Int.reduceMul, Int.reduceToNat, cutCells, Nat.reduceAdd, Nat.reduceLeDiff, Nat.reduceLT, Nat.reduceMul, Nat.reduceSub, eqP_sn, h1, hp, nodeRow, e1]
        rw [if_pos ⟨q.1, q.2, rfl⟩] at h
        exact h
      | false =>
        simp (disch := omega) only [kB, kcx, kdm, kdn, kel, aop, resultsL, resultOf, Nat.reduceEqDiff, reduceCtorEq, eq1, apartOK, apart2, AObj.live, Int.reduceEq, Int.reduceLT, Int.reduceLE, Int.reduceAdd, Int.reduceSub, Int.reduceMul, Int.reduceToNat, cutCells, Nat.reduceAdd, Nat.reduceLeDiff, Nat.reduceLT, Nat.reduceMul, Nat.reduceSub, eqP_sn, h1, hp, nodeRow, e1]
        rw [if_neg (fun z => by cases z.2.2)] at h
        exact h
    · have e1 := eq_pf (a := c) (n := n) (c := a) (k := k)
      rw [decide_eq_false q] at e1
      simp (disch := omega) only [kB, kcx, kdm, kdn, kel, aop, resultsL, resultOf, Nat.reduceEqDiff, reduceCtorEq, eq1, apartOK, apart2, AObj.live, Int.reduceEq, Int.reduceLT, Int.reduceLE, Int.reduceAdd, Int.reduceSub, Int.reduceMul, Int.reduceToNat, cutCells, Nat.reduceAdd, Nat.reduceLeDiff, Nat.reduceLT, Nat.reduceMul, Nat.reduceSub, eqP_sn, h1, hp, nodeRow, e1]
      rw [if_neg (fun z => q ⟨z.1, z.2.1⟩)] at h
      exact h

theorem at_t {b w a : Nat} {n m l : Int} {wr : Bool} {t : Tr} (hb : hget H b = .row [.int .i64 (w : Int), .int .i64 m, .int .i64 l, t.ptr] 0 wr) (hw : 1 ≤ w) (hw2 : w ≤ 128) (ha : a < 2 ^ 128) (ht : TA H t) (htw : TW w t)
    (h : R (.ret (if rgt w a n = true then atV w a n.toNat t else .pointer none)) H) : WD T 53 [.pointer (some ⟨b, 0, none⟩), pfv a n] H R := by
  have hth : TH H b w := ⟨m, l, t.ptr, wr, hb⟩
  have lb := hget_lt hb rfl
  have key : ∀ R : FRes → Heap → Prop, R (.ret (if rgt w a n = true then atV w a n.toNat t else .pointer none)) (H ++ [.row [.int .u64 ((a / W64 : Nat) : Int), .int .u64 ((a % W64 : Nat) : Int), .int .i64 n] 0 true]) → WD T 53 [.pointer (some ⟨b, 0, none⟩), pfv a n] H R := by
    clear h
    intro R h
    obtain ⟨Z, hZ⟩ : ∃ Z, Z = WC T (g53.body.at [1, 1, 1, 1]) := ⟨_, rfl⟩
    have hrest : ∀ (k : Nat) (t : Tr) (H : Heap) (b : Nat) (e : Env), TA H t → hget H b = .row [.int .u64 ((a / W64 : Nat) : Int), .int .u64 ((a % W64 : Nat) : Int), .int .i64 (k : Int)] 0 true → (∃ x : Nat → Value, e = [x 0, x 1, x 2, .pointer (some ⟨b, 0, none⟩), x 4, t.ptr, x 6, x 7, x 8, x 9, x 10, x 11, x 12, x 13, x 14, x 15, x 16, x 17, x 18, x 19, x 20, x 21, x 22, x 23, x 24, x 25, x 26, x 27, x 28, x 29, x 30, x 31, x 32, x 33, x 34, x 35, x 36, x 37, x 38, x 39, x 40, x 41, x 42, x 43, x 44, x 45, x 46, x 47, x 48, x 49, x 50, x 51, x 52, x 53, x 54, x 55, x 56, x 57, x 58, x 59, x 60, x 61, x 62, x 63, x 64, x 65, x 66, x 67, x 68, x 69, x 70, x 71, x 72]) →
        R (.ret (atR a k t)) H → Z e H (retK [.tmp 4] R) := fun k t H b e h1 h2 he hR => by rw [hZ]; exact at_rest (w := w) h1 h2 he hR
    have hZ' := hZ.symm
    clear hZ
    simp only [AFunc.body, g53, ACode.at] at hZ'
    refine WD.of follows t53 (by simp) ?_
    simp (disch := omega) only [kB, kcx, kdm, kdn, kel, aop, resultsL, resultOf, Nat.reduceEqDiff, reduceCtorEq, eq1, apartOK, apart2, AObj.live, Int.reduceEq, Int.reduceLT, Int.reduceLE, Int.reduceAdd, Int.reduceSub, Int.reduceMul, Int.reduceToNat, cutCells, Nat.reduceAdd, Nat.reduceLeDiff, Nat.reduceLT, Nat.reduceMul, Nat.reduceSub, hZ']
    refine right_t ⟨wr, by rw [hget_old lb]; exact hb⟩ hw hw2 ha ?_
    cases hr : rgt w a n with
    | false =>
      rw [hr] at h
      simp (disch := omega) only [kB, kcx, kdm, kdn, kel, aop, resultsL, resultOf, Nat.reduceEqDiff, reduceCtorEq, eq1, apartOK, apart2, AObj.live, Int.reduceEq, Int.reduceLT, Int.reduceLE, Int.reduceAdd, Int.reduceSub, Int.reduceMul, Int.reduceToNat, cutCells, Nat.reduceAdd, Nat.reduceLeDiff, Nat.reduceLT, Nat.reduceMul, Nat.reduceSub, hZ']
      simpa using h
    | true =>
    rw [hr, if_pos rfl] at h
    have hr2 := hr
    simp only [rgt, Bool.and_eq_true, decide_eq_true_eq] at hr2
    obtain ⟨⟨⟨r1, r2⟩, r3⟩, r4⟩ := hr2
    obtain ⟨k, rfl⟩ : ∃ k : Nat, n = k := ⟨n.toNat, by omega⟩
    simp only [Int.toNat_natCast] at h r4
    have hkw : k ≤ w := by omega
    simp (disch := omega) only [kB, kcx, kdm, kdn, kel, aop, resultsL, resultOf, Nat.reduceEqDiff, reduceCtorEq, eq1, apartOK, apart2, AObj.live, Int.reduceEq, Int.reduceLT, Int.reduceLE, Int.reduceAdd, Int.reduceSub, Int.reduceMul, Int.reduceToNat, cutCells, Nat.reduceAdd, Nat.reduceLeDiff, Nat.reduceLT, Nat.reduceMul, Nat.reduceSub, hb, hZ']
    refine WLoop.inv (atI w a k b t H) ?_ t.size _ _ ⟨t, rfl, rfl, ht, htw, rfl, ex_env rfl⟩
    rintro z e H' ⟨t1, rfl, rfl, ht1, htw1, hat, ⟨x, rfl⟩⟩
    cases t1 with
    | nil =>
      simp only [Tr.ptr]
      simp (disch := omega) only [kB, kcx, kdm, kdn, kel, aop, resultsL, resultOf, Nat.reduceEqDiff, reduceCtorEq, eq1, apartOK, apart2, AObj.live, Int.reduceEq, Int.reduceLT, Int.reduceLE, Int.reduceAdd, Int.reduceSub, Int.reduceMul, Int.reduceToNat, cutCells, Nat.reduceAdd, Nat.reduceLeDiff, Nat.reduceLT, Nat.reduceMul, Nat.reduceSub, eqP_nn]
      refine hrest k .nil _ H.length _ trivial (by rw [hget_last]) (by exact ex_env rfl) ?_
      unfold atV at h
      rw [← hat] at h
      exact h
    | node b1 c k1 full v l r =>
      obtain ⟨⟨wr1, q1⟩, q2, q3⟩ := ht1
      obtain ⟨t1, t2, t3, t4, t5⟩ := htw1
      have hpn : 2 ^ w ≤ 2 ^ 128 := Nat.pow_le_pow_right (by decide) hw2
      have l1 := hget_lt q1 rfl
      simp only [Tr.ptr]
      unfold nodeRow at q1
      have fin : ∀ e, atT w a k (.node b1 c k1 full v l r) = .node b1 c k1 full v l r → (∃ x : Nat → Value, e = [x 0, x 1, x 2, .pointer (some ⟨H.length, 0, none⟩), x 4, .pointer (some ⟨b1, 0, none⟩), x 6, x 7, x 8, x 9, x 10, x 11, x 12, x 13, x 14, x 15, x 16, x 17, x 18, x 19, x 20, x 21, x 22, x 23, x 24, x 25, x 26, x 27, x 28, x 29, x 30, x 31, x 32, x 33, x 34, x 35, x 36, x 37, x 38, x 39, x 40, x 41, x 42, x 43, x 44, x 45, x 46, x 47, x 48, x 49, x 50, x 51, x 52, x 53, x 54, x 55, x 56, x 57, x 58, x 59, x 60, x 61, x 62, x 63, x 64, x 65, x 66, x 67, x 68, x 69, x 70, x 71, x 72]) → Z e (H ++ [.row [.int .u64 ((a / W64 : Nat) : Int), .int .u64 ((a % W64 : Nat) : Int), .int .i64 (k : Int)] 0 true]) (retK [.tmp 4] R) := fun e hT he => by
        refine hrest k (.node b1 c k1 full v l r) _ H.length e (TA.app ⟨⟨wr1, q1⟩, q2, q3⟩) (by rw [hget_last]) he ?_
        unfold atV at h
        rw [← hat, hT] at h
        exact h
      by_cases hlt : (k1 : Int) < (k : Int)
      case neg =>
        have hT : atT w a k (.node b1 c k1 full v l r) = .node b1 c k1 full v l r := by rw [atT, if_neg (fun q => hlt (by have := q.1; omega))]
        simp (disch := omega) only [kB, kcx, kdm, kdn, kel, aop, resultsL, resultOf, Nat.reduceEqDiff, reduceCtorEq, eq1, apartOK, apart2, AObj.live, Int.reduceEq, Int.reduceLT, Int.reduceLE, Int.reduceAdd, Int.reduceSub, Int.reduceMul, Int.reduceToNat, cutCells, Nat.reduceAdd, Nat.reduceLeDiff, Nat.reduceLT, Nat.reduceMul, Nat.reduceSub, eqP_sn, q1, hlt]
        exact fin _ hT (by exact ex_env rfl)
      simp (disch := omega) only [kB, kcx, kdm, kdn, kel, aop, resultsL, resultOf, Nat.reduceEqDiff, reduceCtorEq, eq1, apartOK, apart2, AObj.live, Int.reduceEq, Int.reduceLT, Int.reduceLE, Int.reduceAdd, Int.reduceSub, Int.reduceMul, Int.reduceToNat, cutCells, Nat.reduceAdd, Nat.reduceLeDiff, Nat.reduceLT, Nat.reduceMul, Nat.reduceSub, eqP_sn, q1, hlt]
      refine WV.of (fun c hc => ?_) ?_
      · simp only [List.mem_cons, List.not_mem_nil, or_false] at hc
        subst hc
        rw [hget_old l1, q1]
        rfl
      refine common_t (hth.app.frz _) hw hw2 t2 r3 ?_
      rw [thaw_frz0]
      by_cases hcm : ((cmp w c k1 a k : Nat) : Int) = (k1 : Int)
      case neg =>
        have hT : atT w a k (.node b1 c k1 full v l r) = .node b1 c k1 full v l r := by rw [atT, if_neg (fun q => hcm (by have := q.2; omega))]
        simp (disch := omega) only [kB, kcx, kdm, kdn, kel, aop, resultsL, resultOf, Nat.reduceEqDiff, reduceCtorEq, eq1, apartOK, apart2, AObj.live, Int.reduceEq, Int.reduceLT, Int.reduceLE, Int.reduceAdd, Int.reduceSub, Int.reduceMul, Int.reduceToNat, cutCells, Nat.reduceAdd, Nat.reduceLeDiff, Nat.reduceLT, Nat.reduceMul, Nat.reduceSub, eqP_sn, q1, hcm]
        exact fin _ hT (by exact ex_env rfl)
      simp (disch := omega) only [kB, kcx, kdm, kdn, kel, aop, resultsL, resultOf, Nat.reduceEqDiff, reduceCtorEq, eq1, apartOK, apart2, AObj.live, Int.reduceEq, Int.reduceLT, Int.reduceLE, Int.reduceAdd, Int.reduceSub, Int.reduceMul, Int.reduceToNat, cutCells, Nat.reduceAdd, Nat.reduceLeDiff, Nat.reduceLT, Nat.reduceMul, Nat.reduceSub, eqP_sn, q1, hcm]
      refine side_t hth.app hw hw2 (by omega) ha ?_
      have hT : atT w a k (.node b1 c k1 full v l r) = if sideN w a k1 = 0 then atT w a k l else atT w a k r := by rw [atT, if_pos ⟨by omega, by omega⟩]
      by_cases hs : sideN w a k1 = 0
      · have hs2 : ((sideN w a k1 : Nat) : Int) = 0 := by omega
        have c02 : ((0 : Nat) : Int) < ((2 : Nat) : Int) := by decide
        simp (disch := omega) only [kB, kcx, kdm, kdn, kel, aop, resultsL, resultOf, Nat.reduceEqDiff, reduceCtorEq, eq1, apartOK, apart2, AObj.live, Int.reduceEq, Int.reduceLT, Int.reduceLE, Int.reduceAdd, Int.reduceSub, Int.reduceMul, Int.reduceToNat, cutCells, Nat.reduceAdd, Nat.reduceLeDiff, Nat.reduceLT, Nat.reduceMul, Nat.reduceSub, q1, hs, hs2, c02]
        rw [if_pos hs] at hT
        exact ⟨l.size, by simp only [Tr.size]; omega, l, rfl, rfl, q2, t4, by rw [← hat, hT], ex_env rfl⟩
      · have hs1 : sideN w a k1 = 1 := by unfold sideN at hs ⊢; split <;> simp_all
        have hs2 : ((sideN w a k1 : Nat) : Int) = 1 := by omega
        have c12 : ((1 : Nat) : Int) < ((2 : Nat) : Int) := by decide
        simp (disch := omega) only [kB, kcx, kdm, kdn, kel, aop, resultsL, resultOf, Nat.reduceEqDiff, reduceCtorEq, eq1, apartOK, apart2, AObj.live, Int.reduceEq, Int.reduceLT, Int.reduceLE, Int.reduceAdd, Int.reduceSub, Int.reduceMul, Int.reduceToNat, cutCells, Nat.reduceAdd, Nat.reduceLeDiff, Nat.reduceLT, Nat.reduceMul, Nat.reduceSub, q1, hs1, hs2, c12]
        rw [if_neg hs] at hT
        exact ⟨r.size, by simp only [Tr.size]; omega, r, rfl, rfl, q3, t5, by rw [← hat, hT], ex_env rfl⟩
  refine WD.gc0 (key _ ⟨_, rfl, ⟨_, rfl⟩, ?_, h⟩)
  split
  · unfold atV atR
    have hsc : ∀ t : Tr, TA H t → Scoped H.length t.ptr := fun t ht => by
      cases t with
      | nil => exact .ptrNil
      | node b1 c k1 full v l r => obtain ⟨⟨wr1, q1⟩, _, _⟩ := ht; exact .ptr (hget_lt q1 rfl)
    have hta : ∀ t : Tr, TA H t → TA H (atT w a n.toNat t) := fun t ht => by
      induction t with
      | nil => exact trivial
      | node b1 c k1 full v l r ihl ihr =>
        rw [atT]
        split
        · split
          · exact ihl ht.2.1
          · exact ihr ht.2.2
        · exact ht
    have := hsc _ (hta t ht)
    generalize atT w a n.toNat t = t1 at this
    cases t1 with
    | nil => exact .ptrNil
    | node b1 c k1 full v l r =>
      simp only
      split
      · exact this
      · exact .ptrNil
  · exact .ptrNil

/-- So the tree lies, all of it to be written. -/
def TAw (H : Heap) : Tr → Prop
  | .nil => True
  | .node b a n full v l r => hget H b = .row (nodeRow a n full v l.ptr r.ptr) 0 true ∧ TAw H l ∧ TAw H r

theorem TAw.ta : ∀ {t : Tr}, TAw H t → TA H t
  | .nil, _ => trivial
  | .node b a n full v l r, ⟨h1, h2, h3⟩ => ⟨⟨true, h1⟩, h2.ta, h3.ta⟩

theorem TAw.lt : ∀ {t : Tr}, TAw H t → ∀ c ∈ t.blocks, c < H.length
  | .nil, _, c, hc => by cases hc
  | .node b a n full v l r, ⟨h1, h2, h3⟩, c, hc => by
    rcases List.mem_cons.1 hc with rfl | hc
    · exact hget_lt h1 rfl
    · rcases List.mem_append.1 hc with hc | hc
      · exact h2.lt c hc
      · exact h3.lt c hc

theorem TAw.same {H' : Heap} : ∀ {t : Tr}, TAw H t → (∀ c ∈ t.blocks, hget H' c = hget H c) → TAw H' t
  | .nil, _, _ => trivial
  | .node b a n full v l r, ⟨h1, h2, h3⟩, h => ⟨(h b (by simp [Tr.blocks])).trans h1, h2.same fun c hc => h c (by simp [Tr.blocks, hc]), h3.same fun c hc => h c (by simp [Tr.blocks, hc])⟩

theorem TAw.app {G : Heap} {t : Tr} (h : TAw H t) : TAw (H ++ G) t := h.same fun c hc => hget_old (h.lt c hc)

/-- What with leaves. -/
structure WPost (H : Heap) (t : Tr) (H' : Heap) (t' : Tr) : Prop where
  len : H.length ≤ H'.length
  frame : ∀ c, c < H.length → c ∉ t.blocks → hget H' c = hget H c
  lies : TAw H' t'
  nd : t'.blocks.Nodup
  own : ∀ c ∈ t'.blocks, c ∈ t.blocks ∨ H.length ≤ c

theorem kid_post {H1 g : Heap} {x x' y : Tr} {b1 : Nat} {o : AObj} (hx : WPost (H ++ g) x H1 x') (hb1 : b1 < H.length) (n1 : b1 ∉ x.blocks) (n2 : b1 ∉ y.blocks) (hy : TAw H y) (dxy : ∀ c ∈ x.blocks, c ∉ y.blocks) :
    H.length ≤ (H1.set b1 o).length ∧ (∀ c, c < H.length → c ≠ b1 → c ∉ x.blocks → hget (H1.set b1 o) c = hget H c) ∧ TAw (H1.set b1 o) x' ∧ TAw (H1.set b1 o) y ∧ hget (H1.set b1 o) b1 = o ∧ b1 ∉ x'.blocks ∧
      (∀ c ∈ x'.blocks, c ∉ y.blocks) ∧ (∀ c ∈ x'.blocks, c ∈ x.blocks ∨ H.length ≤ c) := by
  have hl : H.length ≤ H1.length := by have := hx.len; simp at this; omega
  have hown : ∀ c ∈ x'.blocks, c ∈ x.blocks ∨ H.length ≤ c := fun c hc => by
    rcases hx.own c hc with q | q
    · exact .inl q
    · right; simp at q; omega
  have hfr : ∀ c, c < H.length → c ∉ x.blocks → hget H1 c = hget H c := fun c hc hn => (hx.frame c (by simp; omega) hn).trans (hget_old hc)
  have hb' : b1 ∉ x'.blocks := fun q => by
    rcases hown b1 q with q | q
    · exact n1 q
    · omega
  refine ⟨by simpa using hl, fun c hc hne hn => by rw [hget_ne (Ne.symm hne)]; exact hfr c hc hn, hx.lies.same fun c hc => hget_ne (fun q => hb' (by rw [q]; exact hc)), ?_, hget_set' (by omega), hb', fun c hc hcy => ?_, hown⟩
  · refine hy.same fun c hc => ?_
    rw [hget_ne (fun q => n2 (by rw [q]; exact hc))]
    exact hfr c (hy.lt c hc) fun q => dxy c q hc
  · rcases hown c hc with q | q
    · exact dxy c q hcy
    · have := hy.lt c hcy; omega

/-- Two new blocks over an old tree. -/
theorem up_post {t : Tr} (ht : TAw H t) (hnd : t.blocks.Nodup) {o : AObj} {a m : Nat} {f : Bool} {v : Int} {x y : Tr} (h : (x = t ∧ y = .nil) ∨ (x = .nil ∧ y = t)) :
    WPost H t (H ++ [o, .row (nodeRow a m f v x.ptr y.ptr) 0 true]) (.node (H.length + 1) a m f v x y) := by
  have hbl : ∀ c, c ∈ x.blocks ++ y.blocks ↔ c ∈ t.blocks := by
    rcases h with ⟨rfl, rfl⟩ | ⟨rfl, rfl⟩ <;> simp [Tr.blocks]
  refine ⟨by simp, fun c hc _ => hget_old hc, ⟨by rw [hget_base]; rfl, ?_, ?_⟩, ?_, fun c hc => ?_⟩
  · rcases h with ⟨rfl, rfl⟩ | ⟨rfl, rfl⟩
    · exact ht.app
    · exact trivial
  · rcases h with ⟨rfl, rfl⟩ | ⟨rfl, rfl⟩
    · exact trivial
    · exact ht.app
  · simp only [Tr.blocks, List.nodup_cons]
    refine ⟨fun q => ?_, ?_⟩
    · have := ht.lt _ ((hbl _).1 q); omega
    · rcases h with ⟨rfl, rfl⟩ | ⟨rfl, rfl⟩ <;> simpa [Tr.blocks] using hnd
  · simp only [Tr.blocks, List.mem_cons] at hc
    rcases hc with rfl | hc
    · right; omega
    · exact .inl ((hbl c).1 hc)

theorem fork_post {t : Tr} (ht : TAw H t) (hnd : t.blocks.Nodup) {o : AObj} {a m a2 k2 : Nat} {f : Bool} {v v2 : Int} {x y : Tr}
    (h : (x = t ∧ y = .node (H.length + 2) a2 k2 true v2 .nil .nil) ∨ (x = .node (H.length + 2) a2 k2 true v2 .nil .nil ∧ y = t)) :
    WPost H t (H ++ [o, .row (nodeRow a m f v x.ptr y.ptr) 0 true, .row (nodeRow a2 k2 true v2 (.pointer none) (.pointer none)) 0 true]) (.node (H.length + 1) a m f v x y) := by
  have hleaf : TAw (H ++ [o, AObj.row (nodeRow a m f v x.ptr y.ptr) 0 true, .row (nodeRow a2 k2 true v2 (.pointer none) (.pointer none)) 0 true]) (.node (H.length + 2) a2 k2 true v2 .nil .nil) := ⟨by rw [hget_base]; rfl, trivial, trivial⟩
  have hbl : ∀ c, c ∈ x.blocks ++ y.blocks ↔ c ∈ t.blocks ∨ c = H.length + 2 := fun c => by
    rcases h with ⟨rfl, rfl⟩ | ⟨rfl, rfl⟩
    · simp [Tr.blocks]
    · simp [Tr.blocks, or_comm]
  have hnew : H.length + 2 ∉ t.blocks := fun q => by have := ht.lt _ q; omega
  refine ⟨by simp, fun c hc _ => hget_old hc, ⟨by rw [hget_base]; rfl, ?_, ?_⟩, ?_, fun c hc => ?_⟩
  · rcases h with ⟨rfl, rfl⟩ | ⟨rfl, rfl⟩
    · exact ht.app
    · exact hleaf
  · rcases h with ⟨rfl, rfl⟩ | ⟨rfl, rfl⟩
    · exact hleaf
    · exact ht.app
  · simp only [Tr.blocks, List.nodup_cons]
    refine ⟨fun q => ?_, ?_⟩
    · rcases (hbl _).1 q with q | q
      · have := ht.lt _ q; omega
      · omega
    · rcases h with ⟨rfl, rfl⟩ | ⟨rfl, rfl⟩
      · simp only [Tr.blocks, List.append_nil]
        rw [List.nodup_append]
        refine ⟨hnd, by simp, fun c hc d hd q => ?_⟩
        simp at hd
        subst hd; subst q
        exact hnew hc
      · simp only [Tr.blocks, List.append_nil, List.cons_append, List.nil_append, List.nodup_cons]
        exact ⟨hnew, hnd⟩
  · simp only [Tr.blocks, List.mem_cons] at hc
    rcases hc with rfl | hc
    · right; omega
    · rcases (hbl c).1 hc with q | q
      · exact .inl q
      · right; omega

theorem with_t {b w a k : Nat} {v : Int} (hw : 1 ≤ w) (hw2 : w ≤ 128) (ha : a < 2 ^ w) (hk : k ≤ w) : ∀ (t : Tr) (H : Heap) (R : FRes → Heap → Prop), TH H b w → b ∉ t.blocks → TAw H t → TW w t → t.blocks.Nodup →
    (∀ t' H', WPost H t H' t' → t'.er = withP w a k v t.er → R (.ret t'.ptr) H') → WD T 54 [.pointer (some ⟨b, 0, none⟩), t.ptr, pfv a k, .string (vb v)] H R := by
  have hpn : 2 ^ w ≤ 2 ^ 128 := Nat.pow_le_pow_right (by decide) hw2
  have c02 : ((0 : Nat) : Int) < ((2 : Nat) : Int) := by decide
  have c12 : ((1 : Nat) : Int) < ((2 : Nat) : Int) := by decide
  intro t
  induction t with
  | nil =>
    intro H R hb _ _ _ _ h
    simp only [Tr.ptr]
    refine WD.of follows t54 (by simp) ?_
    simp (disch := omega) only [kB, kcx, kdm, kdn, kel, aop, resultsL, resultOf, Nat.reduceEqDiff, reduceCtorEq, eq1, apartOK, apart2, AObj.live, Int.reduceEq, Int.reduceLT, Int.reduceLE, Int.reduceAdd, Int.reduceSub, Int.reduceMul, Int.reduceToNat, cutCells, Nat.reduceAdd, Nat.reduceLeDiff, Nat.reduceLT, Nat.reduceMul, Nat.reduceSub, eqP_nn]
    refine h (.node (H.length + 1) a k true v .nil .nil) _ ⟨by simp, fun c hc _ => hget_old hc, ⟨by rw [hget_base]; rfl, trivial, trivial⟩, by simp [Tr.blocks], fun c hc => ?_⟩ rfl
    simp only [Tr.blocks, List.append_nil, List.mem_cons, List.not_mem_nil, or_false] at hc
    omega
  | node b1 c n full u l r ihl ihr =>
    intro H R hb hbn ht htw hnd h
    obtain ⟨q1, q2, q3⟩ := ht
    obtain ⟨t1, t2, t3, t4, t5⟩ := htw
    have l1 := hget_lt q1 rfl
    simp only [Tr.ptr]
    unfold nodeRow at q1
    refine WD.of follows t54 (by simp) ?_
    simp (disch := omega) only [kB, kcx, kdm, kdn, kel, aop, resultsL, resultOf, Nat.reduceEqDiff, reduceCtorEq, eq1, apartOK, apart2, AObj.live, Int.reduceEq, Int.reduceLT, Int.reduceLE, Int.reduceAdd, Int.reduceSub, Int.reduceMul, Int.reduceToNat, cutCells, Nat.reduceAdd, Nat.reduceLeDiff, Nat.reduceLT, Nat.reduceMul, Nat.reduceSub, eqP_sn, q1]
    refine common_t hb.app hw hw2 t2 ha ?_
    have hcm : cmp w c n a k ≤ n ∧ cmp w c n a k ≤ k := by unfold cmp; omega
    simp only [Tr.blocks, List.nodup_cons, List.mem_append, not_or, List.nodup_append] at hnd
    obtain ⟨⟨d1, d2⟩, d3, d4, d5⟩ := hnd
    simp only [Tr.blocks, List.mem_cons, List.mem_append, not_or] at hbn
    generalize hm : cmp w c n a k = m at *
    have hnb1 : b ≠ b1 := hbn.1
    by_cases m1 : (m : Int) = (n : Int)
    · have m1n : m = n := by omega
      by_cases m2 : (m : Int) = (k : Int)
      · have e1 : ((n : Int) = (k : Int)) = True := eq_true (m1.symm.trans m2)
        simp (disch := omega) only [kB, kcx, kdm, kdn, kel, aop, resultsL, resultOf, Nat.reduceEqDiff, reduceCtorEq, eq1, apartOK, apart2, AObj.live, Int.reduceEq, Int.reduceLT, Int.reduceLE, Int.reduceAdd, Int.reduceSub, Int.reduceMul, Int.reduceToNat, cutCells, Nat.reduceAdd, Nat.reduceLeDiff, Nat.reduceLT, Nat.reduceMul, Nat.reduceSub, eqP_sn, q1, m1, e1, hget_oldS, hget_set', set_oldS, List.set_set]
        refine h (.node b1 c n true v l r) _ ⟨by simp, fun x hx hn => ?_, ⟨?_, ?_, ?_⟩, ?_, fun x hx => .inl hx⟩ ?_
        · simp only [Tr.blocks, List.mem_cons, not_or] at hn
          rw [hget_oldS hx, hget_ne (Ne.symm hn.1)]
        · rw [hget_oldS l1, hget_set' l1]
          rfl
        · exact q2.same fun x hx => by rw [hget_oldS (q2.lt x hx), hget_ne (fun q => d1 (by rw [q]; exact hx))]
        · exact q3.same fun x hx => by rw [hget_oldS (q3.lt x hx), hget_ne (fun q => d2 (by rw [q]; exact hx))]
        · simp only [Tr.blocks, List.nodup_cons, List.mem_append, not_or, List.nodup_append]
          exact ⟨⟨d1, d2⟩, d3, d4, d5⟩
        · simp only [Tr.er, withP, hm]
          rw [if_pos ⟨m1n, by omega⟩]
      · have m3 : ¬ (n : Int) = (k : Int) := fun q => m2 (m1.trans q)
        simp (disch := omega) only [kB, kcx, kdm, kdn, kel, aop, resultsL, resultOf, Nat.reduceEqDiff, reduceCtorEq, eq1, apartOK, apart2, AObj.live, Int.reduceEq, Int.reduceLT, Int.reduceLE, Int.reduceAdd, Int.reduceSub, Int.reduceMul, Int.reduceToNat, cutCells, Nat.reduceAdd, Nat.reduceLeDiff, Nat.reduceLT, Nat.reduceMul, Nat.reduceSub, eqP_sn, q1, m1, m3]
        refine side_t hb.app hw hw2 (by omega) (by omega) ?_
        rcases sideN_two w a n with hs | hs
        · have hs2 : ((sideN w a n : Nat) : Int) = 0 := by omega
          simp (disch := omega) only [kB, kcx, kdm, kdn, kel, aop, resultsL, resultOf, Nat.reduceEqDiff, reduceCtorEq, eq1, apartOK, apart2, AObj.live, Int.reduceEq, Int.reduceLT, Int.reduceLE, Int.reduceAdd, Int.reduceSub, Int.reduceMul, Int.reduceToNat, cutCells, Nat.reduceAdd, Nat.reduceLeDiff, Nat.reduceLT, Nat.reduceMul, Nat.reduceSub, eqP_sn, q1, m1, hs, hs2, c02]
          refine ihl _ _ hb.app hbn.2.1 q2.app t4 d3 fun t' H1 hp her => ?_
          have lh := hp.len
          simp only [List.length_append, List.length_cons, List.length_nil] at lh
          have h1 : hget H1 b1 = .row [.int .u64 ((c / W64 : Nat) : Int), .int .u64 ((c % W64 : Nat) : Int), .int .i64 (n : Int), .bool full, .string (vb u), l.ptr, r.ptr] 0 true := by
            rw [hp.frame b1 (by simp; omega) d1, hget_old l1]; exact q1
          have lh1 : b1 < H1.length := by omega
          simp (disch := omega) only [kB, kcx, kdm, kdn, kel, aop, resultsL, resultOf, Nat.reduceEqDiff, reduceCtorEq, eq1, apartOK, apart2, AObj.live, Int.reduceEq, Int.reduceLT, Int.reduceLE, Int.reduceAdd, Int.reduceSub, Int.reduceMul, Int.reduceToNat, cutCells, Nat.reduceAdd, Nat.reduceLeDiff, Nat.reduceLT, Nat.reduceMul, Nat.reduceSub, eqP_sn, h1, hs, c02, cof_tr, one_tr]
          obtain ⟨p1, p2, p3, p4, p5, p6, p7, p8⟩ := kid_post (o := .row (nodeRow c n full u t'.ptr r.ptr) 0 true) hp l1 d1 d2 q3 (fun x hx hy => d5 x hx x hy rfl)
          refine h (.node b1 c n full u t' r) _ ⟨p1, fun x hx hn => ?_, ⟨p5, p3, p4⟩, ?_, fun x hx => ?_⟩ ?_
          · simp only [Tr.blocks, List.mem_cons, List.mem_append, not_or] at hn
            exact p2 x hx hn.1 hn.2.1
          · simp only [Tr.blocks, List.nodup_cons, List.mem_append, not_or, List.nodup_append]
            exact ⟨⟨p6, d2⟩, hp.nd, d4, fun x hx y hy q => p7 x hx (by rw [q]; exact hy)⟩
          · simp only [Tr.blocks, List.mem_cons, List.mem_append] at hx ⊢
            rcases hx with hx | hx | hx
            · exact .inl (.inl hx)
            · exact (p8 x hx).imp (fun q => .inr (.inl q)) id
            · exact .inl (.inr (.inr hx))
          · simp only [Tr.er, withP, hm, her]
            rw [if_neg (fun q => m2 (by have := q.2; omega)), if_pos m1n, if_pos hs]
        · have hs2 : ((sideN w a n : Nat) : Int) = 1 := by omega
          simp (disch := omega) only [kB, kcx, kdm, kdn, kel, aop, resultsL, resultOf, Nat.reduceEqDiff, reduceCtorEq, eq1, apartOK, apart2, AObj.live, Int.reduceEq, Int.reduceLT, Int.reduceLE, Int.reduceAdd, Int.reduceSub, Int.reduceMul, Int.reduceToNat, cutCells, Nat.reduceAdd, Nat.reduceLeDiff, Nat.reduceLT, Nat.reduceMul, Nat.reduceSub, eqP_sn, q1, m1, hs, hs2, c12]
          refine ihr _ _ hb.app hbn.2.2 q3.app t5 d4 fun t' H1 hp her => ?_
          have lh := hp.len
          simp only [List.length_append, List.length_cons, List.length_nil] at lh
          have h1 : hget H1 b1 = .row [.int .u64 ((c / W64 : Nat) : Int), .int .u64 ((c % W64 : Nat) : Int), .int .i64 (n : Int), .bool full, .string (vb u), l.ptr, r.ptr] 0 true := by
            rw [hp.frame b1 (by simp; omega) d2, hget_old l1]; exact q1
          have lh1 : b1 < H1.length := by omega
          simp (disch := omega) only [kB, kcx, kdm, kdn, kel, aop, resultsL, resultOf, Nat.reduceEqDiff, reduceCtorEq, eq1, apartOK, apart2, AObj.live, Int.reduceEq, Int.reduceLT, Int.reduceLE, Int.reduceAdd, Int.reduceSub, Int.reduceMul, Int.reduceToNat, cutCells, Nat.reduceAdd, Nat.reduceLeDiff, Nat.reduceLT, Nat.reduceMul, Nat.reduceSub, eqP_sn, h1, hs, c12, cof_tr, one_tr]
          obtain ⟨p1, p2, p3, p4, p5, p6, p7, p8⟩ := kid_post (o := .row (nodeRow c n full u l.ptr t'.ptr) 0 true) hp l1 d2 d1 q2 (fun x hx hy => d5 x hy x hx rfl)
          refine h (.node b1 c n full u l t') _ ⟨p1, fun x hx hn => ?_, ⟨p5, p4, p3⟩, ?_, fun x hx => ?_⟩ ?_
          · simp only [Tr.blocks, List.mem_cons, List.mem_append, not_or] at hn
            exact p2 x hx hn.1 hn.2.2
          · simp only [Tr.blocks, List.nodup_cons, List.mem_append, not_or, List.nodup_append]
            exact ⟨⟨d1, p6⟩, d3, hp.nd, fun x hx y hy q => p7 y hy (by rw [← q]; exact hx)⟩
          · simp only [Tr.blocks, List.mem_cons, List.mem_append] at hx ⊢
            rcases hx with hx | hx | hx
            · exact .inl (.inl hx)
            · exact .inl (.inr (.inl hx))
            · exact (p8 x hx).imp (fun q => .inr (.inr q)) id
          · have hs0 : ¬ sideN w a n = 0 := by omega
            simp only [Tr.er, withP, hm, her]
            rw [if_neg (fun q => m2 (by have := q.2; omega)), if_pos m1n, if_neg hs0]
    · have m1n : ¬ m = n := fun q => m1 (by omega)
      simp (disch := omega) only [kB, kcx, kdm, kdn, kel, aop, resultsL, resultOf, Nat.reduceEqDiff, reduceCtorEq, eq1, apartOK, apart2, AObj.live, Int.reduceEq, Int.reduceLT, Int.reduceLE, Int.reduceAdd, Int.reduceSub, Int.reduceMul, Int.reduceToNat, cutCells, Nat.reduceAdd, Nat.reduceLeDiff, Nat.reduceLT, Nat.reduceMul, Nat.reduceSub, eqP_sn, q1, m1]
      refine cut_t hb.app hw hw2 (by omega) (by omega) ?_
      simp (disch := omega) only [kB, kcx, kdm, kdn, kel, aop, resultsL, resultOf, Nat.reduceEqDiff, reduceCtorEq, eq1, apartOK, apart2, AObj.live, Int.reduceEq, Int.reduceLT, Int.reduceLE, Int.reduceAdd, Int.reduceSub, Int.reduceMul, Int.reduceToNat, cutCells, Nat.reduceAdd, Nat.reduceLeDiff, Nat.reduceLT, Nat.reduceMul, Nat.reduceSub, q1]
      refine side_t hb.app hw hw2 (by omega) (by omega) ?_
      have hnd0 : (Tr.node b1 c n full u l r).blocks.Nodup := by
        simp only [Tr.blocks, List.nodup_cons, List.mem_append, not_or, List.nodup_append]
        exact ⟨⟨d1, d2⟩, d3, d4, d5⟩
      have ht0 : TAw H (.node b1 c n full u l r) := ⟨q1, q2, q3⟩
      rcases sideN_two w c m with s1 | s1
      · have s1' : ((sideN w c m : Nat) : Int) = 0 := by omega
        by_cases m2 : (m : Int) = (k : Int)
        · have e1 : ((m : Int) = (k : Int)) = True := eq_true m2
          simp (disch := omega) only [kB, kcx, kdm, kdn, kel, aop, resultsL, resultOf, Nat.reduceEqDiff, reduceCtorEq, eq1, apartOK, apart2, AObj.live, Int.reduceEq, Int.reduceLT, Int.reduceLE, Int.reduceAdd, Int.reduceSub, Int.reduceMul, Int.reduceToNat, cutCells, Nat.reduceAdd, Nat.reduceLeDiff, Nat.reduceLT, Nat.reduceMul, Nat.reduceSub, s1, s1', c02, e1]
          refine h _ _ (up_post ht0 hnd0 (x := .node b1 c n full u l r) (y := .nil) (.inl ⟨rfl, rfl⟩)) ?_
          simp only [Tr.er, withP, hm, s1, setK, if_true]
          rw [if_neg (fun q => m1n q.1), if_neg m1n, if_pos (by omega)]
        · simp (disch := omega) only [kB, kcx, kdm, kdn, kel, aop, resultsL, resultOf, Nat.reduceEqDiff, reduceCtorEq, eq1, apartOK, apart2, AObj.live, Int.reduceEq, Int.reduceLT, Int.reduceLE, Int.reduceAdd, Int.reduceSub, Int.reduceMul, Int.reduceToNat, cutCells, Nat.reduceAdd, Nat.reduceLeDiff, Nat.reduceLT, Nat.reduceMul, Nat.reduceSub, s1, s1', c02, m2]
          refine WV.of (fun x hx => ?_) ?_
          · simp only [List.mem_cons, List.not_mem_nil, or_false] at hx
            subst hx
            simp (disch := omega) only [kB, kcx, kdm, kdn, kel, aop, resultsL, resultOf, Nat.reduceEqDiff, reduceCtorEq, eq1, apartOK, apart2, AObj.live, Int.reduceEq, Int.reduceLT, Int.reduceLE, Int.reduceAdd, Int.reduceSub, Int.reduceMul, Int.reduceToNat, cutCells, Nat.reduceAdd, Nat.reduceLeDiff, Nat.reduceLT, Nat.reduceMul, Nat.reduceSub]
            rfl
          refine side_t (hb.app.frz _) hw hw2 (by omega) (by omega) ?_
          rw [thaw_frz0]
          rcases sideN_two w a m with s2 | s2
          · exact absurd (s1.trans s2.symm) (side_ne t2 ha t1 hm m1n (fun q => m2 (by omega)))
          · have s2' : ((sideN w a m : Nat) : Int) = 1 := by omega
            simp (disch := omega) only [kB, kcx, kdm, kdn, kel, aop, resultsL, resultOf, Nat.reduceEqDiff, reduceCtorEq, eq1, apartOK, apart2, AObj.live, Int.reduceEq, Int.reduceLT, Int.reduceLE, Int.reduceAdd, Int.reduceSub, Int.reduceMul, Int.reduceToNat, cutCells, Nat.reduceAdd, Nat.reduceLeDiff, Nat.reduceLT, Nat.reduceMul, Nat.reduceSub, s1, s2, s2', c12]
            refine h _ _ (fork_post ht0 hnd0 (v := 0) (x := .node b1 c n full u l r) (.inl ⟨rfl, rfl⟩)) ?_
            simp only [Tr.er, withP, hm, s1, s2, setK, if_true]
            rw [if_neg (fun q => m1n q.1), if_neg m1n, if_neg (by omega)]
            simp
      · have s1' : ((sideN w c m : Nat) : Int) = 1 := by omega
        have s10 : ¬ sideN w c m = 0 := by omega
        by_cases m2 : (m : Int) = (k : Int)
        · have e1 : ((m : Int) = (k : Int)) = True := eq_true m2
          simp (disch := omega) only [kB, kcx, kdm, kdn, kel, aop, resultsL, resultOf, Nat.reduceEqDiff, reduceCtorEq, eq1, apartOK, apart2, AObj.live, Int.reduceEq, Int.reduceLT, Int.reduceLE, Int.reduceAdd, Int.reduceSub, Int.reduceMul, Int.reduceToNat, cutCells, Nat.reduceAdd, Nat.reduceLeDiff, Nat.reduceLT, Nat.reduceMul, Nat.reduceSub, s1, s1', c12, e1]
          refine h _ _ (up_post ht0 hnd0 (x := .nil) (y := .node b1 c n full u l r) (.inr ⟨rfl, rfl⟩)) ?_
          simp only [Tr.er, withP, hm, s10, setK, if_false]
          rw [if_neg (fun q => m1n q.1), if_neg m1n, if_pos (by omega)]
        · simp (disch := omega) only [kB, kcx, kdm, kdn, kel, aop, resultsL, resultOf, Nat.reduceEqDiff, reduceCtorEq, eq1, apartOK, apart2, AObj.live, Int.reduceEq, Int.reduceLT, Int.reduceLE, Int.reduceAdd, Int.reduceSub, Int.reduceMul, Int.reduceToNat, cutCells, Nat.reduceAdd, Nat.reduceLeDiff, Nat.reduceLT, Nat.reduceMul, Nat.reduceSub, s1, s1', c12, m2]
          refine WV.of (fun x hx => ?_) ?_
          · simp only [List.mem_cons, List.not_mem_nil, or_false] at hx
            subst hx
            simp (disch := omega) only [kB, kcx, kdm, kdn, kel, aop, resultsL, resultOf, Nat.reduceEqDiff, reduceCtorEq, eq1, apartOK, apart2, AObj.live, Int.reduceEq, Int.reduceLT, Int.reduceLE, Int.reduceAdd, Int.reduceSub, Int.reduceMul, Int.reduceToNat, cutCells, Nat.reduceAdd, Nat.reduceLeDiff, Nat.reduceLT, Nat.reduceMul, Nat.reduceSub]
            rfl
          refine side_t (hb.app.frz _) hw hw2 (by omega) (by omega) ?_
          rw [thaw_frz0]
          rcases sideN_two w a m with s2 | s2
          · have s2' : ((sideN w a m : Nat) : Int) = 0 := by omega
            simp (disch := omega) only [kB, kcx, kdm, kdn, kel, aop, resultsL, resultOf, Nat.reduceEqDiff, reduceCtorEq, eq1, apartOK, apart2, AObj.live, Int.reduceEq, Int.reduceLT, Int.reduceLE, Int.reduceAdd, Int.reduceSub, Int.reduceMul, Int.reduceToNat, cutCells, Nat.reduceAdd, Nat.reduceLeDiff, Nat.reduceLT, Nat.reduceMul, Nat.reduceSub, s1, s2, s2', c02]
            refine h _ _ (fork_post ht0 hnd0 (v := 0) (y := .node b1 c n full u l r) (.inr ⟨rfl, rfl⟩)) ?_
            simp only [Tr.er, withP, hm, s10, s2, setK, if_true, if_false]
            rw [if_neg (fun q => m1n q.1), if_neg m1n, if_neg (by omega)]
          · exact absurd (s1.trans s2.symm) (side_ne t2 ha t1 hm m1n (fun q => m2 (by omega)))

/-- A trie in memory. -/
structure TI (H : Heap) (b w : Nat) (m l : Int) (t : Tr) : Prop where
  hd : hget H b = .row [.int .i64 (w : Int), .int .i64 m, .int .i64 l, t.ptr] 0 true
  nb : b ∉ t.blocks
  lies : TAw H t
  ok : TW w t
  nd : t.blocks.Nodup

theorem put_t {b w a : Nat} {m l n v : Int} {t : Tr} (I : TI H b w m l t) (hw : 1 ≤ w) (hw2 : w ≤ 128) (ha : a < 2 ^ 128) (hl : -9223372036854775808 ≤ l ∧ l < 9223372036854775807)
    (h1 : rgt w a n = false → ∀ g, R (.ret (.int .i64 111)) (H ++ g))
    (h2 : rgt w a n = true → atV w a n.toNat t ≠ .pointer none → ∀ g, R (.ret (.int .i64 121)) (H ++ g))
    (h3 : rgt w a n = true → atV w a n.toNat t = .pointer none → m ≤ l → ∀ g, R (.ret (.int .i64 120)) (H ++ g))
    (h4 : rgt w a n = true → atV w a n.toNat t = .pointer none → l < m → ∀ t' H', H.length ≤ H'.length → (∀ c, c < H.length → c ≠ b → c ∉ t.blocks → hget H' c = hget H c) → TI H' b w m (l + 1) t' → (∀ c ∈ t'.blocks, c ∈ t.blocks ∨ H.length ≤ c) → t'.er = withP w a n.toNat v t.er → R (.ret (.int .i64 0)) H') :
    WD T 21 [.pointer (some ⟨b, 0, none⟩), pfv a n, .string (vb v)] H R := by
  obtain ⟨hd, nb, lies, ok, nd⟩ := I
  have lb := hget_lt hd rfl
  have hth : TH H b w := ⟨m, l, t.ptr, true, hd⟩
  refine WD.of follows t21 (by simp) ?_
  simp (disch := omega) only [kB, kcx, kdm, kdn, kel, aop, resultsL, resultOf, Nat.reduceEqDiff, reduceCtorEq, eq1, apartOK, apart2, AObj.live, Int.reduceEq, Int.reduceLT, Int.reduceLE, Int.reduceAdd, Int.reduceSub, Int.reduceMul, Int.reduceToNat, cutCells, Nat.reduceAdd, Nat.reduceLeDiff, Nat.reduceLT, Nat.reduceMul, Nat.reduceSub, eqP_sn]
  refine right_t ⟨true, by rw [hget_old lb]; exact hd⟩ hw hw2 ha ?_
  cases hr : rgt w a n with
  | false =>
    simp (disch := omega) only [kB, kcx, kdm, kdn, kel, aop, resultsL, resultOf, Nat.reduceEqDiff, reduceCtorEq, eq1, apartOK, apart2, AObj.live, Int.reduceEq, Int.reduceLT, Int.reduceLE, Int.reduceAdd, Int.reduceSub, Int.reduceMul, Int.reduceToNat, cutCells, Nat.reduceAdd, Nat.reduceLeDiff, Nat.reduceLT, Nat.reduceMul, Nat.reduceSub]
    exact h1 hr _
  | true =>
  simp (disch := omega) only [kB, kcx, kdm, kdn, kel, aop, resultsL, resultOf, Nat.reduceEqDiff, reduceCtorEq, eq1, apartOK, apart2, AObj.live, Int.reduceEq, Int.reduceLT, Int.reduceLE, Int.reduceAdd, Int.reduceSub, Int.reduceMul, Int.reduceToNat, cutCells, Nat.reduceAdd, Nat.reduceLeDiff, Nat.reduceLT, Nat.reduceMul, Nat.reduceSub, eqP_sn]
  refine at_t (by rw [hget_old lb]; exact hd) hw hw2 ha lies.ta.app ok ?_
  rw [hr, if_pos rfl]
  by_cases hat : atV w a n.toNat t = .pointer none
  case neg =>
    have : ∃ x, atV w a n.toNat t = .pointer (some x) := by
      unfold atV atR at hat ⊢
      generalize atT w a n.toNat t = t1 at hat ⊢
      cases t1 with
      | nil => exact absurd rfl hat
      | node b1 c n1 full u l r =>
        simp only at hat ⊢
        split
        · exact ⟨_, rfl⟩
        · rename_i q; rw [if_neg q] at hat; exact absurd rfl hat
    obtain ⟨x, hx⟩ := this
    rw [hx]
    simp (disch := omega) only [kB, kcx, kdm, kdn, kel, aop, resultsL, resultOf, Nat.reduceEqDiff, reduceCtorEq, eq1, apartOK, apart2, AObj.live, Int.reduceEq, Int.reduceLT, Int.reduceLE, Int.reduceAdd, Int.reduceSub, Int.reduceMul, Int.reduceToNat, cutCells, Nat.reduceAdd, Nat.reduceLeDiff, Nat.reduceLT, Nat.reduceMul, Nat.reduceSub, eqP_sn]
    exact h2 hr hat _
  rw [hat]
  have hr2 := hr
  simp only [rgt, Bool.and_eq_true, decide_eq_true_eq] at hr2
  obtain ⟨⟨⟨r1, r2⟩, r3⟩, r4⟩ := hr2
  obtain ⟨k, rfl⟩ : ∃ k : Nat, n = k := ⟨n.toNat, by omega⟩
  simp only [Int.toNat_natCast] at h4 r4 hat
  by_cases hlm : m ≤ l
  · simp (disch := omega) only [kB, kcx, kdm, kdn, kel, aop, resultsL, resultOf, Nat.reduceEqDiff, reduceCtorEq, eq1, apartOK, apart2, AObj.live, Int.reduceEq, Int.reduceLT, Int.reduceLE, Int.reduceAdd, Int.reduceSub, Int.reduceMul, Int.reduceToNat, cutCells, Nat.reduceAdd, Nat.reduceLeDiff, Nat.reduceLT, Nat.reduceMul, Nat.reduceSub, eqP_nn, hd, hlm]
    exact h3 hr hat hlm _
  · simp (disch := omega) only [kB, kcx, kdm, kdn, kel, aop, resultsL, resultOf, Nat.reduceEqDiff, reduceCtorEq, eq1, apartOK, apart2, AObj.live, Int.reduceEq, Int.reduceLT, Int.reduceLE, Int.reduceAdd, Int.reduceSub, Int.reduceMul, Int.reduceToNat, cutCells, Nat.reduceAdd, Nat.reduceLeDiff, Nat.reduceLT, Nat.reduceMul, Nat.reduceSub, eqP_nn, hd, hlm, wr_i64, hget_oldS, hget_set', set_oldS, List.set_set]
    have hth2 : TH (H.set b (.row [.int .i64 (w : Int), .int .i64 m, .int .i64 (l + 1), t.ptr] 0 true) ++ [.row [.int .u64 ((a / W64 : Nat) : Int), .int .u64 ((a % W64 : Nat) : Int), .int .i64 (k : Int)] 0 true]) b w := ⟨m, l + 1, t.ptr, true, by rw [hget_oldS lb, hget_set' lb]⟩
    have lies2 : TAw (H.set b (.row [.int .i64 (w : Int), .int .i64 m, .int .i64 (l + 1), t.ptr] 0 true) ++ [.row [.int .u64 ((a / W64 : Nat) : Int), .int .u64 ((a % W64 : Nat) : Int), .int .i64 (k : Int)] 0 true]) t :=
      lies.same fun c hc => by rw [hget_oldS (lies.lt c hc), hget_ne (fun q => nb (by rw [q]; exact hc))]
    refine with_t hw hw2 r3 (by omega) t _ _ hth2 nb lies2 ok nd fun t' H1 hp her => ?_
    have lh := hp.len
    simp only [List.length_append, List.length_set, List.length_cons, List.length_nil] at lh
    have lb1 : b < H1.length := by omega
    have hb1 : hget H1 b = .row [.int .i64 (w : Int), .int .i64 m, .int .i64 (l + 1), t.ptr] 0 true := by
      rw [hp.frame b (by simp; omega) nb, hget_oldS lb, hget_set' lb]
    have nb1 : b ∉ t'.blocks := fun q => by
      rcases hp.own b q with q | q
      · exact nb q
      · simp at q; omega
    simp (disch := omega) only [kB, kcx, kdm, kdn, kel, aop, resultsL, resultOf, Nat.reduceEqDiff, reduceCtorEq, eq1, apartOK, apart2, AObj.live, Int.reduceEq, Int.reduceLT, Int.reduceLE, Int.reduceAdd, Int.reduceSub, Int.reduceMul, Int.reduceToNat, cutCells, Nat.reduceAdd, Nat.reduceLeDiff, Nat.reduceLT, Nat.reduceMul, Nat.reduceSub, hb1, cof_tr, one_tr]
    refine h4 hr (by simpa using hat) (by omega) t' _ (by simp; omega) (fun c hc hne hn => ?_) ⟨hget_set' lb1, nb1, hp.lies.same fun c hc => hget_ne (fun q => nb1 (by rw [q]; exact hc)), ?_, hp.nd⟩ (fun c hc => (hp.own c hc).imp id fun q => by simp at q; omega) her
    · rw [hget_ne (Ne.symm hne), hp.frame c (by simp; omega) hn, hget_oldS hc, hget_ne (Ne.symm hne)]
    · rw [tw_er, her]
      exact withP_tw r3 (by omega) r4 (tw_er.1 ok)

theorem TA.frame {H' : Heap} : ∀ {t : Tr}, TA H t → (∀ c, c < H.length → hget H' c = hget H c) → TA H' t
  | .nil, _, _ => trivial
  | .node b a n full v l r, ⟨⟨wr, h1⟩, h2, h3⟩, h => ⟨⟨wr, (h b (hget_lt h1 rfl)).trans h1⟩, h2.frame h, h3.frame h⟩

def getR (w a : Nat) (n : Int) (t : Tr) : Value :=
  if rgt w a n = true then
    match atT w a n.toNat t with
    | .nil => .tuple #[.string (bs []), .bool false]
    | .node _ c k f v _ _ => if c = a ∧ k = n.toNat ∧ f = true then .tuple #[.string (vb v), .bool true] else .tuple #[.string (bs []), .bool false]
  else .tuple #[.string (bs []), .bool false]

theorem atT_ta {w a k : Nat} : ∀ {t : Tr}, TA H t → TA H (atT w a k t)
  | .nil, _ => trivial
  | .node b c n f v l r, ht => by
    rw [atT]
    split
    · split
      · exact atT_ta ht.2.1
      · exact atT_ta ht.2.2
    · exact ht

theorem get_t {b w a : Nat} {m l n : Int} {t : Tr} (hd : hget H b = .row [.int .i64 (w : Int), .int .i64 m, .int .i64 l, t.ptr] 0 true) (lies : TA H t) (ok : TW w t) (hw : 1 ≤ w) (hw2 : w ≤ 128) (ha : a < 2 ^ 128)
    (h : R (.ret (getR w a n t)) H) : WD T 22 [.pointer (some ⟨b, 0, none⟩), pfv a n] H R := by
  have lb := hget_lt hd rfl
  refine WD.gc0 (WD.of follows t22 (by simp) ?_)
  simp (disch := omega) only [kB, kcx, kdm, kdn, kel, aop, resultsL, resultOf, Nat.reduceEqDiff, reduceCtorEq, eq1, apartOK, apart2, AObj.live, Int.reduceEq, Int.reduceLT, Int.reduceLE, Int.reduceAdd, Int.reduceSub, Int.reduceMul, Int.reduceToNat, cutCells, Nat.reduceAdd, Nat.reduceLeDiff, Nat.reduceLT, Nat.reduceMul, Nat.reduceSub]
  refine at_t (by rw [hget_old lb]; exact hd) hw hw2 ha lies.app ok ?_
  unfold getR at h
  by_cases hr : rgt w a n = true
  case neg =>
    rw [if_neg hr] at h ⊢
    simp (disch := omega) only [kB, kcx, kdm, kdn, kel, aop, resultsL, resultOf, Nat.reduceEqDiff, reduceCtorEq, eq1, apartOK, apart2, AObj.live, Int.reduceEq, Int.reduceLT, Int.reduceLE, Int.reduceAdd, Int.reduceSub, Int.reduceMul, Int.reduceToNat, cutCells, Nat.reduceAdd, Nat.reduceLeDiff, Nat.reduceLT, Nat.reduceMul, Nat.reduceSub, eqP_nn]
    exact ⟨_, rfl, ⟨_, rfl⟩, .tup2 (.closed rfl) (.closed rfl), h⟩
  rw [if_pos hr] at h ⊢
  unfold atV
  have hta := atT_ta (w := w) (a := a) (k := n.toNat) lies
  generalize atT w a n.toNat t = t1 at *
  cases t1 with
  | nil =>
    simp only [atR] at h ⊢
    simp (disch := omega) only [kB, kcx, kdm, kdn, kel, aop, resultsL, resultOf, Nat.reduceEqDiff, reduceCtorEq, eq1, apartOK, apart2, AObj.live, Int.reduceEq, Int.reduceLT, Int.reduceLE, Int.reduceAdd, Int.reduceSub, Int.reduceMul, Int.reduceToNat, cutCells, Nat.reduceAdd, Nat.reduceLeDiff, Nat.reduceLT, Nat.reduceMul, Nat.reduceSub, eqP_nn]
    exact ⟨_, rfl, ⟨_, rfl⟩, .tup2 (.closed rfl) (.closed rfl), h⟩
  | node b1 c k f v l1 r1 =>
    obtain ⟨⟨wr, q1⟩, _, _⟩ := hta
    have l1 := hget_lt q1 rfl
    unfold nodeRow at q1
    simp only [atR] at h ⊢
    split
    · rename_i q
      rw [if_pos q] at h
      simp (disch := omega) only [kB, kcx, kdm, kdn, kel, aop, resultsL, resultOf, Nat.reduceEqDiff, reduceCtorEq, eq1, apartOK, apart2, AObj.live, Int.reduceEq, Int.reduceLT, Int.reduceLE, Int.reduceAdd, Int.reduceSub, Int.reduceMul, Int.reduceToNat, cutCells, Nat.reduceAdd, Nat.reduceLeDiff, Nat.reduceLT, Nat.reduceMul, Nat.reduceSub, eqP_sn, q1]
      exact ⟨_, rfl, ⟨_, rfl⟩, .tup2 (.closed rfl) (.closed rfl), h⟩
    · rename_i q
      rw [if_neg q] at h
      simp (disch := omega) only [kB, kcx, kdm, kdn, kel, aop, resultsL, resultOf, Nat.reduceEqDiff, reduceCtorEq, eq1, apartOK, apart2, AObj.live, Int.reduceEq, Int.reduceLT, Int.reduceLE, Int.reduceAdd, Int.reduceSub, Int.reduceMul, Int.reduceToNat, cutCells, Nat.reduceAdd, Nat.reduceLeDiff, Nat.reduceLT, Nat.reduceMul, Nat.reduceSub, eqP_nn]
      exact ⟨_, rfl, ⟨_, rfl⟩, .tup2 (.closed rfl) (.closed rfl), h⟩

theorem getR_er {w a : Nat} {n : Int} {t : Tr} : getR w a n t = if rgt w a n = true then (match atP w a n.toNat t.er with | some v => .tuple #[.string (vb v), .bool true] | none => .tuple #[.string (bs []), .bool false]) else .tuple #[.string (bs []), .bool false] := by
  rw [← at_er]
  unfold getR
  split
  · cases atT w a n.toNat t with
    | nil => rfl
    | node b c k f v l r =>
      simp only
      split <;> rfl
  · rfl

end Go.Proofs.Yticgkaanaimllaa.Ev.S

/- The trie's Drop, Set, Clear, Copy, Nodes. -/
namespace Go.Proofs.Yticgkaanaimllaa.Ev
set_option maxRecDepth 100000
set_option linter.unusedSimpArgs false
set_option linter.unusedVariables false
variable {R : FRes → Heap → Prop} {H : Heap}

def joinT (b c n : Nat) (f : Bool) (v : Int) (l r : Tr) : Tr := if f = true ∨ (nilP l.er = false ∧ nilP r.er = false) then .node b c n f v l r else if nilP l.er = false then l else r
def dropT (w a k : Nat) : Tr → Tr
  | .nil => .nil
  | .node b c n f v l r => if c = a ∧ n = k then joinT b c n false 0 l r else if sideN w a n = 0 then joinT b c n f v (dropT w a k l) r else joinT b c n f v l (dropT w a k r)
theorem join_er {b c n : Nat} {f : Bool} {v : Int} {l r : Tr} : (joinT b c n f v l r).er = joinP c n f v l.er r.er := by
  unfold joinT joinP
  repeat' split
  all_goals rfl
theorem drop_er {w a k : Nat} : ∀ {t : Tr}, (dropT w a k t).er = dropP w a k t.er
  | .nil => rfl
  | .node b c n f v l r => by
    rw [dropT, Tr.er, dropP]
    repeat' split
    all_goals (rw [join_er]; try rw [drop_er])

theorem ptr_nil {H : Heap} {t : Tr} : eqP H 0 t.ptr (.pointer none) = some (nilP t.er) := by cases t <;> rfl

theorem join_own {b c n : Nat} {f : Bool} {v : Int} {l r : Tr} : ∀ x ∈ (joinT b c n f v l r).blocks, x = b ∨ x ∈ l.blocks ∨ x ∈ r.blocks := by
  intro x hx
  unfold joinT at hx
  split at hx
  · simpa [Tr.blocks] using hx
  · split at hx
    · exact .inr (.inl hx)
    · exact .inr (.inr hx)
theorem join_lies {b c n : Nat} {f : Bool} {v : Int} {l r : Tr} (h : TAw H (.node b c n f v l r)) : TAw H (joinT b c n f v l r) := by
  unfold joinT
  split
  · exact h
  · split
    · exact h.2.1
    · exact h.2.2
theorem join_nd {b c n : Nat} {f : Bool} {v : Int} {l r : Tr} (h : (Tr.node b c n f v l r).blocks.Nodup) : (joinT b c n f v l r).blocks.Nodup := by
  unfold joinT
  split
  · exact h
  · simp only [Tr.blocks, List.nodup_cons, List.nodup_append] at h
    split
    · exact h.2.1
    · exact h.2.2.1

/-- Behind the change of a node: what stays of it. -/
theorem wo_rest {b1 c n : Nat} {full : Bool} {u : Int} {l r : Tr} (q1 : hget H b1 = .row (nodeRow c n full u l.ptr r.ptr) 0 true) {e : Env} (he : (∃ x : Nat → Value, e = [x 0, .pointer (some ⟨b1, 0, none⟩), x 2, x 3, x 4, x 5, x 6, x 7, x 8, x 9, x 10, x 11, x 12, x 13, x 14, x 15, x 16, x 17, x 18, x 19, x 20, x 21, x 22, x 23, x 24, x 25, x 26, x 27, x 28, x 29, x 30, x 31, x 32, x 33, x 34, x 35, x 36, x 37, x 38, x 39, x 40, x 41, x 42, x 43, x 44, x 45, x 46, x 47, x 48, x 49, x 50, x 51, x 52, x 53, x 54, x 55, x 56, x 57, x 58, x 59, x 60, x 61, x 62, x 63, x 64, x 65, x 66, x 67, x 68, x 69, x 70, x 71, x 72, x 73, x 74, x 75, x 76, x 77, x 78, x 79, x 80, x 81, x 82, x 83])) (h : R (.ret (joinT b1 c n full u l r).ptr) H) :
    WC T (g70.body.at [1, 1]) e H (retK [.tmp 6] R) := by
  obtain ⟨x, rfl⟩ := he
  have c02 : (0 : Int) < ((2 : Nat) : Int) := by decide
  have c12 : (1 : Int) < ((2 : Nat) : Int) := by decide
  have pn : ∀ {H : Heap} {t : Tr}, eqP H 0 t.ptr (.pointer none) = some (nilP t.er) := ptr_nil
  unfold nodeRow at q1
  simp only [AFunc.body, g70, ACode.at]
  cases full with
  | true =>
    rw [joinT, if_pos (.inl rfl)] at h
    simp only [Tr.ptr] at h
    simp (disch := omega) only [kB, kcx, kdm, kdn, kel, aop, resultsL, resultOf, Nat.reduceEqDiff, reduceCtorEq, eq1, apartOK, apart2, AObj.live, Int.reduceEq, Int.reduceLT, Int.reduceLE, Int.reduceAdd, Int.reduceSub, Int.reduceMul, Int.reduceToNat, cutCells, Nat.reduceAdd, Nat.reduceLeDiff, Nat.reduceLT, Nat.reduceMul, Nat.reduceSub, q1]
    exact h
  | false =>
    cases hl : nilP l.er with
    | true =>
      rw [joinT, if_neg (by simp [hl]), if_neg (by simp [hl])] at h
      simp (disch := omega) only [kB, kcx, kdm, kdn, kel, aop, resultsL, resultOf, Nat.reduceEqDiff, reduceCtorEq, eq1, apartOK, apart2, AObj.live, Int.reduceEq, Int.reduceLT, Int.reduceLE, Int.reduceAdd, Int.reduceSub, Int.reduceMul, Int.reduceToNat, cutCells, Nat.reduceAdd, Nat.reduceLeDiff, Nat.reduceLT, Nat.reduceMul, Nat.reduceSub, q1, c02, c12, pn, hl]
      exact h
    | false =>
      cases hr : nilP r.er with
      | false =>
        rw [joinT, if_pos (.inr ⟨hl, hr⟩)] at h
        simp only [Tr.ptr] at h
        simp (disch := omega) only [kB, kcx, kdm, kdn, kel, aop, resultsL, resultOf, Nat.reduceEqDiff, reduceCtorEq, eq1, apartOK, apart2, AObj.live, Int.reduceEq, Int.reduceLT, Int.reduceLE, Int.reduceAdd, Int.reduceSub, Int.reduceMul, Int.reduceToNat, cutCells, Nat.reduceAdd, Nat.reduceLeDiff, Nat.reduceLT, Nat.reduceMul, Nat.reduceSub, q1, c02, c12, pn, hl, hr]
        exact h
      | true =>
        rw [joinT, if_neg (by simp [hr]), if_pos hl] at h
        simp (disch := omega) only [kB, kcx, kdm, kdn, kel, aop, resultsL, resultOf, Nat.reduceEqDiff, reduceCtorEq, eq1, apartOK, apart2, AObj.live, Int.reduceEq, Int.reduceLT, Int.reduceLE, Int.reduceAdd, Int.reduceSub, Int.reduceMul, Int.reduceToNat, cutCells, Nat.reduceAdd, Nat.reduceLeDiff, Nat.reduceLT, Nat.reduceMul, Nat.reduceSub, q1, c02, c12, pn, hl, hr]
        exact h

theorem without_t {b w a k : Nat} {v : Int} (hw : 1 ≤ w) (hw2 : w ≤ 128) (ha : a < 2 ^ w) : ∀ (t : Tr) (H : Heap) (R : FRes → Heap → Prop), TH H b w → b ∉ t.blocks → TAw H t → TW w t → t.blocks.Nodup → PW w t.er → (a, k, v) ∈ t.er.mem →
    (∀ H', WPost H t H' (dropT w a k t) → R (.ret (dropT w a k t).ptr) H') → WD T 70 [.pointer (some ⟨b, 0, none⟩), t.ptr, pfv a k] H R := by
  have hpn : 2 ^ w ≤ 2 ^ 128 := Nat.pow_le_pow_right (by decide) hw2
  have c02 : ((0 : Nat) : Int) < ((2 : Nat) : Int) := by decide
  have c12 : ((1 : Nat) : Int) < ((2 : Nat) : Int) := by decide
  intro t
  induction t with
  | nil => intro H R _ _ _ _ _ _ hm; cases hm
  | node b1 c n full u l r ihl ihr =>
    intro H R hb hbn lies htw hnd hpw hm h
    obtain ⟨q1, q2, q3⟩ := lies
    obtain ⟨t1, t2, t3, t4, t5⟩ := htw
    have hms := mem_side (v := v) hpw hm
    have lb := hb.lt
    have l1 := hget_lt q1 rfl
    simp only [Tr.blocks, List.nodup_cons, List.mem_append, not_or, List.nodup_append] at hnd
    obtain ⟨⟨d1, d2⟩, d3, d4, d5⟩ := hnd
    simp only [Tr.blocks, List.mem_cons, List.mem_append, not_or] at hbn
    obtain ⟨Z, hZ⟩ : ∃ Z, Z = WC T (g70.body.at [1, 1]) := ⟨_, rfl⟩
    have hZ' := hZ.symm
    simp only [AFunc.body, g70, ACode.at] at hZ'
    have q1' := q1
    unfold nodeRow at q1
    simp only [Tr.ptr]
    have e0 := eq_pf (a := c) (n := n) (c := a) (k := k)
    refine WD.of follows t70 (by simp) ?_
    rcases hms with ⟨rfl, rfl, rfl, rfl, _, _⟩ | ⟨g1, g2, g3⟩ | ⟨g1, g2, g3⟩
    · rw [decide_eq_true ⟨rfl, rfl⟩] at e0
      simp (disch := omega) only [kB, kcx, kdm, kdn, kel, aop, resultsL, resultOf, Nat.reduceEqDiff, reduceCtorEq, eq1, apartOK, apart2, AObj.live, Int.reduceEq, Int.reduceLT, Int.reduceLE, Int.reduceAdd, Int.reduceSub, Int.reduceMul, Int.reduceToNat, cutCells, Nat.reduceAdd, Nat.reduceLeDiff, Nat.reduceLT, Nat.reduceMul, Nat.reduceSub, q1, e0, hZ', hget_oldS, hget_set', set_oldS, List.set_set]
      rw [hZ]
      have e1 : dropT w c n (.node b1 c n true u l r) = joinT b1 c n false 0 l r := by rw [dropT, if_pos ⟨rfl, rfl⟩]
      rw [e1] at h
      refine wo_rest (by rw [hget_oldS l1, hget_set' l1]; rfl) (by exact ex_env rfl) (h _ ⟨by simp, fun x hx hn => ?_, join_lies ⟨?_, ?_, ?_⟩, join_nd ?_, fun x hx => .inl ?_⟩)
      · simp only [Tr.blocks, List.mem_cons, not_or] at hn
        rw [hget_oldS hx, hget_ne (Ne.symm hn.1)]
      · rw [hget_oldS l1, hget_set' l1]
        rfl
      · exact q2.same fun x hx => by rw [hget_oldS (q2.lt x hx), hget_ne (fun q => d1 (by rw [q]; exact hx))]
      · exact q3.same fun x hx => by rw [hget_oldS (q3.lt x hx), hget_ne (fun q => d2 (by rw [q]; exact hx))]
      · simp only [Tr.blocks, List.nodup_cons, List.mem_append, not_or, List.nodup_append]
        exact ⟨⟨d1, d2⟩, d3, d4, d5⟩
      · simp only [Tr.blocks, List.mem_cons, List.mem_append]
        exact join_own x hx
    · rw [decide_eq_false g1] at e0
      have hk := nodes_ok hpw.2.2.2.2.1 _ (mem_nodes g3)
      have hnk := (hpw.2.2.1 _ (mem_nodes g3)).1
      simp only at hk hnk
      have hs2 : ((sideN w a n : Nat) : Int) = 0 := by omega
      simp (disch := omega) only [kB, kcx, kdm, kdn, kel, aop, resultsL, resultOf, Nat.reduceEqDiff, reduceCtorEq, eq1, apartOK, apart2, AObj.live, Int.reduceEq, Int.reduceLT, Int.reduceLE, Int.reduceAdd, Int.reduceSub, Int.reduceMul, Int.reduceToNat, cutCells, Nat.reduceAdd, Nat.reduceLeDiff, Nat.reduceLT, Nat.reduceMul, Nat.reduceSub, q1, e0, hZ']
      refine side_t hb.app hw hw2 (by omega) (by omega) ?_
      simp (disch := omega) only [kB, kcx, kdm, kdn, kel, aop, resultsL, resultOf, Nat.reduceEqDiff, reduceCtorEq, eq1, apartOK, apart2, AObj.live, Int.reduceEq, Int.reduceLT, Int.reduceLE, Int.reduceAdd, Int.reduceSub, Int.reduceMul, Int.reduceToNat, cutCells, Nat.reduceAdd, Nat.reduceLeDiff, Nat.reduceLT, Nat.reduceMul, Nat.reduceSub, q1, g2, hs2, c02, hZ']
      refine ihl _ _ hb.app hbn.2.1 q2.app t4 d3 hpw.2.2.2.2.1 g3 fun H1 hp => ?_
      have lh := hp.len
      simp only [List.length_append, List.length_cons, List.length_nil] at lh
      have h1 : hget H1 b1 = .row [.int .u64 ((c / W64 : Nat) : Int), .int .u64 ((c % W64 : Nat) : Int), .int .i64 (n : Int), .bool full, .int .i64 u, l.ptr, r.ptr] 0 true := by
        rw [hp.frame b1 (by simp; omega) d1, hget_old l1]; exact q1
      have lh1 : b1 < H1.length := by omega
      simp (disch := omega) only [kB, kcx, kdm, kdn, kel, aop, resultsL, resultOf, Nat.reduceEqDiff, reduceCtorEq, eq1, apartOK, apart2, AObj.live, Int.reduceEq, Int.reduceLT, Int.reduceLE, Int.reduceAdd, Int.reduceSub, Int.reduceMul, Int.reduceToNat, cutCells, Nat.reduceAdd, Nat.reduceLeDiff, Nat.reduceLT, Nat.reduceMul, Nat.reduceSub, eqP_sn, h1, g2, c02, cof_tr, one_tr, hZ']
      rw [hZ]
      have e1 : dropT w a k (.node b1 c n full u l r) = joinT b1 c n full u (dropT w a k l) r := by rw [dropT, if_neg g1, if_pos g2]
      rw [e1] at h
      obtain ⟨p1, p2, p3, p4, p5, p6, p7, p8⟩ := kid_post (o := .row (nodeRow c n full u (dropT w a k l).ptr r.ptr) 0 true) hp l1 d1 d2 q3 (fun x hx hy => d5 x hx x hy rfl)
      refine wo_rest (l := dropT w a k l) (r := r) p5 (by exact ex_env rfl) (h _ ⟨p1, fun x hx hn => ?_, join_lies ⟨p5, p3, p4⟩, join_nd ?_, fun x hx => ?_⟩)
      · simp only [Tr.blocks, List.mem_cons, List.mem_append, not_or] at hn
        exact p2 x hx hn.1 hn.2.1
      · simp only [Tr.blocks, List.nodup_cons, List.mem_append, not_or, List.nodup_append]
        exact ⟨⟨p6, d2⟩, hp.nd, d4, fun x hx y hy q => p7 x hx (by rw [q]; exact hy)⟩
      · simp only [Tr.blocks, List.mem_cons, List.mem_append]
        rcases join_own x hx with hx | hx | hx
        · exact .inl (.inl hx)
        · exact (p8 x hx).imp (fun q => .inr (.inl q)) id
        · exact .inl (.inr (.inr hx))
    · rw [decide_eq_false g1] at e0
      have hk := nodes_ok hpw.2.2.2.2.2 _ (mem_nodes g3)
      have hnk := (hpw.2.2.2.1 _ (mem_nodes g3)).1
      simp only at hk hnk
      have hs2 : ((sideN w a n : Nat) : Int) = 1 := by omega
      simp (disch := omega) only [kB, kcx, kdm, kdn, kel, aop, resultsL, resultOf, Nat.reduceEqDiff, reduceCtorEq, eq1, apartOK, apart2, AObj.live, Int.reduceEq, Int.reduceLT, Int.reduceLE, Int.reduceAdd, Int.reduceSub, Int.reduceMul, Int.reduceToNat, cutCells, Nat.reduceAdd, Nat.reduceLeDiff, Nat.reduceLT, Nat.reduceMul, Nat.reduceSub, q1, e0, hZ']
      refine side_t hb.app hw hw2 (by omega) (by omega) ?_
      simp (disch := omega) only [kB, kcx, kdm, kdn, kel, aop, resultsL, resultOf, Nat.reduceEqDiff, reduceCtorEq, eq1, apartOK, apart2, AObj.live, Int.reduceEq, Int.reduceLT, Int.reduceLE, Int.reduceAdd, Int.reduceSub, Int.reduceMul, Int.reduceToNat, cutCells, Nat.reduceAdd, Nat.reduceLeDiff, Nat.reduceLT, Nat.reduceMul, Nat.reduceSub, q1, g2, hs2, c12, hZ']
      refine ihr _ _ hb.app hbn.2.2 q3.app t5 d4 hpw.2.2.2.2.2 g3 fun H1 hp => ?_
      have lh := hp.len
      simp only [List.length_append, List.length_cons, List.length_nil] at lh
      have h1 : hget H1 b1 = .row [.int .u64 ((c / W64 : Nat) : Int), .int .u64 ((c % W64 : Nat) : Int), .int .i64 (n : Int), .bool full, .int .i64 u, l.ptr, r.ptr] 0 true := by
        rw [hp.frame b1 (by simp; omega) d2, hget_old l1]; exact q1
      have lh1 : b1 < H1.length := by omega
      simp (disch := omega) only [kB, kcx, kdm, kdn, kel, aop, resultsL, resultOf, Nat.reduceEqDiff, reduceCtorEq, eq1, apartOK, apart2, AObj.live, Int.reduceEq, Int.reduceLT, Int.reduceLE, Int.reduceAdd, Int.reduceSub, Int.reduceMul, Int.reduceToNat, cutCells, Nat.reduceAdd, Nat.reduceLeDiff, Nat.reduceLT, Nat.reduceMul, Nat.reduceSub, eqP_sn, h1, g2, c12, cof_tr, one_tr, hZ']
      rw [hZ]
      have e1 : dropT w a k (.node b1 c n full u l r) = joinT b1 c n full u l (dropT w a k r) := by rw [dropT, if_neg g1, if_neg (by omega)]
      rw [e1] at h
      obtain ⟨p1, p2, p3, p4, p5, p6, p7, p8⟩ := kid_post (o := .row (nodeRow c n full u l.ptr (dropT w a k r).ptr) 0 true) hp l1 d2 d1 q2 (fun x hx hy => d5 x hy x hx rfl)
      refine wo_rest (l := l) (r := dropT w a k r) p5 (by exact ex_env rfl) (h _ ⟨p1, fun x hx hn => ?_, join_lies ⟨p5, p4, p3⟩, join_nd ?_, fun x hx => ?_⟩)
      · simp only [Tr.blocks, List.mem_cons, List.mem_append, not_or] at hn
        exact p2 x hx hn.1 hn.2.2
      · simp only [Tr.blocks, List.nodup_cons, List.mem_append, not_or, List.nodup_append]
        exact ⟨⟨d1, p6⟩, d3, hp.nd, fun x hx y hy q => p7 y hy (by rw [← q]; exact hx)⟩
      · simp only [Tr.blocks, List.mem_cons, List.mem_append]
        rcases join_own x hx with hx | hx | hx
        · exact .inl (.inl hx)
        · exact .inl (.inr (.inl hx))
        · exact (p8 x hx).imp (fun q => .inr (.inr q)) id

end Go.Proofs.Yticgkaanaimllaa.Ev

/- The trie's Drop, Set, Clear, Copy, Nodes as its callers see them. -/
namespace Go.Proofs.Yticgkaanaimllaa.Ev
set_option maxRecDepth 100000
set_option linter.unusedSimpArgs false
set_option linter.unusedVariables false
variable {R : FRes → Heap → Prop} {H : Heap}

theorem drop_t {b w a : Nat} {m l n : Int} {t : Tr} (I : TI H b w m l t) (hw : 1 ≤ w) (hw2 : w ≤ 128) (ha : a < 2 ^ 128) (hpw : PW w t.er) (hl : -9223372036854775807 ≤ l ∧ l < 9223372036854775808)
    (h1 : getR w a n t = .tuple #[.int .i64 0, .bool false] → ∀ g, R (.ret (.tuple #[.int .i64 0, .bool false])) (H ++ g))
    (h2 : ∀ (k : Nat) (v : Int), n = k → rgt w a k = true → (a, k, v) ∈ t.er.mem → ∀ H', H.length ≤ H'.length → (∀ c, c < H.length → c ≠ b → c ∉ t.blocks → hget H' c = hget H c) → TI H' b w m (l - 1) (dropT w a k t) → (∀ c ∈ (dropT w a k t).blocks, c ∈ t.blocks ∨ H.length ≤ c) →
      R (.ret (.tuple #[.int .i64 v, .bool true])) H') :
    WD T 39 [.pointer (some ⟨b, 0, none⟩), pfv a n] H R := by
  obtain ⟨hd, nb, lies, ok, nd⟩ := I
  have lb := hget_lt hd rfl
  refine WD.of follows t39 (by simp) ?_
  simp (disch := omega) only [kB, kcx, kdm, kdn, kel, aop, resultsL, resultOf, Nat.reduceEqDiff, reduceCtorEq, eq1, apartOK, apart2, AObj.live, Int.reduceEq, Int.reduceLT, Int.reduceLE, Int.reduceAdd, Int.reduceSub, Int.reduceMul, Int.reduceToNat, cutCells, Nat.reduceAdd, Nat.reduceLeDiff, Nat.reduceLT, Nat.reduceMul, Nat.reduceSub]
  refine get_t (by rw [hget_old lb]; exact hd) lies.ta.app ok hw hw2 ha ?_
  have hg := getR_er (w := w) (a := a) (n := n) (t := t)
  by_cases hr : rgt w a n = true
  case neg =>
    rw [if_neg hr] at hg
    rw [hg]
    simp (disch := omega) only [kB, kcx, kdm, kdn, kel, aop, resultsL, resultOf, Nat.reduceEqDiff, reduceCtorEq, eq1, apartOK, apart2, AObj.live, Int.reduceEq, Int.reduceLT, Int.reduceLE, Int.reduceAdd, Int.reduceSub, Int.reduceMul, Int.reduceToNat, cutCells, Nat.reduceAdd, Nat.reduceLeDiff, Nat.reduceLT, Nat.reduceMul, Nat.reduceSub]
    exact h1 hg _
  rw [if_pos hr] at hg
  obtain ⟨r1, r2, r3, r4⟩ := (rgt_iff hw2).1 hr
  obtain ⟨k, rfl⟩ : ∃ k : Nat, n = k := ⟨n.toNat, by omega⟩
  simp only [Int.toNat_natCast] at hg
  cases hat : atP w a k t.er with
  | none =>
    rw [hat] at hg
    rw [hg]
    simp (disch := omega) only [kB, kcx, kdm, kdn, kel, aop, resultsL, resultOf, Nat.reduceEqDiff, reduceCtorEq, eq1, apartOK, apart2, AObj.live, Int.reduceEq, Int.reduceLT, Int.reduceLE, Int.reduceAdd, Int.reduceSub, Int.reduceMul, Int.reduceToNat, cutCells, Nat.reduceAdd, Nat.reduceLeDiff, Nat.reduceLT, Nat.reduceMul, Nat.reduceSub]
    exact h1 hg _
  | some v =>
    rw [hat] at hg
    rw [hg]
    have hm := (at_mem r1 (by omega) hpw).1 hat
    have hth2 : TH (H.set b (.row [.int .i64 (w : Int), .int .i64 m, .int .i64 (l - 1), t.ptr] 0 true) ++ [.row [.int .u64 ((a / W64 : Nat) : Int), .int .u64 ((a % W64 : Nat) : Int), .int .i64 (k : Int)] 0 true]) b w := ⟨m, l - 1, t.ptr, true, by rw [hget_oldS lb, hget_set' lb]⟩
    have lies2 : TAw (H.set b (.row [.int .i64 (w : Int), .int .i64 m, .int .i64 (l - 1), t.ptr] 0 true) ++ [.row [.int .u64 ((a / W64 : Nat) : Int), .int .u64 ((a % W64 : Nat) : Int), .int .i64 (k : Int)] 0 true]) t :=
      lies.same fun c hc => by rw [hget_oldS (lies.lt c hc), hget_ne (fun q => nb (by rw [q]; exact hc))]
    simp (disch := omega) only [kB, kcx, kdm, kdn, kel, aop, resultsL, resultOf, Nat.reduceEqDiff, reduceCtorEq, eq1, apartOK, apart2, AObj.live, Int.reduceEq, Int.reduceLT, Int.reduceLE, Int.reduceAdd, Int.reduceSub, Int.reduceMul, Int.reduceToNat, cutCells, Nat.reduceAdd, Nat.reduceLeDiff, Nat.reduceLT, Nat.reduceMul, Nat.reduceSub, hd, wr_i64, hget_oldS, hget_set', set_oldS, List.set_set]
    refine without_t hw hw2 r1 t _ _ hth2 nb lies2 ok nd hpw hm fun H1 hp => ?_
    have lh := hp.len
    simp only [List.length_append, List.length_set, List.length_cons, List.length_nil] at lh
    have lb1 : b < H1.length := by omega
    have hb1 : hget H1 b = .row [.int .i64 (w : Int), .int .i64 m, .int .i64 (l - 1), t.ptr] 0 true := by
      rw [hp.frame b (by simp; omega) nb, hget_oldS lb, hget_set' lb]
    have nb1 : b ∉ (dropT w a k t).blocks := fun q => by
      rcases hp.own b q with q | q
      · exact nb q
      · simp at q; omega
    simp (disch := omega) only [kB, kcx, kdm, kdn, kel, aop, resultsL, resultOf, Nat.reduceEqDiff, reduceCtorEq, eq1, apartOK, apart2, AObj.live, Int.reduceEq, Int.reduceLT, Int.reduceLE, Int.reduceAdd, Int.reduceSub, Int.reduceMul, Int.reduceToNat, cutCells, Nat.reduceAdd, Nat.reduceLeDiff, Nat.reduceLT, Nat.reduceMul, Nat.reduceSub, hb1, cof_tr, one_tr]
    refine h2 k v rfl hr hm _ (by simp; omega) (fun c hc hne hn => ?_) ⟨hget_set' lb1, nb1, hp.lies.same fun c hc => hget_ne (fun q => nb1 (by rw [q]; exact hc)), ?_, hp.nd⟩ (fun c hc => (hp.own c hc).imp id fun q => by simp at q; omega)
    · rw [hget_ne (Ne.symm hne), hp.frame c (by simp; omega) hn, hget_oldS hc, hget_ne (Ne.symm hne)]
    · rw [tw_er, drop_er]
      exact drop_tw (tw_er.1 ok)

/-! ### Set -/

def setT (w a k : Nat) (v : Int) : Tr → Tr
  | .nil => .nil
  | .node b c n f u l r => if c = a ∧ n = k then .node b c n f v l r else if sideN w a n = 0 then .node b c n f u (setT w a k v l) r else .node b c n f u l (setT w a k v r)
theorem set_er {w a k : Nat} {v : Int} : ∀ {t : Tr}, (setT w a k v t).er = setP w a k v t.er
  | .nil => rfl
  | .node b c n f u l r => by
    rw [setT, Tr.er, setP]
    repeat' split
    all_goals simp [Tr.er, set_er (t := l), set_er (t := r)]
theorem set_ptr {w a k : Nat} {v : Int} {t : Tr} : (setT w a k v t).ptr = t.ptr := by
  cases t with
  | nil => rfl
  | node b c n f u l r =>
    rw [setT]
    repeat' split
    all_goals rfl
theorem set_blocks {w a k : Nat} {v : Int} : ∀ {t : Tr}, (setT w a k v t).blocks = t.blocks
  | .nil => rfl
  | .node b c n f u l r => by
    rw [setT]
    repeat' split
    all_goals simp [Tr.blocks, set_blocks (t := l), set_blocks (t := r)]
theorem set_tw {w a k : Nat} {v : Int} : ∀ {t : Tr}, TW w t → TW w (setT w a k v t)
  | .nil, h => h
  | .node b c n f u l r, ⟨h1, h2, h3, h4, h5⟩ => by
    rw [setT]
    split
    · exact ⟨h1, h2, h3, h4, h5⟩
    · split
      · exact ⟨h1, h2, h3, set_tw h4, h5⟩
      · exact ⟨h1, h2, h3, h4, set_tw h5⟩

theorem set_at {w a k : Nat} {v v0 : Int} (ha : a < 2 ^ w) (hk : k ≤ w) : ∀ {t : Tr}, PW w t.er → TAw H t → t.blocks.Nodup → (a, k, v0) ∈ t.er.mem →
    ∃ b1 l r, atV w a k t = .pointer (some ⟨b1, 0, none⟩) ∧ b1 ∈ t.blocks ∧ hget H b1 = .row (nodeRow a k true v0 l r) 0 true ∧ TAw (H.set b1 (.row (nodeRow a k true v l r) 0 true)) (setT w a k v t)
  | .nil, _, _, _, h => by cases h
  | .node b c n f u l r, hpw, ⟨q1, q2, q3⟩, hnd, hm => by
    have hnd2 := hnd
    simp only [Tr.blocks, List.nodup_cons, List.mem_append, not_or, List.nodup_append] at hnd2
    obtain ⟨⟨d1, d2⟩, d3, d4, d5⟩ := hnd2
    rw [setT]
    have lb := hget_lt q1 rfl
    rcases mem_side hpw hm with ⟨rfl, rfl, rfl, rfl, _, _⟩ | ⟨g1, g2, g3⟩ | ⟨g1, g2, g3⟩
    · refine ⟨b, l.ptr, r.ptr, ?_, by simp [Tr.blocks], q1, ?_⟩
      · have : ¬ (n < n ∧ cmp w c n c n = n) := fun q => by omega
        rw [atV, atT, if_neg this, atR, if_pos ⟨rfl, rfl, rfl⟩]
      · rw [if_pos ⟨rfl, rfl⟩]
        exact ⟨hget_set' lb, q2.same fun x hx => hget_ne (fun q => d1 (by rw [q]; exact hx)), q3.same fun x hx => hget_ne (fun q => d2 (by rw [q]; exact hx))⟩
    · obtain ⟨b1, l1, r1, e1, e2, e3, e4⟩ := set_at (v := v) ha hk hpw.2.2.2.2.1 q2 d3 g3
      have hkid := hpw.2.2.1 _ (mem_nodes g3)
      have hc : n < k ∧ cmp w c n a k = n := ⟨hkid.1, (cmp_eq hpw.1 hpw.2.1 ha).2 ⟨Nat.le_of_lt hkid.1, hkid.2.1⟩⟩
      refine ⟨b1, l1, r1, ?_, by simp [Tr.blocks, e2], e3, ?_⟩
      · rw [atV, atT, if_pos hc, if_pos g2]; exact e1
      · rw [if_neg g1, if_pos g2]
        refine ⟨?_, e4, q3.same fun x hx => hget_ne (fun q => d5 b1 e2 x hx q)⟩
        rw [hget_ne (fun q => d1 (by rw [← q]; exact e2)), q1, set_ptr]
    · obtain ⟨b1, l1, r1, e1, e2, e3, e4⟩ := set_at (v := v) ha hk hpw.2.2.2.2.2 q3 d4 g3
      have hkid := hpw.2.2.2.1 _ (mem_nodes g3)
      have hc : n < k ∧ cmp w c n a k = n := ⟨hkid.1, (cmp_eq hpw.1 hpw.2.1 ha).2 ⟨Nat.le_of_lt hkid.1, hkid.2.1⟩⟩
      have g2' : ¬ sideN w a n = 0 := by omega
      refine ⟨b1, l1, r1, ?_, by simp [Tr.blocks, e2], e3, ?_⟩
      · rw [atV, atT, if_pos hc, if_neg g2']; exact e1
      · rw [if_neg g1, if_neg g2']
        refine ⟨?_, q2.same fun x hx => hget_ne (fun q => d5 x hx b1 e2 q.symm), e4⟩
        rw [hget_ne (fun q => d2 (by rw [← q]; exact e2)), q1, set_ptr]

theorem set_t {b w a : Nat} {m l n v : Int} {t : Tr} (I : TI H b w m l t) (hw : 1 ≤ w) (hw2 : w ≤ 128) (ha : a < 2 ^ 128) (hpw : PW w t.er)
    (h1 : rgt w a n = false → ∀ g, R (.ret (.int .i64 111)) (H ++ g))
    (h2 : rgt w a n = true → atP w a n.toNat t.er = none → ∀ g, R (.ret (.int .i64 122)) (H ++ g))
    (h3 : ∀ (k : Nat) (v0 : Int), n = k → rgt w a k = true → (a, k, v0) ∈ t.er.mem → ∀ H', H.length ≤ H'.length → (∀ c, c < H.length → c ∉ t.blocks → hget H' c = hget H c) → TI H' b w m l (setT w a k v t) → R (.ret (.int .i64 0)) H') :
    WD T 38 [.pointer (some ⟨b, 0, none⟩), pfv a n, .int .i64 v] H R := by
  obtain ⟨hd, nb, lies, ok, nd⟩ := I
  have lb := hget_lt hd rfl
  refine WD.of follows t38 (by simp) ?_
  simp (disch := omega) only [kB, kcx, kdm, kdn, kel, aop, resultsL, resultOf, Nat.reduceEqDiff, reduceCtorEq, eq1, apartOK, apart2, AObj.live, Int.reduceEq, Int.reduceLT, Int.reduceLE, Int.reduceAdd, Int.reduceSub, Int.reduceMul, Int.reduceToNat, cutCells, Nat.reduceAdd, Nat.reduceLeDiff, Nat.reduceLT, Nat.reduceMul, Nat.reduceSub, eqP_sn]
  refine right_t ⟨true, by rw [hget_old lb]; exact hd⟩ hw hw2 ha ?_
  cases hr : rgt w a n with
  | false =>
    simp (disch := omega) only [kB, kcx, kdm, kdn, kel, aop, resultsL, resultOf, Nat.reduceEqDiff, reduceCtorEq, eq1, apartOK, apart2, AObj.live, Int.reduceEq, Int.reduceLT, Int.reduceLE, Int.reduceAdd, Int.reduceSub, Int.reduceMul, Int.reduceToNat, cutCells, Nat.reduceAdd, Nat.reduceLeDiff, Nat.reduceLT, Nat.reduceMul, Nat.reduceSub]
    exact h1 hr _
  | true =>
  obtain ⟨r1, r2, r3, r4⟩ := (rgt_iff hw2).1 hr
  obtain ⟨k, rfl⟩ : ∃ k : Nat, n = k := ⟨n.toNat, by omega⟩
  simp (disch := omega) only [kB, kcx, kdm, kdn, kel, aop, resultsL, resultOf, Nat.reduceEqDiff, reduceCtorEq, eq1, apartOK, apart2, AObj.live, Int.reduceEq, Int.reduceLT, Int.reduceLE, Int.reduceAdd, Int.reduceSub, Int.reduceMul, Int.reduceToNat, cutCells, Nat.reduceAdd, Nat.reduceLeDiff, Nat.reduceLT, Nat.reduceMul, Nat.reduceSub, eqP_sn]
  refine at_t (by rw [hget_old lb]; exact hd) hw hw2 ha lies.ta.app ok ?_
  rw [hr, if_pos rfl]
  simp only [Int.toNat_natCast] at h2 ⊢
  cases hat : atP w a k t.er with
  | none =>
    rw [atV_none.2 hat]
    simp (disch := omega) only [kB, kcx, kdm, kdn, kel, aop, resultsL, resultOf, Nat.reduceEqDiff, reduceCtorEq, eq1, apartOK, apart2, AObj.live, Int.reduceEq, Int.reduceLT, Int.reduceLE, Int.reduceAdd, Int.reduceSub, Int.reduceMul, Int.reduceToNat, cutCells, Nat.reduceAdd, Nat.reduceLeDiff, Nat.reduceLT, Nat.reduceMul, Nat.reduceSub, eqP_nn]
    exact h2 hr hat _
  | some v0 =>
    have hm := (at_mem r1 (by omega) hpw).1 hat
    obtain ⟨b1, l1, r1', e1, e2, e3, e4⟩ := set_at (v := v) r1 (by omega) hpw lies nd hm
    have lb1 := hget_lt e3 rfl
    have hne : b ≠ b1 := fun q => nb (by rw [q]; exact e2)
    rw [e1]
    have e3' := e3
    unfold nodeRow at e3
    simp (disch := omega) only [kB, kcx, kdm, kdn, kel, aop, resultsL, resultOf, Nat.reduceEqDiff, reduceCtorEq, eq1, apartOK, apart2, AObj.live, Int.reduceEq, Int.reduceLT, Int.reduceLE, Int.reduceAdd, Int.reduceSub, Int.reduceMul, Int.reduceToNat, cutCells, Nat.reduceAdd, Nat.reduceLeDiff, Nat.reduceLT, Nat.reduceMul, Nat.reduceSub, eqP_sn, e3]
    refine h3 k v0 rfl hr hm _ (by simp) (fun c hc hn => by rw [hget_oldS hc, hget_ne (fun q => hn (by rw [← q]; exact e2))]) ⟨?_, by rw [set_blocks]; exact nb, ?_, set_tw ok, by rw [set_blocks]; exact nd⟩
    · rw [hget_oldS lb, hget_ne (Ne.symm hne), set_ptr]
      exact hd
    · have : TAw (H.set b1 (.row (nodeRow a k true v l1 r1') 0 true)) (setT w a k v t) := e4
      exact this.app

/-! ### Clear, Nodes, Copy -/

theorem clear_t {b w : Nat} {m l : Int} {rt : Value} (hd : hget H b = .row [.int .i64 (w : Int), .int .i64 m, .int .i64 l, rt] 0 true) (h : R (.ret (.tuple #[])) (H.set b (.row [.int .i64 (w : Int), .int .i64 m, .int .i64 0, .pointer none] 0 true))) :
    WD T 35 [.pointer (some ⟨b, 0, none⟩)] H R := by
  have lb := hget_lt hd rfl
  refine WD.of follows t35 (by simp) ?_
  simp (disch := omega) only [kB, kcx, kdm, kdn, kel, aop, resultsL, resultOf, Nat.reduceEqDiff, reduceCtorEq, eq1, apartOK, apart2, AObj.live, Int.reduceEq, Int.reduceLT, Int.reduceLE, Int.reduceAdd, Int.reduceSub, Int.reduceMul, Int.reduceToNat, cutCells, Nat.reduceAdd, Nat.reduceLeDiff, Nat.reduceLT, Nat.reduceMul, Nat.reduceSub, eqP_sn, hd, hget_set', List.set_set]
  exact h

theorem nodes_t {b w : Nat} {m l : Int} {t : Tr} {wr : Bool} (hd : hget H b = .row [.int .i64 (w : Int), .int .i64 m, .int .i64 l, t.ptr] 0 wr) (lies : TA H t) (hsz : t.inL.length ≤ 1000000) (h : R (.ret (.int .i64 (t.inL.length : Nat))) H) :
    WD T 40 [.pointer (some ⟨b, 0, none⟩)] H R := by
  have lb := hget_lt hd rfl
  refine WD.gc0 (WD.of follows t40 (by simp) ?_)
  simp (disch := omega) only [kB, kcx, kdm, kdn, kel, aop, resultsL, resultOf, Nat.reduceEqDiff, reduceCtorEq, eq1, apartOK, apart2, AObj.live, Int.reduceEq, Int.reduceLT, Int.reduceLE, Int.reduceAdd, Int.reduceSub, Int.reduceMul, Int.reduceToNat, cutCells, Nat.reduceAdd, Nat.reduceLeDiff, Nat.reduceLT, Nat.reduceMul, Nat.reduceSub, eqP_sn, hd]
  refine walk_t (fun L K => K = H ++ [.row [.int .i64 (L.length : Nat)] 0 true]) t.inL (fun L nd K hS hpre hex => ?_) t [] _ _ rfl (fun L K hS => by rw [hS]; exact lies.app) ⟨[], by simp⟩ fun K hS => ?_
  · subst hS
    have hl := hpre.length_le
    simp only [List.length_append, List.length_cons, List.length_nil] at hl
    refine WD.of follows t72 (by simp) ?_
    simp (disch := omega) only [kB, kcx, kdm, kdn, kel, aop, resultsL, resultOf, Nat.reduceEqDiff, reduceCtorEq, eq1, apartOK, apart2, AObj.live, Int.reduceEq, Int.reduceLT, Int.reduceLE, Int.reduceAdd, Int.reduceSub, Int.reduceMul, Int.reduceToNat, cutCells, Nat.reduceAdd, Nat.reduceLeDiff, Nat.reduceLT, Nat.reduceMul, Nat.reduceSub, wr_i64, nadd1]
  · subst hS
    simp (disch := omega) only [kB, kcx, kdm, kdn, kel, aop, resultsL, resultOf, Nat.reduceEqDiff, reduceCtorEq, eq1, apartOK, apart2, AObj.live, Int.reduceEq, Int.reduceLT, Int.reduceLE, Int.reduceAdd, Int.reduceSub, Int.reduceMul, Int.reduceToNat, cutCells, Nat.reduceAdd, Nat.reduceLeDiff, Nat.reduceLT, Nat.reduceMul, Nat.reduceSub]
    exact ⟨_, rfl, ⟨_, rfl⟩, .closed rfl, by simpa using h⟩

end Go.Proofs.Yticgkaanaimllaa.Ev

/- What is kept under which prefixes, as sets: plain laws. -/
namespace Go.Proofs.Yticgkaanaimllaa.Ev
set_option linter.unusedSimpArgs false
set_option linter.unusedVariables false

/-- A tree whose parts are all right. -/
structure Good (w : Nat) (t : PT) : Prop where
  pw : PW w t
  tw : TWp w t
  ni : NI t

theorem Good.one {w : Nat} {t : PT} (h : Good w t) (hw : w ≤ 128) {a k : Nat} {v u : Int} (h1 : (a, k, v) ∈ t.mem) (h2 : (a, k, u) ∈ t.mem) : v = u := by
  have hk := nodes_ok h.pw _ (mem_nodes h1)
  have e1 := (at_mem hk.2 hk.1 h.pw).2 h1
  have e2 := (at_mem hk.2 hk.1 h.pw).2 h2
  rw [e1] at e2
  exact Option.some.inj e2
theorem Good.key {w : Nat} {t : PT} (h : Good w t) : t.mem.Pairwise (fun x y => (x.1, x.2.1) ≠ (y.1, y.2.1)) :=
  (mem_rise h.pw).imp fun {x y} q e => by
    rw [e, less_irr] at q
    cases q
theorem Good.nodup {w : Nat} {t : PT} (h : Good w t) : t.mem.Nodup := h.key.imp fun {x y} q e => q (by rw [e])

theorem good_nil {w : Nat} : Good w .nil := ⟨trivial, trivial, trivial⟩
theorem good_with {w a k : Nat} {v : Int} {t : PT} (hw : w ≤ 128) (h : Good w t) (hr : rgt w a (k : Nat) = true) (hn : atP w a k t = none) :
    Good w (withP w a k v t) ∧ (withP w a k v t).mem.length = t.mem.length + 1 ∧ ∀ x, x ∈ (withP w a k v t).mem ↔ x = (a, k, v) ∨ x ∈ t.mem := by
  have hr2 := hr
  simp only [rgt, Bool.and_eq_true, decide_eq_true_eq, Int.toNat_natCast] at hr2
  obtain ⟨⟨⟨_, a1⟩, a2⟩, a3⟩ := hr2
  have hk : k ≤ w := by omega
  have hp := with_mem hw a2 hk a3 h.pw h.tw hn (v := v)
  exact ⟨⟨with_pw hw a2 hk a3 h.pw, withP_tw a2 hk a3 h.tw, (with_ni a2 h.pw h.ni).1⟩, by simpa using hp.length_eq, fun x => by rw [hp.mem_iff, List.mem_cons]⟩
theorem good_drop {w a k : Nat} {v : Int} {t : PT} (hw : w ≤ 128) (h : Good w t) (hm : (a, k, v) ∈ t.mem) :
    Good w (dropP w a k t) ∧ (dropP w a k t).mem.length + 1 = t.mem.length ∧ ∀ x : Mem, x ∈ (dropP w a k t).mem ↔ x ∈ t.mem ∧ (x.1, x.2.1) ≠ (a, k) := by
  have hp := drop_mem h.pw hm
  refine ⟨⟨drop_pw h.pw, drop_tw h.tw, drop_ni h.ni⟩, by simpa using hp.length_eq.symm, fun x => ?_⟩
  have hpk := h.key.perm hp (fun {x y} q => Ne.symm q)
  obtain ⟨h1, h2⟩ := List.pairwise_cons.1 hpk
  constructor
  · intro hx
    exact ⟨hp.mem_iff.2 (List.mem_cons_of_mem _ hx), fun e => h1 x hx e.symm⟩
  · rintro ⟨hx, hne⟩
    rcases List.mem_cons.1 (hp.mem_iff.1 hx) with rfl | q
    · exact absurd rfl hne
    · exact q
theorem set_tw2 {w a k : Nat} {v : Int} : ∀ {t : PT}, TWp w t → TWp w (setP w a k v t)
  | .nil, h => h
  | .node c n f u l r, ⟨h1, h2, h3, h4, h5⟩ => by
    rw [setP]
    split
    · exact ⟨h1, h2, h3, h4, h5⟩
    · split
      · exact ⟨h1, h2, h3, set_tw2 h4, h5⟩
      · exact ⟨h1, h2, h3, h4, set_tw2 h5⟩
theorem good_set {w a k : Nat} {v v0 : Int} {t : PT} (hw : w ≤ 128) (h : Good w t) (hm : (a, k, v0) ∈ t.mem) :
    Good w (setP w a k v t) ∧ (setP w a k v t).mem.length = t.mem.length ∧ ∀ x : Mem, x ∈ (setP w a k v t).mem ↔ x = (a, k, v) ∨ (x ∈ t.mem ∧ (x.1, x.2.1) ≠ (a, k)) := by
  obtain ⟨A, B, e1, e2⟩ := set_mem (v := v) h.pw hm
  refine ⟨⟨set_pw h.pw, set_tw2 h.tw, set_ni h.ni⟩, by rw [e1, e2]; simp, fun x => ?_⟩
  have hk := h.key
  rw [e1] at hk
  obtain ⟨h1, h2, h3⟩ := List.pairwise_append.1 hk
  obtain ⟨h4, h5⟩ := List.pairwise_cons.1 h2
  rw [e1, e2]
  simp only [List.mem_append, List.mem_cons]
  constructor
  · rintro (q | q | q)
    · exact .inr ⟨.inl q, h3 x q _ List.mem_cons_self⟩
    · exact .inl q
    · exact .inr ⟨.inr (.inr q), Ne.symm (h4 x q)⟩
  · rintro (q | ⟨q | q | q, hne⟩)
    · exact .inr (.inl q)
    · exact .inl q
    · subst q; exact absurd rfl hne
    · exact .inr (.inr q)

/-- Two that keep the same have the same nodes. -/
theorem good_same {w : Nat} {t u : PT} (hw : w ≤ 128) (h : Good w t) (g : Good w u) (hm : ∀ x, x ∈ t.mem ↔ x ∈ u.mem) : t.mem.length = u.mem.length ∧ t.nodes.length = u.nodes.length := by
  have hp : t.mem.Perm u.mem := (List.perm_ext_iff_of_nodup h.nodup g.nodup).2 hm
  have hk : kl w t = kl w u := perm_sorted (kl_sorted h.pw) (kl_sorted g.pw) (hp.map _)
  refine ⟨hp.length_eq, ?_⟩
  rw [kl_nodes h.pw h.ni, kl_nodes g.pw g.ni, hk]
theorem good_nodes {w : Nat} {t : PT} (h : Good w t) : t.mem.length ≤ t.nodes.length := by
  rw [kl_nodes h.pw h.ni, kl_len]
  omega

theorem ni_nodes : ∀ {t : PT}, NI t → t.nodes.length ≤ 2 * t.mem.length ∧ (nilP t = false → t.nodes.length + 1 ≤ 2 * t.mem.length)
  | .nil, _ => by simp [PT.nodes, PT.mem, nilP]
  | .node c n f v l r, ⟨h1, h2, h3⟩ => by
    have il := ni_nodes h2
    have ir := ni_nodes h3
    simp only [PT.nodes, PT.mem, List.length_cons, List.length_append]
    cases f with
    | true => simp; omega
    | false =>
      obtain ⟨q1, q2⟩ := h1.resolve_left (by simp)
      have := il.2 q1
      have := ir.2 q2
      simp; omega

def FPt (b : Nat) (t : Tr) (c : Nat) : Prop := c = b ∨ c ∈ t.blocks

theorem rgt_k {w a : Nat} {n : Int} (hw2 : w ≤ 128) (hr : rgt w a n = true) : ∃ k : Nat, n = k ∧ a < 2 ^ w ∧ k ≤ w ∧ a &&& maskN w k = a := by
  obtain ⟨r1, r2, r3, r4⟩ := (rgt_iff hw2).1 hr
  obtain ⟨k, rfl⟩ : ∃ k : Nat, n = k := ⟨n.toNat, by omega⟩
  refine ⟨k, rfl, r1, by omega, ?_⟩
  simp only [rgt, Bool.and_eq_true, decide_eq_true_eq, Int.toNat_natCast] at hr
  exact hr.2

end Go.Proofs.Yticgkaanaimllaa.Ev
