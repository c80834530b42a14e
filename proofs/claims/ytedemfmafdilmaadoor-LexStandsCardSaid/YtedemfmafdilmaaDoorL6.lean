/- All words of a text. -/
import Derived.Test.YtedemfmafdilmaaDoorL5
namespace Go.Proofs.YtedemfmafdilmaaDoor.Ev
set_option maxRecDepth 100000
set_option linter.unusedSimpArgs false
set_option linter.unusedVariables false
variable {R : FRes → Heap → Prop} {H : Heap}

def startR (text : List UInt8) : List Value := if text.length ≤ 65536 then sc text 0 (1, 1) (0, 0, 0) else sc [] 0 (1, 1) (2, 0, 0)

theorem start_s {text : List UInt8} (h : R (.ret (.pointer (some ⟨H.length, 0, none⟩))) (H ++ [.row (startR text) 0 true])) : WD T 22 [.string (bs text)] H R := by
  refine WD.of follows t22 (by simp) ?_
  by_cases hl : (65536 : Int) < text.length
  · rw [startR, if_neg (by omega)] at h
    simp (disch := omega) only [kaa, kab, kac, kad, kae, kaf, kag, kah, kai, kaj, kak, kal, kam, kan, kao, kap, kaq, kar, kas, kat, kau, kav, kaw, kax, kay, kaz, kba, kbb, kbc, kbd, kbe, kbf, kbg, kbh, kbi, kbj, kbk, kbl, kbm, kbn, kbo, kbp, kbq, kbr, kbs, kbt, kbu, kbv, kbw, kbx, kby, kbz, kca, kcb, kcc, kcd, kce, kcf, kcg, kch, kci, kcj, kck, kcl, kcm, aop, kcn, kco, kcp, kcq, kcr, kcs, kct, kcu, kcv, kcw, resultsL, resultOf, kcx, Nat.reduceEqDiff, kcy, kcz, kda, reduceCtorEq, kdb, kdc, kdd, kde, kdf, kdg, kdh, kdi, kdj, kdk, kdl, kdm, kdn, kdo, eq1, kdp, kdq, kdr, kds, kdt, kdu, kdv, kdw, kdx, kdy, kdz, kea, keb, kec, apartOK, apart2, AObj.live, ked, kee, kef, keg, keh, kei, kej, kek, kel, Int.reduceEq, Int.reduceLT, Int.reduceLE, Int.reduceAdd, Int.reduceSub, Int.reduceMul, Int.reduceToNat, kem, ken, keo, kep, keq, ker, kes, ket, keu, kev, kew, kex, key, kez, kfa, kfb, kfc, kfd, kfe, kff, kfg, kfh, kfi, kfj, kfk, kfl, cutCells, kfm, kfn, kfo, kfp, kfq, kfr, kfs, kft, kfu, kfv, kfw, kfx, kfy, Nat.reduceAdd, Nat.reduceLeDiff, Nat.reduceLT, Nat.reduceMul, Nat.reduceSub, kfz, kga, kgb, kgc, kgd, kge, kgf, kgg, kgh, kgi, kgj, kgk, kgl, kgm, kgn, kgo, kgp, kgq, kgr, kgs, kgt, kgu, kgv, kgw, kgx, kgy, kgz, kha, khb, khc, khd, hl]
    exact h
  · rw [startR, if_pos (by omega)] at h
    simp (disch := omega) only [kaa, kab, kac, kad, kae, kaf, kag, kah, kai, kaj, kak, kal, kam, kan, kao, kap, kaq, kar, kas, kat, kau, kav, kaw, kax, kay, kaz, kba, kbb, kbc, kbd, kbe, kbf, kbg, kbh, kbi, kbj, kbk, kbl, kbm, kbn, kbo, kbp, kbq, kbr, kbs, kbt, kbu, kbv, kbw, kbx, kby, kbz, kca, kcb, kcc, kcd, kce, kcf, kcg, kch, kci, kcj, kck, kcl, kcm, aop, kcn, kco, kcp, kcq, kcr, kcs, kct, kcu, kcv, kcw, resultsL, resultOf, kcx, Nat.reduceEqDiff, kcy, kcz, kda, reduceCtorEq, kdb, kdc, kdd, kde, kdf, kdg, kdh, kdi, kdj, kdk, kdl, kdm, kdn, kdo, eq1, kdp, kdq, kdr, kds, kdt, kdu, kdv, kdw, kdx, kdy, kdz, kea, keb, kec, apartOK, apart2, AObj.live, ked, kee, kef, keg, keh, kei, kej, kek, kel, Int.reduceEq, Int.reduceLT, Int.reduceLE, Int.reduceAdd, Int.reduceSub, Int.reduceMul, Int.reduceToNat, kem, ken, keo, kep, keq, ker, kes, ket, keu, kev, kew, kex, key, kez, kfa, kfb, kfc, kfd, kfe, kff, kfg, kfh, kfi, kfj, kfk, kfl, cutCells, kfm, kfn, kfo, kfp, kfq, kfr, kfs, kft, kfu, kfv, kfw, kfx, kfy, Nat.reduceAdd, Nat.reduceLeDiff, Nat.reduceLT, Nat.reduceMul, Nat.reduceSub, kfz, kga, kgb, kgc, kgd, kge, kgf, kgg, kgh, kgi, kgj, kgk, kgl, kgm, kgn, kgo, kgp, kgq, kgr, kgs, kgt, kgu, kgv, kgw, kgx, kgy, kgz, kha, khb, khc, khd, hl]
    exact h

structure Tk where
  kind : Int
  text : List UInt8
  val : Nat
  pos : Nat × Nat

def Tk.cells (t : Tk) : List Value := tk t.kind t.text t.val t.pos

/-- The words of what is left of a text, from a place on; and the fault. -/
def lexL (l : List UInt8) (p : Nat × Nat) : List Tk × (Int × Int × Int) :=
  if h0 : l.drop (skN false l) = [] then ([], (0, 0, 0))
  else match tok (l.drop (skN false l)) with
    | .error c => ([], (c, ((adv p (l.take (skN false l))).1 : Int), ((adv p (l.take (skN false l))).2 : Int)))
    | .ok (k, m, v) =>
      if hm : m = 0 then ([], (0, 0, 0))
      else
        let t : Tk := ⟨k, (l.drop (skN false l)).take m, v, adv p (l.take (skN false l))⟩
        let r := lexL ((l.drop (skN false l)).drop m) (adv (adv p (l.take (skN false l))) ((l.drop (skN false l)).take m))
        (t :: r.1, r.2)
  termination_by l.length
  decreasing_by
    have h1 : l.drop (skN false l) ≠ [] := h0
    rw [ne_eq, List.drop_eq_nil_iff] at h1
    simp only [List.length_drop]
    omega

theorem signN_pos {l : List UInt8} (h : signN l ≠ 0) : 0 < signN l := by omega

theorem tok_pos {l : List UInt8} {k : Int} {m v : Nat} (h : tok l = .ok (k, m, v)) : m ≠ 0 ∧ m ≤ l.length := by
  have h1 := takeWhile_le partQ l
  have h2 := signN_le l
  unfold tok at h
  simp only at h
  split at h
  · split at h
    · split at h
      · cases h; omega
      · cases h
    · split at h
      · cases h; omega
      · split at h
        · cases h; omega
        · cases h
  · split at h
    · cases h
    · cases h; omega

theorem append_one {K : Heap} {b bx l unit bytes u2 : Nat} {cells xs : List Value} {w2 : Bool} (hb : hget K b = .row cells unit true) (hl : cells.length = l * unit) (hx : hget K bx = .row xs u2 w2) (hxl : xs.length = unit) (hall : xs.all oneCell = true)
    (hr : (l + 1) * bytes ≤ roomMax ∧ l + 1 ≤ roomMax) :
    appendV K unit bytes (.slice (some ⟨b, 0, none⟩) l l) (.slice (some ⟨bx, 0, none⟩) 1 1) = .val (.slice (some ⟨K.length, 0, none⟩) (l + 1) (l + 1)) (K.set b .dead ++ [.row (cells ++ xs) unit true]) := by
  simp only [appendV, lenV, srcCells, hx, hb]
  rw [if_pos (by omega)]
  have e1 : List.take (1 * unit) (List.drop 0 xs) = xs := by rw [List.drop_zero, Nat.one_mul, ← hxl, List.take_length]
  have e2 : List.take (l * unit) (List.drop 0 cells) = cells := by rw [List.drop_zero, ← hl, List.take_length]
  simp only [e1]
  rw [if_neg (by omega)]
  simp only [hb, e2]
  rw [if_pos ⟨trivial, by omega, by omega, by omega⟩, if_neg (by omega), if_pos ⟨hr.1, hr.2, hall⟩]

theorem append_nil {K : Heap} {bx unit bytes u2 : Nat} {xs : List Value} {w2 : Bool} (hx : hget K bx = .row xs u2 w2) (hxl : xs.length = unit) (hr : 1 * bytes ≤ roomMax) :
    appendV K unit bytes (.slice none 0 0) (.slice (some ⟨bx, 0, none⟩) 1 1) = .val (.slice (some ⟨K.length, 0, none⟩) 1 1) (K ++ [.row xs unit true]) := by
  simp only [appendV, lenV, srcCells, hx]
  rw [if_pos (by omega)]
  have e1 : List.take (1 * unit) (List.drop 0 xs) = xs := by rw [List.drop_zero, Nat.one_mul, ← hxl, List.take_length]
  simp only [e1]
  rw [if_neg (by omega), if_pos ⟨hr, by decide⟩]

/-- A slice of so many cells. -/
def SL (G : Heap) (n : Nat) (v : Value) (unit : Nat) (cs : List Value) : Prop :=
  (v = .slice none 0 0 ∧ cs = []) ∨ ∃ k l, v = .slice (some ⟨n + k, 0, none⟩) l l ∧ hget G k = .row cs unit true ∧ cs.length = l * unit ∧ l ≠ 0

/-- The answer of Tokens: what the slice holds, and the fault. -/
def lexT (text : List UInt8) : List Tk × (Int × Int × Int) :=
  if text.length ≤ 65536 then (if (lexL text (1, 1)).2.1 = 0 then ((lexL text (1, 1)).1, (0, 0, 0)) else ([], (lexL text (1, 1)).2)) else ([], (2, 0, 0))

def fl (f : Int × Int × Int) : Value := .agg #[.int .i64 f.1, .int .i64 f.2.1, .int .i64 f.2.2]


theorem lexL_end {l : List UInt8} {p : Nat × Nat} (h : l.drop (skN false l) = []) : lexL l p = ([], (0, 0, 0)) := by
  rw [lexL, dif_pos h]
theorem lexL_err {l : List UInt8} {p : Nat × Nat} {c : Int} (h : ¬ l.drop (skN false l) = []) (ht : tok (l.drop (skN false l)) = .error c) :
    lexL l p = ([], (c, ((adv p (l.take (skN false l))).1 : Int), ((adv p (l.take (skN false l))).2 : Int))) := by
  rw [lexL, dif_neg h, ht]
theorem lexL_ok {l : List UInt8} {p : Nat × Nat} {k : Int} {m v : Nat} (h : ¬ l.drop (skN false l) = []) (ht : tok (l.drop (skN false l)) = .ok (k, m, v)) :
    lexL l p = (⟨k, (l.drop (skN false l)).take m, v, adv p (l.take (skN false l))⟩ ::
        (lexL ((l.drop (skN false l)).drop m) (adv (adv p (l.take (skN false l))) ((l.drop (skN false l)).take m))).1,
      (lexL ((l.drop (skN false l)).drop m) (adv (adv p (l.take (skN false l))) ((l.drop (skN false l)).take m))).2) := by
  rw [lexL, dif_neg h, ht]
  simp only
  rw [dif_neg (tok_pos ht).1]

theorem tok_code {l : List UInt8} {c : Int} (h : tok l = .error c) : c ≠ 0 := by
  unfold tok at h
  simp only at h
  split at h
  · split at h
    · split at h
      · cases h
      · cases h; decide
    · split at h
      · cases h
      · split at h
        · cases h
        · cases h; decide
  · split at h
    · cases h; decide
    · cases h

/-- Three cells told apart. -/
theorem agg3_eq (a b c : Int) : eqL [(1, .int .i64 a, .int .i64 0), (1, .int .i64 b, .int .i64 0), (1, .int .i64 c, .int .i64 0)] = some (decide (a = 0 ∧ b = 0 ∧ c = 0)) := by
  have e : ∀ x : Int, (x == 0) = decide (x = 0) := fun x => by rw [Bool.eq_iff_iff]; simp
  simp only [eqL, eqT1, if_true, e]
  by_cases h1 : a = 0 <;> by_cases h2 : b = 0 <;> by_cases h3 : c = 0 <;> simp [h1, h2, h3]


theorem adv_from (text : List UInt8) (pos m : Nat) : adv (adv (1, 1) (text.take pos)) ((text.drop pos).take m) = adv (1, 1) (text.take (pos + m)) := adv_take text (1, 1) pos m

theorem nextR_cases (text : List UInt8) (pos : Nat) (p : Nat × Nat) (f : Int × Int × Int) (hpos : pos ≤ text.length) (hp : p = adv (1, 1) (text.take pos)) :
    ∃ pos' p', pos ≤ pos' ∧ pos' ≤ text.length ∧ p' = adv (1, 1) (text.take pos') ∧
      ((∃ f', nextR text pos p f = (.tuple #[.agg tk0.toArray, .bool false], sc text pos' p' f') ∧ (lexL (text.drop pos) p).1 = [] ∧
          ((lexL (text.drop pos) p).2 = (0, 0, 0) ∧ f' = f ∨ (lexL (text.drop pos) p).2.1 ≠ 0 ∧ f' = (lexL (text.drop pos) p).2)) ∨
       (∃ t : Tk, pos < pos' ∧ nextR text pos p f = (.tuple #[.agg t.cells.toArray, .bool true], sc text pos' p' f) ∧
          lexL (text.drop pos) p = (t :: (lexL (text.drop pos') p').1, (lexL (text.drop pos') p').2))) := by
  have hn := sk_le false (text.drop pos)
  rw [List.length_drop] at hn
  have hdd : (text.drop pos).drop (skN false (text.drop pos)) = text.drop (pos + skN false (text.drop pos)) := List.drop_drop
  have hp1 : adv p ((text.drop pos).take (skN false (text.drop pos))) = adv (1, 1) (text.take (pos + skN false (text.drop pos))) := by rw [hp]; exact adv_from _ _ _
  by_cases hr : text.drop (pos + skN false (text.drop pos)) = []
  · refine ⟨pos + skN false (text.drop pos), _, by omega, by omega, rfl, .inl ⟨f, ?_, ?_⟩⟩
    · simp only [nextR, if_pos hr, hp1]
    · rw [lexL_end (by rw [hdd]; exact hr)]
      exact ⟨rfl, .inl ⟨rfl, rfl⟩⟩
  · cases ht : tok (text.drop (pos + skN false (text.drop pos))) with
    | error c =>
      refine ⟨pos + skN false (text.drop pos), _, by omega, by omega, rfl, .inl ⟨_, by simp only [nextR, if_neg hr, ht, hp1]; rfl, ?_⟩⟩
      rw [lexL_err (by rw [hdd]; exact hr) (by rw [hdd]; exact ht), hp1]
      exact ⟨rfl, .inr ⟨tok_code ht, rfl⟩⟩
    | ok x =>
      obtain ⟨k, m, v⟩ := x
      have hm := tok_pos ht
      rw [List.length_drop] at hm
      have hp2 := adv_from text (pos + skN false (text.drop pos)) m
      refine ⟨pos + skN false (text.drop pos) + m, _, by omega, by omega, rfl, .inr ⟨⟨k, (text.drop (pos + skN false (text.drop pos))).take m, v, adv (1, 1) (text.take (pos + skN false (text.drop pos)))⟩, by omega, ?_, ?_⟩⟩
      · simp only [nextR, if_neg hr, ht, hp1, hp2]
        rfl
      · rw [lexL_ok (by rw [hdd]; exact hr) (by rw [hdd]; exact ht), hp1, hdd, hp2, List.drop_drop]

theorem nextR_one (text : List UInt8) (pos : Nat) (p : Nat × Nat) (f : Int × Int × Int) (hpos : pos ≤ text.length) (hp : p = adv (1, 1) (text.take pos)) :
    ∃ pos' p' ok cur f', pos ≤ pos' ∧ pos' ≤ text.length ∧ p' = adv (1, 1) (text.take pos') ∧ nextR text pos p f = (.tuple #[.agg (cur : List Value).toArray, .bool ok], sc text pos' p' f') ∧ cur.length = 6 ∧ cur.all oneCell = true ∧
      (ok = true → f' = f ∧ pos < pos' ∧ ∃ t, cur = Tk.cells t ∧ lexL (text.drop pos) p = (t :: (lexL (text.drop pos') p').1, (lexL (text.drop pos') p').2)) ∧
      (ok = false → (lexL (text.drop pos) p).1 = [] ∧ ((lexL (text.drop pos) p).2 = (0, 0, 0) ∧ f' = f ∨ (lexL (text.drop pos) p).2.1 ≠ 0 ∧ f' = (lexL (text.drop pos) p).2)) := by
  obtain ⟨pos', p', q1, q2, q3, q4⟩ := nextR_cases text pos p f hpos hp
  rcases q4 with ⟨f', q4, q5⟩ | ⟨t, q4, q5, q6⟩
  · exact ⟨pos', p', false, tk0, f', q1, q2, q3, q4, rfl, rfl, fun h => (by cases h), fun _ => q5⟩
  · exact ⟨pos', p', true, t.cells, f, q1, q2, q3, q5, rfl, rfl, fun _ => ⟨rfl, q4, t, rfl, q6⟩, fun h => (by cases h)⟩

theorem setL_at : ∀ (vs cs : List Value) (o : Nat), o + vs.length = cs.length → setL cs o vs = cs.take o ++ vs
  | [], cs, o, h => by simp [setL] at h ⊢; rw [List.take_of_length_le (by omega)]
  | v :: vs, cs, o, h => by
    simp only [List.length_cons] at h
    rw [setL, setL_at vs _ (o + 1) (by rw [List.length_set]; omega)]
    rw [List.take_set, List.take_add_one, List.getElem?_eq_getElem (by omega)]
    have hlen : (cs.take o).length = o := by rw [List.length_take]; omega
    rw [show (cs.take o ++ (some cs[o]).toList).set o v = cs.take o ++ [v] by
      rw [Option.toList_some, List.set_append_right _ _ (by omega), hlen, Nat.sub_self]; rfl]
    simp
theorem setL_full {vs cs : List Value} (h : vs.length = cs.length) : setL cs 0 vs = vs := by rw [setL_at vs cs 0 (by omega)]; simp

theorem flat6 : ∀ ts : List Tk, (ts.map Tk.cells).flatten.length = ts.length * 6
  | [] => rfl
  | a :: ts => by
    have := flat6 ts
    simp only [List.map_cons, List.flatten_cons, List.length_append, List.length_cons, show a.cells.length = 6 from rfl, this]
    omega

/-- The loop's head: so many words are in the list; one more, or none, is at hand. -/
def tokensI (text : List UInt8) (f0 : Int × Int × Int) (H : Heap) : Nat → Env → Heap → Prop := fun n e H' =>
  ∃ (G : Heap) (pos : Nat) (p : Nat × Nat) (ok : Bool) (k6 : Nat) (s5 : Value) (ts : List Tk) (f : Int × Int × Int) (cur : List Value),
    H' = H ++ G ∧ hget G 0 = .row [.int .i64 0, .int .i64 0, .int .i64 0] 0 true ∧ hget G 1 = .row (sc text pos p f) 0 true ∧ hget G k6 = .row cur 0 true ∧ k6 ≠ 0 ∧ k6 ≠ 1 ∧ cur.length = 6 ∧
    pos ≤ text.length ∧ p = adv (1, 1) (text.take pos) ∧ ts.length ≤ pos ∧ SL G H.length s5 6 (ts.map Tk.cells).flatten ∧
    (ok = true → n = text.length - pos + 1 ∧ f = f0 ∧ ts.length < pos ∧ ∃ t, cur = Tk.cells t ∧ lexL text (1, 1) = (ts ++ t :: (lexL (text.drop pos) p).1, (lexL (text.drop pos) p).2)) ∧
    (ok = false → n = 0 ∧ ∃ F, lexL text (1, 1) = (ts, F) ∧ (F = (0, 0, 0) ∧ f = f0 ∨ F.1 ≠ 0 ∧ f = F)) ∧
    (∃ x : Nat → Value, e = [x 0, x 1, x 2, .pointer (some ⟨H.length, 0, none⟩), .pointer (some ⟨H.length + 1, 0, none⟩), s5, .pointer (some ⟨H.length + k6, 0, none⟩), .bool ok, x 8, x 9, x 10, x 11, x 12, x 13, x 14, x 15, x 16, x 17, x 18, x 19, x 20, x 21, x 22, x 23, x 24, x 25, x 26, x 27, x 28, x 29, x 30, x 31, x 32, x 33, x 34, x 35, x 36, x 37])

theorem GH.base {G : Heap} (h : GH H) : GH (H ++ G) := h.ext ⟨G, rfl⟩

theorem lexTokens_s {text : List UInt8} (hH : GH H)
    (h : if (lexT text).1 = [] then R (.ret (.tuple #[.slice none 0 0, fl (lexT text).2])) H
      else R (.ret (.tuple #[.slice (some ⟨H.length, 0, none⟩) (lexT text).1.length (lexT text).1.length, fl (lexT text).2])) (H ++ [.row ((lexT text).1.map Tk.cells).flatten 6 true])) :
    WD T 11 [.string (bs text)] H R := by
  refine WD.gc (WD.of follows t11 (by simp) ?_)
  simp (disch := omega) only [kaa, kab, kac, kad, kae, kaf, kag, kah, kai, kaj, kak, kal, kam, kan, kao, kap, kaq, kar, kas, kat, kau, kav, kaw, kax, kay, kaz, kba, kbb, kbc, kbd, kbe, kbf, kbg, kbh, kbi, kbj, kbk, kbl, kbm, kbn, kbo, kbp, kbq, kbr, kbs, kbt, kbu, kbv, kbw, kbx, kby, kbz, kca, kcb, kcc, kcd, kce, kcf, kcg, kch, kci, kcj, kck, kcl, kcm, aop, kcn, kco, kcp, kcq, kcr, kcs, kct, kcu, kcv, kcw, resultsL, resultOf, kcx, Nat.reduceEqDiff, kcy, kcz, kda, reduceCtorEq, kdb, kdc, kdd, kde, kdf, kdg, kdh, kdi, kdj, kdk, kdl, kdm, kdn, kdo, eq1, kdp, kdq, kdr, kds, kdt, kdu, kdv, kdw, kdx, kdy, kdz, kea, keb, kec, apartOK, apart2, AObj.live, ked, kee, kef, keg, keh, kei, kej, kek, kel, Int.reduceEq, Int.reduceLT, Int.reduceLE, Int.reduceAdd, Int.reduceSub, Int.reduceMul, Int.reduceToNat, kem, ken, keo, kep, keq, ker, kes, ket, keu, kev, kew, kex, key, kez, kfa, kfb, kfc, kfd, kfe, kff, kfg, kfh, kfi, kfj, kfk, kfl, cutCells, kfm, kfn, kfo, kfp, kfq, kfr, kfs, kft, kfu, kfv, kfw, kfx, kfy, Nat.reduceAdd, Nat.reduceLeDiff, Nat.reduceLT, Nat.reduceMul, Nat.reduceSub, kfz, kga, kgb, kgc, kgd, kge, kgf, kgg, kgh, kgi, kgj, kgk, kgl, kgm, kgn, kgo, kgp, kgq, kgr, kgs, kgt, kgu, kgv, kgw, kgx, kgy, kgz, kha, khb, khc, khd]
  (repeat ((first | refine start_s ?_); try simp (disch := omega) only [kaa, kab, kac, kad, kae, kaf, kag, kah, kai, kaj, kak, kal, kam, kan, kao, kap, kaq, kar, kas, kat, kau, kav, kaw, kax, kay, kaz, kba, kbb, kbc, kbd, kbe, kbf, kbg, kbh, kbi, kbj, kbk, kbl, kbm, kbn, kbo, kbp, kbq, kbr, kbs, kbt, kbu, kbv, kbw, kbx, kby, kbz, kca, kcb, kcc, kcd, kce, kcf, kcg, kch, kci, kcj, kck, kcl, kcm, aop, kcn, kco, kcp, kcq, kcr, kcs, kct, kcu, kcv, kcw, resultsL, resultOf, kcx, Nat.reduceEqDiff, kcy, kcz, kda, reduceCtorEq, kdb, kdc, kdd, kde, kdf, kdg, kdh, kdi, kdj, kdk, kdl, kdm, kdn, kdo, eq1, kdp, kdq, kdr, kds, kdt, kdu, kdv, kdw, kdx, kdy, kdz, kea, keb, kec, apartOK, apart2, AObj.live, ked, kee, kef, keg, keh, kei, kej, kek, kel, Int.reduceEq, Int.reduceLT, Int.reduceLE, Int.reduceAdd, Int.reduceSub, Int.reduceMul, Int.reduceToNat, kem, ken, keo, kep, keq, ker, kes, ket, keu, kev, kew, kex, key, kez, kfa, kfb, kfc, kfd, kfe, kff, kfg, kfh, kfi, kfj, kfk, kfl, cutCells, kfm, kfn, kfo, kfp, kfq, kfr, kfs, kft, kfu, kfv, kfw, kfx, kfy, Nat.reduceAdd, Nat.reduceLeDiff, Nat.reduceLT, Nat.reduceMul, Nat.reduceSub, kfz, kga, kgb, kgc, kgd, kge, kgf, kgg, kgh, kgi, kgj, kgk, kgl, kgm, kgn, kgo, kgp, kgq, kgr, kgs, kgt, kgu, kgv, kgw, kgx, kgy, kgz, kha, khb, khc, khd]))
  obtain ⟨text1, f0, hst, hl1, hcase⟩ : ∃ text1 f0, startR text = sc text1 0 (1, 1) f0 ∧ text1.length ≤ 65536 ∧ (text.length ≤ 65536 ∧ text1 = text ∧ f0 = (0, 0, 0) ∨ ¬ text.length ≤ 65536 ∧ text1 = [] ∧ f0 = (2, 0, 0)) := by
    unfold startR
    by_cases hl : text.length ≤ 65536
    · exact ⟨text, _, if_pos hl, hl, .inl ⟨hl, rfl, rfl⟩⟩
    · exact ⟨[], _, if_neg hl, by simp, .inr ⟨hl, rfl, rfl⟩⟩
  rw [hst]
  have hGH : ∀ G : Heap, GH (H ++ G) := fun G => hH.ext ⟨G, rfl⟩
  have two := hH.two
  refine next_s (text := text1) (pos := 0) (p := (1, 1)) (f := f0) (hGH _) (by omega) (by simp (disch := omega) only [kaa, kab, kac, kad, kae, kaf, kag, kah, kai, kaj, kak, kal, kam, kan, kao, kap, kaq, kar, kas, kat, kau, kav, kaw, kax, kay, kaz, kba, kbb, kbc, kbd, kbe, kbf, kbg, kbh, kbi, kbj, kbk, kbl, kbm, kbn, kbo, kbp, kbq, kbr, kbs, kbt, kbu, kbv, kbw, kbx, kby, kbz, kca, kcb, kcc, kcd, kce, kcf, kcg, kch, kci, kcj, kck, kcl, kcm, aop, kcn, kco, kcp, kcq, kcr, kcs, kct, kcu, kcv, kcw, resultsL, resultOf, kcx, Nat.reduceEqDiff, kcy, kcz, kda, reduceCtorEq, kdb, kdc, kdd, kde, kdf, kdg, kdh, kdi, kdj, kdk, kdl, kdm, kdn, kdo, eq1, kdp, kdq, kdr, kds, kdt, kdu, kdv, kdw, kdx, kdy, kdz, kea, keb, kec, apartOK, apart2, AObj.live, ked, kee, kef, keg, keh, kei, kej, kek, kel, Int.reduceEq, Int.reduceLT, Int.reduceLE, Int.reduceAdd, Int.reduceSub, Int.reduceMul, Int.reduceToNat, kem, ken, keo, kep, keq, ker, kes, ket, keu, kev, kew, kex, key, kez, kfa, kfb, kfc, kfd, kfe, kff, kfg, kfh, kfi, kfj, kfk, kfl, cutCells, kfm, kfn, kfo, kfp, kfq, kfr, kfs, kft, kfu, kfv, kfw, kfx, kfy, Nat.reduceAdd, Nat.reduceLeDiff, Nat.reduceLT, Nat.reduceMul, Nat.reduceSub, kfz, kga, kgb, kgc, kgd, kge, kgf, kgg, kgh, kgi, kgj, kgk, kgl, kgm, kgn, kgo, kgp, kgq, kgr, kgs, kgt, kgu, kgv, kgw, kgx, kgy, kgz, kha, khb, khc, khd]) (by omega) hl1 (by omega) (by omega) ?_
  obtain ⟨pos, p, ok, cur, f, q1, q2, q3, q4, q5, q6, q7, q8⟩ := nextR_one text1 0 (1, 1) f0 (by omega) rfl
  rw [q4]
  have sf : ∀ cs : List Value, cs.length = 6 → setL cs 0 cur = cur := fun cs hc => setL_full (by omega)
  simp (disch := omega) only [kaa, kab, kac, kad, kae, kaf, kag, kah, kai, kaj, kak, kal, kam, kan, kao, kap, kaq, kar, kas, kat, kau, kav, kaw, kax, kay, kaz, kba, kbb, kbc, kbd, kbe, kbf, kbg, kbh, kbi, kbj, kbk, kbl, kbm, kbn, kbo, kbp, kbq, kbr, kbs, kbt, kbu, kbv, kbw, kbx, kby, kbz, kca, kcb, kcc, kcd, kce, kcf, kcg, kch, kci, kcj, kck, kcl, kcm, aop, kcn, kco, kcp, kcq, kcr, kcs, kct, kcu, kcv, kcw, resultsL, resultOf, kcx, Nat.reduceEqDiff, kcy, kcz, kda, reduceCtorEq, kdb, kdc, kdd, kde, kdf, kdg, kdh, kdi, kdj, kdk, kdl, kdm, kdn, kdo, eq1, kdp, kdq, kdr, kds, kdt, kdu, kdv, kdw, kdx, kdy, kdz, kea, keb, kec, apartOK, apart2, AObj.live, ked, kee, kef, keg, keh, kei, kej, kek, kel, Int.reduceEq, Int.reduceLT, Int.reduceLE, Int.reduceAdd, Int.reduceSub, Int.reduceMul, Int.reduceToNat, kem, ken, keo, kep, keq, ker, kes, ket, keu, kev, kew, kex, key, kez, kfa, kfb, kfc, kfd, kfe, kff, kfg, kfh, kfi, kfj, kfk, kfl, cutCells, kfm, kfn, kfo, kfp, kfq, kfr, kfs, kft, kfu, kfv, kfw, kfx, kfy, Nat.reduceAdd, Nat.reduceLeDiff, Nat.reduceLT, Nat.reduceMul, Nat.reduceSub, kfz, kga, kgb, kgc, kgd, kge, kgf, kgg, kgh, kgi, kgj, kgk, kgl, kgm, kgn, kgo, kgp, kgq, kgr, kgs, kgt, kgu, kgv, kgw, kgx, kgy, kgz, kha, khb, khc, khd, q5, q6, setL_full]
  refine WLoop.inv (tokensI text1 f0 H) ?_ (if ok = true then text1.length - pos + 1 else 0) _ _ ⟨_, pos, p, ok, 2, .slice none 0 0, [], f, cur, rfl, rfl, rfl, ?_, by omega, by omega, q5, q2, q3, by simp, .inl ⟨rfl, rfl⟩, ?_, ?_, (ex_env rfl)⟩
  · rintro n e H' ⟨G, pos, p, ok, k6, s5, ts, f, cur, rfl, g0, g1, g6, k0, k1, hcl, hpos, hp, htl, hsl, hok, hno, ⟨x, rfl⟩⟩
    have l1 : 1 < G.length := hget_lt g1 rfl
    have l6 : k6 < G.length := hget_lt g6 rfl
    cases ok with
    | true =>
      obtain ⟨hn, rfl, htl2, t, rfl, hlex⟩ := hok rfl
      have hcl2 : t.cells.length = 6 := rfl
      have hone : t.cells.all oneCell = true := rfl
      have ht6 : t.cells.take 6 = t.cells := rfl
      have hpl := adv_le (text1.take pos) (1, 1)
      rw [List.length_take, ← hp] at hpl
      simp only at hpl
      obtain ⟨pos', p', ok, cur, f', q1, q2, q3, q4, q5, q6, q7, q8⟩ := nextR_one text1 pos p f hpos hp
      rcases hsl with ⟨rfl, hcs⟩ | ⟨k5, l5, rfl, h5, hcs, hl5⟩
      · have ha := append_nil (K := H ++ (G ++ [.row t.cells 6 true])) (bx := H.length + G.length) (unit := 6) (bytes := 56) (xs := t.cells) (u2 := 6) (w2 := true) (by rw [hget_base, hget_base0]; rfl) rfl (by decide)
        simp (disch := omega) only [kaa, kab, kac, kad, kae, kaf, kag, kah, kai, kaj, kak, kal, kam, kan, kao, kap, kaq, kar, kas, kat, kau, kav, kaw, kax, kay, kaz, kba, kbb, kbc, kbd, kbe, kbf, kbg, kbh, kbi, kbj, kbk, kbl, kbm, kbn, kbo, kbp, kbq, kbr, kbs, kbt, kbu, kbv, kbw, kbx, kby, kbz, kca, kcb, kcc, kcd, kce, kcf, kcg, kch, kci, kcj, kck, kcl, kcm, aop, kcn, kco, kcp, kcq, kcr, kcs, kct, kcu, kcv, kcw, resultsL, resultOf, kcx, Nat.reduceEqDiff, kcy, kcz, kda, reduceCtorEq, kdb, kdc, kdd, kde, kdf, kdg, kdh, kdi, kdj, kdk, kdl, kdm, kdn, kdo, eq1, kdp, kdq, kdr, kds, kdt, kdu, kdv, kdw, kdx, kdy, kdz, kea, keb, kec, apartOK, apart2, AObj.live, ked, kee, kef, keg, keh, kei, kej, kek, kel, Int.reduceEq, Int.reduceLT, Int.reduceLE, Int.reduceAdd, Int.reduceSub, Int.reduceMul, Int.reduceToNat, kem, ken, keo, kep, keq, ker, kes, ket, keu, kev, kew, kex, key, kez, kfa, kfb, kfc, kfd, kfe, kff, kfg, kfh, kfi, kfj, kfk, kfl, cutCells, kfm, kfn, kfo, kfp, kfq, kfr, kfs, kft, kfu, kfv, kfw, kfx, kfy, Nat.reduceAdd, Nat.reduceLeDiff, Nat.reduceLT, Nat.reduceMul, Nat.reduceSub, kfz, kga, kgb, kgc, kgd, kge, kgf, kgg, kgh, kgi, kgj, kgk, kgl, kgm, kgn, kgo, kgp, kgq, kgr, kgs, kgt, kgu, kgv, kgw, kgx, kgy, kgz, kha, khb, khc, khd, g0, g1, g6, hcl2, Nat.le_refl, ht6, hone, setL_full, ha]
        refine next_s (text := text1) (pos := pos) (p := p) (f := f) (hGH _) (by omega) (by simp (disch := omega) only [kaa, kab, kac, kad, kae, kaf, kag, kah, kai, kaj, kak, kal, kam, kan, kao, kap, kaq, kar, kas, kat, kau, kav, kaw, kax, kay, kaz, kba, kbb, kbc, kbd, kbe, kbf, kbg, kbh, kbi, kbj, kbk, kbl, kbm, kbn, kbo, kbp, kbq, kbr, kbs, kbt, kbu, kbv, kbw, kbx, kby, kbz, kca, kcb, kcc, kcd, kce, kcf, kcg, kch, kci, kcj, kck, kcl, kcm, aop, kcn, kco, kcp, kcq, kcr, kcs, kct, kcu, kcv, kcw, resultsL, resultOf, kcx, Nat.reduceEqDiff, kcy, kcz, kda, reduceCtorEq, kdb, kdc, kdd, kde, kdf, kdg, kdh, kdi, kdj, kdk, kdl, kdm, kdn, kdo, eq1, kdp, kdq, kdr, kds, kdt, kdu, kdv, kdw, kdx, kdy, kdz, kea, keb, kec, apartOK, apart2, AObj.live, ked, kee, kef, keg, keh, kei, kej, kek, kel, Int.reduceEq, Int.reduceLT, Int.reduceLE, Int.reduceAdd, Int.reduceSub, Int.reduceMul, Int.reduceToNat, kem, ken, keo, kep, keq, ker, kes, ket, keu, kev, kew, kex, key, kez, kfa, kfb, kfc, kfd, kfe, kff, kfg, kfh, kfi, kfj, kfk, kfl, cutCells, kfm, kfn, kfo, kfp, kfq, kfr, kfs, kft, kfu, kfv, kfw, kfx, kfy, Nat.reduceAdd, Nat.reduceLeDiff, Nat.reduceLT, Nat.reduceMul, Nat.reduceSub, kfz, kga, kgb, kgc, kgd, kge, kgf, kgg, kgh, kgi, kgj, kgk, kgl, kgm, kgn, kgo, kgp, kgq, kgr, kgs, kgt, kgu, kgv, kgw, kgx, kgy, kgz, kha, khb, khc, khd, g1]) hpos hl1 (by omega) (by omega) ?_
        rw [q4]
        simp (disch := omega) only [kaa, kab, kac, kad, kae, kaf, kag, kah, kai, kaj, kak, kal, kam, kan, kao, kap, kaq, kar, kas, kat, kau, kav, kaw, kax, kay, kaz, kba, kbb, kbc, kbd, kbe, kbf, kbg, kbh, kbi, kbj, kbk, kbl, kbm, kbn, kbo, kbp, kbq, kbr, kbs, kbt, kbu, kbv, kbw, kbx, kby, kbz, kca, kcb, kcc, kcd, kce, kcf, kcg, kch, kci, kcj, kck, kcl, kcm, aop, kcn, kco, kcp, kcq, kcr, kcs, kct, kcu, kcv, kcw, resultsL, resultOf, kcx, Nat.reduceEqDiff, kcy, kcz, kda, reduceCtorEq, kdb, kdc, kdd, kde, kdf, kdg, kdh, kdi, kdj, kdk, kdl, kdm, kdn, kdo, eq1, kdp, kdq, kdr, kds, kdt, kdu, kdv, kdw, kdx, kdy, kdz, kea, keb, kec, apartOK, apart2, AObj.live, ked, kee, kef, keg, keh, kei, kej, kek, kel, Int.reduceEq, Int.reduceLT, Int.reduceLE, Int.reduceAdd, Int.reduceSub, Int.reduceMul, Int.reduceToNat, kem, ken, keo, kep, keq, ker, kes, ket, keu, kev, kew, kex, key, kez, kfa, kfb, kfc, kfd, kfe, kff, kfg, kfh, kfi, kfj, kfk, kfl, cutCells, kfm, kfn, kfo, kfp, kfq, kfr, kfs, kft, kfu, kfv, kfw, kfx, kfy, Nat.reduceAdd, Nat.reduceLeDiff, Nat.reduceLT, Nat.reduceMul, Nat.reduceSub, kfz, kga, kgb, kgc, kgd, kge, kgf, kgg, kgh, kgi, kgj, kgk, kgl, kgm, kgn, kgo, kgp, kgq, kgr, kgs, kgt, kgu, kgv, kgw, kgx, kgy, kgz, kha, khb, khc, khd, q5, q6, setL_full, hcl2]
        refine ⟨if ok = true then text1.length - pos' + 1 else 0, ?_, _, pos', p', ok, G.length + 2, _, ts ++ [t], f', cur, rfl, ?_, ?_, ?_, by omega, by omega, q5, q2, q3, by simp; omega, .inr ⟨G.length + 1, 1, rfl, ?_, ?_, by omega⟩, ?_, ?_, (ex_env rfl)⟩
        · cases ok with
          | true => obtain ⟨_, r2, _⟩ := q7 rfl; simp only [if_true]; omega
          | false => simp only [Bool.false_eq_true, if_false]; omega
        · simp (disch := omega) only [kaa, kab, kac, kad, kae, kaf, kag, kah, kai, kaj, kak, kal, kam, kan, kao, kap, kaq, kar, kas, kat, kau, kav, kaw, kax, kay, kaz, kba, kbb, kbc, kbd, kbe, kbf, kbg, kbh, kbi, kbj, kbk, kbl, kbm, kbn, kbo, kbp, kbq, kbr, kbs, kbt, kbu, kbv, kbw, kbx, kby, kbz, kca, kcb, kcc, kcd, kce, kcf, kcg, kch, kci, kcj, kck, kcl, kcm, aop, kcn, kco, kcp, kcq, kcr, kcs, kct, kcu, kcv, kcw, resultsL, resultOf, kcx, Nat.reduceEqDiff, kcy, kcz, kda, reduceCtorEq, kdb, kdc, kdd, kde, kdf, kdg, kdh, kdi, kdj, kdk, kdl, kdm, kdn, kdo, eq1, kdp, kdq, kdr, kds, kdt, kdu, kdv, kdw, kdx, kdy, kdz, kea, keb, kec, apartOK, apart2, AObj.live, ked, kee, kef, keg, keh, kei, kej, kek, kel, Int.reduceEq, Int.reduceLT, Int.reduceLE, Int.reduceAdd, Int.reduceSub, Int.reduceMul, Int.reduceToNat, kem, ken, keo, kep, keq, ker, kes, ket, keu, kev, kew, kex, key, kez, kfa, kfb, kfc, kfd, kfe, kff, kfg, kfh, kfi, kfj, kfk, kfl, cutCells, kfm, kfn, kfo, kfp, kfq, kfr, kfs, kft, kfu, kfv, kfw, kfx, kfy, Nat.reduceAdd, Nat.reduceLeDiff, Nat.reduceLT, Nat.reduceMul, Nat.reduceSub, kfz, kga, kgb, kgc, kgd, kge, kgf, kgg, kgh, kgi, kgj, kgk, kgl, kgm, kgn, kgo, kgp, kgq, kgr, kgs, kgt, kgu, kgv, kgw, kgx, kgy, kgz, kha, khb, khc, khd, g0, hget_ne]
        · simp (disch := omega) only [kaa, kab, kac, kad, kae, kaf, kag, kah, kai, kaj, kak, kal, kam, kan, kao, kap, kaq, kar, kas, kat, kau, kav, kaw, kax, kay, kaz, kba, kbb, kbc, kbd, kbe, kbf, kbg, kbh, kbi, kbj, kbk, kbl, kbm, kbn, kbo, kbp, kbq, kbr, kbs, kbt, kbu, kbv, kbw, kbx, kby, kbz, kca, kcb, kcc, kcd, kce, kcf, kcg, kch, kci, kcj, kck, kcl, kcm, aop, kcn, kco, kcp, kcq, kcr, kcs, kct, kcu, kcv, kcw, resultsL, resultOf, kcx, Nat.reduceEqDiff, kcy, kcz, kda, reduceCtorEq, kdb, kdc, kdd, kde, kdf, kdg, kdh, kdi, kdj, kdk, kdl, kdm, kdn, kdo, eq1, kdp, kdq, kdr, kds, kdt, kdu, kdv, kdw, kdx, kdy, kdz, kea, keb, kec, apartOK, apart2, AObj.live, ked, kee, kef, keg, keh, kei, kej, kek, kel, Int.reduceEq, Int.reduceLT, Int.reduceLE, Int.reduceAdd, Int.reduceSub, Int.reduceMul, Int.reduceToNat, kem, ken, keo, kep, keq, ker, kes, ket, keu, kev, kew, kex, key, kez, kfa, kfb, kfc, kfd, kfe, kff, kfg, kfh, kfi, kfj, kfk, kfl, cutCells, kfm, kfn, kfo, kfp, kfq, kfr, kfs, kft, kfu, kfv, kfw, kfx, kfy, Nat.reduceAdd, Nat.reduceLeDiff, Nat.reduceLT, Nat.reduceMul, Nat.reduceSub, kfz, kga, kgb, kgc, kgd, kge, kgf, kgg, kgh, kgi, kgj, kgk, kgl, kgm, kgn, kgo, kgp, kgq, kgr, kgs, kgt, kgu, kgv, kgw, kgx, kgy, kgz, kha, khb, khc, khd, g1]
        · simp (disch := omega) only [kaa, kab, kac, kad, kae, kaf, kag, kah, kai, kaj, kak, kal, kam, kan, kao, kap, kaq, kar, kas, kat, kau, kav, kaw, kax, kay, kaz, kba, kbb, kbc, kbd, kbe, kbf, kbg, kbh, kbi, kbj, kbk, kbl, kbm, kbn, kbo, kbp, kbq, kbr, kbs, kbt, kbu, kbv, kbw, kbx, kby, kbz, kca, kcb, kcc, kcd, kce, kcf, kcg, kch, kci, kcj, kck, kcl, kcm, aop, kcn, kco, kcp, kcq, kcr, kcs, kct, kcu, kcv, kcw, resultsL, resultOf, kcx, Nat.reduceEqDiff, kcy, kcz, kda, reduceCtorEq, kdb, kdc, kdd, kde, kdf, kdg, kdh, kdi, kdj, kdk, kdl, kdm, kdn, kdo, eq1, kdp, kdq, kdr, kds, kdt, kdu, kdv, kdw, kdx, kdy, kdz, kea, keb, kec, apartOK, apart2, AObj.live, ked, kee, kef, keg, keh, kei, kej, kek, kel, Int.reduceEq, Int.reduceLT, Int.reduceLE, Int.reduceAdd, Int.reduceSub, Int.reduceMul, Int.reduceToNat, kem, ken, keo, kep, keq, ker, kes, ket, keu, kev, kew, kex, key, kez, kfa, kfb, kfc, kfd, kfe, kff, kfg, kfh, kfi, kfj, kfk, kfl, cutCells, kfm, kfn, kfo, kfp, kfq, kfr, kfs, kft, kfu, kfv, kfw, kfx, kfy, Nat.reduceAdd, Nat.reduceLeDiff, Nat.reduceLT, Nat.reduceMul, Nat.reduceSub, kfz, kga, kgb, kgc, kgd, kge, kgf, kgg, kgh, kgi, kgj, kgk, kgl, kgm, kgn, kgo, kgp, kgq, kgr, kgs, kgt, kgu, kgv, kgw, kgx, kgy, kgz, kha, khb, khc, khd, g1]
        · simp (disch := omega) only [kaa, kab, kac, kad, kae, kaf, kag, kah, kai, kaj, kak, kal, kam, kan, kao, kap, kaq, kar, kas, kat, kau, kav, kaw, kax, kay, kaz, kba, kbb, kbc, kbd, kbe, kbf, kbg, kbh, kbi, kbj, kbk, kbl, kbm, kbn, kbo, kbp, kbq, kbr, kbs, kbt, kbu, kbv, kbw, kbx, kby, kbz, kca, kcb, kcc, kcd, kce, kcf, kcg, kch, kci, kcj, kck, kcl, kcm, aop, kcn, kco, kcp, kcq, kcr, kcs, kct, kcu, kcv, kcw, resultsL, resultOf, kcx, Nat.reduceEqDiff, kcy, kcz, kda, reduceCtorEq, kdb, kdc, kdd, kde, kdf, kdg, kdh, kdi, kdj, kdk, kdl, kdm, kdn, kdo, eq1, kdp, kdq, kdr, kds, kdt, kdu, kdv, kdw, kdx, kdy, kdz, kea, keb, kec, apartOK, apart2, AObj.live, ked, kee, kef, keg, keh, kei, kej, kek, kel, Int.reduceEq, Int.reduceLT, Int.reduceLE, Int.reduceAdd, Int.reduceSub, Int.reduceMul, Int.reduceToNat, kem, ken, keo, kep, keq, ker, kes, ket, keu, kev, kew, kex, key, kez, kfa, kfb, kfc, kfd, kfe, kff, kfg, kfh, kfi, kfj, kfk, kfl, cutCells, kfm, kfn, kfo, kfp, kfq, kfr, kfs, kft, kfu, kfv, kfw, kfx, kfy, Nat.reduceAdd, Nat.reduceLeDiff, Nat.reduceLT, Nat.reduceMul, Nat.reduceSub, kfz, kga, kgb, kgc, kgd, kge, kgf, kgg, kgh, kgi, kgj, kgk, kgl, kgm, kgn, kgo, kgp, kgq, kgr, kgs, kgt, kgu, kgv, kgw, kgx, kgy, kgz, kha, khb, khc, khd, hcs, List.map_append, List.flatten_append, List.map_nil, List.map_cons, List.flatten_cons, List.flatten_nil, List.append_nil]
        · simp only [List.map_append, List.flatten_append, List.length_append, hcs, List.map_nil, List.map_cons, List.flatten_cons, List.flatten_nil, List.append_nil, hcl2, List.length_nil, Nat.zero_add, Nat.one_mul]
        · intro hok2
          obtain ⟨r1, r2, t2, r3, r4⟩ := q7 hok2
          refine ⟨if_pos hok2, r1, by simp; omega, t2, r3, ?_⟩
          rw [hlex, r4]
          simp
        · intro hno2
          obtain ⟨r1, r2⟩ := q8 hno2
          refine ⟨by rw [hno2]; rfl, _, by rw [hlex, r1], r2⟩
      · have hroom : (l5 + 1) * 56 ≤ roomMax ∧ l5 + 1 ≤ roomMax := by
          rw [flat6] at hcs
          simp only [roomMax]
          omega
        have ha := append_one (K := H ++ (G ++ [.row t.cells 6 true])) (b := H.length + k5) (bx := H.length + G.length) (l := l5) (unit := 6) (bytes := 56) (cells := (ts.map Tk.cells).flatten) (xs := t.cells) (u2 := 6) (w2 := true) (by rw [hget_base, hget_old (hget_lt h5 rfl)]; exact h5) hcs (by rw [hget_base, hget_base0]; rfl) rfl rfl hroom
        have l55 : k5 < G.length := hget_lt h5 rfl
        have n51 : k5 ≠ 1 := fun q => by rw [q, g1] at h5; simp [sc] at h5
        have n56 : k5 ≠ k6 := fun q => by rw [q, g6] at h5; simp at h5
        have n50 : k5 ≠ 0 := fun q => by rw [q, g0] at h5; simp at h5
        simp (disch := omega) only [kaa, kab, kac, kad, kae, kaf, kag, kah, kai, kaj, kak, kal, kam, kan, kao, kap, kaq, kar, kas, kat, kau, kav, kaw, kax, kay, kaz, kba, kbb, kbc, kbd, kbe, kbf, kbg, kbh, kbi, kbj, kbk, kbl, kbm, kbn, kbo, kbp, kbq, kbr, kbs, kbt, kbu, kbv, kbw, kbx, kby, kbz, kca, kcb, kcc, kcd, kce, kcf, kcg, kch, kci, kcj, kck, kcl, kcm, aop, kcn, kco, kcp, kcq, kcr, kcs, kct, kcu, kcv, kcw, resultsL, resultOf, kcx, Nat.reduceEqDiff, kcy, kcz, kda, reduceCtorEq, kdb, kdc, kdd, kde, kdf, kdg, kdh, kdi, kdj, kdk, kdl, kdm, kdn, kdo, eq1, kdp, kdq, kdr, kds, kdt, kdu, kdv, kdw, kdx, kdy, kdz, kea, keb, kec, apartOK, apart2, AObj.live, ked, kee, kef, keg, keh, kei, kej, kek, kel, Int.reduceEq, Int.reduceLT, Int.reduceLE, Int.reduceAdd, Int.reduceSub, Int.reduceMul, Int.reduceToNat, kem, ken, keo, kep, keq, ker, kes, ket, keu, kev, kew, kex, key, kez, kfa, kfb, kfc, kfd, kfe, kff, kfg, kfh, kfi, kfj, kfk, kfl, cutCells, kfm, kfn, kfo, kfp, kfq, kfr, kfs, kft, kfu, kfv, kfw, kfx, kfy, Nat.reduceAdd, Nat.reduceLeDiff, Nat.reduceLT, Nat.reduceMul, Nat.reduceSub, kfz, kga, kgb, kgc, kgd, kge, kgf, kgg, kgh, kgi, kgj, kgk, kgl, kgm, kgn, kgo, kgp, kgq, kgr, kgs, kgt, kgu, kgv, kgw, kgx, kgy, kgz, kha, khb, khc, khd, g0, g1, g6, hcl2, Nat.le_refl, ht6, hone, setL_full, ha, hget_ne]
        refine next_s (text := text1) (pos := pos) (p := p) (f := f) (hGH _) (by omega) (by simp (disch := omega) only [kaa, kab, kac, kad, kae, kaf, kag, kah, kai, kaj, kak, kal, kam, kan, kao, kap, kaq, kar, kas, kat, kau, kav, kaw, kax, kay, kaz, kba, kbb, kbc, kbd, kbe, kbf, kbg, kbh, kbi, kbj, kbk, kbl, kbm, kbn, kbo, kbp, kbq, kbr, kbs, kbt, kbu, kbv, kbw, kbx, kby, kbz, kca, kcb, kcc, kcd, kce, kcf, kcg, kch, kci, kcj, kck, kcl, kcm, aop, kcn, kco, kcp, kcq, kcr, kcs, kct, kcu, kcv, kcw, resultsL, resultOf, kcx, Nat.reduceEqDiff, kcy, kcz, kda, reduceCtorEq, kdb, kdc, kdd, kde, kdf, kdg, kdh, kdi, kdj, kdk, kdl, kdm, kdn, kdo, eq1, kdp, kdq, kdr, kds, kdt, kdu, kdv, kdw, kdx, kdy, kdz, kea, keb, kec, apartOK, apart2, AObj.live, ked, kee, kef, keg, keh, kei, kej, kek, kel, Int.reduceEq, Int.reduceLT, Int.reduceLE, Int.reduceAdd, Int.reduceSub, Int.reduceMul, Int.reduceToNat, kem, ken, keo, kep, keq, ker, kes, ket, keu, kev, kew, kex, key, kez, kfa, kfb, kfc, kfd, kfe, kff, kfg, kfh, kfi, kfj, kfk, kfl, cutCells, kfm, kfn, kfo, kfp, kfq, kfr, kfs, kft, kfu, kfv, kfw, kfx, kfy, Nat.reduceAdd, Nat.reduceLeDiff, Nat.reduceLT, Nat.reduceMul, Nat.reduceSub, kfz, kga, kgb, kgc, kgd, kge, kgf, kgg, kgh, kgi, kgj, kgk, kgl, kgm, kgn, kgo, kgp, kgq, kgr, kgs, kgt, kgu, kgv, kgw, kgx, kgy, kgz, kha, khb, khc, khd, g1, hget_ne]) hpos hl1 (by omega) (by omega) ?_
        rw [q4]
        simp (disch := omega) only [kaa, kab, kac, kad, kae, kaf, kag, kah, kai, kaj, kak, kal, kam, kan, kao, kap, kaq, kar, kas, kat, kau, kav, kaw, kax, kay, kaz, kba, kbb, kbc, kbd, kbe, kbf, kbg, kbh, kbi, kbj, kbk, kbl, kbm, kbn, kbo, kbp, kbq, kbr, kbs, kbt, kbu, kbv, kbw, kbx, kby, kbz, kca, kcb, kcc, kcd, kce, kcf, kcg, kch, kci, kcj, kck, kcl, kcm, aop, kcn, kco, kcp, kcq, kcr, kcs, kct, kcu, kcv, kcw, resultsL, resultOf, kcx, Nat.reduceEqDiff, kcy, kcz, kda, reduceCtorEq, kdb, kdc, kdd, kde, kdf, kdg, kdh, kdi, kdj, kdk, kdl, kdm, kdn, kdo, eq1, kdp, kdq, kdr, kds, kdt, kdu, kdv, kdw, kdx, kdy, kdz, kea, keb, kec, apartOK, apart2, AObj.live, ked, kee, kef, keg, keh, kei, kej, kek, kel, Int.reduceEq, Int.reduceLT, Int.reduceLE, Int.reduceAdd, Int.reduceSub, Int.reduceMul, Int.reduceToNat, kem, ken, keo, kep, keq, ker, kes, ket, keu, kev, kew, kex, key, kez, kfa, kfb, kfc, kfd, kfe, kff, kfg, kfh, kfi, kfj, kfk, kfl, cutCells, kfm, kfn, kfo, kfp, kfq, kfr, kfs, kft, kfu, kfv, kfw, kfx, kfy, Nat.reduceAdd, Nat.reduceLeDiff, Nat.reduceLT, Nat.reduceMul, Nat.reduceSub, kfz, kga, kgb, kgc, kgd, kge, kgf, kgg, kgh, kgi, kgj, kgk, kgl, kgm, kgn, kgo, kgp, kgq, kgr, kgs, kgt, kgu, kgv, kgw, kgx, kgy, kgz, kha, khb, khc, khd, q5, q6, setL_full, hcl2]
        refine ⟨if ok = true then text1.length - pos' + 1 else 0, ?_, _, pos', p', ok, G.length + 2, _, ts ++ [t], f', cur, rfl, ?_, ?_, ?_, by omega, by omega, q5, q2, q3, by simp; omega, .inr ⟨G.length + 1, l5 + 1, rfl, ?_, ?_, by omega⟩, ?_, ?_, (ex_env rfl)⟩
        · cases ok with
          | true => obtain ⟨_, r2, _⟩ := q7 rfl; simp only [if_true]; omega
          | false => simp only [Bool.false_eq_true, if_false]; omega
        · simp (disch := omega) only [kaa, kab, kac, kad, kae, kaf, kag, kah, kai, kaj, kak, kal, kam, kan, kao, kap, kaq, kar, kas, kat, kau, kav, kaw, kax, kay, kaz, kba, kbb, kbc, kbd, kbe, kbf, kbg, kbh, kbi, kbj, kbk, kbl, kbm, kbn, kbo, kbp, kbq, kbr, kbs, kbt, kbu, kbv, kbw, kbx, kby, kbz, kca, kcb, kcc, kcd, kce, kcf, kcg, kch, kci, kcj, kck, kcl, kcm, aop, kcn, kco, kcp, kcq, kcr, kcs, kct, kcu, kcv, kcw, resultsL, resultOf, kcx, Nat.reduceEqDiff, kcy, kcz, kda, reduceCtorEq, kdb, kdc, kdd, kde, kdf, kdg, kdh, kdi, kdj, kdk, kdl, kdm, kdn, kdo, eq1, kdp, kdq, kdr, kds, kdt, kdu, kdv, kdw, kdx, kdy, kdz, kea, keb, kec, apartOK, apart2, AObj.live, ked, kee, kef, keg, keh, kei, kej, kek, kel, Int.reduceEq, Int.reduceLT, Int.reduceLE, Int.reduceAdd, Int.reduceSub, Int.reduceMul, Int.reduceToNat, kem, ken, keo, kep, keq, ker, kes, ket, keu, kev, kew, kex, key, kez, kfa, kfb, kfc, kfd, kfe, kff, kfg, kfh, kfi, kfj, kfk, kfl, cutCells, kfm, kfn, kfo, kfp, kfq, kfr, kfs, kft, kfu, kfv, kfw, kfx, kfy, Nat.reduceAdd, Nat.reduceLeDiff, Nat.reduceLT, Nat.reduceMul, Nat.reduceSub, kfz, kga, kgb, kgc, kgd, kge, kgf, kgg, kgh, kgi, kgj, kgk, kgl, kgm, kgn, kgo, kgp, kgq, kgr, kgs, kgt, kgu, kgv, kgw, kgx, kgy, kgz, kha, khb, khc, khd, g0, hget_ne]
        · simp (disch := omega) only [kaa, kab, kac, kad, kae, kaf, kag, kah, kai, kaj, kak, kal, kam, kan, kao, kap, kaq, kar, kas, kat, kau, kav, kaw, kax, kay, kaz, kba, kbb, kbc, kbd, kbe, kbf, kbg, kbh, kbi, kbj, kbk, kbl, kbm, kbn, kbo, kbp, kbq, kbr, kbs, kbt, kbu, kbv, kbw, kbx, kby, kbz, kca, kcb, kcc, kcd, kce, kcf, kcg, kch, kci, kcj, kck, kcl, kcm, aop, kcn, kco, kcp, kcq, kcr, kcs, kct, kcu, kcv, kcw, resultsL, resultOf, kcx, Nat.reduceEqDiff, kcy, kcz, kda, reduceCtorEq, kdb, kdc, kdd, kde, kdf, kdg, kdh, kdi, kdj, kdk, kdl, kdm, kdn, kdo, eq1, kdp, kdq, kdr, kds, kdt, kdu, kdv, kdw, kdx, kdy, kdz, kea, keb, kec, apartOK, apart2, AObj.live, ked, kee, kef, keg, keh, kei, kej, kek, kel, Int.reduceEq, Int.reduceLT, Int.reduceLE, Int.reduceAdd, Int.reduceSub, Int.reduceMul, Int.reduceToNat, kem, ken, keo, kep, keq, ker, kes, ket, keu, kev, kew, kex, key, kez, kfa, kfb, kfc, kfd, kfe, kff, kfg, kfh, kfi, kfj, kfk, kfl, cutCells, kfm, kfn, kfo, kfp, kfq, kfr, kfs, kft, kfu, kfv, kfw, kfx, kfy, Nat.reduceAdd, Nat.reduceLeDiff, Nat.reduceLT, Nat.reduceMul, Nat.reduceSub, kfz, kga, kgb, kgc, kgd, kge, kgf, kgg, kgh, kgi, kgj, kgk, kgl, kgm, kgn, kgo, kgp, kgq, kgr, kgs, kgt, kgu, kgv, kgw, kgx, kgy, kgz, kha, khb, khc, khd, g1]
        · simp (disch := omega) only [kaa, kab, kac, kad, kae, kaf, kag, kah, kai, kaj, kak, kal, kam, kan, kao, kap, kaq, kar, kas, kat, kau, kav, kaw, kax, kay, kaz, kba, kbb, kbc, kbd, kbe, kbf, kbg, kbh, kbi, kbj, kbk, kbl, kbm, kbn, kbo, kbp, kbq, kbr, kbs, kbt, kbu, kbv, kbw, kbx, kby, kbz, kca, kcb, kcc, kcd, kce, kcf, kcg, kch, kci, kcj, kck, kcl, kcm, aop, kcn, kco, kcp, kcq, kcr, kcs, kct, kcu, kcv, kcw, resultsL, resultOf, kcx, Nat.reduceEqDiff, kcy, kcz, kda, reduceCtorEq, kdb, kdc, kdd, kde, kdf, kdg, kdh, kdi, kdj, kdk, kdl, kdm, kdn, kdo, eq1, kdp, kdq, kdr, kds, kdt, kdu, kdv, kdw, kdx, kdy, kdz, kea, keb, kec, apartOK, apart2, AObj.live, ked, kee, kef, keg, keh, kei, kej, kek, kel, Int.reduceEq, Int.reduceLT, Int.reduceLE, Int.reduceAdd, Int.reduceSub, Int.reduceMul, Int.reduceToNat, kem, ken, keo, kep, keq, ker, kes, ket, keu, kev, kew, kex, key, kez, kfa, kfb, kfc, kfd, kfe, kff, kfg, kfh, kfi, kfj, kfk, kfl, cutCells, kfm, kfn, kfo, kfp, kfq, kfr, kfs, kft, kfu, kfv, kfw, kfx, kfy, Nat.reduceAdd, Nat.reduceLeDiff, Nat.reduceLT, Nat.reduceMul, Nat.reduceSub, kfz, kga, kgb, kgc, kgd, kge, kgf, kgg, kgh, kgi, kgj, kgk, kgl, kgm, kgn, kgo, kgp, kgq, kgr, kgs, kgt, kgu, kgv, kgw, kgx, kgy, kgz, kha, khb, khc, khd, g1]
        · simp (disch := omega) only [kaa, kab, kac, kad, kae, kaf, kag, kah, kai, kaj, kak, kal, kam, kan, kao, kap, kaq, kar, kas, kat, kau, kav, kaw, kax, kay, kaz, kba, kbb, kbc, kbd, kbe, kbf, kbg, kbh, kbi, kbj, kbk, kbl, kbm, kbn, kbo, kbp, kbq, kbr, kbs, kbt, kbu, kbv, kbw, kbx, kby, kbz, kca, kcb, kcc, kcd, kce, kcf, kcg, kch, kci, kcj, kck, kcl, kcm, aop, kcn, kco, kcp, kcq, kcr, kcs, kct, kcu, kcv, kcw, resultsL, resultOf, kcx, Nat.reduceEqDiff, kcy, kcz, kda, reduceCtorEq, kdb, kdc, kdd, kde, kdf, kdg, kdh, kdi, kdj, kdk, kdl, kdm, kdn, kdo, eq1, kdp, kdq, kdr, kds, kdt, kdu, kdv, kdw, kdx, kdy, kdz, kea, keb, kec, apartOK, apart2, AObj.live, ked, kee, kef, keg, keh, kei, kej, kek, kel, Int.reduceEq, Int.reduceLT, Int.reduceLE, Int.reduceAdd, Int.reduceSub, Int.reduceMul, Int.reduceToNat, kem, ken, keo, kep, keq, ker, kes, ket, keu, kev, kew, kex, key, kez, kfa, kfb, kfc, kfd, kfe, kff, kfg, kfh, kfi, kfj, kfk, kfl, cutCells, kfm, kfn, kfo, kfp, kfq, kfr, kfs, kft, kfu, kfv, kfw, kfx, kfy, Nat.reduceAdd, Nat.reduceLeDiff, Nat.reduceLT, Nat.reduceMul, Nat.reduceSub, kfz, kga, kgb, kgc, kgd, kge, kgf, kgg, kgh, kgi, kgj, kgk, kgl, kgm, kgn, kgo, kgp, kgq, kgr, kgs, kgt, kgu, kgv, kgw, kgx, kgy, kgz, kha, khb, khc, khd, hcs, List.map_append, List.flatten_append, List.map_nil, List.map_cons, List.flatten_cons, List.flatten_nil, List.append_nil]
        · simp only [List.map_append, List.flatten_append, List.length_append, hcs, List.map_nil, List.map_cons, List.flatten_cons, List.flatten_nil, List.append_nil, hcl2, List.length_nil, Nat.zero_add, Nat.add_mul, Nat.one_mul]
        · intro hok2
          obtain ⟨r1, r2, t2, r3, r4⟩ := q7 hok2
          refine ⟨if_pos hok2, r1, by simp; omega, t2, r3, ?_⟩
          rw [hlex, r4]
          simp
        · intro hno2
          obtain ⟨r1, r2⟩ := q8 hno2
          refine ⟨by rw [hno2]; rfl, _, by rw [hlex, r1], r2⟩
    | false =>
      obtain ⟨rfl, F, hlex, hF⟩ := hno rfl
      have fcase : (f = (0, 0, 0) ∧ lexT text = (ts, (0, 0, 0))) ∨ (f ≠ (0, 0, 0) ∧ lexT text = ([], f)) := by
        rcases hcase with ⟨c1, rfl, rfl⟩ | ⟨c1, rfl, rfl⟩
        · rcases hF with ⟨rfl, rfl⟩ | ⟨hF, rfl⟩
          · exact .inl ⟨rfl, by rw [lexT, if_pos c1, hlex]; rfl⟩
          · refine .inr ⟨fun q => hF (by rw [q]), ?_⟩
            rw [lexT, if_pos c1, hlex]
            simp only
            rw [if_neg hF]
        · refine .inr ?_
          have he : lexL [] (1, 1) = ([], (0, 0, 0)) := lexL_end rfl
          rw [he] at hlex
          obtain ⟨rfl, rfl⟩ := Prod.mk.inj hlex
          rcases hF with ⟨_, rfl⟩ | ⟨hF, _⟩
          · exact ⟨by decide, by rw [lexT, if_neg c1]⟩
          · exact absurd rfl hF
      rcases fcase with ⟨rfl, hT⟩ | ⟨hf, hT⟩
      · simp (disch := omega) only [kaa, kab, kac, kad, kae, kaf, kag, kah, kai, kaj, kak, kal, kam, kan, kao, kap, kaq, kar, kas, kat, kau, kav, kaw, kax, kay, kaz, kba, kbb, kbc, kbd, kbe, kbf, kbg, kbh, kbi, kbj, kbk, kbl, kbm, kbn, kbo, kbp, kbq, kbr, kbs, kbt, kbu, kbv, kbw, kbx, kby, kbz, kca, kcb, kcc, kcd, kce, kcf, kcg, kch, kci, kcj, kck, kcl, kcm, aop, kcn, kco, kcp, kcq, kcr, kcs, kct, kcu, kcv, kcw, resultsL, resultOf, kcx, Nat.reduceEqDiff, kcy, kcz, kda, reduceCtorEq, kdb, kdc, kdd, kde, kdf, kdg, kdh, kdi, kdj, kdk, kdl, kdm, kdn, kdo, eq1, kdp, kdq, kdr, kds, kdt, kdu, kdv, kdw, kdx, kdy, kdz, kea, keb, kec, apartOK, apart2, AObj.live, ked, kee, kef, keg, keh, kei, kej, kek, kel, Int.reduceEq, Int.reduceLT, Int.reduceLE, Int.reduceAdd, Int.reduceSub, Int.reduceMul, Int.reduceToNat, kem, ken, keo, kep, keq, ker, kes, ket, keu, kev, kew, kex, key, kez, kfa, kfb, kfc, kfd, kfe, kff, kfg, kfh, kfi, kfj, kfk, kfl, cutCells, kfm, kfn, kfo, kfp, kfq, kfr, kfs, kft, kfu, kfv, kfw, kfx, kfy, Nat.reduceAdd, Nat.reduceLeDiff, Nat.reduceLT, Nat.reduceMul, Nat.reduceSub, kfz, kga, kgb, kgc, kgd, kge, kgf, kgg, kgh, kgi, kgj, kgk, kgl, kgm, kgn, kgo, kgp, kgq, kgr, kgs, kgt, kgu, kgv, kgw, kgx, kgy, kgz, kha, khb, khc, khd, g0, g1, g6, sc, agg3_eq]
        rw [hT] at h
        have sfl : Scoped H.length (.agg #[.int .i64 0, .int .i64 0, .int .i64 0]) := .closed rfl
        rcases hsl with ⟨rfl, hcs⟩ | ⟨k5, l5, rfl, h5, hcs, hl5⟩
        · have ht0 : ts = [] := by
            have := flat6 ts
            rw [hcs] at this
            simp only [List.length_nil] at this
            exact List.eq_nil_of_length_eq_zero (by omega)
          subst ht0
          exact ⟨H, _, [], [], .ret _, rfl, rfl, fun b o ho => .inl ho, rfl, List.nodup_nil, fun i k o2 hk => (by simp at hk), VS.pair (.old .slNil) (.old sfl), by simpa [fl] using h⟩
        · have hll : ts.length = l5 := by
            have := flat6 ts
            omega
          have hne : ¬ ts = [] := fun q => by subst q; simp at hll; omega
          rw [if_neg hne] at h
          have n50 : 0 ≠ k5 := fun q => by rw [← q, g0] at h5; simp at h5
          refine ⟨H, _, [_], [k5], .ret _, rfl, rfl, fun b o ho => .inl ho, rfl, by simp, fun i k o2 hk ho => ?_, VS.pair (VS.sl (i := 0) rfl) (.old sfl), by rw [hll] at h; exact h⟩
          match i, hk, ho with
          | 0, hk, ho =>
            simp at hk ho
            subst hk; subst ho
            refine ⟨_, hget_some (o := .row (ts.map Tk.cells).flatten 6 true) (by rw [hget_set_ne _ _ n50]; exact h5) rfl, OS.same fun v hv => ?_⟩
            rw [List.mem_flatten] at hv
            obtain ⟨cs, hcs2, hv⟩ := hv
            rw [List.mem_map] at hcs2
            obtain ⟨t, _, rfl⟩ := hcs2
            exact scoped_tk v hv
      · have hf' : ¬ (f.1 = 0 ∧ f.2.1 = 0 ∧ f.2.2 = 0) := fun q => hf (Prod.ext q.1 (Prod.ext q.2.1 q.2.2))
        simp (disch := omega) only [kaa, kab, kac, kad, kae, kaf, kag, kah, kai, kaj, kak, kal, kam, kan, kao, kap, kaq, kar, kas, kat, kau, kav, kaw, kax, kay, kaz, kba, kbb, kbc, kbd, kbe, kbf, kbg, kbh, kbi, kbj, kbk, kbl, kbm, kbn, kbo, kbp, kbq, kbr, kbs, kbt, kbu, kbv, kbw, kbx, kby, kbz, kca, kcb, kcc, kcd, kce, kcf, kcg, kch, kci, kcj, kck, kcl, kcm, aop, kcn, kco, kcp, kcq, kcr, kcs, kct, kcu, kcv, kcw, resultsL, resultOf, kcx, Nat.reduceEqDiff, kcy, kcz, kda, reduceCtorEq, kdb, kdc, kdd, kde, kdf, kdg, kdh, kdi, kdj, kdk, kdl, kdm, kdn, kdo, eq1, kdp, kdq, kdr, kds, kdt, kdu, kdv, kdw, kdx, kdy, kdz, kea, keb, kec, apartOK, apart2, AObj.live, ked, kee, kef, keg, keh, kei, kej, kek, kel, Int.reduceEq, Int.reduceLT, Int.reduceLE, Int.reduceAdd, Int.reduceSub, Int.reduceMul, Int.reduceToNat, kem, ken, keo, kep, keq, ker, kes, ket, keu, kev, kew, kex, key, kez, kfa, kfb, kfc, kfd, kfe, kff, kfg, kfh, kfi, kfj, kfk, kfl, cutCells, kfm, kfn, kfo, kfp, kfq, kfr, kfs, kft, kfu, kfv, kfw, kfx, kfy, Nat.reduceAdd, Nat.reduceLeDiff, Nat.reduceLT, Nat.reduceMul, Nat.reduceSub, kfz, kga, kgb, kgc, kgd, kge, kgf, kgg, kgh, kgi, kgj, kgk, kgl, kgm, kgn, kgo, kgp, kgq, kgr, kgs, kgt, kgu, kgv, kgw, kgx, kgy, kgz, kha, khb, khc, khd, g0, g1, g6, sc, agg3_eq, hf']
        rw [hT] at h
        exact ⟨H, _, [], [], .ret _, rfl, rfl, fun b o ho => .inl ho, rfl, List.nodup_nil, fun i k o2 hk => (by simp at hk), VS.pair (.old .slNil) (.old (.closed rfl)), by simpa [fl] using h⟩
  · rfl
  · intro hok
    obtain ⟨r1, r2, t, r3, r4⟩ := q7 hok
    simp only [List.drop_zero] at r4
    exact ⟨if_pos hok, r1, by simpa using r2, t, r3, by rw [r4]; rfl⟩
  · intro hno
    obtain ⟨r1, r2⟩ := q8 hno
    simp only [List.drop_zero] at r1 r2
    exact ⟨by rw [hno]; rfl, _, by rw [← r1], r2⟩

end Go.Proofs.YtedemfmafdilmaaDoor.Ev
