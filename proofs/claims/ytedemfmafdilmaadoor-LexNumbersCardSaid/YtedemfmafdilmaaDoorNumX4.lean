/- Parts of the proof: L6, L7, N1, L8, L9, R1, R2, R4, R5, S1, S2, S3, D1, D2. Conditions: none. -/
import Derived.Test.YtedemfmafdilmaaDoorNumX3
/- All words of a text. -/
namespace Go.Proofs.YtedemfmafdilmaaDoor.Ev
set_option maxRecDepth 100000
set_option linter.unusedSimpArgs false
set_option linter.unusedVariables false
variable {R : FRes → Heap → Prop} {H : Heap}

def startR (text : List UInt8) : List Value := if text.length ≤ 65536 then sc text 0 (1, 1) (0, 0, 0) else sc [] 0 (1, 1) (2, 0, 0)

theorem start_s {text : List UInt8} (h : R (.ret (.pointer (some ⟨H.length, 0, none⟩))) (H ++ [.row (startR text) 0 true])) : WD T 22 [.string (bs text)] H R := by
  refine WD.of follows t22 (by simp) ?_
  by_cases hl : (65536 : Int) < text.length
  · rw [startR, if_neg (by omega)] at h
    simp (disch := omega) only [kaa, kab, kac, kad, kae, kaf, kag, kah, kai, kaj, kak, kal, kam, kan, kao, khe, khf, khg, khh, khi, khj, khk, khl, kap, kaq, kar, kas, kat, kau, kav, kaw, kax, kay, kaz, kba, kbb, kbc, kbd, kbe, kbf, kbg, kbh, kbi, kbj, kbk, kbl, kbm, kbn, kbo, kbp, kbq, kbr, kbs, kbt, kbu, kbv, kbw, kbx, kby, kbz, kca, kcb, kcc, kcd, kce, kcf, kcg, kch, kci, kcj, kck, kcl, kcm, aop, kcn, kco, kcp, kcq, kcr, kcs, kct, kcu, kcv, kcw, resultsL, resultOf, kcx, Nat.reduceEqDiff, kcy, kcz, kda, reduceCtorEq, kdb, kdc, kdd, kde, kdf, kdg, kdh, kdi, kdj, kdk, kdl, kdm, kdn, kdo, eq1, kdp, kdq, kdr, kds, kdt, kdu, kdv, kdw, kdx, kdy, kdz, kea, keb, kec, apartOK, apart2, AObj.live, ked, kee, kef, keg, keh, kei, kej, kek, kel, Int.reduceEq, Int.reduceLT, Int.reduceLE, Int.reduceAdd, Int.reduceSub, Int.reduceMul, Int.reduceToNat, kem, ken, keo, kep, keq, ker, kes, ket, keu, kev, kew, kex, key, kez, kfa, kfb, kfc, kfd, kfe, kff, kfg, kfh, kfi, kfj, kfk, kfl, cutCells, kfm, kfn, kfo, kfp, kfq, kfr, kfs, kft, kfu, kfv, kfw, kfx, kfy, Nat.reduceAdd, Nat.reduceLeDiff, Nat.reduceLT, Nat.reduceMul, Nat.reduceSub, kfz, kga, kgb, kgc, kgd, kge, kgf, kgg, kgh, kgi, kgj, kgk, kgl, kgm, kgn, kgo, kgp, kgq, kgr, kgs, kgt, kgu, kgv, kgw, kgx, kgy, kgz, kha, khb, khc, khd, hl]
    exact h
  · rw [startR, if_pos (by omega)] at h
    simp (disch := omega) only [kaa, kab, kac, kad, kae, kaf, kag, kah, kai, kaj, kak, kal, kam, kan, kao, khe, khf, khg, khh, khi, khj, khk, khl, kap, kaq, kar, kas, kat, kau, kav, kaw, kax, kay, kaz, kba, kbb, kbc, kbd, kbe, kbf, kbg, kbh, kbi, kbj, kbk, kbl, kbm, kbn, kbo, kbp, kbq, kbr, kbs, kbt, kbu, kbv, kbw, kbx, kby, kbz, kca, kcb, kcc, kcd, kce, kcf, kcg, kch, kci, kcj, kck, kcl, kcm, aop, kcn, kco, kcp, kcq, kcr, kcs, kct, kcu, kcv, kcw, resultsL, resultOf, kcx, Nat.reduceEqDiff, kcy, kcz, kda, reduceCtorEq, kdb, kdc, kdd, kde, kdf, kdg, kdh, kdi, kdj, kdk, kdl, kdm, kdn, kdo, eq1, kdp, kdq, kdr, kds, kdt, kdu, kdv, kdw, kdx, kdy, kdz, kea, keb, kec, apartOK, apart2, AObj.live, ked, kee, kef, keg, keh, kei, kej, kek, kel, Int.reduceEq, Int.reduceLT, Int.reduceLE, Int.reduceAdd, Int.reduceSub, Int.reduceMul, Int.reduceToNat, kem, ken, keo, kep, keq, ker, kes, ket, keu, kev, kew, kex, key, kez, kfa, kfb, kfc, kfd, kfe, kff, kfg, kfh, kfi, kfj, kfk, kfl, cutCells, kfm, kfn, kfo, kfp, kfq, kfr, kfs, kft, kfu, kfv, kfw, kfx, kfy, Nat.reduceAdd, Nat.reduceLeDiff, Nat.reduceLT, Nat.reduceMul, Nat.reduceSub, kfz, kga, kgb, kgc, kgd, kge, kgf, kgg, kgh, kgi, kgj, kgk, kgl, kgm, kgn, kgo, kgp, kgq, kgr, kgs, kgt, kgu, kgv, kgw, kgx, kgy, kgz, kha, khb, khc, khd, hl]
    exact h

structure Tk where
  kind : Int
  text : List UInt8
  val : Nat
  pos : Nat × Nat

def Tk.cells (t : Tk) : List Value := tk t.kind t.text t.val t.pos

/-- The words of what is left of a text, from a place on; and the fault. -/
def lexL (l : List UInt8) (p : Nat × Nat) : List Tk × (Int × Int × Int) :=
  if h0 : l.drop (skN false l) = [] then ([], (0, 0, 0))
  else match tok (l.drop (skN false l)) with
    | .error c => ([], (c, ((adv p (l.take (skN false l))).1 : Int), ((adv p (l.take (skN false l))).2 : Int)))
    | .ok (k, m, v) =>
      if hm : m = 0 then ([], (0, 0, 0))
      else
        let t : Tk := ⟨k, (l.drop (skN false l)).take m, v, adv p (l.take (skN false l))⟩
        let r := lexL ((l.drop (skN false l)).drop m) (adv (adv p (l.take (skN false l))) ((l.drop (skN false l)).take m))
        (t :: r.1, r.2)
  termination_by l.length
  decreasing_by
    have h1 : l.drop (skN false l) ≠ [] := h0
    rw [ne_eq, List.drop_eq_nil_iff] at h1
    simp only [List.length_drop]
    omega

theorem signN_pos {l : List UInt8} (h : signN l ≠ 0) : 0 < signN l := by omega

theorem tok_pos {l : List UInt8} {k : Int} {m v : Nat} (h : tok l = .ok (k, m, v)) : m ≠ 0 ∧ m ≤ l.length := by
  have h1 := takeWhile_le partQ l
  have h2 := signN_le l
  unfold tok at h
  simp only at h
  split at h
  · split at h
    · split at h
      · cases h; omega
      · cases h
    · split at h
      · cases h; omega
      · split at h
        · cases h; omega
        · cases h
  · split at h
    · cases h
    · cases h; omega

theorem append_one {K : Heap} {b bx l unit bytes u2 : Nat} {cells xs : List Value} {w2 : Bool} (hb : hget K b = .row cells unit true) (hl : cells.length = l * unit) (hx : hget K bx = .row xs u2 w2) (hxl : xs.length = unit) (hall : xs.all oneCell = true)
    (hr : (l + 1) * bytes ≤ roomMax ∧ l + 1 ≤ roomMax) :
    appendV K unit bytes (.slice (some ⟨b, 0, none⟩) l l) (.slice (some ⟨bx, 0, none⟩) 1 1) = .val (.slice (some ⟨K.length, 0, none⟩) (l + 1) (l + 1)) (K.set b .dead ++ [.row (cells ++ xs) unit true]) := by
  simp only [appendV, lenV, srcCells, hx, hb]
  rw [if_pos (by omega)]
  have e1 : List.take (1 * unit) (List.drop 0 xs) = xs := by rw [List.drop_zero, Nat.one_mul, ← hxl, List.take_length]
  have e2 : List.take (l * unit) (List.drop 0 cells) = cells := by rw [List.drop_zero, ← hl, List.take_length]
  simp only [e1]
  rw [if_neg (by omega)]
  simp only [hb, e2]
  rw [if_pos ⟨trivial, by omega, by omega, by omega⟩, if_neg (by omega), if_pos ⟨hr.1, hr.2, hall⟩]

theorem append_nil {K : Heap} {bx unit bytes u2 : Nat} {xs : List Value} {w2 : Bool} (hx : hget K bx = .row xs u2 w2) (hxl : xs.length = unit) (hr : 1 * bytes ≤ roomMax) :
    appendV K unit bytes (.slice none 0 0) (.slice (some ⟨bx, 0, none⟩) 1 1) = .val (.slice (some ⟨K.length, 0, none⟩) 1 1) (K ++ [.row xs unit true]) := by
  simp only [appendV, lenV, srcCells, hx]
  rw [if_pos (by omega)]
  have e1 : List.take (1 * unit) (List.drop 0 xs) = xs := by rw [List.drop_zero, Nat.one_mul, ← hxl, List.take_length]
  simp only [e1]
  rw [if_neg (by omega), if_pos ⟨hr, by decide⟩]

/-- A slice of so many cells. -/
def SL (G : Heap) (n : Nat) (v : Value) (unit : Nat) (cs : List Value) : Prop :=
  (v = .slice none 0 0 ∧ cs = []) ∨ ∃ k l, v = .slice (some ⟨n + k, 0, none⟩) l l ∧ hget G k = .row cs unit true ∧ cs.length = l * unit ∧ l ≠ 0

/-- The answer of Tokens: what the slice holds, and the fault. -/
def lexT (text : List UInt8) : List Tk × (Int × Int × Int) :=
  if text.length ≤ 65536 then (if (lexL text (1, 1)).2.1 = 0 then ((lexL text (1, 1)).1, (0, 0, 0)) else ([], (lexL text (1, 1)).2)) else ([], (2, 0, 0))

def fl (f : Int × Int × Int) : Value := .agg #[.int .i64 f.1, .int .i64 f.2.1, .int .i64 f.2.2]


theorem lexL_end {l : List UInt8} {p : Nat × Nat} (h : l.drop (skN false l) = []) : lexL l p = ([], (0, 0, 0)) := by
  rw [lexL, dif_pos h]
theorem lexL_err {l : List UInt8} {p : Nat × Nat} {c : Int} (h : ¬ l.drop (skN false l) = []) (ht : tok (l.drop (skN false l)) = .error c) :
    lexL l p = ([], (c, ((adv p (l.take (skN false l))).1 : Int), ((adv p (l.take (skN false l))).2 : Int))) := by
  rw [lexL, dif_neg h, ht]
theorem lexL_ok {l : List UInt8} {p : Nat × Nat} {k : Int} {m v : Nat} (h : ¬ l.drop (skN false l) = []) (ht : tok (l.drop (skN false l)) = .ok (k, m, v)) :
    lexL l p = (⟨k, (l.drop (skN false l)).take m, v, adv p (l.take (skN false l))⟩ ::
        (lexL ((l.drop (skN false l)).drop m) (adv (adv p (l.take (skN false l))) ((l.drop (skN false l)).take m))).1,
      (lexL ((l.drop (skN false l)).drop m) (adv (adv p (l.take (skN false l))) ((l.drop (skN false l)).take m))).2) := by
  rw [lexL, dif_neg h, ht]
  simp only
  rw [dif_neg (tok_pos ht).1]

theorem tok_code {l : List UInt8} {c : Int} (h : tok l = .error c) : c ≠ 0 := by
  unfold tok at h
  simp only at h
  split at h
  · split at h
    · split at h
      · cases h
      · cases h; decide
    · split at h
      · cases h
      · split at h
        · cases h
        · cases h; decide
  · split at h
    · cases h; decide
    · cases h

/-- Three cells told apart. -/
theorem agg3_eq (a b c : Int) : eqL [(1, .int .i64 a, .int .i64 0), (1, .int .i64 b, .int .i64 0), (1, .int .i64 c, .int .i64 0)] = some (decide (a = 0 ∧ b = 0 ∧ c = 0)) := by
  have e : ∀ x : Int, (x == 0) = decide (x = 0) := fun x => by rw [Bool.eq_iff_iff]; simp
  simp only [eqL, eqT1, if_true, e]
  by_cases h1 : a = 0 <;> by_cases h2 : b = 0 <;> by_cases h3 : c = 0 <;> simp [h1, h2, h3]


theorem adv_from (text : List UInt8) (pos m : Nat) : adv (adv (1, 1) (text.take pos)) ((text.drop pos).take m) = adv (1, 1) (text.take (pos + m)) := adv_take text (1, 1) pos m

theorem nextR_cases (text : List UInt8) (pos : Nat) (p : Nat × Nat) (f : Int × Int × Int) (hpos : pos ≤ text.length) (hp : p = adv (1, 1) (text.take pos)) :
    ∃ pos' p', pos ≤ pos' ∧ pos' ≤ text.length ∧ p' = adv (1, 1) (text.take pos') ∧
      ((∃ f', nextR text pos p f = (.tuple #[.agg tk0.toArray, .bool false], sc text pos' p' f') ∧ (lexL (text.drop pos) p).1 = [] ∧
          ((lexL (text.drop pos) p).2 = (0, 0, 0) ∧ f' = f ∨ (lexL (text.drop pos) p).2.1 ≠ 0 ∧ f' = (lexL (text.drop pos) p).2)) ∨
       (∃ t : Tk, pos < pos' ∧ nextR text pos p f = (.tuple #[.agg t.cells.toArray, .bool true], sc text pos' p' f) ∧
          lexL (text.drop pos) p = (t :: (lexL (text.drop pos') p').1, (lexL (text.drop pos') p').2))) := by
  have hn := sk_le false (text.drop pos)
  rw [List.length_drop] at hn
  have hdd : (text.drop pos).drop (skN false (text.drop pos)) = text.drop (pos + skN false (text.drop pos)) := List.drop_drop
  have hp1 : adv p ((text.drop pos).take (skN false (text.drop pos))) = adv (1, 1) (text.take (pos + skN false (text.drop pos))) := by rw [hp]; exact adv_from _ _ _
  by_cases hr : text.drop (pos + skN false (text.drop pos)) = []
  · refine ⟨pos + skN false (text.drop pos), _, by omega, by omega, rfl, .inl ⟨f, ?_, ?_⟩⟩
    · simp only [nextR, if_pos hr, hp1]
    · rw [lexL_end (by rw [hdd]; exact hr)]
      exact ⟨rfl, .inl ⟨rfl, rfl⟩⟩
  · cases ht : tok (text.drop (pos + skN false (text.drop pos))) with
    | error c =>
      refine ⟨pos + skN false (text.drop pos), _, by omega, by omega, rfl, .inl ⟨_, by simp only [nextR, if_neg hr, ht, hp1]; rfl, ?_⟩⟩
      rw [lexL_err (by rw [hdd]; exact hr) (by rw [hdd]; exact ht), hp1]
      exact ⟨rfl, .inr ⟨tok_code ht, rfl⟩⟩
    | ok x =>
      obtain ⟨k, m, v⟩ := x
      have hm := tok_pos ht
      rw [List.length_drop] at hm
      have hp2 := adv_from text (pos + skN false (text.drop pos)) m
      refine ⟨pos + skN false (text.drop pos) + m, _, by omega, by omega, rfl, .inr ⟨⟨k, (text.drop (pos + skN false (text.drop pos))).take m, v, adv (1, 1) (text.take (pos + skN false (text.drop pos)))⟩, by omega, ?_, ?_⟩⟩
      · simp only [nextR, if_neg hr, ht, hp1, hp2]
        rfl
      · rw [lexL_ok (by rw [hdd]; exact hr) (by rw [hdd]; exact ht), hp1, hdd, hp2, List.drop_drop]

theorem nextR_one (text : List UInt8) (pos : Nat) (p : Nat × Nat) (f : Int × Int × Int) (hpos : pos ≤ text.length) (hp : p = adv (1, 1) (text.take pos)) :
    ∃ pos' p' ok cur f', pos ≤ pos' ∧ pos' ≤ text.length ∧ p' = adv (1, 1) (text.take pos') ∧ nextR text pos p f = (.tuple #[.agg (cur : List Value).toArray, .bool ok], sc text pos' p' f') ∧ cur.length = 6 ∧ cur.all oneCell = true ∧
      (ok = true → f' = f ∧ pos < pos' ∧ ∃ t, cur = Tk.cells t ∧ lexL (text.drop pos) p = (t :: (lexL (text.drop pos') p').1, (lexL (text.drop pos') p').2)) ∧
      (ok = false → (lexL (text.drop pos) p).1 = [] ∧ ((lexL (text.drop pos) p).2 = (0, 0, 0) ∧ f' = f ∨ (lexL (text.drop pos) p).2.1 ≠ 0 ∧ f' = (lexL (text.drop pos) p).2)) := by
  obtain ⟨pos', p', q1, q2, q3, q4⟩ := nextR_cases text pos p f hpos hp
  rcases q4 with ⟨f', q4, q5⟩ | ⟨t, q4, q5, q6⟩
  · exact ⟨pos', p', false, tk0, f', q1, q2, q3, q4, rfl, rfl, fun h => (by cases h), fun _ => q5⟩
  · exact ⟨pos', p', true, t.cells, f, q1, q2, q3, q5, rfl, rfl, fun _ => ⟨rfl, q4, t, rfl, q6⟩, fun h => (by cases h)⟩

theorem setL_at : ∀ (vs cs : List Value) (o : Nat), o + vs.length = cs.length → setL cs o vs = cs.take o ++ vs
  | [], cs, o, h => by simp [setL] at h ⊢; rw [List.take_of_length_le (by omega)]
  | v :: vs, cs, o, h => by
    simp only [List.length_cons] at h
    rw [setL, setL_at vs _ (o + 1) (by rw [List.length_set]; omega)]
    rw [List.take_set, List.take_add_one, List.getElem?_eq_getElem (by omega)]
    have hlen : (cs.take o).length = o := by rw [List.length_take]; omega
    rw [show (cs.take o ++ (some cs[o]).toList).set o v = cs.take o ++ [v] by
      rw [Option.toList_some, List.set_append_right _ _ (by omega), hlen, Nat.sub_self]; rfl]
    simp
theorem setL_full {vs cs : List Value} (h : vs.length = cs.length) : setL cs 0 vs = vs := by rw [setL_at vs cs 0 (by omega)]; simp

theorem flat6 : ∀ ts : List Tk, (ts.map Tk.cells).flatten.length = ts.length * 6
  | [] => rfl
  | a :: ts => by
    have := flat6 ts
    simp only [List.map_cons, List.flatten_cons, List.length_append, List.length_cons, show a.cells.length = 6 from rfl, this]
    omega

/-- The loop's head: so many words are in the list; one more, or none, is at hand. -/
def tokensI (text : List UInt8) (f0 : Int × Int × Int) (H : Heap) : Nat → Env → Heap → Prop := fun n e H' =>
  ∃ (G : Heap) (pos : Nat) (p : Nat × Nat) (ok : Bool) (k6 : Nat) (s5 : Value) (ts : List Tk) (f : Int × Int × Int) (cur : List Value),
    H' = H ++ G ∧ hget G 0 = .row [.int .i64 0, .int .i64 0, .int .i64 0] 0 true ∧ hget G 1 = .row (sc text pos p f) 0 true ∧ hget G k6 = .row cur 0 true ∧ k6 ≠ 0 ∧ k6 ≠ 1 ∧ cur.length = 6 ∧
    pos ≤ text.length ∧ p = adv (1, 1) (text.take pos) ∧ ts.length ≤ pos ∧ SL G H.length s5 6 (ts.map Tk.cells).flatten ∧
    (ok = true → n = text.length - pos + 1 ∧ f = f0 ∧ ts.length < pos ∧ ∃ t, cur = Tk.cells t ∧ lexL text (1, 1) = (ts ++ t :: (lexL (text.drop pos) p).1, (lexL (text.drop pos) p).2)) ∧
    (ok = false → n = 0 ∧ ∃ F, lexL text (1, 1) = (ts, F) ∧ (F = (0, 0, 0) ∧ f = f0 ∨ F.1 ≠ 0 ∧ f = F)) ∧
    (∃ x : Nat → Value, e = [x 0, x 1, x 2, .pointer (some ⟨H.length, 0, none⟩), .pointer (some ⟨H.length + 1, 0, none⟩), s5, .pointer (some ⟨H.length + k6, 0, none⟩), .bool ok, x 8, x 9, x 10, x 11, x 12, x 13, x 14, x 15, x 16, x 17, x 18, x 19, x 20, x 21, x 22, x 23, x 24, x 25, x 26, x 27, x 28, x 29, x 30, x 31, x 32, x 33, x 34, x 35, x 36, x 37])

theorem GH.base {G : Heap} (h : GH H) : GH (H ++ G) := h.ext ⟨G, rfl⟩

theorem lexTokens_s {text : List UInt8} (hH : GH H)
    (h : if (lexT text).1 = [] then R (.ret (.tuple #[.slice none 0 0, fl (lexT text).2])) H
      else R (.ret (.tuple #[.slice (some ⟨H.length, 0, none⟩) (lexT text).1.length (lexT text).1.length, fl (lexT text).2])) (H ++ [.row ((lexT text).1.map Tk.cells).flatten 6 true])) :
    WD T 11 [.string (bs text)] H R := by
  refine WD.gc (WD.of follows t11 (by simp) ?_)
  simp (disch := omega) only [kaa, kab, kac, kad, kae, kaf, kag, kah, kai, kaj, kak, kal, kam, kan, kao, khe, khf, khg, khh, khi, khj, khk, khl, kap, kaq, kar, kas, kat, kau, kav, kaw, kax, kay, kaz, kba, kbb, kbc, kbd, kbe, kbf, kbg, kbh, kbi, kbj, kbk, kbl, kbm, kbn, kbo, kbp, kbq, kbr, kbs, kbt, kbu, kbv, kbw, kbx, kby, kbz, kca, kcb, kcc, kcd, kce, kcf, kcg, kch, kci, kcj, kck, kcl, kcm, aop, kcn, kco, kcp, kcq, kcr, kcs, kct, kcu, kcv, kcw, resultsL, resultOf, kcx, Nat.reduceEqDiff, kcy, kcz, kda, reduceCtorEq, kdb, kdc, kdd, kde, kdf, kdg, kdh, kdi, kdj, kdk, kdl, kdm, kdn, kdo, eq1, kdp, kdq, kdr, kds, kdt, kdu, kdv, kdw, kdx, kdy, kdz, kea, keb, kec, apartOK, apart2, AObj.live, ked, kee, kef, keg, keh, kei, kej, kek, kel, Int.reduceEq, Int.reduceLT, Int.reduceLE, Int.reduceAdd, Int.reduceSub, Int.reduceMul, Int.reduceToNat, kem, ken, keo, kep, keq, ker, kes, ket, keu, kev, kew, kex, key, kez, kfa, kfb, kfc, kfd, kfe, kff, kfg, kfh, kfi, kfj, kfk, kfl, cutCells, kfm, kfn, kfo, kfp, kfq, kfr, kfs, kft, kfu, kfv, kfw, kfx, kfy, Nat.reduceAdd, Nat.reduceLeDiff, Nat.reduceLT, Nat.reduceMul, Nat.reduceSub, kfz, kga, kgb, kgc, kgd, kge, kgf, kgg, kgh, kgi, kgj, kgk, kgl, kgm, kgn, kgo, kgp, kgq, kgr, kgs, kgt, kgu, kgv, kgw, kgx, kgy, kgz, kha, khb, khc, khd]
  (repeat ((first | refine start_s ?_); try simp (disch := omega) only [kaa, kab, kac, kad, kae, kaf, kag, kah, kai, kaj, kak, kal, kam, kan, kao, khe, khf, khg, khh, khi, khj, khk, khl, kap, kaq, kar, kas, kat, kau, kav, kaw, kax, kay, kaz, kba, kbb, kbc, kbd, kbe, kbf, kbg, kbh, kbi, kbj, kbk, kbl, kbm, kbn, kbo, kbp, kbq, kbr, kbs, kbt, kbu, kbv, kbw, kbx, kby, kbz, kca, kcb, kcc, kcd, kce, kcf, kcg, kch, kci, kcj, kck, kcl, kcm, aop, kcn, kco, kcp, kcq, kcr, kcs, kct, kcu, kcv, kcw, resultsL, resultOf, kcx, Nat.reduceEqDiff, kcy, kcz, kda, reduceCtorEq, kdb, kdc, kdd, kde, kdf, kdg, kdh, kdi, kdj, kdk, kdl, kdm, kdn, kdo, eq1, kdp, kdq, kdr, kds, kdt, kdu, kdv, kdw, kdx, kdy, kdz, kea, keb, kec, apartOK, apart2, AObj.live, ked, kee, kef, keg, keh, kei, kej, kek, kel, Int.reduceEq, Int.reduceLT, Int.reduceLE, Int.reduceAdd, Int.reduceSub, Int.reduceMul, Int.reduceToNat, kem, ken, keo, kep, keq, ker, kes, ket, keu, kev, kew, kex, key, kez, kfa, kfb, kfc, kfd, kfe, kff, kfg, kfh, kfi, kfj, kfk, kfl, cutCells, kfm, kfn, kfo, kfp, kfq, kfr, kfs, kft, kfu, kfv, kfw, kfx, kfy, Nat.reduceAdd, Nat.reduceLeDiff, Nat.reduceLT, Nat.reduceMul, Nat.reduceSub, kfz, kga, kgb, kgc, kgd, kge, kgf, kgg, kgh, kgi, kgj, kgk, kgl, kgm, kgn, kgo, kgp, kgq, kgr, kgs, kgt, kgu, kgv, kgw, kgx, kgy, kgz, kha, khb, khc, khd]))
  obtain ⟨text1, f0, hst, hl1, hcase⟩ : ∃ text1 f0, startR text = sc text1 0 (1, 1) f0 ∧ text1.length ≤ 65536 ∧ (text.length ≤ 65536 ∧ text1 = text ∧ f0 = (0, 0, 0) ∨ ¬ text.length ≤ 65536 ∧ text1 = [] ∧ f0 = (2, 0, 0)) := by
    unfold startR
    by_cases hl : text.length ≤ 65536
    · exact ⟨text, _, if_pos hl, hl, .inl ⟨hl, rfl, rfl⟩⟩
    · exact ⟨[], _, if_neg hl, by simp, .inr ⟨hl, rfl, rfl⟩⟩
  rw [hst]
  have hGH : ∀ G : Heap, GH (H ++ G) := fun G => hH.ext ⟨G, rfl⟩
  have two := hH.two
  refine next_s (text := text1) (pos := 0) (p := (1, 1)) (f := f0) (hGH _) (by omega) (by simp (disch := omega) only [kaa, kab, kac, kad, kae, kaf, kag, kah, kai, kaj, kak, kal, kam, kan, kao, khe, khf, khg, khh, khi, khj, khk, khl, kap, kaq, kar, kas, kat, kau, kav, kaw, kax, kay, kaz, kba, kbb, kbc, kbd, kbe, kbf, kbg, kbh, kbi, kbj, kbk, kbl, kbm, kbn, kbo, kbp, kbq, kbr, kbs, kbt, kbu, kbv, kbw, kbx, kby, kbz, kca, kcb, kcc, kcd, kce, kcf, kcg, kch, kci, kcj, kck, kcl, kcm, aop, kcn, kco, kcp, kcq, kcr, kcs, kct, kcu, kcv, kcw, resultsL, resultOf, kcx, Nat.reduceEqDiff, kcy, kcz, kda, reduceCtorEq, kdb, kdc, kdd, kde, kdf, kdg, kdh, kdi, kdj, kdk, kdl, kdm, kdn, kdo, eq1, kdp, kdq, kdr, kds, kdt, kdu, kdv, kdw, kdx, kdy, kdz, kea, keb, kec, apartOK, apart2, AObj.live, ked, kee, kef, keg, keh, kei, kej, kek, kel, Int.reduceEq, Int.reduceLT, Int.reduceLE, Int.reduceAdd, Int.reduceSub, Int.reduceMul, Int.reduceToNat, kem, ken, keo, kep, keq, ker, kes, ket, keu, kev, kew, kex, key, kez, kfa, kfb, kfc, kfd, kfe, kff, kfg, kfh, kfi, kfj, kfk, kfl, cutCells, kfm, kfn, kfo, kfp, kfq, kfr, kfs, kft, kfu, kfv, kfw, kfx, kfy, Nat.reduceAdd, Nat.reduceLeDiff, Nat.reduceLT, Nat.reduceMul, Nat.reduceSub, kfz, kga, kgb, kgc, kgd, kge, kgf, kgg, kgh, kgi, kgj, kgk, kgl, kgm, kgn, kgo, kgp, kgq, kgr, kgs, kgt, kgu, kgv, kgw, kgx, kgy, kgz, kha, khb, khc, khd]) (by omega) hl1 (by omega) (by omega) ?_
  obtain ⟨pos, p, ok, cur, f, q1, q2, q3, q4, q5, q6, q7, q8⟩ := nextR_one text1 0 (1, 1) f0 (by omega) rfl
  rw [q4]
  have sf : ∀ cs : List Value, cs.length = 6 → setL cs 0 cur = cur := fun cs hc => setL_full (by omega)
  simp (disch := omega) only [kaa, kab, kac, kad, kae, kaf, kag, kah, kai, kaj, kak, kal, kam, kan, kao, khe, khf, khg, khh, khi, khj, khk, khl, kap, kaq, kar, kas, kat, kau, kav, kaw, kax, kay, kaz, kba, kbb, kbc, kbd, kbe, kbf, kbg, kbh, kbi, kbj, kbk, kbl, kbm, kbn, kbo, kbp, kbq, kbr, kbs, kbt, kbu, kbv, kbw, kbx, kby, kbz, kca, kcb, kcc, kcd, kce, kcf, kcg, kch, kci, kcj, kck, kcl, kcm, aop, kcn, kco, kcp, kcq, kcr, kcs, kct, kcu, kcv, kcw, resultsL, resultOf, kcx, Nat.reduceEqDiff, kcy, kcz, kda, reduceCtorEq, kdb, kdc, kdd, kde, kdf, kdg, kdh, kdi, kdj, kdk, kdl, kdm, kdn, kdo, eq1, kdp, kdq, kdr, kds, kdt, kdu, kdv, kdw, kdx, kdy, kdz, kea, keb, kec, apartOK, apart2, AObj.live, ked, kee, kef, keg, keh, kei, kej, kek, kel, Int.reduceEq, Int.reduceLT, Int.reduceLE, Int.reduceAdd, Int.reduceSub, Int.reduceMul, Int.reduceToNat, kem, ken, keo, kep, keq, ker, kes, ket, keu, kev, kew, kex, key, kez, kfa, kfb, kfc, kfd, kfe, kff, kfg, kfh, kfi, kfj, kfk, kfl, cutCells, kfm, kfn, kfo, kfp, kfq, kfr, kfs, kft, kfu, kfv, kfw, kfx, kfy, Nat.reduceAdd, Nat.reduceLeDiff, Nat.reduceLT, Nat.reduceMul, Nat.reduceSub, kfz, kga, kgb, kgc, kgd, kge, kgf, kgg, kgh, kgi, kgj, kgk, kgl, kgm, kgn, kgo, kgp, kgq, kgr, kgs, kgt, kgu, kgv, kgw, kgx, kgy, kgz, kha, khb, khc, khd, q5, q6, setL_full]
  refine WLoop.inv (tokensI text1 f0 H) ?_ (if ok = true then text1.length - pos + 1 else 0) _ _ ⟨_, pos, p, ok, 2, .slice none 0 0, [], f, cur, rfl, rfl, rfl, ?_, by omega, by omega, q5, q2, q3, by simp, .inl ⟨rfl, rfl⟩, ?_, ?_, (ex_env rfl)⟩
  · rintro n e H' ⟨G, pos, p, ok, k6, s5, ts, f, cur, rfl, g0, g1, g6, k0, k1, hcl, hpos, hp, htl, hsl, hok, hno, ⟨x, rfl⟩⟩
    have l1 : 1 < G.length := hget_lt g1 rfl
    have l6 : k6 < G.length := hget_lt g6 rfl
    cases ok with
    | true =>
      obtain ⟨hn, rfl, htl2, t, rfl, hlex⟩ := hok rfl
      have hcl2 : t.cells.length = 6 := rfl
      have hone : t.cells.all oneCell = true := rfl
      have ht6 : t.cells.take 6 = t.cells := rfl
      have hpl := adv_le (text1.take pos) (1, 1)
      rw [List.length_take, ← hp] at hpl
      simp only at hpl
      obtain ⟨pos', p', ok, cur, f', q1, q2, q3, q4, q5, q6, q7, q8⟩ := nextR_one text1 pos p f hpos hp
      rcases hsl with ⟨rfl, hcs⟩ | ⟨k5, l5, rfl, h5, hcs, hl5⟩
      · have ha := append_nil (K := H ++ (G ++ [.row t.cells 6 true])) (bx := H.length + G.length) (unit := 6) (bytes := 56) (xs := t.cells) (u2 := 6) (w2 := true) (by rw [hget_base, hget_base0]; rfl) rfl (by decide)
        simp (disch := omega) only [kaa, kab, kac, kad, kae, kaf, kag, kah, kai, kaj, kak, kal, kam, kan, kao, khe, khf, khg, khh, khi, khj, khk, khl, kap, kaq, kar, kas, kat, kau, kav, kaw, kax, kay, kaz, kba, kbb, kbc, kbd, kbe, kbf, kbg, kbh, kbi, kbj, kbk, kbl, kbm, kbn, kbo, kbp, kbq, kbr, kbs, kbt, kbu, kbv, kbw, kbx, kby, kbz, kca, kcb, kcc, kcd, kce, kcf, kcg, kch, kci, kcj, kck, kcl, kcm, aop, kcn, kco, kcp, kcq, kcr, kcs, kct, kcu, kcv, kcw, resultsL, resultOf, kcx, Nat.reduceEqDiff, kcy, kcz, kda, reduceCtorEq, kdb, kdc, kdd, kde, kdf, kdg, kdh, kdi, kdj, kdk, kdl, kdm, kdn, kdo, eq1, kdp, kdq, kdr, kds, kdt, kdu, kdv, kdw, kdx, kdy, kdz, kea, keb, kec, apartOK, apart2, AObj.live, ked, kee, kef, keg, keh, kei, kej, kek, kel, Int.reduceEq, Int.reduceLT, Int.reduceLE, Int.reduceAdd, Int.reduceSub, Int.reduceMul, Int.reduceToNat, kem, ken, keo, kep, keq, ker, kes, ket, keu, kev, kew, kex, key, kez, kfa, kfb, kfc, kfd, kfe, kff, kfg, kfh, kfi, kfj, kfk, kfl, cutCells, kfm, kfn, kfo, kfp, kfq, kfr, kfs, kft, kfu, kfv, kfw, kfx, kfy, Nat.reduceAdd, Nat.reduceLeDiff, Nat.reduceLT, Nat.reduceMul, Nat.reduceSub, kfz, kga, kgb, kgc, kgd, kge, kgf, kgg, kgh, kgi, kgj, kgk, kgl, kgm, kgn, kgo, kgp, kgq, kgr, kgs, kgt, kgu, kgv, kgw, kgx, kgy, kgz, kha, khb, khc, khd, g0, g1, g6, hcl2, Nat.le_refl, ht6, hone, setL_full, ha]
        refine next_s (text := text1) (pos := pos) (p := p) (f := f) (hGH _) (by omega) (by simp (disch := omega) only [kaa, kab, kac, kad, kae, kaf, kag, kah, kai, kaj, kak, kal, kam, kan, kao, khe, khf, khg, khh, khi, khj, khk, khl, kap, kaq, kar, kas, kat, kau, kav, kaw, kax, kay, kaz, kba, kbb, kbc, kbd, kbe, kbf, kbg, kbh, kbi, kbj, kbk, kbl, kbm, kbn, kbo, kbp, kbq, kbr, kbs, kbt, kbu, kbv, kbw, kbx, kby, kbz, kca, kcb, kcc, kcd, kce, kcf, kcg, kch, kci, kcj, kck, kcl, kcm, aop, kcn, kco, kcp, kcq, kcr, kcs, kct, kcu, kcv, kcw, resultsL, resultOf, kcx, Nat.reduceEqDiff, kcy, kcz, kda, reduceCtorEq, kdb, kdc, kdd, kde, kdf, kdg, kdh, kdi, kdj, kdk, kdl, kdm, kdn, kdo, eq1, kdp, kdq, kdr, kds, kdt, kdu, kdv, kdw, kdx, kdy, kdz, kea, keb, kec, apartOK, apart2, AObj.live, ked, kee, kef, keg, keh, kei, kej, kek, kel, Int.reduceEq, Int.reduceLT, Int.reduceLE, Int.reduceAdd, Int.reduceSub, Int.reduceMul, Int.reduceToNat, kem, ken, keo, kep, keq, ker, kes, ket, keu, kev, kew, kex, key, kez, kfa, kfb, kfc, kfd, kfe, kff, kfg, kfh, kfi, kfj, kfk, kfl, cutCells, kfm, kfn, kfo, kfp, kfq, kfr, kfs, kft, kfu, kfv, kfw, kfx, kfy, Nat.reduceAdd, Nat.reduceLeDiff, Nat.reduceLT, Nat.reduceMul, Nat.reduceSub, kfz, kga, kgb, kgc, kgd, kge, kgf, kgg, kgh, kgi, kgj, kgk, kgl, kgm, kgn, kgo, kgp, kgq, kgr, kgs, kgt, kgu, kgv, kgw, kgx, kgy, kgz, kha, khb, khc, khd, g1]) hpos hl1 (by omega) (by omega) ?_
        rw [q4]
        simp (disch := omega) only [kaa, kab, kac, kad, kae, kaf, kag, kah, kai, kaj, kak, kal, kam, kan, kao, khe, khf, khg, khh, khi, khj, khk, khl, kap, kaq, kar, kas, kat, kau, kav, kaw, kax, kay, kaz, kba, kbb, kbc, kbd, kbe, kbf, kbg, kbh, kbi, kbj, kbk, kbl, kbm, kbn, kbo, kbp, kbq, kbr, kbs, kbt, kbu, kbv, kbw, kbx, kby, kbz, kca, kcb, kcc, kcd, kce, kcf, kcg, kch, kci, kcj, kck, kcl, kcm, aop, kcn, kco, kcp, kcq, kcr, kcs, kct, kcu, kcv, kcw, resultsL, resultOf, kcx, Nat.reduceEqDiff, kcy, kcz, kda, reduceCtorEq, kdb, kdc, kdd, kde, kdf, kdg, kdh, kdi, kdj, kdk, kdl, kdm, kdn, kdo, eq1, kdp, kdq, kdr, kds, kdt, kdu, kdv, kdw, kdx, kdy, kdz, kea, keb, kec, apartOK, apart2, AObj.live, ked, kee, kef, keg, keh, kei, kej, kek, kel, Int.reduceEq, Int.reduceLT, Int.reduceLE, Int.reduceAdd, Int.reduceSub, Int.reduceMul, Int.reduceToNat, kem, ken, keo, kep, keq, ker, kes, ket, keu, kev, kew, kex, key, kez, kfa, kfb, kfc, kfd, kfe, kff, kfg, kfh, kfi, kfj, kfk, kfl, cutCells, kfm, kfn, kfo, kfp, kfq, kfr, kfs, kft, kfu, kfv, kfw, kfx, kfy, Nat.reduceAdd, Nat.reduceLeDiff, Nat.reduceLT, Nat.reduceMul, Nat.reduceSub, kfz, kga, kgb, kgc, kgd, kge, kgf, kgg, kgh, kgi, kgj, kgk, kgl, kgm, kgn, kgo, kgp, kgq, kgr, kgs, kgt, kgu, kgv, kgw, kgx, kgy, kgz, kha, khb, khc, khd, q5, q6, setL_full, hcl2]
        refine ⟨if ok = true then text1.length - pos' + 1 else 0, ?_, _, pos', p', ok, G.length + 2, _, ts ++ [t], f', cur, rfl, ?_, ?_, ?_, by omega, by omega, q5, q2, q3, by simp; omega, .inr ⟨G.length + 1, 1, rfl, ?_, ?_, by omega⟩, ?_, ?_, (ex_env rfl)⟩
        · cases ok with
          | true => obtain ⟨_, r2, _⟩ := q7 rfl; simp only [if_true]; omega
          | false => simp only [Bool.false_eq_true, if_false]; omega
        · simp (disch := omega) only [kaa, kab, kac, kad, kae, kaf, kag, kah, kai, kaj, kak, kal, kam, kan, kao, khe, khf, khg, khh, khi, khj, khk, khl, kap, kaq, kar, kas, kat, kau, kav, kaw, kax, kay, kaz, kba, kbb, kbc, kbd, kbe, kbf, kbg, kbh, kbi, kbj, kbk, kbl, kbm, kbn, kbo, kbp, kbq, kbr, kbs, kbt, kbu, kbv, kbw, kbx, kby, kbz, kca, kcb, kcc, kcd, kce, kcf, kcg, kch, kci, kcj, kck, kcl, kcm, aop, kcn, kco, kcp, kcq, kcr, kcs, kct, kcu, kcv, kcw, resultsL, resultOf, kcx, Nat.reduceEqDiff, kcy, kcz, kda, reduceCtorEq, kdb, kdc, kdd, kde, kdf, kdg, kdh, kdi, kdj, kdk, kdl, kdm, kdn, kdo, eq1, kdp, kdq, kdr, kds, kdt, kdu, kdv, kdw, kdx, kdy, kdz, kea, keb, kec, apartOK, apart2, AObj.live, ked, kee, kef, keg, keh, kei, kej, kek, kel, Int.reduceEq, Int.reduceLT, Int.reduceLE, Int.reduceAdd, Int.reduceSub, Int.reduceMul, Int.reduceToNat, kem, ken, keo, kep, keq, ker, kes, ket, keu, kev, kew, kex, key, kez, kfa, kfb, kfc, kfd, kfe, kff, kfg, kfh, kfi, kfj, kfk, kfl, cutCells, kfm, kfn, kfo, kfp, kfq, kfr, kfs, kft, kfu, kfv, kfw, kfx, kfy, Nat.reduceAdd, Nat.reduceLeDiff, Nat.reduceLT, Nat.reduceMul, Nat.reduceSub, kfz, kga, kgb, kgc, kgd, kge, kgf, kgg, kgh, kgi, kgj, kgk, kgl, kgm, kgn, kgo, kgp, kgq, kgr, kgs, kgt, kgu, kgv, kgw, kgx, kgy, kgz, kha, khb, khc, khd, g0, hget_ne]
        · simp (disch := omega) only [kaa, kab, kac, kad, kae, kaf, kag, kah, kai, kaj, kak, kal, kam, kan, kao, khe, khf, khg, khh, khi, khj, khk, khl, kap, kaq, kar, kas, kat, kau, kav, kaw, kax, kay, kaz, kba, kbb, kbc, kbd, kbe, kbf, kbg, kbh, kbi, kbj, kbk, kbl, kbm, kbn, kbo, kbp, kbq, kbr, kbs, kbt, kbu, kbv, kbw, kbx, kby, kbz, kca, kcb, kcc, kcd, kce, kcf, kcg, kch, kci, kcj, kck, kcl, kcm, aop, kcn, kco, kcp, kcq, kcr, kcs, kct, kcu, kcv, kcw, resultsL, resultOf, kcx, Nat.reduceEqDiff, kcy, kcz, kda, reduceCtorEq, kdb, kdc, kdd, kde, kdf, kdg, kdh, kdi, kdj, kdk, kdl, kdm, kdn, kdo, eq1, kdp, kdq, kdr, kds, kdt, kdu, kdv, kdw, kdx, kdy, kdz, kea, keb, kec, apartOK, apart2, AObj.live, ked, kee, kef, keg, keh, kei, kej, kek, kel, Int.reduceEq, Int.reduceLT, Int.reduceLE, Int.reduceAdd, Int.reduceSub, Int.reduceMul, Int.reduceToNat, kem, ken, keo, kep, keq, ker, kes, ket, keu, kev, kew, kex, key, kez, kfa, kfb, kfc, kfd, kfe, kff, kfg, kfh, kfi, kfj, kfk, kfl, cutCells, kfm, kfn, kfo, kfp, kfq, kfr, kfs, kft, kfu, kfv, kfw, kfx, kfy, Nat.reduceAdd, Nat.reduceLeDiff, Nat.reduceLT, Nat.reduceMul, Nat.reduceSub, kfz, kga, kgb, kgc, kgd, kge, kgf, kgg, kgh, kgi, kgj, kgk, kgl, kgm, kgn, kgo, kgp, kgq, kgr, kgs, kgt, kgu, kgv, kgw, kgx, kgy, kgz, kha, khb, khc, khd, g1]
        · simp (disch := omega) only [kaa, kab, kac, kad, kae, kaf, kag, kah, kai, kaj, kak, kal, kam, kan, kao, khe, khf, khg, khh, khi, khj, khk, khl, kap, kaq, kar, kas, kat, kau, kav, kaw, kax, kay, kaz, kba, kbb, kbc, kbd, kbe, kbf, kbg, kbh, kbi, kbj, kbk, kbl, kbm, kbn, kbo, kbp, kbq, kbr, kbs, kbt, kbu, kbv, kbw, kbx, kby, kbz, kca, kcb, kcc, kcd, kce, kcf, kcg, kch, kci, kcj, kck, kcl, kcm, aop, kcn, kco, kcp, kcq, kcr, kcs, kct, kcu, kcv, kcw, resultsL, resultOf, kcx, Nat.reduceEqDiff, kcy, kcz, kda, reduceCtorEq, kdb, kdc, kdd, kde, kdf, kdg, kdh, kdi, kdj, kdk, kdl, kdm, kdn, kdo, eq1, kdp, kdq, kdr, kds, kdt, kdu, kdv, kdw, kdx, kdy, kdz, kea, keb, kec, apartOK, apart2, AObj.live, ked, kee, kef, keg, keh, kei, kej, kek, kel, Int.reduceEq, Int.reduceLT, Int.reduceLE, Int.reduceAdd, Int.reduceSub, Int.reduceMul, Int.reduceToNat, kem, ken, keo, kep, keq, ker, kes, ket, keu, kev, kew, kex, key, kez, kfa, kfb, kfc, kfd, kfe, kff, kfg, kfh, kfi, kfj, kfk, kfl, cutCells, kfm, kfn, kfo, kfp, kfq, kfr, kfs, kft, kfu, kfv, kfw, kfx, kfy, Nat.reduceAdd, Nat.reduceLeDiff, Nat.reduceLT, Nat.reduceMul, Nat.reduceSub, kfz, kga, kgb, kgc, kgd, kge, kgf, kgg, kgh, kgi, kgj, kgk, kgl, kgm, kgn, kgo, kgp, kgq, kgr, kgs, kgt, kgu, kgv, kgw, kgx, kgy, kgz, kha, khb, khc, khd, g1]
        · simp (disch := omega) only [kaa, kab, kac, kad, kae, kaf, kag, kah, kai, kaj, kak, kal, kam, kan, kao, khe, khf, khg, khh, khi, khj, khk, khl, kap, kaq, kar, kas, kat, kau, kav, kaw, kax, kay, kaz, kba, kbb, kbc, kbd, kbe, kbf, kbg, kbh, kbi, kbj, kbk, kbl, kbm, kbn, kbo, kbp, kbq, kbr, kbs, kbt, kbu, kbv, kbw, kbx, kby, kbz, kca, kcb, kcc, kcd, kce, kcf, kcg, kch, kci, kcj, kck, kcl, kcm, aop, kcn, kco, kcp, kcq, kcr, kcs, kct, kcu, kcv, kcw, resultsL, resultOf, kcx, Nat.reduceEqDiff, kcy, kcz, kda, reduceCtorEq, kdb, kdc, kdd, kde, kdf, kdg, kdh, kdi, kdj, kdk, kdl, kdm, kdn, kdo, eq1, kdp, kdq, kdr, kds, kdt, kdu, kdv, kdw, kdx, kdy, kdz, kea, keb, kec, apartOK, apart2, AObj.live, ked, kee, kef, keg, keh, kei, kej, kek, kel, Int.reduceEq, Int.reduceLT, Int.reduceLE, Int.reduceAdd, Int.reduceSub, Int.reduceMul, Int.reduceToNat, kem, ken, keo, kep, keq, ker, kes, ket, keu, kev, kew, kex, key, kez, kfa, kfb, kfc, kfd, kfe, kff, kfg, kfh, kfi, kfj, kfk, kfl, cutCells, kfm, kfn, kfo, kfp, kfq, kfr, kfs, kft, kfu, kfv, kfw, kfx, kfy, Nat.reduceAdd, Nat.reduceLeDiff, Nat.reduceLT, Nat.reduceMul, Nat.reduceSub, kfz, kga, kgb, kgc, kgd, kge, kgf, kgg, kgh, kgi, kgj, kgk, kgl, kgm, kgn, kgo, kgp, kgq, kgr, kgs, kgt, kgu, kgv, kgw, kgx, kgy, kgz, kha, khb, khc, khd, hcs, List.map_append, List.flatten_append, List.map_nil, List.map_cons, List.flatten_cons, List.flatten_nil, List.append_nil]
        · simp only [List.map_append, List.flatten_append, List.length_append, hcs, List.map_nil, List.map_cons, List.flatten_cons, List.flatten_nil, List.append_nil, hcl2, List.length_nil, Nat.zero_add, Nat.one_mul]
        · intro hok2
          obtain ⟨r1, r2, t2, r3, r4⟩ := q7 hok2
          refine ⟨if_pos hok2, r1, by simp; omega, t2, r3, ?_⟩
          rw [hlex, r4]
          simp
        · intro hno2
          obtain ⟨r1, r2⟩ := q8 hno2
          refine ⟨by rw [hno2]; rfl, _, by rw [hlex, r1], r2⟩
      · have hroom : (l5 + 1) * 56 ≤ roomMax ∧ l5 + 1 ≤ roomMax := by
          rw [flat6] at hcs
          simp only [roomMax]
          omega
        have ha := append_one (K := H ++ (G ++ [.row t.cells 6 true])) (b := H.length + k5) (bx := H.length + G.length) (l := l5) (unit := 6) (bytes := 56) (cells := (ts.map Tk.cells).flatten) (xs := t.cells) (u2 := 6) (w2 := true) (by rw [hget_base, hget_old (hget_lt h5 rfl)]; exact h5) hcs (by rw [hget_base, hget_base0]; rfl) rfl rfl hroom
        have l55 : k5 < G.length := hget_lt h5 rfl
        have n51 : k5 ≠ 1 := fun q => by rw [q, g1] at h5; simp [sc] at h5
        have n56 : k5 ≠ k6 := fun q => by rw [q, g6] at h5; simp at h5
        have n50 : k5 ≠ 0 := fun q => by rw [q, g0] at h5; simp at h5
        simp (disch := omega) only [kaa, kab, kac, kad, kae, kaf, kag, kah, kai, kaj, kak, kal, kam, kan, kao, khe, khf, khg, khh, khi, khj, khk, khl, kap, kaq, kar, kas, kat, kau, kav, kaw, kax, kay, kaz, kba, kbb, kbc, kbd, kbe, kbf, kbg, kbh, kbi, kbj, kbk, kbl, kbm, kbn, kbo, kbp, kbq, kbr, kbs, kbt, kbu, kbv, kbw, kbx, kby, kbz, kca, kcb, kcc, kcd, kce, kcf, kcg, kch, kci, kcj, kck, kcl, kcm, aop, kcn, kco, kcp, kcq, kcr, kcs, kct, kcu, kcv, kcw, resultsL, resultOf, kcx, Nat.reduceEqDiff, kcy, kcz, kda, reduceCtorEq, kdb, kdc, kdd, kde, kdf, kdg, kdh, kdi, kdj, kdk, kdl, kdm, kdn, kdo, eq1, kdp, kdq, kdr, kds, kdt, kdu, kdv, kdw, kdx, kdy, kdz, kea, keb, kec, apartOK, apart2, AObj.live, ked, kee, kef, keg, keh, kei, kej, kek, kel, Int.reduceEq, Int.reduceLT, Int.reduceLE, Int.reduceAdd, Int.reduceSub, Int.reduceMul, Int.reduceToNat, kem, ken, keo, kep, keq, ker, kes, ket, keu, kev, kew, kex, key, kez, kfa, kfb, kfc, kfd, kfe, kff, kfg, kfh, kfi, kfj, kfk, kfl, cutCells, kfm, kfn, kfo, kfp, kfq, kfr, kfs, kft, kfu, kfv, kfw, kfx, kfy, Nat.reduceAdd, Nat.reduceLeDiff, Nat.reduceLT, Nat.reduceMul, Nat.reduceSub, kfz, kga, kgb, kgc, kgd, kge, kgf, kgg, kgh, kgi, kgj, kgk, kgl, kgm, kgn, kgo, kgp, kgq, kgr, kgs, kgt, kgu, kgv, kgw, kgx, kgy, kgz, kha, khb, khc, khd, g0, g1, g6, hcl2, Nat.le_refl, ht6, hone, setL_full, ha, hget_ne]
        refine next_s (text := text1) (pos := pos) (p := p) (f := f) (hGH _) (by omega) (by simp (disch := omega) only [kaa, kab, kac, kad, kae, kaf, kag, kah, kai, kaj, kak, kal, kam, kan, kao, khe, khf, khg, khh, khi, khj, khk, khl, kap, kaq, kar, kas, kat, kau, kav, kaw, kax, kay, kaz, kba, kbb, kbc, kbd, kbe, kbf, kbg, kbh, kbi, kbj, kbk, kbl, kbm, kbn, kbo, kbp, kbq, kbr, kbs, kbt, kbu, kbv, kbw, kbx, kby, kbz, kca, kcb, kcc, kcd, kce, kcf, kcg, kch, kci, kcj, kck, kcl, kcm, aop, kcn, kco, kcp, kcq, kcr, kcs, kct, kcu, kcv, kcw, resultsL, resultOf, kcx, Nat.reduceEqDiff, kcy, kcz, kda, reduceCtorEq, kdb, kdc, kdd, kde, kdf, kdg, kdh, kdi, kdj, kdk, kdl, kdm, kdn, kdo, eq1, kdp, kdq, kdr, kds, kdt, kdu, kdv, kdw, kdx, kdy, kdz, kea, keb, kec, apartOK, apart2, AObj.live, ked, kee, kef, keg, keh, kei, kej, kek, kel, Int.reduceEq, Int.reduceLT, Int.reduceLE, Int.reduceAdd, Int.reduceSub, Int.reduceMul, Int.reduceToNat, kem, ken, keo, kep, keq, ker, kes, ket, keu, kev, kew, kex, key, kez, kfa, kfb, kfc, kfd, kfe, kff, kfg, kfh, kfi, kfj, kfk, kfl, cutCells, kfm, kfn, kfo, kfp, kfq, kfr, kfs, kft, kfu, kfv, kfw, kfx, kfy, Nat.reduceAdd, Nat.reduceLeDiff, Nat.reduceLT, Nat.reduceMul, Nat.reduceSub, kfz, kga, kgb, kgc, kgd, kge, kgf, kgg, kgh, kgi, kgj, kgk, kgl, kgm, kgn, kgo, kgp, kgq, kgr, kgs, kgt, kgu, kgv, kgw, kgx, kgy, kgz, kha, khb, khc, khd, g1, hget_ne]) hpos hl1 (by omega) (by omega) ?_
        rw [q4]
        simp (disch := omega) only [kaa, kab, kac, kad, kae, kaf, kag, kah, kai, kaj, kak, kal, kam, kan, kao, khe, khf, khg, khh, khi, khj, khk, khl, kap, kaq, kar, kas, kat, kau, kav, kaw, kax, kay, kaz, kba, kbb, kbc, kbd, kbe, kbf, kbg, kbh, kbi, kbj, kbk, kbl, kbm, kbn, kbo, kbp, kbq, kbr, kbs, kbt, kbu, kbv, kbw, kbx, kby, kbz, kca, kcb, kcc, kcd, kce, kcf, kcg, kch, kci, kcj, kck, kcl, kcm, aop, kcn, kco, kcp, kcq, kcr, kcs, kct, kcu, kcv, kcw, resultsL, resultOf, kcx, Nat.reduceEqDiff, kcy, kcz, kda, reduceCtorEq, kdb, kdc, kdd, kde, kdf, kdg, kdh, kdi, kdj, kdk, kdl, kdm, kdn, kdo, eq1, kdp, kdq, kdr, kds, kdt, kdu, kdv, kdw, kdx, kdy, kdz, kea, keb, kec, apartOK, apart2, AObj.live, ked, kee, kef, keg, keh, kei, kej, kek, kel, Int.reduceEq, Int.reduceLT, Int.reduceLE, Int.reduceAdd, Int.reduceSub, Int.reduceMul, Int.reduceToNat, kem, ken, keo, kep, keq, ker, kes, ket, keu, kev, kew, kex, key, kez, kfa, kfb, kfc, kfd, kfe, kff, kfg, kfh, kfi, kfj, kfk, kfl, cutCells, kfm, kfn, kfo, kfp, kfq, kfr, kfs, kft, kfu, kfv, kfw, kfx, kfy, Nat.reduceAdd, Nat.reduceLeDiff, Nat.reduceLT, Nat.reduceMul, Nat.reduceSub, kfz, kga, kgb, kgc, kgd, kge, kgf, kgg, kgh, kgi, kgj, kgk, kgl, kgm, kgn, kgo, kgp, kgq, kgr, kgs, kgt, kgu, kgv, kgw, kgx, kgy, kgz, kha, khb, khc, khd, q5, q6, setL_full, hcl2]
        refine ⟨if ok = true then text1.length - pos' + 1 else 0, ?_, _, pos', p', ok, G.length + 2, _, ts ++ [t], f', cur, rfl, ?_, ?_, ?_, by omega, by omega, q5, q2, q3, by simp; omega, .inr ⟨G.length + 1, l5 + 1, rfl, ?_, ?_, by omega⟩, ?_, ?_, (ex_env rfl)⟩
        · cases ok with
          | true => obtain ⟨_, r2, _⟩ := q7 rfl; simp only [if_true]; omega
          | false => simp only [Bool.false_eq_true, if_false]; omega
        · simp (disch := omega) only [kaa, kab, kac, kad, kae, kaf, kag, kah, kai, kaj, kak, kal, kam, kan, kao, khe, khf, khg, khh, khi, khj, khk, khl, kap, kaq, kar, kas, kat, kau, kav, kaw, kax, kay, kaz, kba, kbb, kbc, kbd, kbe, kbf, kbg, kbh, kbi, kbj, kbk, kbl, kbm, kbn, kbo, kbp, kbq, kbr, kbs, kbt, kbu, kbv, kbw, kbx, kby, kbz, kca, kcb, kcc, kcd, kce, kcf, kcg, kch, kci, kcj, kck, kcl, kcm, aop, kcn, kco, kcp, kcq, kcr, kcs, kct, kcu, kcv, kcw, resultsL, resultOf, kcx, Nat.reduceEqDiff, kcy, kcz, kda, reduceCtorEq, kdb, kdc, kdd, kde, kdf, kdg, kdh, kdi, kdj, kdk, kdl, kdm, kdn, kdo, eq1, kdp, kdq, kdr, kds, kdt, kdu, kdv, kdw, kdx, kdy, kdz, kea, keb, kec, apartOK, apart2, AObj.live, ked, kee, kef, keg, keh, kei, kej, kek, kel, Int.reduceEq, Int.reduceLT, Int.reduceLE, Int.reduceAdd, Int.reduceSub, Int.reduceMul, Int.reduceToNat, kem, ken, keo, kep, keq, ker, kes, ket, keu, kev, kew, kex, key, kez, kfa, kfb, kfc, kfd, kfe, kff, kfg, kfh, kfi, kfj, kfk, kfl, cutCells, kfm, kfn, kfo, kfp, kfq, kfr, kfs, kft, kfu, kfv, kfw, kfx, kfy, Nat.reduceAdd, Nat.reduceLeDiff, Nat.reduceLT, Nat.reduceMul, Nat.reduceSub, kfz, kga, kgb, kgc, kgd, kge, kgf, kgg, kgh, kgi, kgj, kgk, kgl, kgm, kgn, kgo, kgp, kgq, kgr, kgs, kgt, kgu, kgv, kgw, kgx, kgy, kgz, kha, khb, khc, khd, g0, hget_ne]
        · simp (disch := omega) only [kaa, kab, kac, kad, kae, kaf, kag, kah, kai, kaj, kak, kal, kam, kan, kao, khe, khf, khg, khh, khi, khj, khk, khl, kap, kaq, kar, kas, kat, kau, kav, kaw, kax, kay, kaz, kba, kbb, kbc, kbd, kbe, kbf, kbg, kbh, kbi, kbj, kbk, kbl, kbm, kbn, kbo, kbp, kbq, kbr, kbs, kbt, kbu, kbv, kbw, kbx, kby, kbz, kca, kcb, kcc, kcd, kce, kcf, kcg, kch, kci, kcj, kck, kcl, kcm, aop, kcn, kco, kcp, kcq, kcr, kcs, kct, kcu, kcv, kcw, resultsL, resultOf, kcx, Nat.reduceEqDiff, kcy, kcz, kda, reduceCtorEq, kdb, kdc, kdd, kde, kdf, kdg, kdh, kdi, kdj, kdk, kdl, kdm, kdn, kdo, eq1, kdp, kdq, kdr, kds, kdt, kdu, kdv, kdw, kdx, kdy, kdz, kea, keb, kec, apartOK, apart2, AObj.live, ked, kee, kef, keg, keh, kei, kej, kek, kel, Int.reduceEq, Int.reduceLT, Int.reduceLE, Int.reduceAdd, Int.reduceSub, Int.reduceMul, Int.reduceToNat, kem, ken, keo, kep, keq, ker, kes, ket, keu, kev, kew, kex, key, kez, kfa, kfb, kfc, kfd, kfe, kff, kfg, kfh, kfi, kfj, kfk, kfl, cutCells, kfm, kfn, kfo, kfp, kfq, kfr, kfs, kft, kfu, kfv, kfw, kfx, kfy, Nat.reduceAdd, Nat.reduceLeDiff, Nat.reduceLT, Nat.reduceMul, Nat.reduceSub, kfz, kga, kgb, kgc, kgd, kge, kgf, kgg, kgh, kgi, kgj, kgk, kgl, kgm, kgn, kgo, kgp, kgq, kgr, kgs, kgt, kgu, kgv, kgw, kgx, kgy, kgz, kha, khb, khc, khd, g1]
        · simp (disch := omega) only [kaa, kab, kac, kad, kae, kaf, kag, kah, kai, kaj, kak, kal, kam, kan, kao, khe, khf, khg, khh, khi, khj, khk, khl, kap, kaq, kar, kas, kat, kau, kav, kaw, kax, kay, kaz, kba, kbb, kbc, kbd, kbe, kbf, kbg, kbh, kbi, kbj, kbk, kbl, kbm, kbn, kbo, kbp, kbq, kbr, kbs, kbt, kbu, kbv, kbw, kbx, kby, kbz, kca, kcb, kcc, kcd, kce, kcf, kcg, kch, kci, kcj, kck, kcl, kcm, aop, kcn, kco, kcp, kcq, kcr, kcs, kct, kcu, kcv, kcw, resultsL, resultOf, kcx, Nat.reduceEqDiff, kcy, kcz, kda, reduceCtorEq, kdb, kdc, kdd, kde, kdf, kdg, kdh, kdi, kdj, kdk, kdl, kdm, kdn, kdo, eq1, kdp, kdq, kdr, kds, kdt, kdu, kdv, kdw, kdx, kdy, kdz, kea, keb, kec, apartOK, apart2, AObj.live, ked, kee, kef, keg, keh, kei, kej, kek, kel, Int.reduceEq, Int.reduceLT, Int.reduceLE, Int.reduceAdd, Int.reduceSub, Int.reduceMul, Int.reduceToNat, kem, ken, keo, kep, keq, ker, kes, ket, keu, kev, kew, kex, key, kez, kfa, kfb, kfc, kfd, kfe, kff, kfg, kfh, kfi, kfj, kfk, kfl, cutCells, kfm, kfn, kfo, kfp, kfq, kfr, kfs, kft, kfu, kfv, kfw, kfx, kfy, Nat.reduceAdd, Nat.reduceLeDiff, Nat.reduceLT, Nat.reduceMul, Nat.reduceSub, kfz, kga, kgb, kgc, kgd, kge, kgf, kgg, kgh, kgi, kgj, kgk, kgl, kgm, kgn, kgo, kgp, kgq, kgr, kgs, kgt, kgu, kgv, kgw, kgx, kgy, kgz, kha, khb, khc, khd, g1]
        · simp (disch := omega) only [kaa, kab, kac, kad, kae, kaf, kag, kah, kai, kaj, kak, kal, kam, kan, kao, khe, khf, khg, khh, khi, khj, khk, khl, kap, kaq, kar, kas, kat, kau, kav, kaw, kax, kay, kaz, kba, kbb, kbc, kbd, kbe, kbf, kbg, kbh, kbi, kbj, kbk, kbl, kbm, kbn, kbo, kbp, kbq, kbr, kbs, kbt, kbu, kbv, kbw, kbx, kby, kbz, kca, kcb, kcc, kcd, kce, kcf, kcg, kch, kci, kcj, kck, kcl, kcm, aop, kcn, kco, kcp, kcq, kcr, kcs, kct, kcu, kcv, kcw, resultsL, resultOf, kcx, Nat.reduceEqDiff, kcy, kcz, kda, reduceCtorEq, kdb, kdc, kdd, kde, kdf, kdg, kdh, kdi, kdj, kdk, kdl, kdm, kdn, kdo, eq1, kdp, kdq, kdr, kds, kdt, kdu, kdv, kdw, kdx, kdy, kdz, kea, keb, kec, apartOK, apart2, AObj.live, ked, kee, kef, keg, keh, kei, kej, kek, kel, Int.reduceEq, Int.reduceLT, Int.reduceLE, Int.reduceAdd, Int.reduceSub, Int.reduceMul, Int.reduceToNat, kem, ken, keo, kep, keq, ker, kes, ket, keu, kev, kew, kex, key, kez, kfa, kfb, kfc, kfd, kfe, kff, kfg, kfh, kfi, kfj, kfk, kfl, cutCells, kfm, kfn, kfo, kfp, kfq, kfr, kfs, kft, kfu, kfv, kfw, kfx, kfy, Nat.reduceAdd, Nat.reduceLeDiff, Nat.reduceLT, Nat.reduceMul, Nat.reduceSub, kfz, kga, kgb, kgc, kgd, kge, kgf, kgg, kgh, kgi, kgj, kgk, kgl, kgm, kgn, kgo, kgp, kgq, kgr, kgs, kgt, kgu, kgv, kgw, kgx, kgy, kgz, kha, khb, khc, khd, hcs, List.map_append, List.flatten_append, List.map_nil, List.map_cons, List.flatten_cons, List.flatten_nil, List.append_nil]
        · simp only [List.map_append, List.flatten_append, List.length_append, hcs, List.map_nil, List.map_cons, List.flatten_cons, List.flatten_nil, List.append_nil, hcl2, List.length_nil, Nat.zero_add, Nat.add_mul, Nat.one_mul]
        · intro hok2
          obtain ⟨r1, r2, t2, r3, r4⟩ := q7 hok2
          refine ⟨if_pos hok2, r1, by simp; omega, t2, r3, ?_⟩
          rw [hlex, r4]
          simp
        · intro hno2
          obtain ⟨r1, r2⟩ := q8 hno2
          refine ⟨by rw [hno2]; rfl, _, by rw [hlex, r1], r2⟩
    | false =>
      obtain ⟨rfl, F, hlex, hF⟩ := hno rfl
      have fcase : (f = (0, 0, 0) ∧ lexT text = (ts, (0, 0, 0))) ∨ (f ≠ (0, 0, 0) ∧ lexT text = ([], f)) := by
        rcases hcase with ⟨c1, rfl, rfl⟩ | ⟨c1, rfl, rfl⟩
        · rcases hF with ⟨rfl, rfl⟩ | ⟨hF, rfl⟩
          · exact .inl ⟨rfl, by rw [lexT, if_pos c1, hlex]; rfl⟩
          · refine .inr ⟨fun q => hF (by rw [q]), ?_⟩
            rw [lexT, if_pos c1, hlex]
            simp only
            rw [if_neg hF]
        · refine .inr ?_
          have he : lexL [] (1, 1) = ([], (0, 0, 0)) := lexL_end rfl
          rw [he] at hlex
          obtain ⟨rfl, rfl⟩ := Prod.mk.inj hlex
          rcases hF with ⟨_, rfl⟩ | ⟨hF, _⟩
          · exact ⟨by decide, by rw [lexT, if_neg c1]⟩
          · exact absurd rfl hF
      rcases fcase with ⟨rfl, hT⟩ | ⟨hf, hT⟩
      · simp (disch := omega) only [kaa, kab, kac, kad, kae, kaf, kag, kah, kai, kaj, kak, kal, kam, kan, kao, khe, khf, khg, khh, khi, khj, khk, khl, kap, kaq, kar, kas, kat, kau, kav, kaw, kax, kay, kaz, kba, kbb, kbc, kbd, kbe, kbf, kbg, kbh, kbi, kbj, kbk, kbl, kbm, kbn, kbo, kbp, kbq, kbr, kbs, kbt, kbu, kbv, kbw, kbx, kby, kbz, kca, kcb, kcc, kcd, kce, kcf, kcg, kch, kci, kcj, kck, kcl, kcm, aop, kcn, kco, kcp, kcq, kcr, kcs, kct, kcu, kcv, kcw, resultsL, resultOf, kcx, Nat.reduceEqDiff, kcy, kcz, kda, reduceCtorEq, kdb, kdc, kdd, kde, kdf, kdg, kdh, kdi, kdj, kdk, kdl, kdm, kdn, kdo, eq1, kdp, kdq, kdr, kds, kdt, kdu, kdv, kdw, kdx, kdy, kdz, kea, keb, kec, apartOK, apart2, AObj.live, ked, kee, kef, keg, keh, kei, kej, kek, kel, Int.reduceEq, Int.reduceLT, Int.reduceLE, Int.reduceAdd, Int.reduceSub, Int.reduceMul, Int.reduceToNat, kem, ken, keo, kep, keq, ker, kes, ket, keu, kev, kew, kex, key, kez, kfa, kfb, kfc, kfd, kfe, kff, kfg, kfh, kfi, kfj, kfk, kfl, cutCells, kfm, kfn, kfo, kfp, kfq, kfr, kfs, kft, kfu, kfv, kfw, kfx, kfy, Nat.reduceAdd, Nat.reduceLeDiff, Nat.reduceLT, Nat.reduceMul, Nat.reduceSub, kfz, kga, kgb, kgc, kgd, kge, kgf, kgg, kgh, kgi, kgj, kgk, kgl, kgm, kgn, kgo, kgp, kgq, kgr, kgs, kgt, kgu, kgv, kgw, kgx, kgy, kgz, kha, khb, khc, khd, g0, g1, g6, sc, agg3_eq]
        rw [hT] at h
        have sfl : Scoped H.length (.agg #[.int .i64 0, .int .i64 0, .int .i64 0]) := .closed rfl
        rcases hsl with ⟨rfl, hcs⟩ | ⟨k5, l5, rfl, h5, hcs, hl5⟩
        · have ht0 : ts = [] := by
            have := flat6 ts
            rw [hcs] at this
            simp only [List.length_nil] at this
            exact List.eq_nil_of_length_eq_zero (by omega)
          subst ht0
          exact ⟨H, _, [], [], .ret _, rfl, rfl, fun b o ho => .inl ho, rfl, List.nodup_nil, fun i k o2 hk => (by simp at hk), VS.pair (.old .slNil) (.old sfl), by simpa [fl] using h⟩
        · have hll : ts.length = l5 := by
            have := flat6 ts
            omega
          have hne : ¬ ts = [] := fun q => by subst q; simp at hll; omega
          rw [if_neg hne] at h
          have n50 : 0 ≠ k5 := fun q => by rw [← q, g0] at h5; simp at h5
          refine ⟨H, _, [_], [k5], .ret _, rfl, rfl, fun b o ho => .inl ho, rfl, by simp, fun i k o2 hk ho => ?_, VS.pair (VS.sl (i := 0) rfl) (.old sfl), by rw [hll] at h; exact h⟩
          match i, hk, ho with
          | 0, hk, ho =>
            simp at hk ho
            subst hk; subst ho
            refine ⟨_, hget_some (o := .row (ts.map Tk.cells).flatten 6 true) (by rw [hget_set_ne _ _ n50]; exact h5) rfl, OS.same fun v hv => ?_⟩
            rw [List.mem_flatten] at hv
            obtain ⟨cs, hcs2, hv⟩ := hv
            rw [List.mem_map] at hcs2
            obtain ⟨t, _, rfl⟩ := hcs2
            exact scoped_tk v hv
      · have hf' : ¬ (f.1 = 0 ∧ f.2.1 = 0 ∧ f.2.2 = 0) := fun q => hf (Prod.ext q.1 (Prod.ext q.2.1 q.2.2))
        simp (disch := omega) only [kaa, kab, kac, kad, kae, kaf, kag, kah, kai, kaj, kak, kal, kam, kan, kao, khe, khf, khg, khh, khi, khj, khk, khl, kap, kaq, kar, kas, kat, kau, kav, kaw, kax, kay, kaz, kba, kbb, kbc, kbd, kbe, kbf, kbg, kbh, kbi, kbj, kbk, kbl, kbm, kbn, kbo, kbp, kbq, kbr, kbs, kbt, kbu, kbv, kbw, kbx, kby, kbz, kca, kcb, kcc, kcd, kce, kcf, kcg, kch, kci, kcj, kck, kcl, kcm, aop, kcn, kco, kcp, kcq, kcr, kcs, kct, kcu, kcv, kcw, resultsL, resultOf, kcx, Nat.reduceEqDiff, kcy, kcz, kda, reduceCtorEq, kdb, kdc, kdd, kde, kdf, kdg, kdh, kdi, kdj, kdk, kdl, kdm, kdn, kdo, eq1, kdp, kdq, kdr, kds, kdt, kdu, kdv, kdw, kdx, kdy, kdz, kea, keb, kec, apartOK, apart2, AObj.live, ked, kee, kef, keg, keh, kei, kej, kek, kel, Int.reduceEq, Int.reduceLT, Int.reduceLE, Int.reduceAdd, Int.reduceSub, Int.reduceMul, Int.reduceToNat, kem, ken, keo, kep, keq, ker, kes, ket, keu, kev, kew, kex, key, kez, kfa, kfb, kfc, kfd, kfe, kff, kfg, kfh, kfi, kfj, kfk, kfl, cutCells, kfm, kfn, kfo, kfp, kfq, kfr, kfs, kft, kfu, kfv, kfw, kfx, kfy, Nat.reduceAdd, Nat.reduceLeDiff, Nat.reduceLT, Nat.reduceMul, Nat.reduceSub, kfz, kga, kgb, kgc, kgd, kge, kgf, kgg, kgh, kgi, kgj, kgk, kgl, kgm, kgn, kgo, kgp, kgq, kgr, kgs, kgt, kgu, kgv, kgw, kgx, kgy, kgz, kha, khb, khc, khd, g0, g1, g6, sc, agg3_eq, hf']
        rw [hT] at h
        exact ⟨H, _, [], [], .ret _, rfl, rfl, fun b o ho => .inl ho, rfl, List.nodup_nil, fun i k o2 hk => (by simp at hk), VS.pair (.old .slNil) (.old (.closed rfl)), by simpa [fl] using h⟩
  · rfl
  · intro hok
    obtain ⟨r1, r2, t, r3, r4⟩ := q7 hok
    simp only [List.drop_zero] at r4
    exact ⟨if_pos hok, r1, by simpa using r2, t, r3, by rw [r4]; rfl⟩
  · intro hno
    obtain ⟨r1, r2⟩ := q8 hno
    simp only [List.drop_zero] at r1 r2
    exact ⟨by rw [hno]; rfl, _, by rw [← r1], r2⟩

end Go.Proofs.YtedemfmafdilmaaDoor.Ev

/- Two texts with a line's end between have the words of both. -/
namespace Go.Proofs.YtedemfmafdilmaaDoor.Ev
set_option linter.unusedSimpArgs false
set_option linter.unusedVariables false

/-- What comes where no blank stands ahead. -/
def lexR (rest : List UInt8) (p : Nat × Nat) : List Tk × (Int × Int × Int) :=
  if rest = [] then ([], (0, 0, 0))
  else match tok rest with
    | .error c => ([], (c, (p.1 : Int), (p.2 : Int)))
    | .ok (k, m, v) => (⟨k, rest.take m, v, p⟩ :: (lexL (rest.drop m) (adv p (rest.take m))).1, (lexL (rest.drop m) (adv p (rest.take m))).2)

theorem lexL_R (l : List UInt8) (p : Nat × Nat) : lexL l p = lexR (l.drop (skN false l)) (adv p (l.take (skN false l))) := by
  unfold lexR
  by_cases h : l.drop (skN false l) = []
  · rw [if_pos h, lexL_end h]
  · rw [if_neg h]
    cases ht : tok (l.drop (skN false l)) with
    | error c => rw [lexL_err h ht]
    | ok x => obtain ⟨k, m, v⟩ := x; rw [lexL_ok h ht]

theorem sk_all : ∀ (r : Bool) (a b : List UInt8), skN r a = a.length → skN r (a ++ 10 :: b) = a.length + skN false (10 :: b)
  | false, [], b, _ => by simp
  | true, [], b, _ => by
    have : blankQ 10 = true := by decide
    simp [skN, this]
  | true, c :: a, b, h => by
    simp only [skN, List.length_cons] at h
    have := sk_all (!(c.toNat == 10)) a b (by omega)
    simp only [List.cons_append, skN, List.length_cons] at this ⊢
    omega
  | false, c :: a, b, h => by
    simp only [skN, List.length_cons] at h
    simp only [List.cons_append, List.length_cons]
    rw [skN]
    split at h
    · rename_i hc
      rw [if_pos hc, sk_all true a b (by omega)]
      omega
    · rename_i hc
      rw [if_neg hc]
      split at h
      · rename_i hb
        rw [if_pos hb, sk_all false a b (by omega)]
        omega
      · omega

theorem sk_some : ∀ (r : Bool) (a b : List UInt8), skN r a < a.length → skN r (a ++ b) = skN r a
  | _, [], b, h => by simp at h
  | true, c :: a, b, h => by
    simp only [skN, List.length_cons] at h
    have := sk_some (!(c.toNat == 10)) a b (by omega)
    simp only [List.cons_append, skN, this]
  | false, c :: a, b, h => by
    simp only [skN, List.length_cons] at h
    simp only [List.cons_append]
    rw [skN, skN]
    split at h
    · rename_i hc
      rw [if_pos hc, if_pos hc, sk_some true a b (by omega)]
    · rename_i hc
      rw [if_neg hc, if_neg hc]
      split at h
      · rename_i hb
        rw [if_pos hb, if_pos hb, sk_some false a b (by omega)]
      · rename_i hb
        rw [if_neg hb, if_neg hb]

theorem takeWhile_stop {α : Type} (q : α → Bool) (x : α) (b : List α) (hx : q x = false) : ∀ a : List α, (a ++ x :: b).takeWhile q = a.takeWhile q
  | [] => by simp [List.takeWhile_cons, hx]
  | c :: a => by
    simp only [List.cons_append, List.takeWhile_cons, takeWhile_stop q x b hx a]

theorem prefix_stop {s : List UInt8} {x : UInt8} (hx : x ∉ s) : ∀ (a b : List UInt8), s.isPrefixOf (a ++ x :: b) = s.isPrefixOf a := by
  induction s with
  | nil => intro a b; simp
  | cons c s ih =>
    intro a b
    have h1 : x ≠ c := fun q => hx (by rw [q]; simp)
    have h2 : x ∉ s := fun q => hx (by simp [q])
    cases a with
    | nil =>
      simp only [List.nil_append, List.isPrefixOf_cons_cons]
      have : (c == x) = false := by simpa using fun q : c = x => h1 q.symm
      rw [this]
      rfl
    | cons d a =>
      simp only [List.cons_append, List.isPrefixOf_cons_cons, ih h2 a b]

theorem signs_no10 : ∀ s ∈ signsL, (10 : UInt8) ∉ s := by
  have : signsL.all (fun s => !(s.contains 10)) = true := by rfl
  intro s hs h
  have := List.all_eq_true.1 this s hs
  simp at this
  exact this h

theorem find_congr {α : Type} {p q : α → Bool} : ∀ {l : List α}, (∀ x ∈ l, p x = q x) → l.find? p = l.find? q
  | [], _ => rfl
  | a :: l, h => by
    simp only [List.find?_cons, h a (by simp)]
    rw [find_congr fun x hx => h x (by simp [hx])]

theorem signN_stop (a b : List UInt8) : signN (a ++ 10 :: b) = signN a := by
  unfold signN
  rw [find_congr fun s hs => prefix_stop (signs_no10 s hs) a b]

theorem tok_stop {rest : List UInt8} (b : List UInt8) (h : rest ≠ []) : tok (rest ++ 10 :: b) = tok rest := by
  have hp : partQ 10 = false := by decide
  have h1 := takeWhile_le partQ rest
  unfold tok
  simp only [takeWhile_stop partQ 10 b hp rest, signN_stop]
  rw [List.take_append_of_le_length h1]
  cases rest with
  | nil => exact absurd rfl h
  | cons c rest => rfl

theorem lexR_ok {rest : List UInt8} {p : Nat × Nat} {k : Int} {m v : Nat} (h : rest ≠ []) (ht : tok rest = .ok (k, m, v)) :
    lexR rest p = (⟨k, rest.take m, v, p⟩ :: (lexL (rest.drop m) (adv p (rest.take m))).1, (lexL (rest.drop m) (adv p (rest.take m))).2) := by
  rw [lexR, if_neg h, ht]

theorem lexL_append : ∀ (n : Nat) (a b : List UInt8) (p : Nat × Nat), a.length ≤ n → (lexL a p).2.1 = 0 →
    lexL (a ++ 10 :: b) p = ((lexL a p).1 ++ (lexL (10 :: b) (adv p a)).1, (lexL (10 :: b) (adv p a)).2) := by
  intro n
  induction n with
  | zero =>
    intro a b p hn h
    obtain rfl : a = [] := List.eq_nil_of_length_eq_zero (by omega)
    rw [lexL_end (l := []) rfl]
    simp [adv]
  | succ n ih =>
    intro a b p hn h
    have hle := sk_le false a
    by_cases hs : skN false a = a.length
    · have hd : a.drop (skN false a) = [] := by rw [hs, List.drop_length]
      rw [lexL_end hd, lexL_R (a ++ 10 :: b), lexL_R (10 :: b), sk_all false a b hs]
      have e1 : (a ++ 10 :: b).drop (a.length + skN false (10 :: b)) = (10 :: b).drop (skN false (10 :: b)) := by rw [← List.drop_drop, List.drop_left]
      have e2 : adv p ((a ++ 10 :: b).take (a.length + skN false (10 :: b))) = adv (adv p a) ((10 :: b).take (skN false (10 :: b))) := by
        rw [List.take_add, List.take_left, List.drop_left, adv_append]
      rw [e1, e2]
      rfl
    · have hlt : skN false a < a.length := by omega
      have hne : a.drop (skN false a) ≠ [] := by rw [ne_eq, List.drop_eq_nil_iff]; omega
      have hsk := sk_some false a (10 :: b) hlt
      have e1 : (a ++ 10 :: b).drop (skN false a) = a.drop (skN false a) ++ 10 :: b := List.drop_append_of_le_length (by omega)
      have e2 : (a ++ 10 :: b).take (skN false a) = a.take (skN false a) := List.take_append_of_le_length (by omega)
      rw [lexL_R a] at h ⊢
      rw [lexL_R (a ++ 10 :: b), hsk, e1, e2]
      have e3 : adv p a = adv (adv p (a.take (skN false a))) (a.drop (skN false a)) := by rw [← adv_append, List.take_append_drop]
      rw [e3]
      have hlen : (a.drop (skN false a)).length ≤ a.length := by rw [List.length_drop]; omega
      generalize adv p (a.take (skN false a)) = q at *
      generalize a.drop (skN false a) = rest at *
      have hne2 : rest ++ 10 :: b ≠ [] := by simp
      cases ht : tok rest with
      | error c =>
        rw [lexR, if_neg hne, ht] at h
        exact absurd h (tok_code ht)
      | ok x =>
        obtain ⟨k, m, v⟩ := x
        have hm := tok_pos ht
        rw [lexR_ok hne ht] at h ⊢
        rw [lexR_ok hne2 (by rw [tok_stop b hne]; exact ht)]
        rw [List.take_append_of_le_length hm.2, List.drop_append_of_le_length hm.2]
        rw [ih (rest.drop m) b _ (by rw [List.length_drop]; omega) h]
        rw [← adv_append, List.take_append_drop]
        rfl

theorem lexL_line (b : List UInt8) (q : Nat × Nat) : lexL (10 :: b) q = lexL b (q.1 + 1, 1) := by
  have hb : blankQ 10 = true := by decide
  have e : skN false (10 :: b) = skN false b + 1 := by
    simp only [skN, show ¬ (10 : UInt8).toNat = 35 by decide, if_false, hb, if_true]
    omega
  rw [lexL_R (10 :: b), lexL_R b, e, List.drop_succ_cons, List.take_succ_cons, adv, if_pos (by decide)]

/-- A word so many lines further on. -/
def Tk.down (k : Nat) (t : Tk) : Tk := { t with pos := (t.pos.1 + k, t.pos.2) }

theorem adv_down (k : Nat) : ∀ (l : List UInt8) (p : Nat × Nat), adv (p.1 + k, p.2) l = ((adv p l).1 + k, (adv p l).2)
  | [], p => rfl
  | b :: l, p => by
    by_cases h : b.toNat = 10
    · have := adv_down k l (p.1 + 1, 1)
      simp only [adv, h, if_true] at this ⊢
      rw [← this, Nat.add_right_comm]
    · have := adv_down k l (p.1, p.2 + 1)
      simp only [adv, h, if_false] at this ⊢
      exact this

theorem lexL_down (k : Nat) : ∀ (n : Nat) (l : List UInt8) (p : Nat × Nat), l.length ≤ n → (lexL l (p.1 + k, p.2)).1 = (lexL l p).1.map (Tk.down k) ∧ (lexL l (p.1 + k, p.2)).2.1 = (lexL l p).2.1 := by
  intro n
  induction n with
  | zero =>
    intro l p hn
    obtain rfl : l = [] := List.eq_nil_of_length_eq_zero (by omega)
    rw [lexL_end (l := []) rfl, lexL_end (l := []) rfl]
    exact ⟨rfl, rfl⟩
  | succ n ih =>
    intro l p hn
    rw [lexL_R l p, lexL_R l (p.1 + k, p.2), adv_down]
    have hlen : (l.drop (skN false l)).length ≤ l.length := by rw [List.length_drop]; omega
    generalize adv p (l.take (skN false l)) = q
    generalize l.drop (skN false l) = rest at *
    by_cases h : rest = []
    · rw [lexR, lexR, if_pos h, if_pos h]
      exact ⟨rfl, rfl⟩
    · cases ht : tok rest with
      | error c =>
        rw [lexR, lexR, if_neg h, if_neg h, ht]
        exact ⟨rfl, rfl⟩
      | ok x =>
        obtain ⟨kk, m, v⟩ := x
        have hm := tok_pos ht
        rw [lexR_ok h ht, lexR_ok h ht, adv_down]
        obtain ⟨i1, i2⟩ := ih (rest.drop m) (adv q (rest.take m)) (by rw [List.length_drop]; omega)
        exact ⟨by simp only [i1, List.map_cons]; rfl, i2⟩

/-- Two texts with a line's end between. -/
theorem lexT_joins {a b : List UInt8} (ha : (lexT a).2.1 = 0) (hb : (lexT b).2.1 = 0) (hl : a.length + 1 + b.length ≤ 65536) :
    (lexT (a ++ 10 :: b)).2.1 = 0 ∧ (lexT (a ++ 10 :: b)).1 = (lexT a).1 ++ (lexT b).1.map (Tk.down (adv (1, 1) a).1) := by
  have hla : a.length ≤ 65536 := by omega
  have hlb : b.length ≤ 65536 := by omega
  have hlc : (a ++ 10 :: b).length ≤ 65536 := by simp; omega
  have fa : (lexL a (1, 1)).2.1 = 0 := by
    rw [lexT, if_pos hla] at ha
    split at ha
    · assumption
    · exact ha
  have fb : (lexL b (1, 1)).2.1 = 0 := by
    rw [lexT, if_pos hlb] at hb
    split at hb
    · assumption
    · exact hb
  have e := lexL_append a.length a b (1, 1) (Nat.le_refl _) fa
  rw [lexL_line] at e
  have hd := lexL_down (adv (1, 1) a).1 b.length b (1, 1) (Nat.le_refl _)
  rw [show ((1, 1) : Nat × Nat).1 + (adv (1, 1) a).1 = (adv (1, 1) a).1 + 1 by rw [Nat.add_comm]] at hd
  have fc : (lexL (a ++ 10 :: b) (1, 1)).2.1 = 0 := by rw [e]; exact hd.2.trans fb
  rw [lexT, lexT, lexT, if_pos hla, if_pos hlb, if_pos hlc, if_pos fa, if_pos fb, if_pos fc]
  exact ⟨rfl, by rw [e]; simp only [hd.1]⟩

end Go.Proofs.YtedemfmafdilmaaDoor.Ev

/- Texts that are one word. -/
namespace Go.Proofs.YtedemfmafdilmaaDoor.Ev
set_option linter.unusedSimpArgs false
set_option linter.unusedVariables false

theorem part_plain {b : UInt8} (h : partQ b = true) : ¬ b.toNat = 35 ∧ blankQ b = false := by
  simp [partQ, isPartB] at h
  refine ⟨by omega, ?_⟩
  simp [blankQ, isBlankB]
  omega

theorem lexT_single {s : List UInt8} {k : Int} {v : Nat} (hne : s ≠ []) (hall : ∀ b ∈ s, partQ b = true) (ht : tok s = .ok (k, s.length, v)) (hl : s.length ≤ 65536) : lexT s = ([⟨k, s, v, (1, 1)⟩], (0, 0, 0)) := by
  have hsk : skN false s = 0 := by
    cases s with
    | nil => rfl
    | cons a s =>
      obtain ⟨h1, h2⟩ := part_plain (hall a (by simp))
      simp only [skN, h1, if_false, h2, Bool.false_eq_true]
  have e : lexL s (1, 1) = ([⟨k, s, v, (1, 1)⟩], (0, 0, 0)) := by
    rw [lexL_R, hsk, List.drop_zero, List.take_zero, lexR_ok hne ht, List.take_length, List.drop_length, lexL_end rfl]
    rfl
  rw [lexT, if_pos hl, e]
  rfl

theorem tok_parts {s : List UInt8} (hne : s ≠ []) (hall : ∀ b ∈ s, partQ b = true) : tok s =
    if digQ (s.headD 0) = true then (match numV s with | some v => .ok (3, s.length, v) | none => .error 61)
    else if wordsL.contains s = true then .ok (2, s.length, 0) else if nameB s = true then .ok (1, s.length, 0) else .error 60 := by
  have h1 := takeWhile_all partQ s hall
  have h2 : 0 < s.length := by cases s with | nil => exact absurd rfl hne | cons a s => simp
  unfold tok
  simp only [h1, h2, if_true, List.take_length]
  rfl

theorem words_plain : ∀ w ∈ wordsL, w ≠ [] ∧ (∀ b ∈ w, partQ b = true) ∧ digQ (w.headD 0) = false ∧ w.length ≤ 65536 := by
  have h : wordsL.all (fun w => !w.isEmpty && w.all partQ && !(digQ (w.headD 0)) && decide (w.length ≤ 65536)) = true := by kernel_rfl
  intro w hw
  have := List.all_eq_true.1 h w hw
  simp only [Bool.and_eq_true, Bool.not_eq_true', decide_eq_true_eq, List.all_eq_true, List.isEmpty_eq_false_iff] at this
  exact ⟨this.1.1.1, this.1.1.2, this.1.2, this.2⟩

theorem lexT_word {w : List UInt8} (hw : w ∈ wordsL) : lexT w = ([⟨2, w, 0, (1, 1)⟩], (0, 0, 0)) := by
  obtain ⟨h1, h2, h3, h4⟩ := words_plain w hw
  refine lexT_single h1 h2 ?_ h4
  rw [tok_parts h1 h2, h3, if_neg (by simp), if_pos (List.contains_iff_mem.2 hw)]

theorem nameB_word {w : List UInt8} (hw : w ∈ wordsL) : nameB w = false := by
  unfold nameB
  split
  · rw [List.contains_iff_mem.2 hw]; rfl
  · rfl

theorem lexT_name {s : List UInt8} (h : nameB s = true) : lexT s = ([⟨1, s, 0, (1, 1)⟩], (0, 0, 0)) := by
  have h0 := h
  unfold nameB at h
  split at h
  · rename_i hc
    obtain ⟨c1, c2, c3, c4⟩ := hc
    have hc : wordsL.contains s = false := by simpa using h
    have hne : s ≠ [] := fun q => by rw [q] at c1; simp at c1
    have hrest : ∀ b ∈ s, restQ b = true := fun b hb => by
      have := take_takeWhile restQ s
      rw [c4, List.take_length] at this
      rw [this] at hb
      exact all_takeWhile restQ s b hb
    have hall : ∀ b ∈ s, partQ b = true := fun b hb => by
      have := hrest b hb
      simp [restQ, isRestB] at this
      simp [partQ, isPartB]
      omega
    refine lexT_single hne hall ?_ (by omega)
    have hd : digQ (s.headD 0) = false := by
      cases s with
      | nil => exact absurd rfl hne
      | cons a s =>
        have : firstQ a = true := by
          by_cases ha : firstQ a = true
          · exact ha
          · simp [List.takeWhile_cons, ha] at c3
        simp [firstQ] at this
        simp [digQ]
        omega
    rw [tok_parts hne hall, hd, if_neg (by simp), hc, if_neg (by simp), if_pos h0]
  · cases h

theorem tok_kind1 {l : List UInt8} {m v : Nat} (h : tok l = .ok (1, m, v)) : nameB (l.take m) = true := by
  unfold tok at h
  simp only at h
  split at h
  · split at h
    · split at h
      · cases h
      · cases h
    · split at h
      · cases h
      · split at h
        · rename_i hn
          cases h
          exact hn
        · cases h
  · split at h
    · cases h
    · cases h

theorem name_of_lexT {s : List UInt8} {t : Tk} {l : List Tk} (h1 : (lexT s).1 = t :: l) (h2 : t.kind = 1) (h3 : t.text = s) : nameB s = true := by
  unfold lexT at h1
  split at h1
  · split at h1
    · simp only at h1
      rw [lexL_R] at h1
      unfold lexR at h1
      split at h1
      · cases h1
      · split at h1
        · cases h1
        · rename_i k m v ht
          simp only [List.cons.injEq] at h1
          obtain ⟨rfl, _⟩ := h1
          simp only at h2 h3
          subst h2
          rw [← h3]
          exact tok_kind1 ht
    · cases h1
  · cases h1

end Go.Proofs.YtedemfmafdilmaaDoor.Ev

/- What the laws ask first. -/
namespace Go.Proofs.YtedemfmafdilmaaDoor.Ev
set_option maxRecDepth 100000
set_option linter.unusedSimpArgs false
set_option linter.unusedVariables false
variable {R : FRes → Heap → Prop} {H : Heap}

def isTrue : Option (FRes × Heap) → Bool
  | some (.ret (.bool true), _) => true
  | _ => false
theorem of_isTrue {x : Option (FRes × Heap)} (h : isTrue x = true) : ∃ H1, x = some (.ret (.bool true), H1) := by
  unfold isTrue at h
  split at h
  · exact ⟨_, rfl⟩
  · cases h

theorem live_ev : isTrue (evalFn Tab 64 9 [] H0) = true := by kernel_rfl

theorem strV_closed (l : List (List UInt8)) (n : Nat) : ∀ v ∈ strV l, Scoped n v := by
  intro v hv
  simp only [strV, List.mem_map] at hv
  obtain ⟨s, _, rfl⟩ := hv
  exact .closed rfl

theorem H0_rows : ∀ o ∈ H0, ∃ cs, o = .row cs 0 false ∧ ∀ v ∈ cs, Scoped H0.length v := by
  intro o ho
  simp only [H0, List.mem_cons, List.not_mem_nil, or_false] at ho
  rcases ho with rfl | rfl
  · exact ⟨_, rfl, strV_closed _ _⟩
  · exact ⟨_, rfl, strV_closed _ _⟩

/-- The heap begins with the laid variables. -/
def On0 (H : Heap) : Prop := ∃ g, H = H0 ++ g
theorem On0.gh (h : On0 H) : GH H := by
  obtain ⟨g, rfl⟩ := h
  exact ⟨rfl, rfl, by simp [H0]⟩
theorem On0.app (h : On0 H) (G : Heap) : On0 (H ++ G) := by
  obtain ⟨g, rfl⟩ := h
  exact ⟨g ++ G, by simp⟩
theorem on0 : On0 H0 := ⟨[], by simp⟩

theorem globs : T.G ≤ H0.length := by
  have : T.G = 2 := by unfold T; kernel_rfl
  rw [this]
  exact Nat.le_refl _

theorem live_s (hH : On0 H) (h : R (.ret (.bool true)) H) : WD T 9 [] H R := by
  obtain ⟨H1, he⟩ := of_isTrue live_ev
  exact WD.frame0 hH globs H0_rows (by simp) .bool (WD.ev follows table_ok he rfl) h

end Go.Proofs.YtedemfmafdilmaaDoor.Ev

/- The law LexJoins: what it answers. -/
namespace Go.Proofs.YtedemfmafdilmaaDoor.Ev
set_option maxRecDepth 100000
set_option linter.unusedSimpArgs false
set_option linter.unusedVariables false
variable {R : FRes → Heap → Prop} {H : Heap}

/-- A list of words, wherever it lies. -/
def TokSl (K : Heap) (a : Option Addr) (ts : List Tk) : Prop := ts ≠ [] → ∃ b, a = some ⟨b, 0, none⟩ ∧ hget K b = .row (ts.map Tk.cells).flatten 6 true

theorem TokSl.app {K G : Heap} {a : Option Addr} {ts : List Tk} (h : TokSl K a ts) : TokSl (K ++ G) a ts := fun hne => by
  obtain ⟨b, h1, h2⟩ := h hne
  exact ⟨b, h1, by rw [hget_old (hget_lt h2 rfl)]; exact h2⟩

theorem TokSl.pre {K K' : Heap} {a : Option Addr} {ts : List Tk} (h : TokSl K a ts) (hp : K <+: K') : TokSl K' a ts := by
  obtain ⟨g, rfl⟩ := hp
  exact h.app

theorem lexTokens_u {text : List UInt8} (hH : GH H)
    (h : ∀ a G, TokSl (H ++ G) a (lexT text).1 → R (.ret (.tuple #[.slice a (lexT text).1.length (lexT text).1.length, fl (lexT text).2])) (H ++ G)) : WD T 11 [.string (bs text)] H R := by
  refine lexTokens_s hH ?_
  by_cases hne : (lexT text).1 = []
  · rw [if_pos hne]
    have := h none [] (fun q => absurd hne q)
    rw [hne] at this
    simpa using this
  · rw [if_neg hne]
    exact h _ _ fun _ => ⟨_, rfl, hget_last _ _⟩

theorem cut_flat : ∀ (ts : List Tk) (i : Nat) (h : i < ts.length), ((ts.map Tk.cells).flatten.drop (i * 6)).take 6 = ts[i].cells
  | [], i, h => by simp at h
  | t :: ts, 0, h => by
    simp only [List.map_cons, List.flatten_cons, Nat.zero_mul, List.drop_zero, List.getElem_cons_zero]
    rw [List.take_append_of_le_length (by simp [Tk.cells, tk])]
    rfl
  | t :: ts, i + 1, h => by
    simp only [List.length_cons] at h
    have := cut_flat ts i (by omega)
    simp only [List.map_cons, List.flatten_cons, List.getElem_cons_succ]
    rw [show (i + 1) * 6 = t.cells.length + i * 6 by rw [show t.cells.length = 6 from rfl]; omega, ← List.drop_drop, List.drop_left]
    exact this

theorem lexL_all : ∀ (n : Nat) (l : List UInt8) (p : Nat × Nat), l.length ≤ n → (lexL l p).1.length ≤ l.length ∧ ∀ t ∈ (lexL l p).1, t.pos.1 ≤ p.1 + l.length := by
  intro n
  induction n with
  | zero =>
    intro l p hn
    obtain rfl : l = [] := List.eq_nil_of_length_eq_zero (by omega)
    rw [lexL_end (l := []) rfl]
    exact ⟨by simp, by simp⟩
  | succ n ih =>
    intro l p hn
    have hadv := adv_le (l.take (skN false l)) p
    have hsk := sk_le false l
    rw [List.length_take, Nat.min_eq_left hsk] at hadv
    rw [lexL_R l p]
    by_cases h : l.drop (skN false l) = []
    · rw [lexR, if_pos h]
      exact ⟨by simp, by simp⟩
    · cases ht : tok (l.drop (skN false l)) with
      | error c =>
        rw [lexR, if_neg h, ht]
        exact ⟨by simp, by simp⟩
      | ok x =>
        obtain ⟨kk, m, v⟩ := x
        have hm := tok_pos ht
        rw [List.length_drop] at hm
        rw [lexR_ok h ht]
        have hadv2 := adv_take l p (skN false l) m
        have hlm := adv_le (l.take (skN false l + m)) p
        rw [List.length_take, Nat.min_eq_left (by omega)] at hlm
        obtain ⟨i1, i2⟩ := ih ((l.drop (skN false l)).drop m) (adv (adv p (l.take (skN false l))) ((l.drop (skN false l)).take m)) (by simp only [List.length_drop]; omega)
        rw [hadv2] at i1 i2
        rw [hadv2]
        refine ⟨by simp only [List.length_cons, List.length_drop] at i1 ⊢; omega, fun t htm => ?_⟩
        rcases List.mem_cons.1 htm with rfl | htm
        · simp only
          omega
        · have j1 := i2 t htm
          simp only [List.length_drop] at j1
          omega

theorem lexT_all (text : List UInt8) : (lexT text).1.length ≤ 65536 ∧ ∀ t ∈ (lexT text).1, t.pos.1 ≤ 70000 := by
  unfold lexT
  split
  · rename_i h
    obtain ⟨h1, h2⟩ := lexL_all _ text (1, 1) (Nat.le_refl _)
    split
    · exact ⟨by simp only; omega, fun t ht => by have := h2 t ht; simp only at this; omega⟩
    · exact ⟨by simp, by simp⟩
  · exact ⟨by simp, by simp⟩

theorem cells_len (t : Tk) : t.cells.length = 6 := rfl
theorem eqs_tk (l : List Value) (h : ∃ t : Tk, l = t.cells) : eqL [(1, l.getD 0 undef, l.getD 0 undef), (2, l.getD 1 undef, l.getD 1 undef), (1, l.getD 2 undef, l.getD 2 undef), (1, l.getD 3 undef, l.getD 3 undef), (1, l.getD 4 undef, l.getD 4 undef), (1, l.getD 5 undef, l.getD 5 undef)] = some true := by
  obtain ⟨t, rfl⟩ := h
  simp [Tk.cells, tk, eqL, eqT1]

theorem eqs_lit (k : Int) (s : ByteArray) (h l a b : Int) : eqL [(1, .int .i64 k, .int .i64 k), (2, .string s, .string s), (1, .int .u64 h, .int .u64 h), (1, .int .u64 l, .int .u64 l), (1, .int .i64 a, .int .i64 a), (1, .int .i64 b, .int .i64 b)] = some true := by
  simp [eqL, eqT1]

def countI (a : List UInt8) (K : Heap) (s6 s8 s10 v11 : Value) : Nat → Env → Heap → Prop := fun n e H' =>
  ∃ i : Nat, i ≤ a.length ∧ n = a.length - i ∧ H' = K ∧ (∃ x : Nat → Value, e = [.string (bs a), x 1, x 2, x 3, x 4, x 5, s6, x 7, s8, x 9, s10, v11, .int .i64 (((adv (1, 1) (a.take i)).1 : Nat) : Int), .int .i64 i, x 14, x 15, x 16, x 17, x 18, x 19, x 20, x 21, x 22, x 23, x 24, x 25, x 26, x 27, x 28, x 29, x 30, x 31, x 32, x 33, x 34, x 35, x 36, x 37, x 38, x 39, x 40, x 41, x 42, x 43, x 44, x 45, x 46, x 47, x 48, x 49, x 50, x 51, x 52, x 53, x 54, x 55, x 56, x 57, x 58, x 59, x 60, x 61, x 62, x 63, x 64, x 65, x 66, x 67, x 68, x 69, x 70, x 71, x 72, x 73, x 74, x 75, x 76, x 77, x 78, x 79, x 80, x 81, x 82, x 83, x 84, x 85, x 86, x 87, x 88, x 89, x 90, x 91, x 92, x 93, x 94, x 95, x 96, x 97, x 98, x 99, x 100, x 101, x 102, x 103, x 104, x 105, x 106, x 107, x 108, x 109, x 110, x 111, x 112, x 113, x 114, x 115, x 116, x 117, x 118, x 119, x 120])

def cmpI (lines : Nat) (K : Heap) (a6 a8 a10 : Option Addr) (A B C : Nat) : Nat → Env → Heap → Prop := fun n e H' =>
  ∃ i : Nat, i ≤ C ∧ n = C - i ∧ (∃ G, H' = K ++ G) ∧ (∃ x : Nat → Value, e = [x 0, x 1, x 2, x 3, x 4, x 5, .slice a6 A A, x 7, .slice a8 B B, x 9, .slice a10 C C, x 11, .int .i64 lines, x 13, .int .i64 i, x 15, x 16, x 17, x 18, x 19, x 20, x 21, x 22, x 23, x 24, x 25, x 26, x 27, x 28, x 29, x 30, x 31, x 32, x 33, x 34, x 35, x 36, x 37, x 38, x 39, x 40, x 41, x 42, x 43, x 44, x 45, x 46, x 47, x 48, x 49, x 50, x 51, x 52, x 53, x 54, x 55, x 56, x 57, x 58, x 59, x 60, x 61, x 62, x 63, x 64, x 65, x 66, x 67, x 68, x 69, x 70, x 71, x 72, x 73, x 74, x 75, x 76, x 77, x 78, x 79, x 80, x 81, x 82, x 83, x 84, x 85, x 86, x 87, x 88, x 89, x 90, x 91, x 92, x 93, x 94, x 95, x 96, x 97, x 98, x 99, x 100, x 101, x 102, x 103, x 104, x 105, x 106, x 107, x 108, x 109, x 110, x 111, x 112, x 113, x 114, x 115, x 116, x 117, x 118, x 119, x 120])

theorem joins_w {a b : List UInt8} (ha : a.length ≤ 140737488351232) (hb : b.length ≤ 140737488351232) : WD T 5 [.string (bs a), .string (bs b)] H0 (fun r _ => r = .ret (.bool true)) := by
  refine WD.of follows t5 (by simp) ?_
  have l0 : H0.length = 2 := rfl
  simp (disch := omega) only [kaa, kab, kac, kad, kae, kaf, kag, kah, kai, kaj, kak, kal, kam, kan, kao, khe, khf, khg, khh, khi, khj, khk, khl, kap, kaq, kar, kas, kat, kau, kav, kaw, kax, kay, kaz, kba, kbb, kbc, kbd, kbe, kbf, kbg, kbh, kbi, kbj, kbk, kbl, kbm, kbn, kbo, kbp, kbq, kbr, kbs, kbt, kbu, kbv, kbw, kbx, kby, kbz, kca, kcb, kcc, kcd, kce, kcf, kcg, kch, kci, kcj, kck, kcl, kcm, aop, kcn, kco, kcp, kcq, kcr, kcs, kct, kcu, kcv, kcw, resultsL, resultOf, kcx, Nat.reduceEqDiff, kcy, kcz, kda, reduceCtorEq, kdb, kdc, kdd, kde, kdf, kdg, kdh, kdi, kdj, kdk, kdl, kdm, kdn, kdo, eq1, kdp, kdq, kdr, kds, kdt, kdu, kdv, kdw, kdx, kdy, kdz, kea, keb, kec, apartOK, apart2, AObj.live, ked, kee, kef, keg, keh, kei, kej, kek, kel, Int.reduceEq, Int.reduceLT, Int.reduceLE, Int.reduceAdd, Int.reduceSub, Int.reduceMul, Int.reduceToNat, kem, ken, keo, kep, keq, ker, kes, ket, keu, kev, kew, kex, key, kez, kfa, kfb, kfc, kfd, kfe, kff, kfg, kfh, kfi, kfj, kfk, kfl, cutCells, kfm, kfn, kfo, kfp, kfq, kfr, kfs, kft, kfu, kfv, kfw, kfx, kfy, Nat.reduceAdd, Nat.reduceLeDiff, Nat.reduceLT, Nat.reduceMul, Nat.reduceSub, kfz, kga, kgb, kgc, kgd, kge, kgf, kgg, kgh, kgi, kgj, kgk, kgl, kgm, kgn, kgo, kgp, kgq, kgr, kgs, kgt, kgu, kgv, kgw, kgx, kgy, kgz, kha, khb, khc, khd]
  (repeat ((first | refine live_s on0 ?_); try simp (disch := omega) only [kaa, kab, kac, kad, kae, kaf, kag, kah, kai, kaj, kak, kal, kam, kan, kao, khe, khf, khg, khh, khi, khj, khk, khl, kap, kaq, kar, kas, kat, kau, kav, kaw, kax, kay, kaz, kba, kbb, kbc, kbd, kbe, kbf, kbg, kbh, kbi, kbj, kbk, kbl, kbm, kbn, kbo, kbp, kbq, kbr, kbs, kbt, kbu, kbv, kbw, kbx, kby, kbz, kca, kcb, kcc, kcd, kce, kcf, kcg, kch, kci, kcj, kck, kcl, kcm, aop, kcn, kco, kcp, kcq, kcr, kcs, kct, kcu, kcv, kcw, resultsL, resultOf, kcx, Nat.reduceEqDiff, kcy, kcz, kda, reduceCtorEq, kdb, kdc, kdd, kde, kdf, kdg, kdh, kdi, kdj, kdk, kdl, kdm, kdn, kdo, eq1, kdp, kdq, kdr, kds, kdt, kdu, kdv, kdw, kdx, kdy, kdz, kea, keb, kec, apartOK, apart2, AObj.live, ked, kee, kef, keg, keh, kei, kej, kek, kel, Int.reduceEq, Int.reduceLT, Int.reduceLE, Int.reduceAdd, Int.reduceSub, Int.reduceMul, Int.reduceToNat, kem, ken, keo, kep, keq, ker, kes, ket, keu, kev, kew, kex, key, kez, kfa, kfb, kfc, kfd, kfe, kff, kfg, kfh, kfi, kfj, kfk, kfl, cutCells, kfm, kfn, kfo, kfp, kfq, kfr, kfs, kft, kfu, kfv, kfw, kfx, kfy, Nat.reduceAdd, Nat.reduceLeDiff, Nat.reduceLT, Nat.reduceMul, Nat.reduceSub, kfz, kga, kgb, kgc, kgd, kge, kgf, kgg, kgh, kgi, kgj, kgk, kgl, kgm, kgn, kgo, kgp, kgq, kgr, kgs, kgt, kgu, kgv, kgw, kgx, kgy, kgz, kha, khb, khc, khd]))
  refine lexTokens_u on0.gh fun a6 G1 s6 => ?_
  simp (disch := omega) only [kaa, kab, kac, kad, kae, kaf, kag, kah, kai, kaj, kak, kal, kam, kan, kao, khe, khf, khg, khh, khi, khj, khk, khl, kap, kaq, kar, kas, kat, kau, kav, kaw, kax, kay, kaz, kba, kbb, kbc, kbd, kbe, kbf, kbg, kbh, kbi, kbj, kbk, kbl, kbm, kbn, kbo, kbp, kbq, kbr, kbs, kbt, kbu, kbv, kbw, kbx, kby, kbz, kca, kcb, kcc, kcd, kce, kcf, kcg, kch, kci, kcj, kck, kcl, kcm, aop, kcn, kco, kcp, kcq, kcr, kcs, kct, kcu, kcv, kcw, resultsL, resultOf, kcx, Nat.reduceEqDiff, kcy, kcz, kda, reduceCtorEq, kdb, kdc, kdd, kde, kdf, kdg, kdh, kdi, kdj, kdk, kdl, kdm, kdn, kdo, eq1, kdp, kdq, kdr, kds, kdt, kdu, kdv, kdw, kdx, kdy, kdz, kea, keb, kec, apartOK, apart2, AObj.live, ked, kee, kef, keg, keh, kei, kej, kek, kel, Int.reduceEq, Int.reduceLT, Int.reduceLE, Int.reduceAdd, Int.reduceSub, Int.reduceMul, Int.reduceToNat, kem, ken, keo, kep, keq, ker, kes, ket, keu, kev, kew, kex, key, kez, kfa, kfb, kfc, kfd, kfe, kff, kfg, kfh, kfi, kfj, kfk, kfl, cutCells, kfm, kfn, kfo, kfp, kfq, kfr, kfs, kft, kfu, kfv, kfw, kfx, kfy, Nat.reduceAdd, Nat.reduceLeDiff, Nat.reduceLT, Nat.reduceMul, Nat.reduceSub, kfz, kga, kgb, kgc, kgd, kge, kgf, kgg, kgh, kgi, kgj, kgk, kgl, kgm, kgn, kgo, kgp, kgq, kgr, kgs, kgt, kgu, kgv, kgw, kgx, kgy, kgz, kha, khb, khc, khd, fl]
  refine lexTokens_u ((on0.app _).gh) fun a8 G2 s8 => ?_
  simp (disch := omega) only [kaa, kab, kac, kad, kae, kaf, kag, kah, kai, kaj, kak, kal, kam, kan, kao, khe, khf, khg, khh, khi, khj, khk, khl, kap, kaq, kar, kas, kat, kau, kav, kaw, kax, kay, kaz, kba, kbb, kbc, kbd, kbe, kbf, kbg, kbh, kbi, kbj, kbk, kbl, kbm, kbn, kbo, kbp, kbq, kbr, kbs, kbt, kbu, kbv, kbw, kbx, kby, kbz, kca, kcb, kcc, kcd, kce, kcf, kcg, kch, kci, kcj, kck, kcl, kcm, aop, kcn, kco, kcp, kcq, kcr, kcs, kct, kcu, kcv, kcw, resultsL, resultOf, kcx, Nat.reduceEqDiff, kcy, kcz, kda, reduceCtorEq, kdb, kdc, kdd, kde, kdf, kdg, kdh, kdi, kdj, kdk, kdl, kdm, kdn, kdo, eq1, kdp, kdq, kdr, kds, kdt, kdu, kdv, kdw, kdx, kdy, kdz, kea, keb, kec, apartOK, apart2, AObj.live, ked, kee, kef, keg, keh, kei, kej, kek, kel, Int.reduceEq, Int.reduceLT, Int.reduceLE, Int.reduceAdd, Int.reduceSub, Int.reduceMul, Int.reduceToNat, kem, ken, keo, kep, keq, ker, kes, ket, keu, kev, kew, kex, key, kez, kfa, kfb, kfc, kfd, kfe, kff, kfg, kfh, kfi, kfj, kfk, kfl, cutCells, kfm, kfn, kfo, kfp, kfq, kfr, kfs, kft, kfu, kfv, kfw, kfx, kfy, Nat.reduceAdd, Nat.reduceLeDiff, Nat.reduceLT, Nat.reduceMul, Nat.reduceSub, kfz, kga, kgb, kgc, kgd, kge, kgf, kgg, kgh, kgi, kgj, kgk, kgl, kgm, kgn, kgo, kgp, kgq, kgr, kgs, kgt, kgu, kgv, kgw, kgx, kgy, kgz, kha, khb, khc, khd, fl]
  by_cases fa : (lexT a).2.1 = 0
  · simp (disch := omega) only [kaa, kab, kac, kad, kae, kaf, kag, kah, kai, kaj, kak, kal, kam, kan, kao, khe, khf, khg, khh, khi, khj, khk, khl, kap, kaq, kar, kas, kat, kau, kav, kaw, kax, kay, kaz, kba, kbb, kbc, kbd, kbe, kbf, kbg, kbh, kbi, kbj, kbk, kbl, kbm, kbn, kbo, kbp, kbq, kbr, kbs, kbt, kbu, kbv, kbw, kbx, kby, kbz, kca, kcb, kcc, kcd, kce, kcf, kcg, kch, kci, kcj, kck, kcl, kcm, aop, kcn, kco, kcp, kcq, kcr, kcs, kct, kcu, kcv, kcw, resultsL, resultOf, kcx, Nat.reduceEqDiff, kcy, kcz, kda, reduceCtorEq, kdb, kdc, kdd, kde, kdf, kdg, kdh, kdi, kdj, kdk, kdl, kdm, kdn, kdo, eq1, kdp, kdq, kdr, kds, kdt, kdu, kdv, kdw, kdx, kdy, kdz, kea, keb, kec, apartOK, apart2, AObj.live, ked, kee, kef, keg, keh, kei, kej, kek, kel, Int.reduceEq, Int.reduceLT, Int.reduceLE, Int.reduceAdd, Int.reduceSub, Int.reduceMul, Int.reduceToNat, kem, ken, keo, kep, keq, ker, kes, ket, keu, kev, kew, kex, key, kez, kfa, kfb, kfc, kfd, kfe, kff, kfg, kfh, kfi, kfj, kfk, kfl, cutCells, kfm, kfn, kfo, kfp, kfq, kfr, kfs, kft, kfu, kfv, kfw, kfx, kfy, Nat.reduceAdd, Nat.reduceLeDiff, Nat.reduceLT, Nat.reduceMul, Nat.reduceSub, kfz, kga, kgb, kgc, kgd, kge, kgf, kgg, kgh, kgi, kgj, kgk, kgl, kgm, kgn, kgo, kgp, kgq, kgr, kgs, kgt, kgu, kgv, kgw, kgx, kgy, kgz, kha, khb, khc, khd, fa]
    by_cases fb : (lexT b).2.1 = 0
    · simp (disch := omega) only [kaa, kab, kac, kad, kae, kaf, kag, kah, kai, kaj, kak, kal, kam, kan, kao, khe, khf, khg, khh, khi, khj, khk, khl, kap, kaq, kar, kas, kat, kau, kav, kaw, kax, kay, kaz, kba, kbb, kbc, kbd, kbe, kbf, kbg, kbh, kbi, kbj, kbk, kbl, kbm, kbn, kbo, kbp, kbq, kbr, kbs, kbt, kbu, kbv, kbw, kbx, kby, kbz, kca, kcb, kcc, kcd, kce, kcf, kcg, kch, kci, kcj, kck, kcl, kcm, aop, kcn, kco, kcp, kcq, kcr, kcs, kct, kcu, kcv, kcw, resultsL, resultOf, kcx, Nat.reduceEqDiff, kcy, kcz, kda, reduceCtorEq, kdb, kdc, kdd, kde, kdf, kdg, kdh, kdi, kdj, kdk, kdl, kdm, kdn, kdo, eq1, kdp, kdq, kdr, kds, kdt, kdu, kdv, kdw, kdx, kdy, kdz, kea, keb, kec, apartOK, apart2, AObj.live, ked, kee, kef, keg, keh, kei, kej, kek, kel, Int.reduceEq, Int.reduceLT, Int.reduceLE, Int.reduceAdd, Int.reduceSub, Int.reduceMul, Int.reduceToNat, kem, ken, keo, kep, keq, ker, kes, ket, keu, kev, kew, kex, key, kez, kfa, kfb, kfc, kfd, kfe, kff, kfg, kfh, kfi, kfj, kfk, kfl, cutCells, kfm, kfn, kfo, kfp, kfq, kfr, kfs, kft, kfu, kfv, kfw, kfx, kfy, Nat.reduceAdd, Nat.reduceLeDiff, Nat.reduceLT, Nat.reduceMul, Nat.reduceSub, kfz, kga, kgb, kgc, kgd, kge, kgf, kgg, kgh, kgi, kgj, kgk, kgl, kgm, kgn, kgo, kgp, kgq, kgr, kgs, kgt, kgu, kgv, kgw, kgx, kgy, kgz, kha, khb, khc, khd, fb, wr_i64, nadd, nadd1]
      by_cases hl : (65536 : Int) < ((a.length + b.length + 1 : Nat) : Int)
      · simp (disch := omega) only [kaa, kab, kac, kad, kae, kaf, kag, kah, kai, kaj, kak, kal, kam, kan, kao, khe, khf, khg, khh, khi, khj, khk, khl, kap, kaq, kar, kas, kat, kau, kav, kaw, kax, kay, kaz, kba, kbb, kbc, kbd, kbe, kbf, kbg, kbh, kbi, kbj, kbk, kbl, kbm, kbn, kbo, kbp, kbq, kbr, kbs, kbt, kbu, kbv, kbw, kbx, kby, kbz, kca, kcb, kcc, kcd, kce, kcf, kcg, kch, kci, kcj, kck, kcl, kcm, aop, kcn, kco, kcp, kcq, kcr, kcs, kct, kcu, kcv, kcw, resultsL, resultOf, kcx, Nat.reduceEqDiff, kcy, kcz, kda, reduceCtorEq, kdb, kdc, kdd, kde, kdf, kdg, kdh, kdi, kdj, kdk, kdl, kdm, kdn, kdo, eq1, kdp, kdq, kdr, kds, kdt, kdu, kdv, kdw, kdx, kdy, kdz, kea, keb, kec, apartOK, apart2, AObj.live, ked, kee, kef, keg, keh, kei, kej, kek, kel, Int.reduceEq, Int.reduceLT, Int.reduceLE, Int.reduceAdd, Int.reduceSub, Int.reduceMul, Int.reduceToNat, kem, ken, keo, kep, keq, ker, kes, ket, keu, kev, kew, kex, key, kez, kfa, kfb, kfc, kfd, kfe, kff, kfg, kfh, kfi, kfj, kfk, kfl, cutCells, kfm, kfn, kfo, kfp, kfq, kfr, kfs, kft, kfu, kfv, kfw, kfx, kfy, Nat.reduceAdd, Nat.reduceLeDiff, Nat.reduceLT, Nat.reduceMul, Nat.reduceSub, kfz, kga, kgb, kgc, kgd, kge, kgf, kgg, kgh, kgi, kgj, kgk, kgl, kgm, kgn, kgo, kgp, kgq, kgr, kgs, kgt, kgu, kgv, kgw, kgx, kgy, kgz, kha, khb, khc, khd, hl]
      · have hab : a.length + [10].length ≤ 4611686018427387904 := by simp; omega
        have habc : (a ++ [10]).length + b.length ≤ 4611686018427387904 := by simp; omega
        simp (disch := omega) only [kaa, kab, kac, kad, kae, kaf, kag, kah, kai, kaj, kak, kal, kam, kan, kao, khe, khf, khg, khh, khi, khj, khk, khl, kap, kaq, kar, kas, kat, kau, kav, kaw, kax, kay, kaz, kba, kbb, kbc, kbd, kbe, kbf, kbg, kbh, kbi, kbj, kbk, kbl, kbm, kbn, kbo, kbp, kbq, kbr, kbs, kbt, kbu, kbv, kbw, kbx, kby, kbz, kca, kcb, kcc, kcd, kce, kcf, kcg, kch, kci, kcj, kck, kcl, kcm, aop, kcn, kco, kcp, kcq, kcr, kcs, kct, kcu, kcv, kcw, resultsL, resultOf, kcx, Nat.reduceEqDiff, kcy, kcz, kda, reduceCtorEq, kdb, kdc, kdd, kde, kdf, kdg, kdh, kdi, kdj, kdk, kdl, kdm, kdn, kdo, eq1, kdp, kdq, kdr, kds, kdt, kdu, kdv, kdw, kdx, kdy, kdz, kea, keb, kec, apartOK, apart2, AObj.live, ked, kee, kef, keg, keh, kei, kej, kek, kel, Int.reduceEq, Int.reduceLT, Int.reduceLE, Int.reduceAdd, Int.reduceSub, Int.reduceMul, Int.reduceToNat, kem, ken, keo, kep, keq, ker, kes, ket, keu, kev, kew, kex, key, kez, kfa, kfb, kfc, kfd, kfe, kff, kfg, kfh, kfi, kfj, kfk, kfl, cutCells, kfm, kfn, kfo, kfp, kfq, kfr, kfs, kft, kfu, kfv, kfw, kfx, kfy, Nat.reduceAdd, Nat.reduceLeDiff, Nat.reduceLT, Nat.reduceMul, Nat.reduceSub, kfz, kga, kgb, kgc, kgd, kge, kgf, kgg, kgh, kgi, kgj, kgk, kgl, kgm, kgn, kgo, kgp, kgq, kgr, kgs, kgt, kgu, kgv, kgw, kgx, kgy, kgz, kha, khb, khc, khd, hl, bin_str_add, hab, habc]
        refine lexTokens_u ((on0.app _).gh) fun a10 G3 s10 => ?_
        obtain ⟨fc, hC⟩ := lexT_joins (a := a) (b := b) fa fb (by omega)
        have bA := lexT_all a
        have bB := lexT_all b
        have bC := lexT_all (a ++ 10 :: b)
        simp (disch := omega) only [kaa, kab, kac, kad, kae, kaf, kag, kah, kai, kaj, kak, kal, kam, kan, kao, khe, khf, khg, khh, khi, khj, khk, khl, kap, kaq, kar, kas, kat, kau, kav, kaw, kax, kay, kaz, kba, kbb, kbc, kbd, kbe, kbf, kbg, kbh, kbi, kbj, kbk, kbl, kbm, kbn, kbo, kbp, kbq, kbr, kbs, kbt, kbu, kbv, kbw, kbx, kby, kbz, kca, kcb, kcc, kcd, kce, kcf, kcg, kch, kci, kcj, kck, kcl, kcm, aop, kcn, kco, kcp, kcq, kcr, kcs, kct, kcu, kcv, kcw, resultsL, resultOf, kcx, Nat.reduceEqDiff, kcy, kcz, kda, reduceCtorEq, kdb, kdc, kdd, kde, kdf, kdg, kdh, kdi, kdj, kdk, kdl, kdm, kdn, kdo, eq1, kdp, kdq, kdr, kds, kdt, kdu, kdv, kdw, kdx, kdy, kdz, kea, keb, kec, apartOK, apart2, AObj.live, ked, kee, kef, keg, keh, kei, kej, kek, kel, Int.reduceEq, Int.reduceLT, Int.reduceLE, Int.reduceAdd, Int.reduceSub, Int.reduceMul, Int.reduceToNat, kem, ken, keo, kep, keq, ker, kes, ket, keu, kev, kew, kex, key, kez, kfa, kfb, kfc, kfd, kfe, kff, kfg, kfh, kfi, kfj, kfk, kfl, cutCells, kfm, kfn, kfo, kfp, kfq, kfr, kfs, kft, kfu, kfv, kfw, kfx, kfy, Nat.reduceAdd, Nat.reduceLeDiff, Nat.reduceLT, Nat.reduceMul, Nat.reduceSub, kfz, kga, kgb, kgc, kgd, kge, kgf, kgg, kgh, kgi, kgj, kgk, kgl, kgm, kgn, kgo, kgp, kgq, kgr, kgs, kgt, kgu, kgv, kgw, kgx, kgy, kgz, kha, khb, khc, khd, fl]
        refine WLoop.inv (countI a _ _ _ _ _) ?_ a.length _ _ ⟨0, by omega, rfl, rfl, (ex_env rfl)⟩
        rintro n e H' ⟨i, k1, k2, rfl, ⟨x, rfl⟩⟩
        by_cases hi : i < a.length
        · have hi' : (i : Int) < a.length := by omega
          have hai : a[i]? = some a[i] := List.getElem?_eq_getElem hi
          have htake : a.take (i + 1) = a.take i ++ [a[i]] := by rw [List.take_add_one, hai]; rfl
          have hlb := (adv_le (a.take i) (1, 1)).1
          rw [List.length_take] at hlb
          simp only at hlb
          simp (disch := omega) only [kaa, kab, kac, kad, kae, kaf, kag, kah, kai, kaj, kak, kal, kam, kan, kao, khe, khf, khg, khh, khi, khj, khk, khl, kap, kaq, kar, kas, kat, kau, kav, kaw, kax, kay, kaz, kba, kbb, kbc, kbd, kbe, kbf, kbg, kbh, kbi, kbj, kbk, kbl, kbm, kbn, kbo, kbp, kbq, kbr, kbs, kbt, kbu, kbv, kbw, kbx, kby, kbz, kca, kcb, kcc, kcd, kce, kcf, kcg, kch, kci, kcj, kck, kcl, kcm, aop, kcn, kco, kcp, kcq, kcr, kcs, kct, kcu, kcv, kcw, resultsL, resultOf, kcx, Nat.reduceEqDiff, kcy, kcz, kda, reduceCtorEq, kdb, kdc, kdd, kde, kdf, kdg, kdh, kdi, kdj, kdk, kdl, kdm, kdn, kdo, eq1, kdp, kdq, kdr, kds, kdt, kdu, kdv, kdw, kdx, kdy, kdz, kea, keb, kec, apartOK, apart2, AObj.live, ked, kee, kef, keg, keh, kei, kej, kek, kel, Int.reduceEq, Int.reduceLT, Int.reduceLE, Int.reduceAdd, Int.reduceSub, Int.reduceMul, Int.reduceToNat, kem, ken, keo, kep, keq, ker, kes, ket, keu, kev, kew, kex, key, kez, kfa, kfb, kfc, kfd, kfe, kff, kfg, kfh, kfi, kfj, kfk, kfl, cutCells, kfm, kfn, kfo, kfp, kfq, kfr, kfs, kft, kfu, kfv, kfw, kfx, kfy, Nat.reduceAdd, Nat.reduceLeDiff, Nat.reduceLT, Nat.reduceMul, Nat.reduceSub, kfz, kga, kgb, kgc, kgd, kge, kgf, kgg, kgh, kgi, kgj, kgk, kgl, kgm, kgn, kgo, kgp, kgq, kgr, kgs, kgt, kgu, kgv, kgw, kgx, kgy, kgz, kha, khb, khc, khd, hi', hai, Option.map_some]
          by_cases hc : (a[i].toNat : Int) = 10
          · simp (disch := omega) only [kaa, kab, kac, kad, kae, kaf, kag, kah, kai, kaj, kak, kal, kam, kan, kao, khe, khf, khg, khh, khi, khj, khk, khl, kap, kaq, kar, kas, kat, kau, kav, kaw, kax, kay, kaz, kba, kbb, kbc, kbd, kbe, kbf, kbg, kbh, kbi, kbj, kbk, kbl, kbm, kbn, kbo, kbp, kbq, kbr, kbs, kbt, kbu, kbv, kbw, kbx, kby, kbz, kca, kcb, kcc, kcd, kce, kcf, kcg, kch, kci, kcj, kck, kcl, kcm, aop, kcn, kco, kcp, kcq, kcr, kcs, kct, kcu, kcv, kcw, resultsL, resultOf, kcx, Nat.reduceEqDiff, kcy, kcz, kda, reduceCtorEq, kdb, kdc, kdd, kde, kdf, kdg, kdh, kdi, kdj, kdk, kdl, kdm, kdn, kdo, eq1, kdp, kdq, kdr, kds, kdt, kdu, kdv, kdw, kdx, kdy, kdz, kea, keb, kec, apartOK, apart2, AObj.live, ked, kee, kef, keg, keh, kei, kej, kek, kel, Int.reduceEq, Int.reduceLT, Int.reduceLE, Int.reduceAdd, Int.reduceSub, Int.reduceMul, Int.reduceToNat, kem, ken, keo, kep, keq, ker, kes, ket, keu, kev, kew, kex, key, kez, kfa, kfb, kfc, kfd, kfe, kff, kfg, kfh, kfi, kfj, kfk, kfl, cutCells, kfm, kfn, kfo, kfp, kfq, kfr, kfs, kft, kfu, kfv, kfw, kfx, kfy, Nat.reduceAdd, Nat.reduceLeDiff, Nat.reduceLT, Nat.reduceMul, Nat.reduceSub, kfz, kga, kgb, kgc, kgd, kge, kgf, kgg, kgh, kgi, kgj, kgk, kgl, kgm, kgn, kgo, kgp, kgq, kgr, kgs, kgt, kgu, kgv, kgw, kgx, kgy, kgz, kha, khb, khc, khd, hc, wr_i64, nadd1]
            refine ⟨a.length - (i + 1), by omega, i + 1, by omega, rfl, rfl, ?_⟩
            rw [htake, adv_append]
            simp only [adv, show a[i].toNat = 10 by omega, if_true]
            exact ex_env rfl
          · simp (disch := omega) only [kaa, kab, kac, kad, kae, kaf, kag, kah, kai, kaj, kak, kal, kam, kan, kao, khe, khf, khg, khh, khi, khj, khk, khl, kap, kaq, kar, kas, kat, kau, kav, kaw, kax, kay, kaz, kba, kbb, kbc, kbd, kbe, kbf, kbg, kbh, kbi, kbj, kbk, kbl, kbm, kbn, kbo, kbp, kbq, kbr, kbs, kbt, kbu, kbv, kbw, kbx, kby, kbz, kca, kcb, kcc, kcd, kce, kcf, kcg, kch, kci, kcj, kck, kcl, kcm, aop, kcn, kco, kcp, kcq, kcr, kcs, kct, kcu, kcv, kcw, resultsL, resultOf, kcx, Nat.reduceEqDiff, kcy, kcz, kda, reduceCtorEq, kdb, kdc, kdd, kde, kdf, kdg, kdh, kdi, kdj, kdk, kdl, kdm, kdn, kdo, eq1, kdp, kdq, kdr, kds, kdt, kdu, kdv, kdw, kdx, kdy, kdz, kea, keb, kec, apartOK, apart2, AObj.live, ked, kee, kef, keg, keh, kei, kej, kek, kel, Int.reduceEq, Int.reduceLT, Int.reduceLE, Int.reduceAdd, Int.reduceSub, Int.reduceMul, Int.reduceToNat, kem, ken, keo, kep, keq, ker, kes, ket, keu, kev, kew, kex, key, kez, kfa, kfb, kfc, kfd, kfe, kff, kfg, kfh, kfi, kfj, kfk, kfl, cutCells, kfm, kfn, kfo, kfp, kfq, kfr, kfs, kft, kfu, kfv, kfw, kfx, kfy, Nat.reduceAdd, Nat.reduceLeDiff, Nat.reduceLT, Nat.reduceMul, Nat.reduceSub, kfz, kga, kgb, kgc, kgd, kge, kgf, kgg, kgh, kgi, kgj, kgk, kgl, kgm, kgn, kgo, kgp, kgq, kgr, kgs, kgt, kgu, kgv, kgw, kgx, kgy, kgz, kha, khb, khc, khd, hc, wr_i64, nadd1]
            refine ⟨a.length - (i + 1), by omega, i + 1, by omega, rfl, rfl, ?_⟩
            rw [htake, adv_append]
            simp only [adv, show ¬ a[i].toNat = 10 by omega, if_false]
            exact ex_env rfl
        · have hi' : ¬ (i : Int) < a.length := by omega
          obtain rfl : i = a.length := by omega
          rw [List.take_length]
          have hlb := (adv_le a (1, 1)).1
          simp only at hlb
          simp (disch := omega) only [kaa, kab, kac, kad, kae, kaf, kag, kah, kai, kaj, kak, kal, kam, kan, kao, khe, khf, khg, khh, khi, khj, khk, khl, kap, kaq, kar, kas, kat, kau, kav, kaw, kax, kay, kaz, kba, kbb, kbc, kbd, kbe, kbf, kbg, kbh, kbi, kbj, kbk, kbl, kbm, kbn, kbo, kbp, kbq, kbr, kbs, kbt, kbu, kbv, kbw, kbx, kby, kbz, kca, kcb, kcc, kcd, kce, kcf, kcg, kch, kci, kcj, kck, kcl, kcm, aop, kcn, kco, kcp, kcq, kcr, kcs, kct, kcu, kcv, kcw, resultsL, resultOf, kcx, Nat.reduceEqDiff, kcy, kcz, kda, reduceCtorEq, kdb, kdc, kdd, kde, kdf, kdg, kdh, kdi, kdj, kdk, kdl, kdm, kdn, kdo, eq1, kdp, kdq, kdr, kds, kdt, kdu, kdv, kdw, kdx, kdy, kdz, kea, keb, kec, apartOK, apart2, AObj.live, ked, kee, kef, keg, keh, kei, kej, kek, kel, Int.reduceEq, Int.reduceLT, Int.reduceLE, Int.reduceAdd, Int.reduceSub, Int.reduceMul, Int.reduceToNat, kem, ken, keo, kep, keq, ker, kes, ket, keu, kev, kew, kex, key, kez, kfa, kfb, kfc, kfd, kfe, kff, kfg, kfh, kfi, kfj, kfk, kfl, cutCells, kfm, kfn, kfo, kfp, kfq, kfr, kfs, kft, kfu, kfv, kfw, kfx, kfy, Nat.reduceAdd, Nat.reduceLeDiff, Nat.reduceLT, Nat.reduceMul, Nat.reduceSub, kfz, kga, kgb, kgc, kgd, kge, kgf, kgg, kgh, kgi, kgj, kgk, kgl, kgm, kgn, kgo, kgp, kgq, kgr, kgs, kgt, kgu, kgv, kgw, kgx, kgy, kgz, kha, khb, khc, khd, hi', fc, wr_i64, nadd]
          have hlen : (lexT (a ++ 10 :: b)).1.length = (lexT a).1.length + (lexT b).1.length := by rw [hC]; simp
          simp (disch := omega) only [kaa, kab, kac, kad, kae, kaf, kag, kah, kai, kaj, kak, kal, kam, kan, kao, khe, khf, khg, khh, khi, khj, khk, khl, kap, kaq, kar, kas, kat, kau, kav, kaw, kax, kay, kaz, kba, kbb, kbc, kbd, kbe, kbf, kbg, kbh, kbi, kbj, kbk, kbl, kbm, kbn, kbo, kbp, kbq, kbr, kbs, kbt, kbu, kbv, kbw, kbx, kby, kbz, kca, kcb, kcc, kcd, kce, kcf, kcg, kch, kci, kcj, kck, kcl, kcm, aop, kcn, kco, kcp, kcq, kcr, kcs, kct, kcu, kcv, kcw, resultsL, resultOf, kcx, Nat.reduceEqDiff, kcy, kcz, kda, reduceCtorEq, kdb, kdc, kdd, kde, kdf, kdg, kdh, kdi, kdj, kdk, kdl, kdm, kdn, kdo, eq1, kdp, kdq, kdr, kds, kdt, kdu, kdv, kdw, kdx, kdy, kdz, kea, keb, kec, apartOK, apart2, AObj.live, ked, kee, kef, keg, keh, kei, kej, kek, kel, Int.reduceEq, Int.reduceLT, Int.reduceLE, Int.reduceAdd, Int.reduceSub, Int.reduceMul, Int.reduceToNat, kem, ken, keo, kep, keq, ker, kes, ket, keu, kev, kew, kex, key, kez, kfa, kfb, kfc, kfd, kfe, kff, kfg, kfh, kfi, kfj, kfk, kfl, cutCells, kfm, kfn, kfo, kfp, kfq, kfr, kfs, kft, kfu, kfv, kfw, kfx, kfy, Nat.reduceAdd, Nat.reduceLeDiff, Nat.reduceLT, Nat.reduceMul, Nat.reduceSub, kfz, kga, kgb, kgc, kgd, kge, kgf, kgg, kgh, kgi, kgj, kgk, kgl, kgm, kgn, kgo, kgp, kgq, kgr, kgs, kgt, kgu, kgv, kgw, kgx, kgy, kgz, kha, khb, khc, khd, hlen]
          have t6 := s6.pre (K' := H0 ++ (G1 ++ .row [.int .i64 0, .int .i64 (lexT a).2.2.1, .int .i64 (lexT a).2.2.2] 0 true :: (G2 ++ .row [.int .i64 0, .int .i64 (lexT b).2.2.1, .int .i64 (lexT b).2.2.2] 0 true :: (G3 ++ [.row [.int .i64 0, .int .i64 (lexT (a ++ 10 :: b)).2.2.1, .int .i64 (lexT (a ++ 10 :: b)).2.2.2] 0 true])))) (by simp [fa, fb])
          have t8 := s8.pre (K' := H0 ++ (G1 ++ .row [.int .i64 0, .int .i64 (lexT a).2.2.1, .int .i64 (lexT a).2.2.2] 0 true :: (G2 ++ .row [.int .i64 0, .int .i64 (lexT b).2.2.1, .int .i64 (lexT b).2.2.2] 0 true :: (G3 ++ [.row [.int .i64 0, .int .i64 (lexT (a ++ 10 :: b)).2.2.1, .int .i64 (lexT (a ++ 10 :: b)).2.2.2] 0 true])))) (by simp [fa, fb])
          have t10 := s10.pre (K' := H0 ++ (G1 ++ .row [.int .i64 0, .int .i64 (lexT a).2.2.1, .int .i64 (lexT a).2.2.2] 0 true :: (G2 ++ .row [.int .i64 0, .int .i64 (lexT b).2.2.1, .int .i64 (lexT b).2.2.2] 0 true :: (G3 ++ [.row [.int .i64 0, .int .i64 (lexT (a ++ 10 :: b)).2.2.1, .int .i64 (lexT (a ++ 10 :: b)).2.2.2] 0 true])))) (by simp [fa, fb])
          generalize H0 ++ (G1 ++ .row [.int .i64 0, .int .i64 (lexT a).2.2.1, .int .i64 (lexT a).2.2.2] 0 true :: (G2 ++ .row [.int .i64 0, .int .i64 (lexT b).2.2.1, .int .i64 (lexT b).2.2.2] 0 true :: (G3 ++ [.row [.int .i64 0, .int .i64 (lexT (a ++ 10 :: b)).2.2.1, .int .i64 (lexT (a ++ 10 :: b)).2.2.2] 0 true]))) = K at t6 t8 t10 ⊢
          clear s6 s8 s10
          generalize (lexT (a ++ 10 :: b)).1 = C at *
          generalize (lexT a).1 = A at *
          generalize (lexT b).1 = B at *
          generalize (adv (1, 1) a).1 = L at *
          refine WLoop.inv (cmpI L K a6 a8 a10 A.length B.length (A.length + B.length)) ?_ (A.length + B.length) _ _ ⟨0, by omega, rfl, ⟨[], by simp⟩, ex_env rfl⟩
          rintro n e H' ⟨i, j1, rfl, ⟨G, rfl⟩, ⟨x, rfl⟩⟩
          by_cases hi2 : i < A.length + B.length
          · have hi2' : (i : Int) < ((A.length + B.length : Nat) : Int) := by omega
            have hiC : i < C.length := by omega
            obtain ⟨b10, rfl, h10⟩ := t10.app (G := G) (fun q => by rw [q] at hiC; simp at hiC)
            have hr10 := cut_flat C i hiC
            by_cases hiA : i < A.length
            · have hiA' : (i : Int) < A.length := by omega
              obtain ⟨b6, rfl, h6⟩ := t6.app (G := G) (fun q => by rw [q] at hiA; simp at hiA)
              have hr6 := cut_flat A i hiA
              have hCA : C[i] = A[i] := by simp only [hC]; rw [List.getElem_append_left hiA]
              rw [hCA] at hr10
              simp (disch := omega) only [kaa, kab, kac, kad, kae, kaf, kag, kah, kai, kaj, kak, kal, kam, kan, kao, khe, khf, khg, khh, khi, khj, khk, khl, kap, kaq, kar, kas, kat, kau, kav, kaw, kax, kay, kaz, kba, kbb, kbc, kbd, kbe, kbf, kbg, kbh, kbi, kbj, kbk, kbl, kbm, kbn, kbo, kbp, kbq, kbr, kbs, kbt, kbu, kbv, kbw, kbx, kby, kbz, kca, kcb, kcc, kcd, kce, kcf, kcg, kch, kci, kcj, kck, kcl, kcm, aop, kcn, kco, kcp, kcq, kcr, kcs, kct, kcu, kcv, kcw, resultsL, resultOf, kcx, Nat.reduceEqDiff, kcy, kcz, kda, reduceCtorEq, kdb, kdc, kdd, kde, kdf, kdg, kdh, kdi, kdj, kdk, kdl, kdm, kdn, kdo, eq1, kdp, kdq, kdr, kds, kdt, kdu, kdv, kdw, kdx, kdy, kdz, kea, keb, kec, apartOK, apart2, AObj.live, ked, kee, kef, keg, keh, kei, kej, kek, kel, Int.reduceEq, Int.reduceLT, Int.reduceLE, Int.reduceAdd, Int.reduceSub, Int.reduceMul, Int.reduceToNat, kem, ken, keo, kep, keq, ker, kes, ket, keu, kev, kew, kex, key, kez, kfa, kfb, kfc, kfd, kfe, kff, kfg, kfh, kfi, kfj, kfk, kfl, cutCells, kfm, kfn, kfo, kfp, kfq, kfr, kfs, kft, kfu, kfv, kfw, kfx, kfy, Nat.reduceAdd, Nat.reduceLeDiff, Nat.reduceLT, Nat.reduceMul, Nat.reduceSub, kfz, kga, kgb, kgc, kgd, kge, kgf, kgg, kgh, kgi, kgj, kgk, kgl, kgm, kgn, kgo, kgp, kgq, kgr, kgs, kgt, kgu, kgv, kgw, kgx, kgy, kgz, kha, khb, khc, khd, hi2', hiA', if_pos, h10, h6, hr10, hr6, flat6, cells_len, eqs_tk A[i].cells ⟨_, rfl⟩, wr_i64, nadd1]
              exact ⟨A.length + B.length - (i + 1), by omega, i + 1, by omega, rfl, ⟨G, rfl⟩, ex_env rfl⟩
            · have hiA' : ¬ (i : Int) < A.length := by omega
              have hiB : i - A.length < B.length := by omega
              obtain ⟨b8, rfl, h8⟩ := t8.app (G := G) (fun q => by rw [q] at hiB; simp at hiB)
              have hr8 := cut_flat B (i - A.length) hiB
              have hCB : C[i] = (B[i - A.length]).down L := by simp only [hC]; rw [List.getElem_append_right (by omega)]; simp
              rw [hCB] at hr10
              have hBp := bB.2 B[i - A.length] (List.getElem_mem _)
              have hnn : ((i - A.length : Nat) : Int) < (B.length : Nat) := by omega
              simp (disch := omega) only [kaa, kab, kac, kad, kae, kaf, kag, kah, kai, kaj, kak, kal, kam, kan, kao, khe, khf, khg, khh, khi, khj, khk, khl, kap, kaq, kar, kas, kat, kau, kav, kaw, kax, kay, kaz, kba, kbb, kbc, kbd, kbe, kbf, kbg, kbh, kbi, kbj, kbk, kbl, kbm, kbn, kbo, kbp, kbq, kbr, kbs, kbt, kbu, kbv, kbw, kbx, kby, kbz, kca, kcb, kcc, kcd, kce, kcf, kcg, kch, kci, kcj, kck, kcl, kcm, aop, kcn, kco, kcp, kcq, kcr, kcs, kct, kcu, kcv, kcw, resultsL, resultOf, kcx, Nat.reduceEqDiff, kcy, kcz, kda, reduceCtorEq, kdb, kdc, kdd, kde, kdf, kdg, kdh, kdi, kdj, kdk, kdl, kdm, kdn, kdo, eq1, kdp, kdq, kdr, kds, kdt, kdu, kdv, kdw, kdx, kdy, kdz, kea, keb, kec, apartOK, apart2, AObj.live, ked, kee, kef, keg, keh, kei, kej, kek, kel, Int.reduceEq, Int.reduceLT, Int.reduceLE, Int.reduceAdd, Int.reduceSub, Int.reduceMul, Int.reduceToNat, kem, ken, keo, kep, keq, ker, kes, ket, keu, kev, kew, kex, key, kez, kfa, kfb, kfc, kfd, kfe, kff, kfg, kfh, kfi, kfj, kfk, kfl, cutCells, kfm, kfn, kfo, kfp, kfq, kfr, kfs, kft, kfu, kfv, kfw, kfx, kfy, Nat.reduceAdd, Nat.reduceLeDiff, Nat.reduceLT, Nat.reduceMul, Nat.reduceSub, kfz, kga, kgb, kgc, kgd, kge, kgf, kgg, kgh, kgi, kgj, kgk, kgl, kgm, kgn, kgo, kgp, kgq, kgr, kgs, kgt, kgu, kgv, kgw, kgx, kgy, kgz, kha, khb, khc, khd, hi2', hiA', wr_i64, nsub, hnn, if_pos, h10, h8, hr10, hr8, flat6, cells_len]
              have h10' : ∀ x, hget (K ++ (G ++ [x])) b10 = .row (C.map Tk.cells).flatten 6 true := fun x => by rw [← List.append_assoc, hget_old (hget_lt h10 rfl)]; exact h10
              simp only [Tk.down, Tk.cells, tk] at hr10
              simp (disch := omega) only [kaa, kab, kac, kad, kae, kaf, kag, kah, kai, kaj, kak, kal, kam, kan, kao, khe, khf, khg, khh, khi, khj, khk, khl, kap, kaq, kar, kas, kat, kau, kav, kaw, kax, kay, kaz, kba, kbb, kbc, kbd, kbe, kbf, kbg, kbh, kbi, kbj, kbk, kbl, kbm, kbn, kbo, kbp, kbq, kbr, kbs, kbt, kbu, kbv, kbw, kbx, kby, kbz, kca, kcb, kcc, kcd, kce, kcf, kcg, kch, kci, kcj, kck, kcl, kcm, aop, kcn, kco, kcp, kcq, kcr, kcs, kct, kcu, kcv, kcw, resultsL, resultOf, kcx, Nat.reduceEqDiff, kcy, kcz, kda, reduceCtorEq, kdb, kdc, kdd, kde, kdf, kdg, kdh, kdi, kdj, kdk, kdl, kdm, kdn, kdo, eq1, kdp, kdq, kdr, kds, kdt, kdu, kdv, kdw, kdx, kdy, kdz, kea, keb, kec, apartOK, apart2, AObj.live, ked, kee, kef, keg, keh, kei, kej, kek, kel, Int.reduceEq, Int.reduceLT, Int.reduceLE, Int.reduceAdd, Int.reduceSub, Int.reduceMul, Int.reduceToNat, kem, ken, keo, kep, keq, ker, kes, ket, keu, kev, kew, kex, key, kez, kfa, kfb, kfc, kfd, kfe, kff, kfg, kfh, kfi, kfj, kfk, kfl, cutCells, kfm, kfn, kfo, kfp, kfq, kfr, kfs, kft, kfu, kfv, kfw, kfx, kfy, Nat.reduceAdd, Nat.reduceLeDiff, Nat.reduceLT, Nat.reduceMul, Nat.reduceSub, kfz, kga, kgb, kgc, kgd, kge, kgf, kgg, kgh, kgi, kgj, kgk, kgl, kgm, kgn, kgo, kgp, kgq, kgr, kgs, kgt, kgu, kgv, kgw, kgx, kgy, kgz, kha, khb, khc, khd, Tk.cells, tk, hi2', if_pos, h10', wr_i64, nadd, nadd1]
              simp (disch := omega) only [kaa, kab, kac, kad, kae, kaf, kag, kah, kai, kaj, kak, kal, kam, kan, kao, khe, khf, khg, khh, khi, khj, khk, khl, kap, kaq, kar, kas, kat, kau, kav, kaw, kax, kay, kaz, kba, kbb, kbc, kbd, kbe, kbf, kbg, kbh, kbi, kbj, kbk, kbl, kbm, kbn, kbo, kbp, kbq, kbr, kbs, kbt, kbu, kbv, kbw, kbx, kby, kbz, kca, kcb, kcc, kcd, kce, kcf, kcg, kch, kci, kcj, kck, kcl, kcm, aop, kcn, kco, kcp, kcq, kcr, kcs, kct, kcu, kcv, kcw, resultsL, resultOf, kcx, Nat.reduceEqDiff, kcy, kcz, kda, reduceCtorEq, kdb, kdc, kdd, kde, kdf, kdg, kdh, kdi, kdj, kdk, kdl, kdm, kdn, kdo, eq1, kdp, kdq, kdr, kds, kdt, kdu, kdv, kdw, kdx, kdy, kdz, kea, keb, kec, apartOK, apart2, AObj.live, ked, kee, kef, keg, keh, kei, kej, kek, kel, Int.reduceEq, Int.reduceLT, Int.reduceLE, Int.reduceAdd, Int.reduceSub, Int.reduceMul, Int.reduceToNat, kem, ken, keo, kep, keq, ker, kes, ket, keu, kev, kew, kex, key, kez, kfa, kfb, kfc, kfd, kfe, kff, kfg, kfh, kfi, kfj, kfk, kfl, cutCells, kfm, kfn, kfo, kfp, kfq, kfr, kfs, kft, kfu, kfv, kfw, kfx, kfy, Nat.reduceAdd, Nat.reduceLeDiff, Nat.reduceLT, Nat.reduceMul, Nat.reduceSub, kfz, kga, kgb, kgc, kgd, kge, kgf, kgg, kgh, kgi, kgj, kgk, kgl, kgm, kgn, kgo, kgp, kgq, kgr, kgs, kgt, kgu, kgv, kgw, kgx, kgy, kgz, kha, khb, khc, khd, flat6, if_pos, hr10, eqs_lit, wr_i64, nadd1]
              exact ⟨A.length + B.length - (i + 1), by omega, i + 1, by omega, rfl, ⟨_, rfl⟩, ex_env rfl⟩
          · have hi2' : ¬ (i : Int) < ((A.length + B.length : Nat) : Int) := by omega
            simp (disch := omega) only [kaa, kab, kac, kad, kae, kaf, kag, kah, kai, kaj, kak, kal, kam, kan, kao, khe, khf, khg, khh, khi, khj, khk, khl, kap, kaq, kar, kas, kat, kau, kav, kaw, kax, kay, kaz, kba, kbb, kbc, kbd, kbe, kbf, kbg, kbh, kbi, kbj, kbk, kbl, kbm, kbn, kbo, kbp, kbq, kbr, kbs, kbt, kbu, kbv, kbw, kbx, kby, kbz, kca, kcb, kcc, kcd, kce, kcf, kcg, kch, kci, kcj, kck, kcl, kcm, aop, kcn, kco, kcp, kcq, kcr, kcs, kct, kcu, kcv, kcw, resultsL, resultOf, kcx, Nat.reduceEqDiff, kcy, kcz, kda, reduceCtorEq, kdb, kdc, kdd, kde, kdf, kdg, kdh, kdi, kdj, kdk, kdl, kdm, kdn, kdo, eq1, kdp, kdq, kdr, kds, kdt, kdu, kdv, kdw, kdx, kdy, kdz, kea, keb, kec, apartOK, apart2, AObj.live, ked, kee, kef, keg, keh, kei, kej, kek, kel, Int.reduceEq, Int.reduceLT, Int.reduceLE, Int.reduceAdd, Int.reduceSub, Int.reduceMul, Int.reduceToNat, kem, ken, keo, kep, keq, ker, kes, ket, keu, kev, kew, kex, key, kez, kfa, kfb, kfc, kfd, kfe, kff, kfg, kfh, kfi, kfj, kfk, kfl, cutCells, kfm, kfn, kfo, kfp, kfq, kfr, kfs, kft, kfu, kfv, kfw, kfx, kfy, Nat.reduceAdd, Nat.reduceLeDiff, Nat.reduceLT, Nat.reduceMul, Nat.reduceSub, kfz, kga, kgb, kgc, kgd, kge, kgf, kgg, kgh, kgi, kgj, kgk, kgl, kgm, kgn, kgo, kgp, kgq, kgr, kgs, kgt, kgu, kgv, kgw, kgx, kgy, kgz, kha, khb, khc, khd, hi2']
    · simp (disch := omega) only [kaa, kab, kac, kad, kae, kaf, kag, kah, kai, kaj, kak, kal, kam, kan, kao, khe, khf, khg, khh, khi, khj, khk, khl, kap, kaq, kar, kas, kat, kau, kav, kaw, kax, kay, kaz, kba, kbb, kbc, kbd, kbe, kbf, kbg, kbh, kbi, kbj, kbk, kbl, kbm, kbn, kbo, kbp, kbq, kbr, kbs, kbt, kbu, kbv, kbw, kbx, kby, kbz, kca, kcb, kcc, kcd, kce, kcf, kcg, kch, kci, kcj, kck, kcl, kcm, aop, kcn, kco, kcp, kcq, kcr, kcs, kct, kcu, kcv, kcw, resultsL, resultOf, kcx, Nat.reduceEqDiff, kcy, kcz, kda, reduceCtorEq, kdb, kdc, kdd, kde, kdf, kdg, kdh, kdi, kdj, kdk, kdl, kdm, kdn, kdo, eq1, kdp, kdq, kdr, kds, kdt, kdu, kdv, kdw, kdx, kdy, kdz, kea, keb, kec, apartOK, apart2, AObj.live, ked, kee, kef, keg, keh, kei, kej, kek, kel, Int.reduceEq, Int.reduceLT, Int.reduceLE, Int.reduceAdd, Int.reduceSub, Int.reduceMul, Int.reduceToNat, kem, ken, keo, kep, keq, ker, kes, ket, keu, kev, kew, kex, key, kez, kfa, kfb, kfc, kfd, kfe, kff, kfg, kfh, kfi, kfj, kfk, kfl, cutCells, kfm, kfn, kfo, kfp, kfq, kfr, kfs, kft, kfu, kfv, kfw, kfx, kfy, Nat.reduceAdd, Nat.reduceLeDiff, Nat.reduceLT, Nat.reduceMul, Nat.reduceSub, kfz, kga, kgb, kgc, kgd, kge, kgf, kgg, kgh, kgi, kgj, kgk, kgl, kgm, kgn, kgo, kgp, kgq, kgr, kgs, kgt, kgu, kgv, kgw, kgx, kgy, kgz, kha, khb, khc, khd, fb]
  · simp (disch := omega) only [kaa, kab, kac, kad, kae, kaf, kag, kah, kai, kaj, kak, kal, kam, kan, kao, khe, khf, khg, khh, khi, khj, khk, khl, kap, kaq, kar, kas, kat, kau, kav, kaw, kax, kay, kaz, kba, kbb, kbc, kbd, kbe, kbf, kbg, kbh, kbi, kbj, kbk, kbl, kbm, kbn, kbo, kbp, kbq, kbr, kbs, kbt, kbu, kbv, kbw, kbx, kby, kbz, kca, kcb, kcc, kcd, kce, kcf, kcg, kch, kci, kcj, kck, kcl, kcm, aop, kcn, kco, kcp, kcq, kcr, kcs, kct, kcu, kcv, kcw, resultsL, resultOf, kcx, Nat.reduceEqDiff, kcy, kcz, kda, reduceCtorEq, kdb, kdc, kdd, kde, kdf, kdg, kdh, kdi, kdj, kdk, kdl, kdm, kdn, kdo, eq1, kdp, kdq, kdr, kds, kdt, kdu, kdv, kdw, kdx, kdy, kdz, kea, keb, kec, apartOK, apart2, AObj.live, ked, kee, kef, keg, keh, kei, kej, kek, kel, Int.reduceEq, Int.reduceLT, Int.reduceLE, Int.reduceAdd, Int.reduceSub, Int.reduceMul, Int.reduceToNat, kem, ken, keo, kep, keq, ker, kes, ket, keu, kev, kew, kex, key, kez, kfa, kfb, kfc, kfd, kfe, kff, kfg, kfh, kfi, kfj, kfk, kfl, cutCells, kfm, kfn, kfo, kfp, kfq, kfr, kfs, kft, kfu, kfv, kfw, kfx, kfy, Nat.reduceAdd, Nat.reduceLeDiff, Nat.reduceLT, Nat.reduceMul, Nat.reduceSub, kfz, kga, kgb, kgc, kgd, kge, kgf, kgg, kgh, kgi, kgj, kgk, kgl, kgm, kgn, kgo, kgp, kgq, kgr, kgs, kgt, kgu, kgv, kgw, kgx, kgy, kgz, kha, khb, khc, khd, fa]

end Go.Proofs.YtedemfmafdilmaaDoor.Ev

/- The document's own small functions. -/
namespace Go.Proofs.YtedemfmafdilmaaDoor.Ev
set_option maxRecDepth 100000
set_option linter.unusedSimpArgs false
set_option linter.unusedVariables false
variable {R : FRes → Heap → Prop} {H : Heap}

def isBool (b : Bool) : Option (FRes × Heap) → Bool
  | some (.ret (.bool c), _) => b == c
  | _ => false
theorem of_isBool {b : Bool} {x : Option (FRes × Heap)} (h : isBool b x = true) : ∃ H1, x = some (.ret (.bool b), H1) := by
  unfold isBool at h
  split at h
  · obtain rfl : b = _ := by simpa using h
    exact ⟨_, rfl⟩
  · cases h
def isInt (n : Int) : Option (FRes × Heap) → Bool
  | some (.ret (.int .i64 m), _) => n == m
  | _ => false
theorem of_isInt {n : Int} {x : Option (FRes × Heap)} (h : isInt n x = true) : ∃ H1, x = some (.ret (.int .i64 n), H1) := by
  unfold isInt at h
  split at h
  · obtain rfl : n = _ := by simpa using h
    exact ⟨_, rfl⟩
  · cases h

theorem byte_bool {f : FuncId} {g : Nat → Bool} (hc : (List.range 256).all (fun n => isBool (g n) (evalFn Tab 16 f [.int .u8 (n : Int)] H0)) = true) {b : UInt8} (hH : On0 H) (h : R (.ret (.bool (g b.toNat))) H) : WD T f [.int .u8 (b.toNat : Int)] H R := by
  have h1 := List.all_eq_true.1 hc b.toNat (by simpa using b.toNat_lt)
  obtain ⟨H1, he⟩ := of_isBool h1
  exact WD.frame0 hH globs H0_rows (by simp [closedV, closed1]) .bool (WD.ev follows table_ok he rfl) h
theorem byte_int {f : FuncId} {g : Nat → Int} (hc : (List.range 256).all (fun n => isInt (g n) (evalFn Tab 16 f [.int .u8 (n : Int)] H0)) = true) {b : UInt8} (hH : On0 H) (h : R (.ret (.int .i64 (g b.toNat))) H) : WD T f [.int .u8 (b.toNat : Int)] H R := by
  have h1 := List.all_eq_true.1 hc b.toNat (by simpa using b.toNat_lt)
  obtain ⟨H1, he⟩ := of_isInt h1
  exact WD.frame0 hH globs H0_rows (by simp [closedV, closed1]) .int (WD.ev follows table_ok he rfl) h

def smallN (n : Nat) : Bool := decide (97 ≤ n) && decide (n ≤ 122)
def digitN (n : Nat) : Bool := decide (48 ≤ n) && decide (n ≤ 57)
def partN (n : Nat) : Bool := digitN n || smallN n || (decide (65 ≤ n) && decide (n ≤ 90)) || n == 95
def blankN (n : Nat) : Bool := n == 32 || n == 9 || n == 10 || n == 13
def saysN (n : Nat) : Int := if digitN n then (n : Int) - 48 else if 97 ≤ n ∧ n ≤ 102 then (n : Int) - 87 else if 65 ≤ n ∧ n ≤ 70 then (n : Int) - 55 else 99

theorem rsmall_s {b : UInt8} (hH : On0 H) (h : R (.ret (.bool (smallN b.toNat))) H) : WD T 34 [.int .u8 (b.toNat : Int)] H R := byte_bool (by kernel_rfl) hH h
theorem rdigit_s {b : UInt8} (hH : On0 H) (h : R (.ret (.bool (digitN b.toNat))) H) : WD T 35 [.int .u8 (b.toNat : Int)] H R := byte_bool (by kernel_rfl) hH h
theorem rblank_s {b : UInt8} (hH : On0 H) (h : R (.ret (.bool (blankN b.toNat))) H) : WD T 44 [.int .u8 (b.toNat : Int)] H R := byte_bool (by kernel_rfl) hH h
theorem rpart_s {b : UInt8} (hH : On0 H) (h : R (.ret (.bool (partN b.toNat))) H) : WD T 45 [.int .u8 (b.toNat : Int)] H R := byte_bool (by kernel_rfl) hH h
theorem says_s {b : UInt8} (hH : On0 H) (h : R (.ret (.int .i64 (saysN b.toNat))) H) : WD T 56 [.int .u8 (b.toNat : Int)] H R := byte_int (by kernel_rfl) hH h

theorem small_first (b : UInt8) : smallN b.toNat = firstQ b := by
  simp only [smallN, firstQ]
  congr 1 <;> congr 1 <;> simp <;> omega
theorem digit_q (b : UInt8) : digitN b.toNat = digQ b := by
  simp only [digitN, digQ]
  congr 1 <;> congr 1 <;> simp <;> omega

/-- The reserved words, laid anew. -/
theorem rReserved_s (h : R (.ret (.slice (some ⟨H.length, 0, none⟩) 29 29)) (H ++ [.row (strV wordsL) 1 true])) : WD T 20 [] H R := by
  exact WD.ev follows table_ok (show evalFn Tab 2 20 [] H = some (.ret (.slice (some ⟨H.length, 0, none⟩) 29 29), H ++ [.row (strV wordsL) 1 true]) by kernel_rfl) h

def rwordI (l : List UInt8) (H : Heap) : Nat → Env → Heap → Prop := fun n e H' =>
  ∃ i : Nat, i ≤ 29 ∧ n = 29 - i ∧ H' = H ++ [.row (strV wordsL) 1 true] ∧ (∃ x : Nat → Value, e = [.string (bs l), x 1, x 2, .slice (some ⟨H.length, 0, none⟩) 29 29, .int .i64 i, x 5, x 6, x 7, x 8, x 9, x 10, x 11, x 12, x 13, x 14, x 15, x 16, x 17]) ∧ ∀ j (h : j < wordsL.length), j < i → wordsL[j] ≠ l

theorem rIsReserved_s {l : List UInt8} (h : R (.ret (.bool (wordsL.contains l))) H) : WD T 36 [.string (bs l)] H R := by
  refine WD.gc0 (WD.of follows t36 (by simp) ?_)
  simp (disch := omega) only [kaa, kab, kac, kad, kae, kaf, kag, kah, kai, kaj, kak, kal, kam, kan, kao, khe, khf, khg, khh, khi, khj, khk, khl, kap, kaq, kar, kas, kat, kau, kav, kaw, kax, kay, kaz, kba, kbb, kbc, kbd, kbe, kbf, kbg, kbh, kbi, kbj, kbk, kbl, kbm, kbn, kbo, kbp, kbq, kbr, kbs, kbt, kbu, kbv, kbw, kbx, kby, kbz, kca, kcb, kcc, kcd, kce, kcf, kcg, kch, kci, kcj, kck, kcl, kcm, aop, kcn, kco, kcp, kcq, kcr, kcs, kct, kcu, kcv, kcw, resultsL, resultOf, kcx, Nat.reduceEqDiff, kcy, kcz, kda, reduceCtorEq, kdb, kdc, kdd, kde, kdf, kdg, kdh, kdi, kdj, kdk, kdl, kdm, kdn, kdo, eq1, kdp, kdq, kdr, kds, kdt, kdu, kdv, kdw, kdx, kdy, kdz, kea, keb, kec, apartOK, apart2, AObj.live, ked, kee, kef, keg, keh, kei, kej, kek, kel, Int.reduceEq, Int.reduceLT, Int.reduceLE, Int.reduceAdd, Int.reduceSub, Int.reduceMul, Int.reduceToNat, kem, ken, keo, kep, keq, ker, kes, ket, keu, kev, kew, kex, key, kez, kfa, kfb, kfc, kfd, kfe, kff, kfg, kfh, kfi, kfj, kfk, kfl, cutCells, kfm, kfn, kfo, kfp, kfq, kfr, kfs, kft, kfu, kfv, kfw, kfx, kfy, Nat.reduceAdd, Nat.reduceLeDiff, Nat.reduceLT, Nat.reduceMul, Nat.reduceSub, kfz, kga, kgb, kgc, kgd, kge, kgf, kgg, kgh, kgi, kgj, kgk, kgl, kgm, kgn, kgo, kgp, kgq, kgr, kgs, kgt, kgu, kgv, kgw, kgx, kgy, kgz, kha, khb, khc, khd]
  (repeat ((first | refine rReserved_s ?_); try simp (disch := omega) only [kaa, kab, kac, kad, kae, kaf, kag, kah, kai, kaj, kak, kal, kam, kan, kao, khe, khf, khg, khh, khi, khj, khk, khl, kap, kaq, kar, kas, kat, kau, kav, kaw, kax, kay, kaz, kba, kbb, kbc, kbd, kbe, kbf, kbg, kbh, kbi, kbj, kbk, kbl, kbm, kbn, kbo, kbp, kbq, kbr, kbs, kbt, kbu, kbv, kbw, kbx, kby, kbz, kca, kcb, kcc, kcd, kce, kcf, kcg, kch, kci, kcj, kck, kcl, kcm, aop, kcn, kco, kcp, kcq, kcr, kcs, kct, kcu, kcv, kcw, resultsL, resultOf, kcx, Nat.reduceEqDiff, kcy, kcz, kda, reduceCtorEq, kdb, kdc, kdd, kde, kdf, kdg, kdh, kdi, kdj, kdk, kdl, kdm, kdn, kdo, eq1, kdp, kdq, kdr, kds, kdt, kdu, kdv, kdw, kdx, kdy, kdz, kea, keb, kec, apartOK, apart2, AObj.live, ked, kee, kef, keg, keh, kei, kej, kek, kel, Int.reduceEq, Int.reduceLT, Int.reduceLE, Int.reduceAdd, Int.reduceSub, Int.reduceMul, Int.reduceToNat, kem, ken, keo, kep, keq, ker, kes, ket, keu, kev, kew, kex, key, kez, kfa, kfb, kfc, kfd, kfe, kff, kfg, kfh, kfi, kfj, kfk, kfl, cutCells, kfm, kfn, kfo, kfp, kfq, kfr, kfs, kft, kfu, kfv, kfw, kfx, kfy, Nat.reduceAdd, Nat.reduceLeDiff, Nat.reduceLT, Nat.reduceMul, Nat.reduceSub, kfz, kga, kgb, kgc, kgd, kge, kgf, kgg, kgh, kgi, kgj, kgk, kgl, kgm, kgn, kgo, kgp, kgq, kgr, kgs, kgt, kgu, kgv, kgw, kgx, kgy, kgz, kha, khb, khc, khd]))
  refine WLoop.inv (rwordI l H) ?_ 29 _ _ ⟨0, by simp, rfl, rfl, (ex_env rfl), fun j _ h => by omega⟩
  rintro n e H' ⟨i, h1, rfl, rfl, ⟨x, rfl⟩, h4⟩
  have hlen : wordsL.length = 29 := rfl
  by_cases hi : i < 29
  · have hi' : (i : Int) < 29 := by omega
    have hi2 : (i : Int) < ((29 : Nat) : Int) := by omega
    have hw := strV_get wordsL i (by omega)
    simp (disch := omega) only [kaa, kab, kac, kad, kae, kaf, kag, kah, kai, kaj, kak, kal, kam, kan, kao, khe, khf, khg, khh, khi, khj, khk, khl, kap, kaq, kar, kas, kat, kau, kav, kaw, kax, kay, kaz, kba, kbb, kbc, kbd, kbe, kbf, kbg, kbh, kbi, kbj, kbk, kbl, kbm, kbn, kbo, kbp, kbq, kbr, kbs, kbt, kbu, kbv, kbw, kbx, kby, kbz, kca, kcb, kcc, kcd, kce, kcf, kcg, kch, kci, kcj, kck, kcl, kcm, aop, kcn, kco, kcp, kcq, kcr, kcs, kct, kcu, kcv, kcw, resultsL, resultOf, kcx, Nat.reduceEqDiff, kcy, kcz, kda, reduceCtorEq, kdb, kdc, kdd, kde, kdf, kdg, kdh, kdi, kdj, kdk, kdl, kdm, kdn, kdo, eq1, kdp, kdq, kdr, kds, kdt, kdu, kdv, kdw, kdx, kdy, kdz, kea, keb, kec, apartOK, apart2, AObj.live, ked, kee, kef, keg, keh, kei, kej, kek, kel, Int.reduceEq, Int.reduceLT, Int.reduceLE, Int.reduceAdd, Int.reduceSub, Int.reduceMul, Int.reduceToNat, kem, ken, keo, kep, keq, ker, kes, ket, keu, kev, kew, kex, key, kez, kfa, kfb, kfc, kfd, kfe, kff, kfg, kfh, kfi, kfj, kfk, kfl, cutCells, kfm, kfn, kfo, kfp, kfq, kfr, kfs, kft, kfu, kfv, kfw, kfx, kfy, Nat.reduceAdd, Nat.reduceLeDiff, Nat.reduceLT, Nat.reduceMul, Nat.reduceSub, kfz, kga, kgb, kgc, kgd, kge, kgf, kgg, kgh, kgi, kgj, kgk, kgl, kgm, kgn, kgo, kgp, kgq, kgr, kgs, kgt, kgu, kgv, kgw, kgx, kgy, kgz, kha, khb, khc, khd, hi', hi2, hw, if_pos]
    refine wb_dec (fun hx => ?_) (fun hx => ?_) <;> simp (disch := omega) only [kaa, kab, kac, kad, kae, kaf, kag, kah, kai, kaj, kak, kal, kam, kan, kao, khe, khf, khg, khh, khi, khj, khk, khl, kap, kaq, kar, kas, kat, kau, kav, kaw, kax, kay, kaz, kba, kbb, kbc, kbd, kbe, kbf, kbg, kbh, kbi, kbj, kbk, kbl, kbm, kbn, kbo, kbp, kbq, kbr, kbs, kbt, kbu, kbv, kbw, kbx, kby, kbz, kca, kcb, kcc, kcd, kce, kcf, kcg, kch, kci, kcj, kck, kcl, kcm, aop, kcn, kco, kcp, kcq, kcr, kcs, kct, kcu, kcv, kcw, resultsL, resultOf, kcx, Nat.reduceEqDiff, kcy, kcz, kda, reduceCtorEq, kdb, kdc, kdd, kde, kdf, kdg, kdh, kdi, kdj, kdk, kdl, kdm, kdn, kdo, eq1, kdp, kdq, kdr, kds, kdt, kdu, kdv, kdw, kdx, kdy, kdz, kea, keb, kec, apartOK, apart2, AObj.live, ked, kee, kef, keg, keh, kei, kej, kek, kel, Int.reduceEq, Int.reduceLT, Int.reduceLE, Int.reduceAdd, Int.reduceSub, Int.reduceMul, Int.reduceToNat, kem, ken, keo, kep, keq, ker, kes, ket, keu, kev, kew, kex, key, kez, kfa, kfb, kfc, kfd, kfe, kff, kfg, kfh, kfi, kfj, kfk, kfl, cutCells, kfm, kfn, kfo, kfp, kfq, kfr, kfs, kft, kfu, kfv, kfw, kfx, kfy, Nat.reduceAdd, Nat.reduceLeDiff, Nat.reduceLT, Nat.reduceMul, Nat.reduceSub, kfz, kga, kgb, kgc, kgd, kge, kgf, kgg, kgh, kgi, kgj, kgk, kgl, kgm, kgn, kgo, kgp, kgq, kgr, kgs, kgt, kgu, kgv, kgw, kgx, kgy, kgz, kha, khb, khc, khd, wr_i64]
    · have e : wordsL.contains l = true := by
        rw [List.contains_iff_mem, ← hx]
        exact List.getElem_mem _
      rw [e] at h
      exact ⟨_, rfl, ⟨_, rfl⟩, .bool, h⟩
    · refine ⟨29 - (i + 1), by omega, i + 1, by omega, rfl, rfl, (ex_env rfl), fun j hj hji => ?_⟩
      · by_cases hji2 : j = i
        · subst hji2; exact hx
        · exact h4 j hj (by omega)
  · have hi' : ¬ (i : Int) < 29 := by omega
    have hi2 : ¬ (i : Int) < ((29 : Nat) : Int) := by omega
    simp (disch := omega) only [kaa, kab, kac, kad, kae, kaf, kag, kah, kai, kaj, kak, kal, kam, kan, kao, khe, khf, khg, khh, khi, khj, khk, khl, kap, kaq, kar, kas, kat, kau, kav, kaw, kax, kay, kaz, kba, kbb, kbc, kbd, kbe, kbf, kbg, kbh, kbi, kbj, kbk, kbl, kbm, kbn, kbo, kbp, kbq, kbr, kbs, kbt, kbu, kbv, kbw, kbx, kby, kbz, kca, kcb, kcc, kcd, kce, kcf, kcg, kch, kci, kcj, kck, kcl, kcm, aop, kcn, kco, kcp, kcq, kcr, kcs, kct, kcu, kcv, kcw, resultsL, resultOf, kcx, Nat.reduceEqDiff, kcy, kcz, kda, reduceCtorEq, kdb, kdc, kdd, kde, kdf, kdg, kdh, kdi, kdj, kdk, kdl, kdm, kdn, kdo, eq1, kdp, kdq, kdr, kds, kdt, kdu, kdv, kdw, kdx, kdy, kdz, kea, keb, kec, apartOK, apart2, AObj.live, ked, kee, kef, keg, keh, kei, kej, kek, kel, Int.reduceEq, Int.reduceLT, Int.reduceLE, Int.reduceAdd, Int.reduceSub, Int.reduceMul, Int.reduceToNat, kem, ken, keo, kep, keq, ker, kes, ket, keu, kev, kew, kex, key, kez, kfa, kfb, kfc, kfd, kfe, kff, kfg, kfh, kfi, kfj, kfk, kfl, cutCells, kfm, kfn, kfo, kfp, kfq, kfr, kfs, kft, kfu, kfv, kfw, kfx, kfy, Nat.reduceAdd, Nat.reduceLeDiff, Nat.reduceLT, Nat.reduceMul, Nat.reduceSub, kfz, kga, kgb, kgc, kgd, kge, kgf, kgg, kgh, kgi, kgj, kgk, kgl, kgm, kgn, kgo, kgp, kgq, kgr, kgs, kgt, kgu, kgv, kgw, kgx, kgy, kgz, kha, khb, khc, khd, hi', hi2]
    have e : wordsL.contains l = false := by
      rw [Bool.eq_false_iff]
      intro hc
      rw [List.contains_iff_mem] at hc
      obtain ⟨j, hj, rfl⟩ := List.getElem_of_mem hc
      exact h4 j hj (by omega) rfl
    rw [e] at h
    exact ⟨_, rfl, ⟨_, rfl⟩, .bool, h⟩

end Go.Proofs.YtedemfmafdilmaaDoor.Ev

/- Names, as the document has them. -/
namespace Go.Proofs.YtedemfmafdilmaaDoor.Ev
set_option maxRecDepth 100000
set_option linter.unusedSimpArgs false
set_option linter.unusedVariables false
variable {R : FRes → Heap → Prop} {H : Heap}

theorem takeWhile_iff {α : Type} (q : α → Bool) (l : List α) : (l.takeWhile q).length = l.length ↔ ∀ b ∈ l, q b = true := by
  refine ⟨fun h b hb => ?_, takeWhile_all q l⟩
  have := take_takeWhile q l
  rw [h, List.take_length] at this
  rw [this] at hb
  exact all_takeWhile q l b hb

theorem first_iff {l : List UInt8} (h : 0 < l.length) : ((l.take 1).takeWhile firstQ).length = 1 ↔ firstQ l[0] = true := by
  cases l with
  | nil => simp at h
  | cons a l =>
    by_cases ha : firstQ a = true <;> simp [List.takeWhile_cons, ha]

theorem nameB_iff {l : List UInt8} (h0 : 0 < l.length) (h32 : l.length ≤ 32) : nameB l = if firstQ l[0] = true ∧ (∀ b ∈ l, restQ b = true) then !(wordsL.contains l) else false := by
  unfold nameB
  by_cases h : firstQ l[0] = true ∧ (∀ b ∈ l, restQ b = true)
  · rw [if_pos h, if_pos ⟨h0, h32, (first_iff h0).2 h.1, (takeWhile_iff _ _).2 h.2⟩]
  · rw [if_neg h, if_neg fun q => h ⟨(first_iff h0).1 q.2.2.1, (takeWhile_iff _ _).1 q.2.2.2⟩]

theorem rest_q (b : UInt8) : restQ b = (smallN b.toNat || digitN b.toNat || decide (b.toNat = 95)) := by
  simp only [restQ, isRestB, smallN, digitN]
  congr 1
  · congr 1 <;> congr 1 <;> congr 1 <;> simp <;> omega
  · congr 1; simp; omega

def rnameI (l : List UInt8) (H : Heap) : Nat → Env → Heap → Prop := fun n e H' =>
  ∃ i : Nat, i ≤ l.length ∧ n = l.length - i ∧ H' = H ∧ (∀ j (h : j < l.length), j < i → restQ l[j] = true) ∧ (∃ x : Nat → Value, e = [.string (bs l), x 1, x 2, .int .i64 i, x 4, x 5, x 6, x 7, x 8, x 9, x 10, x 11, x 12, x 13, x 14, x 15, x 16, x 17, x 18, x 19, x 20, x 21, x 22, x 23, x 24, x 25, x 26, x 27, x 28, x 29, x 30, x 31, x 32, x 33, x 34, x 35, x 36, x 37, x 38, x 39, x 40, x 41, x 42, x 43, x 44, x 45, x 46, x 47, x 48, x 49, x 50, x 51, x 52, x 53, x 54])

theorem rIsName_s {l : List UInt8} (hH : On0 H) (h : R (.ret (.bool (nameB l))) H) : WD T 19 [.string (bs l)] H R := by
  refine WD.of follows t19 (by simp) ?_
  simp (disch := omega) only [kaa, kab, kac, kad, kae, kaf, kag, kah, kai, kaj, kak, kal, kam, kan, kao, khe, khf, khg, khh, khi, khj, khk, khl, kap, kaq, kar, kas, kat, kau, kav, kaw, kax, kay, kaz, kba, kbb, kbc, kbd, kbe, kbf, kbg, kbh, kbi, kbj, kbk, kbl, kbm, kbn, kbo, kbp, kbq, kbr, kbs, kbt, kbu, kbv, kbw, kbx, kby, kbz, kca, kcb, kcc, kcd, kce, kcf, kcg, kch, kci, kcj, kck, kcl, kcm, aop, kcn, kco, kcp, kcq, kcr, kcs, kct, kcu, kcv, kcw, resultsL, resultOf, kcx, Nat.reduceEqDiff, kcy, kcz, kda, reduceCtorEq, kdb, kdc, kdd, kde, kdf, kdg, kdh, kdi, kdj, kdk, kdl, kdm, kdn, kdo, eq1, kdp, kdq, kdr, kds, kdt, kdu, kdv, kdw, kdx, kdy, kdz, kea, keb, kec, apartOK, apart2, AObj.live, ked, kee, kef, keg, keh, kei, kej, kek, kel, Int.reduceEq, Int.reduceLT, Int.reduceLE, Int.reduceAdd, Int.reduceSub, Int.reduceMul, Int.reduceToNat, kem, ken, keo, kep, keq, ker, kes, ket, keu, kev, kew, kex, key, kez, kfa, kfb, kfc, kfd, kfe, kff, kfg, kfh, kfi, kfj, kfk, kfl, cutCells, kfm, kfn, kfo, kfp, kfq, kfr, kfs, kft, kfu, kfv, kfw, kfx, kfy, Nat.reduceAdd, Nat.reduceLeDiff, Nat.reduceLT, Nat.reduceMul, Nat.reduceSub, kfz, kga, kgb, kgc, kgd, kge, kgf, kgg, kgh, kgi, kgj, kgk, kgl, kgm, kgn, kgo, kgp, kgq, kgr, kgs, kgt, kgu, kgv, kgw, kgx, kgy, kgz, kha, khb, khc, khd]
  by_cases h1 : (l.length : Int) < 1
  · simp (disch := omega) only [kaa, kab, kac, kad, kae, kaf, kag, kah, kai, kaj, kak, kal, kam, kan, kao, khe, khf, khg, khh, khi, khj, khk, khl, kap, kaq, kar, kas, kat, kau, kav, kaw, kax, kay, kaz, kba, kbb, kbc, kbd, kbe, kbf, kbg, kbh, kbi, kbj, kbk, kbl, kbm, kbn, kbo, kbp, kbq, kbr, kbs, kbt, kbu, kbv, kbw, kbx, kby, kbz, kca, kcb, kcc, kcd, kce, kcf, kcg, kch, kci, kcj, kck, kcl, kcm, aop, kcn, kco, kcp, kcq, kcr, kcs, kct, kcu, kcv, kcw, resultsL, resultOf, kcx, Nat.reduceEqDiff, kcy, kcz, kda, reduceCtorEq, kdb, kdc, kdd, kde, kdf, kdg, kdh, kdi, kdj, kdk, kdl, kdm, kdn, kdo, eq1, kdp, kdq, kdr, kds, kdt, kdu, kdv, kdw, kdx, kdy, kdz, kea, keb, kec, apartOK, apart2, AObj.live, ked, kee, kef, keg, keh, kei, kej, kek, kel, Int.reduceEq, Int.reduceLT, Int.reduceLE, Int.reduceAdd, Int.reduceSub, Int.reduceMul, Int.reduceToNat, kem, ken, keo, kep, keq, ker, kes, ket, keu, kev, kew, kex, key, kez, kfa, kfb, kfc, kfd, kfe, kff, kfg, kfh, kfi, kfj, kfk, kfl, cutCells, kfm, kfn, kfo, kfp, kfq, kfr, kfs, kft, kfu, kfv, kfw, kfx, kfy, Nat.reduceAdd, Nat.reduceLeDiff, Nat.reduceLT, Nat.reduceMul, Nat.reduceSub, kfz, kga, kgb, kgc, kgd, kge, kgf, kgg, kgh, kgi, kgj, kgk, kgl, kgm, kgn, kgo, kgp, kgq, kgr, kgs, kgt, kgu, kgv, kgw, kgx, kgy, kgz, kha, khb, khc, khd, h1]
    rw [nameB, if_neg (by omega)] at h
    exact h
  · by_cases h2 : (32 : Int) < l.length
    · simp (disch := omega) only [kaa, kab, kac, kad, kae, kaf, kag, kah, kai, kaj, kak, kal, kam, kan, kao, khe, khf, khg, khh, khi, khj, khk, khl, kap, kaq, kar, kas, kat, kau, kav, kaw, kax, kay, kaz, kba, kbb, kbc, kbd, kbe, kbf, kbg, kbh, kbi, kbj, kbk, kbl, kbm, kbn, kbo, kbp, kbq, kbr, kbs, kbt, kbu, kbv, kbw, kbx, kby, kbz, kca, kcb, kcc, kcd, kce, kcf, kcg, kch, kci, kcj, kck, kcl, kcm, aop, kcn, kco, kcp, kcq, kcr, kcs, kct, kcu, kcv, kcw, resultsL, resultOf, kcx, Nat.reduceEqDiff, kcy, kcz, kda, reduceCtorEq, kdb, kdc, kdd, kde, kdf, kdg, kdh, kdi, kdj, kdk, kdl, kdm, kdn, kdo, eq1, kdp, kdq, kdr, kds, kdt, kdu, kdv, kdw, kdx, kdy, kdz, kea, keb, kec, apartOK, apart2, AObj.live, ked, kee, kef, keg, keh, kei, kej, kek, kel, Int.reduceEq, Int.reduceLT, Int.reduceLE, Int.reduceAdd, Int.reduceSub, Int.reduceMul, Int.reduceToNat, kem, ken, keo, kep, keq, ker, kes, ket, keu, kev, kew, kex, key, kez, kfa, kfb, kfc, kfd, kfe, kff, kfg, kfh, kfi, kfj, kfk, kfl, cutCells, kfm, kfn, kfo, kfp, kfq, kfr, kfs, kft, kfu, kfv, kfw, kfx, kfy, Nat.reduceAdd, Nat.reduceLeDiff, Nat.reduceLT, Nat.reduceMul, Nat.reduceSub, kfz, kga, kgb, kgc, kgd, kge, kgf, kgg, kgh, kgi, kgj, kgk, kgl, kgm, kgn, kgo, kgp, kgq, kgr, kgs, kgt, kgu, kgv, kgw, kgx, kgy, kgz, kha, khb, khc, khd, h1, h2]
      rw [nameB, if_neg (by omega)] at h
      exact h
    · have h0 : 0 < l.length := by omega
      have hg : l[0]? = some l[0] := List.getElem?_eq_getElem h0
      rw [nameB_iff h0 (by omega)] at h
      by_cases h3 : (l[0].toNat : Int) < 97
      · simp (disch := omega) only [kaa, kab, kac, kad, kae, kaf, kag, kah, kai, kaj, kak, kal, kam, kan, kao, khe, khf, khg, khh, khi, khj, khk, khl, kap, kaq, kar, kas, kat, kau, kav, kaw, kax, kay, kaz, kba, kbb, kbc, kbd, kbe, kbf, kbg, kbh, kbi, kbj, kbk, kbl, kbm, kbn, kbo, kbp, kbq, kbr, kbs, kbt, kbu, kbv, kbw, kbx, kby, kbz, kca, kcb, kcc, kcd, kce, kcf, kcg, kch, kci, kcj, kck, kcl, kcm, aop, kcn, kco, kcp, kcq, kcr, kcs, kct, kcu, kcv, kcw, resultsL, resultOf, kcx, Nat.reduceEqDiff, kcy, kcz, kda, reduceCtorEq, kdb, kdc, kdd, kde, kdf, kdg, kdh, kdi, kdj, kdk, kdl, kdm, kdn, kdo, eq1, kdp, kdq, kdr, kds, kdt, kdu, kdv, kdw, kdx, kdy, kdz, kea, keb, kec, apartOK, apart2, AObj.live, ked, kee, kef, keg, keh, kei, kej, kek, kel, Int.reduceEq, Int.reduceLT, Int.reduceLE, Int.reduceAdd, Int.reduceSub, Int.reduceMul, Int.reduceToNat, kem, ken, keo, kep, keq, ker, kes, ket, keu, kev, kew, kex, key, kez, kfa, kfb, kfc, kfd, kfe, kff, kfg, kfh, kfi, kfj, kfk, kfl, cutCells, kfm, kfn, kfo, kfp, kfq, kfr, kfs, kft, kfu, kfv, kfw, kfx, kfy, Nat.reduceAdd, Nat.reduceLeDiff, Nat.reduceLT, Nat.reduceMul, Nat.reduceSub, kfz, kga, kgb, kgc, kgd, kge, kgf, kgg, kgh, kgi, kgj, kgk, kgl, kgm, kgn, kgo, kgp, kgq, kgr, kgs, kgt, kgu, kgv, kgw, kgx, kgy, kgz, kha, khb, khc, khd, h1, h2, hg, h3]
        rw [if_neg (fun q => by have := q.1; simp [firstQ] at this; omega)] at h
        exact h
      · by_cases h4 : (122 : Int) < (l[0].toNat : Int)
        · simp (disch := omega) only [kaa, kab, kac, kad, kae, kaf, kag, kah, kai, kaj, kak, kal, kam, kan, kao, khe, khf, khg, khh, khi, khj, khk, khl, kap, kaq, kar, kas, kat, kau, kav, kaw, kax, kay, kaz, kba, kbb, kbc, kbd, kbe, kbf, kbg, kbh, kbi, kbj, kbk, kbl, kbm, kbn, kbo, kbp, kbq, kbr, kbs, kbt, kbu, kbv, kbw, kbx, kby, kbz, kca, kcb, kcc, kcd, kce, kcf, kcg, kch, kci, kcj, kck, kcl, kcm, aop, kcn, kco, kcp, kcq, kcr, kcs, kct, kcu, kcv, kcw, resultsL, resultOf, kcx, Nat.reduceEqDiff, kcy, kcz, kda, reduceCtorEq, kdb, kdc, kdd, kde, kdf, kdg, kdh, kdi, kdj, kdk, kdl, kdm, kdn, kdo, eq1, kdp, kdq, kdr, kds, kdt, kdu, kdv, kdw, kdx, kdy, kdz, kea, keb, kec, apartOK, apart2, AObj.live, ked, kee, kef, keg, keh, kei, kej, kek, kel, Int.reduceEq, Int.reduceLT, Int.reduceLE, Int.reduceAdd, Int.reduceSub, Int.reduceMul, Int.reduceToNat, kem, ken, keo, kep, keq, ker, kes, ket, keu, kev, kew, kex, key, kez, kfa, kfb, kfc, kfd, kfe, kff, kfg, kfh, kfi, kfj, kfk, kfl, cutCells, kfm, kfn, kfo, kfp, kfq, kfr, kfs, kft, kfu, kfv, kfw, kfx, kfy, Nat.reduceAdd, Nat.reduceLeDiff, Nat.reduceLT, Nat.reduceMul, Nat.reduceSub, kfz, kga, kgb, kgc, kgd, kge, kgf, kgg, kgh, kgi, kgj, kgk, kgl, kgm, kgn, kgo, kgp, kgq, kgr, kgs, kgt, kgu, kgv, kgw, kgx, kgy, kgz, kha, khb, khc, khd, h1, h2, hg, h3, h4]
          rw [if_neg (fun q => by have := q.1; simp [firstQ] at this; omega)] at h
          exact h
        · have hf : firstQ l[0] = true := by simp [firstQ]; omega
          simp (disch := omega) only [kaa, kab, kac, kad, kae, kaf, kag, kah, kai, kaj, kak, kal, kam, kan, kao, khe, khf, khg, khh, khi, khj, khk, khl, kap, kaq, kar, kas, kat, kau, kav, kaw, kax, kay, kaz, kba, kbb, kbc, kbd, kbe, kbf, kbg, kbh, kbi, kbj, kbk, kbl, kbm, kbn, kbo, kbp, kbq, kbr, kbs, kbt, kbu, kbv, kbw, kbx, kby, kbz, kca, kcb, kcc, kcd, kce, kcf, kcg, kch, kci, kcj, kck, kcl, kcm, aop, kcn, kco, kcp, kcq, kcr, kcs, kct, kcu, kcv, kcw, resultsL, resultOf, kcx, Nat.reduceEqDiff, kcy, kcz, kda, reduceCtorEq, kdb, kdc, kdd, kde, kdf, kdg, kdh, kdi, kdj, kdk, kdl, kdm, kdn, kdo, eq1, kdp, kdq, kdr, kds, kdt, kdu, kdv, kdw, kdx, kdy, kdz, kea, keb, kec, apartOK, apart2, AObj.live, ked, kee, kef, keg, keh, kei, kej, kek, kel, Int.reduceEq, Int.reduceLT, Int.reduceLE, Int.reduceAdd, Int.reduceSub, Int.reduceMul, Int.reduceToNat, kem, ken, keo, kep, keq, ker, kes, ket, keu, kev, kew, kex, key, kez, kfa, kfb, kfc, kfd, kfe, kff, kfg, kfh, kfi, kfj, kfk, kfl, cutCells, kfm, kfn, kfo, kfp, kfq, kfr, kfs, kft, kfu, kfv, kfw, kfx, kfy, Nat.reduceAdd, Nat.reduceLeDiff, Nat.reduceLT, Nat.reduceMul, Nat.reduceSub, kfz, kga, kgb, kgc, kgd, kge, kgf, kgg, kgh, kgi, kgj, kgk, kgl, kgm, kgn, kgo, kgp, kgq, kgr, kgs, kgt, kgu, kgv, kgw, kgx, kgy, kgz, kha, khb, khc, khd, h1, h2, hg, h3, h4]
          refine WLoop.inv (rnameI l H) ?_ l.length _ _ ⟨0, by omega, rfl, rfl, fun j _ hj => by omega, (ex_env rfl)⟩
          rintro n e H' ⟨i, k1, rfl, rfl, k3, ⟨x, rfl⟩⟩
          by_cases hi : i < l.length
          · have hi' : (i : Int) < l.length := by omega
            have hli : l[i]? = some l[i] := List.getElem?_eq_getElem hi
            simp (disch := omega) only [kaa, kab, kac, kad, kae, kaf, kag, kah, kai, kaj, kak, kal, kam, kan, kao, khe, khf, khg, khh, khi, khj, khk, khl, kap, kaq, kar, kas, kat, kau, kav, kaw, kax, kay, kaz, kba, kbb, kbc, kbd, kbe, kbf, kbg, kbh, kbi, kbj, kbk, kbl, kbm, kbn, kbo, kbp, kbq, kbr, kbs, kbt, kbu, kbv, kbw, kbx, kby, kbz, kca, kcb, kcc, kcd, kce, kcf, kcg, kch, kci, kcj, kck, kcl, kcm, aop, kcn, kco, kcp, kcq, kcr, kcs, kct, kcu, kcv, kcw, resultsL, resultOf, kcx, Nat.reduceEqDiff, kcy, kcz, kda, reduceCtorEq, kdb, kdc, kdd, kde, kdf, kdg, kdh, kdi, kdj, kdk, kdl, kdm, kdn, kdo, eq1, kdp, kdq, kdr, kds, kdt, kdu, kdv, kdw, kdx, kdy, kdz, kea, keb, kec, apartOK, apart2, AObj.live, ked, kee, kef, keg, keh, kei, kej, kek, kel, Int.reduceEq, Int.reduceLT, Int.reduceLE, Int.reduceAdd, Int.reduceSub, Int.reduceMul, Int.reduceToNat, kem, ken, keo, kep, keq, ker, kes, ket, keu, kev, kew, kex, key, kez, kfa, kfb, kfc, kfd, kfe, kff, kfg, kfh, kfi, kfj, kfk, kfl, cutCells, kfm, kfn, kfo, kfp, kfq, kfr, kfs, kft, kfu, kfv, kfw, kfx, kfy, Nat.reduceAdd, Nat.reduceLeDiff, Nat.reduceLT, Nat.reduceMul, Nat.reduceSub, kfz, kga, kgb, kgc, kgd, kge, kgf, kgg, kgh, kgi, kgj, kgk, kgl, kgm, kgn, kgo, kgp, kgq, kgr, kgs, kgt, kgu, kgv, kgw, kgx, kgy, kgz, kha, khb, khc, khd, hi', hli]
            (repeat ((first | refine rsmall_s hH ?_ | refine rdigit_s hH ?_); try simp (disch := omega) only [kaa, kab, kac, kad, kae, kaf, kag, kah, kai, kaj, kak, kal, kam, kan, kao, khe, khf, khg, khh, khi, khj, khk, khl, kap, kaq, kar, kas, kat, kau, kav, kaw, kax, kay, kaz, kba, kbb, kbc, kbd, kbe, kbf, kbg, kbh, kbi, kbj, kbk, kbl, kbm, kbn, kbo, kbp, kbq, kbr, kbs, kbt, kbu, kbv, kbw, kbx, kby, kbz, kca, kcb, kcc, kcd, kce, kcf, kcg, kch, kci, kcj, kck, kcl, kcm, aop, kcn, kco, kcp, kcq, kcr, kcs, kct, kcu, kcv, kcw, resultsL, resultOf, kcx, Nat.reduceEqDiff, kcy, kcz, kda, reduceCtorEq, kdb, kdc, kdd, kde, kdf, kdg, kdh, kdi, kdj, kdk, kdl, kdm, kdn, kdo, eq1, kdp, kdq, kdr, kds, kdt, kdu, kdv, kdw, kdx, kdy, kdz, kea, keb, kec, apartOK, apart2, AObj.live, ked, kee, kef, keg, keh, kei, kej, kek, kel, Int.reduceEq, Int.reduceLT, Int.reduceLE, Int.reduceAdd, Int.reduceSub, Int.reduceMul, Int.reduceToNat, kem, ken, keo, kep, keq, ker, kes, ket, keu, kev, kew, kex, key, kez, kfa, kfb, kfc, kfd, kfe, kff, kfg, kfh, kfi, kfj, kfk, kfl, cutCells, kfm, kfn, kfo, kfp, kfq, kfr, kfs, kft, kfu, kfv, kfw, kfx, kfy, Nat.reduceAdd, Nat.reduceLeDiff, Nat.reduceLT, Nat.reduceMul, Nat.reduceSub, kfz, kga, kgb, kgc, kgd, kge, kgf, kgg, kgh, kgi, kgj, kgk, kgl, kgm, kgn, kgo, kgp, kgq, kgr, kgs, kgt, kgu, kgv, kgw, kgx, kgy, kgz, kha, khb, khc, khd, hli]))
            have hq := rest_q l[i]
            by_cases e1 : smallN l[i].toNat = true
            · have hr : restQ l[i] = true := by rw [hq, e1]; rfl
              simp (disch := omega) only [kaa, kab, kac, kad, kae, kaf, kag, kah, kai, kaj, kak, kal, kam, kan, kao, khe, khf, khg, khh, khi, khj, khk, khl, kap, kaq, kar, kas, kat, kau, kav, kaw, kax, kay, kaz, kba, kbb, kbc, kbd, kbe, kbf, kbg, kbh, kbi, kbj, kbk, kbl, kbm, kbn, kbo, kbp, kbq, kbr, kbs, kbt, kbu, kbv, kbw, kbx, kby, kbz, kca, kcb, kcc, kcd, kce, kcf, kcg, kch, kci, kcj, kck, kcl, kcm, aop, kcn, kco, kcp, kcq, kcr, kcs, kct, kcu, kcv, kcw, resultsL, resultOf, kcx, Nat.reduceEqDiff, kcy, kcz, kda, reduceCtorEq, kdb, kdc, kdd, kde, kdf, kdg, kdh, kdi, kdj, kdk, kdl, kdm, kdn, kdo, eq1, kdp, kdq, kdr, kds, kdt, kdu, kdv, kdw, kdx, kdy, kdz, kea, keb, kec, apartOK, apart2, AObj.live, ked, kee, kef, keg, keh, kei, kej, kek, kel, Int.reduceEq, Int.reduceLT, Int.reduceLE, Int.reduceAdd, Int.reduceSub, Int.reduceMul, Int.reduceToNat, kem, ken, keo, kep, keq, ker, kes, ket, keu, kev, kew, kex, key, kez, kfa, kfb, kfc, kfd, kfe, kff, kfg, kfh, kfi, kfj, kfk, kfl, cutCells, kfm, kfn, kfo, kfp, kfq, kfr, kfs, kft, kfu, kfv, kfw, kfx, kfy, Nat.reduceAdd, Nat.reduceLeDiff, Nat.reduceLT, Nat.reduceMul, Nat.reduceSub, kfz, kga, kgb, kgc, kgd, kge, kgf, kgg, kgh, kgi, kgj, kgk, kgl, kgm, kgn, kgo, kgp, kgq, kgr, kgs, kgt, kgu, kgv, kgw, kgx, kgy, kgz, kha, khb, khc, khd, e1, hli, wr_i64]
              exact ⟨l.length - (i + 1), by omega, i + 1, by omega, rfl, rfl, fun j hj hji => (by
                by_cases hj2 : j = i
                · subst hj2; exact hr
                · exact k3 j hj (by omega)), (ex_env rfl)⟩
            · by_cases e2 : digitN l[i].toNat = true
              · have hr : restQ l[i] = true := by rw [hq, e2]; simp
                simp (disch := omega) only [kaa, kab, kac, kad, kae, kaf, kag, kah, kai, kaj, kak, kal, kam, kan, kao, khe, khf, khg, khh, khi, khj, khk, khl, kap, kaq, kar, kas, kat, kau, kav, kaw, kax, kay, kaz, kba, kbb, kbc, kbd, kbe, kbf, kbg, kbh, kbi, kbj, kbk, kbl, kbm, kbn, kbo, kbp, kbq, kbr, kbs, kbt, kbu, kbv, kbw, kbx, kby, kbz, kca, kcb, kcc, kcd, kce, kcf, kcg, kch, kci, kcj, kck, kcl, kcm, aop, kcn, kco, kcp, kcq, kcr, kcs, kct, kcu, kcv, kcw, resultsL, resultOf, kcx, Nat.reduceEqDiff, kcy, kcz, kda, reduceCtorEq, kdb, kdc, kdd, kde, kdf, kdg, kdh, kdi, kdj, kdk, kdl, kdm, kdn, kdo, eq1, kdp, kdq, kdr, kds, kdt, kdu, kdv, kdw, kdx, kdy, kdz, kea, keb, kec, apartOK, apart2, AObj.live, ked, kee, kef, keg, keh, kei, kej, kek, kel, Int.reduceEq, Int.reduceLT, Int.reduceLE, Int.reduceAdd, Int.reduceSub, Int.reduceMul, Int.reduceToNat, kem, ken, keo, kep, keq, ker, kes, ket, keu, kev, kew, kex, key, kez, kfa, kfb, kfc, kfd, kfe, kff, kfg, kfh, kfi, kfj, kfk, kfl, cutCells, kfm, kfn, kfo, kfp, kfq, kfr, kfs, kft, kfu, kfv, kfw, kfx, kfy, Nat.reduceAdd, Nat.reduceLeDiff, Nat.reduceLT, Nat.reduceMul, Nat.reduceSub, kfz, kga, kgb, kgc, kgd, kge, kgf, kgg, kgh, kgi, kgj, kgk, kgl, kgm, kgn, kgo, kgp, kgq, kgr, kgs, kgt, kgu, kgv, kgw, kgx, kgy, kgz, kha, khb, khc, khd, e1, e2, hli, wr_i64]
                exact ⟨l.length - (i + 1), by omega, i + 1, by omega, rfl, rfl, fun j hj hji => (by
                  by_cases hj2 : j = i
                  · subst hj2; exact hr
                  · exact k3 j hj (by omega)), (ex_env rfl)⟩
              · have e1' : smallN l[i].toNat = false := by simpa using e1
                have e2' : digitN l[i].toNat = false := by simpa using e2
                by_cases e3 : (l[i].toNat : Int) = 95
                · have hr : restQ l[i] = true := by rw [hq]; simp; omega
                  simp (disch := omega) only [kaa, kab, kac, kad, kae, kaf, kag, kah, kai, kaj, kak, kal, kam, kan, kao, khe, khf, khg, khh, khi, khj, khk, khl, kap, kaq, kar, kas, kat, kau, kav, kaw, kax, kay, kaz, kba, kbb, kbc, kbd, kbe, kbf, kbg, kbh, kbi, kbj, kbk, kbl, kbm, kbn, kbo, kbp, kbq, kbr, kbs, kbt, kbu, kbv, kbw, kbx, kby, kbz, kca, kcb, kcc, kcd, kce, kcf, kcg, kch, kci, kcj, kck, kcl, kcm, aop, kcn, kco, kcp, kcq, kcr, kcs, kct, kcu, kcv, kcw, resultsL, resultOf, kcx, Nat.reduceEqDiff, kcy, kcz, kda, reduceCtorEq, kdb, kdc, kdd, kde, kdf, kdg, kdh, kdi, kdj, kdk, kdl, kdm, kdn, kdo, eq1, kdp, kdq, kdr, kds, kdt, kdu, kdv, kdw, kdx, kdy, kdz, kea, keb, kec, apartOK, apart2, AObj.live, ked, kee, kef, keg, keh, kei, kej, kek, kel, Int.reduceEq, Int.reduceLT, Int.reduceLE, Int.reduceAdd, Int.reduceSub, Int.reduceMul, Int.reduceToNat, kem, ken, keo, kep, keq, ker, kes, ket, keu, kev, kew, kex, key, kez, kfa, kfb, kfc, kfd, kfe, kff, kfg, kfh, kfi, kfj, kfk, kfl, cutCells, kfm, kfn, kfo, kfp, kfq, kfr, kfs, kft, kfu, kfv, kfw, kfx, kfy, Nat.reduceAdd, Nat.reduceLeDiff, Nat.reduceLT, Nat.reduceMul, Nat.reduceSub, kfz, kga, kgb, kgc, kgd, kge, kgf, kgg, kgh, kgi, kgj, kgk, kgl, kgm, kgn, kgo, kgp, kgq, kgr, kgs, kgt, kgu, kgv, kgw, kgx, kgy, kgz, kha, khb, khc, khd, e1', e2', e3, hli, wr_i64]
                  exact ⟨l.length - (i + 1), by omega, i + 1, by omega, rfl, rfl, fun j hj hji => (by
                    by_cases hj2 : j = i
                    · subst hj2; exact hr
                    · exact k3 j hj (by omega)), (ex_env rfl)⟩
                · have hr : ¬ restQ l[i] = true := by rw [hq, e1', e2']; simp; omega
                  simp (disch := omega) only [kaa, kab, kac, kad, kae, kaf, kag, kah, kai, kaj, kak, kal, kam, kan, kao, khe, khf, khg, khh, khi, khj, khk, khl, kap, kaq, kar, kas, kat, kau, kav, kaw, kax, kay, kaz, kba, kbb, kbc, kbd, kbe, kbf, kbg, kbh, kbi, kbj, kbk, kbl, kbm, kbn, kbo, kbp, kbq, kbr, kbs, kbt, kbu, kbv, kbw, kbx, kby, kbz, kca, kcb, kcc, kcd, kce, kcf, kcg, kch, kci, kcj, kck, kcl, kcm, aop, kcn, kco, kcp, kcq, kcr, kcs, kct, kcu, kcv, kcw, resultsL, resultOf, kcx, Nat.reduceEqDiff, kcy, kcz, kda, reduceCtorEq, kdb, kdc, kdd, kde, kdf, kdg, kdh, kdi, kdj, kdk, kdl, kdm, kdn, kdo, eq1, kdp, kdq, kdr, kds, kdt, kdu, kdv, kdw, kdx, kdy, kdz, kea, keb, kec, apartOK, apart2, AObj.live, ked, kee, kef, keg, keh, kei, kej, kek, kel, Int.reduceEq, Int.reduceLT, Int.reduceLE, Int.reduceAdd, Int.reduceSub, Int.reduceMul, Int.reduceToNat, kem, ken, keo, kep, keq, ker, kes, ket, keu, kev, kew, kex, key, kez, kfa, kfb, kfc, kfd, kfe, kff, kfg, kfh, kfi, kfj, kfk, kfl, cutCells, kfm, kfn, kfo, kfp, kfq, kfr, kfs, kft, kfu, kfv, kfw, kfx, kfy, Nat.reduceAdd, Nat.reduceLeDiff, Nat.reduceLT, Nat.reduceMul, Nat.reduceSub, kfz, kga, kgb, kgc, kgd, kge, kgf, kgg, kgh, kgi, kgj, kgk, kgl, kgm, kgn, kgo, kgp, kgq, kgr, kgs, kgt, kgu, kgv, kgw, kgx, kgy, kgz, kha, khb, khc, khd, e1', e2', e3, hli, wr_i64]
                  rw [if_neg fun q => hr (q.2 _ (List.getElem_mem _))] at h
                  exact h
          · have hi' : ¬ (i : Int) < l.length := by omega
            have hall : ∀ b ∈ l, restQ b = true := fun b hb => by
              obtain ⟨j, hj, rfl⟩ := List.getElem_of_mem hb
              exact k3 j hj (by omega)
            simp (disch := omega) only [kaa, kab, kac, kad, kae, kaf, kag, kah, kai, kaj, kak, kal, kam, kan, kao, khe, khf, khg, khh, khi, khj, khk, khl, kap, kaq, kar, kas, kat, kau, kav, kaw, kax, kay, kaz, kba, kbb, kbc, kbd, kbe, kbf, kbg, kbh, kbi, kbj, kbk, kbl, kbm, kbn, kbo, kbp, kbq, kbr, kbs, kbt, kbu, kbv, kbw, kbx, kby, kbz, kca, kcb, kcc, kcd, kce, kcf, kcg, kch, kci, kcj, kck, kcl, kcm, aop, kcn, kco, kcp, kcq, kcr, kcs, kct, kcu, kcv, kcw, resultsL, resultOf, kcx, Nat.reduceEqDiff, kcy, kcz, kda, reduceCtorEq, kdb, kdc, kdd, kde, kdf, kdg, kdh, kdi, kdj, kdk, kdl, kdm, kdn, kdo, eq1, kdp, kdq, kdr, kds, kdt, kdu, kdv, kdw, kdx, kdy, kdz, kea, keb, kec, apartOK, apart2, AObj.live, ked, kee, kef, keg, keh, kei, kej, kek, kel, Int.reduceEq, Int.reduceLT, Int.reduceLE, Int.reduceAdd, Int.reduceSub, Int.reduceMul, Int.reduceToNat, kem, ken, keo, kep, keq, ker, kes, ket, keu, kev, kew, kex, key, kez, kfa, kfb, kfc, kfd, kfe, kff, kfg, kfh, kfi, kfj, kfk, kfl, cutCells, kfm, kfn, kfo, kfp, kfq, kfr, kfs, kft, kfu, kfv, kfw, kfx, kfy, Nat.reduceAdd, Nat.reduceLeDiff, Nat.reduceLT, Nat.reduceMul, Nat.reduceSub, kfz, kga, kgb, kgc, kgd, kge, kgf, kgg, kgh, kgi, kgj, kgk, kgl, kgm, kgn, kgo, kgp, kgq, kgr, kgs, kgt, kgu, kgv, kgw, kgx, kgy, kgz, kha, khb, khc, khd, hi']
            (repeat ((first | refine rIsReserved_s ?_); try simp (disch := omega) only [kaa, kab, kac, kad, kae, kaf, kag, kah, kai, kaj, kak, kal, kam, kan, kao, khe, khf, khg, khh, khi, khj, khk, khl, kap, kaq, kar, kas, kat, kau, kav, kaw, kax, kay, kaz, kba, kbb, kbc, kbd, kbe, kbf, kbg, kbh, kbi, kbj, kbk, kbl, kbm, kbn, kbo, kbp, kbq, kbr, kbs, kbt, kbu, kbv, kbw, kbx, kby, kbz, kca, kcb, kcc, kcd, kce, kcf, kcg, kch, kci, kcj, kck, kcl, kcm, aop, kcn, kco, kcp, kcq, kcr, kcs, kct, kcu, kcv, kcw, resultsL, resultOf, kcx, Nat.reduceEqDiff, kcy, kcz, kda, reduceCtorEq, kdb, kdc, kdd, kde, kdf, kdg, kdh, kdi, kdj, kdk, kdl, kdm, kdn, kdo, eq1, kdp, kdq, kdr, kds, kdt, kdu, kdv, kdw, kdx, kdy, kdz, kea, keb, kec, apartOK, apart2, AObj.live, ked, kee, kef, keg, keh, kei, kej, kek, kel, Int.reduceEq, Int.reduceLT, Int.reduceLE, Int.reduceAdd, Int.reduceSub, Int.reduceMul, Int.reduceToNat, kem, ken, keo, kep, keq, ker, kes, ket, keu, kev, kew, kex, key, kez, kfa, kfb, kfc, kfd, kfe, kff, kfg, kfh, kfi, kfj, kfk, kfl, cutCells, kfm, kfn, kfo, kfp, kfq, kfr, kfs, kft, kfu, kfv, kfw, kfx, kfy, Nat.reduceAdd, Nat.reduceLeDiff, Nat.reduceLT, Nat.reduceMul, Nat.reduceSub, kfz, kga, kgb, kgc, kgd, kge, kgf, kgg, kgh, kgi, kgj, kgk, kgl, kgm, kgn, kgo, kgp, kgq, kgr, kgs, kgt, kgu, kgv, kgw, kgx, kgy, kgz, kha, khb, khc, khd]))
            rw [if_pos ⟨hf, hall⟩] at h
            exact h

end Go.Proofs.YtedemfmafdilmaaDoor.Ev

/- The document's way through a text: blanks and places. -/
namespace Go.Proofs.YtedemfmafdilmaaDoor.Ev
set_option maxRecDepth 100000
set_option linter.unusedSimpArgs false
set_option linter.unusedVariables false
variable {R : FRes → Heap → Prop} {H : Heap}

def pastI (l : List UInt8) (p : Nat × Nat) (H : Heap) : Nat → Env → Heap → Prop := fun n e H' =>
  ∃ i : Nat, i ≤ l.length ∧ n = l.length - i ∧ H' = H ++ [.row [.int .i64 (adv p (l.take i)).1, .int .i64 (adv p (l.take i)).2] 0 true, .row [.int .i64 0, .int .i64 0] 0 true] ∧
    (∃ x : Nat → Value, e = [x 0, .string (bs l), .pointer (some ⟨H.length, 0, none⟩), x 3, .pointer (some ⟨H.length + 1, 0, none⟩), .int .i64 i, x 6, x 7, x 8, x 9, x 10, x 11, x 12, x 13, x 14, x 15, x 16, x 17, x 18, x 19, x 20, x 21, x 22, x 23, x 24, x 25])

theorem past_s {p : Nat × Nat} {l : List UInt8} (h1 : p.1 ≤ 1000000) (h2 : p.2 ≤ 1000000) (hl : l.length ≤ 1000000) (h : R (.ret (.agg #[.int .i64 (adv p l).1, .int .i64 (adv p l).2])) H) :
    WD T 25 [.agg #[.int .i64 p.1, .int .i64 p.2], .string (bs l)] H R := by
  refine WD.gc0 (WD.of follows t25 (by simp) ?_)
  simp (disch := omega) only [kaa, kab, kac, kad, kae, kaf, kag, kah, kai, kaj, kak, kal, kam, kan, kao, khe, khf, khg, khh, khi, khj, khk, khl, kap, kaq, kar, kas, kat, kau, kav, kaw, kax, kay, kaz, kba, kbb, kbc, kbd, kbe, kbf, kbg, kbh, kbi, kbj, kbk, kbl, kbm, kbn, kbo, kbp, kbq, kbr, kbs, kbt, kbu, kbv, kbw, kbx, kby, kbz, kca, kcb, kcc, kcd, kce, kcf, kcg, kch, kci, kcj, kck, kcl, kcm, aop, kcn, kco, kcp, kcq, kcr, kcs, kct, kcu, kcv, kcw, resultsL, resultOf, kcx, Nat.reduceEqDiff, kcy, kcz, kda, reduceCtorEq, kdb, kdc, kdd, kde, kdf, kdg, kdh, kdi, kdj, kdk, kdl, kdm, kdn, kdo, eq1, kdp, kdq, kdr, kds, kdt, kdu, kdv, kdw, kdx, kdy, kdz, kea, keb, kec, apartOK, apart2, AObj.live, ked, kee, kef, keg, keh, kei, kej, kek, kel, Int.reduceEq, Int.reduceLT, Int.reduceLE, Int.reduceAdd, Int.reduceSub, Int.reduceMul, Int.reduceToNat, kem, ken, keo, kep, keq, ker, kes, ket, keu, kev, kew, kex, key, kez, kfa, kfb, kfc, kfd, kfe, kff, kfg, kfh, kfi, kfj, kfk, kfl, cutCells, kfm, kfn, kfo, kfp, kfq, kfr, kfs, kft, kfu, kfv, kfw, kfx, kfy, Nat.reduceAdd, Nat.reduceLeDiff, Nat.reduceLT, Nat.reduceMul, Nat.reduceSub, kfz, kga, kgb, kgc, kgd, kge, kgf, kgg, kgh, kgi, kgj, kgk, kgl, kgm, kgn, kgo, kgp, kgq, kgr, kgs, kgt, kgu, kgv, kgw, kgx, kgy, kgz, kha, khb, khc, khd]
  refine WLoop.inv (pastI l p H) ?_ l.length _ _ ⟨0, by omega, rfl, rfl, ex_env rfl⟩
  rintro n e H' ⟨i, k1, rfl, rfl, ⟨x, rfl⟩⟩
  have hb := adv_le (l.take i) p
  rw [List.length_take] at hb
  by_cases hi : i < l.length
  · have hi' : (i : Int) < l.length := by omega
    have hli : l[i]? = some l[i] := List.getElem?_eq_getElem hi
    have htake : l.take (i + 1) = l.take i ++ [l[i]] := by rw [List.take_add_one, hli]; rfl
    simp (disch := omega) only [kaa, kab, kac, kad, kae, kaf, kag, kah, kai, kaj, kak, kal, kam, kan, kao, khe, khf, khg, khh, khi, khj, khk, khl, kap, kaq, kar, kas, kat, kau, kav, kaw, kax, kay, kaz, kba, kbb, kbc, kbd, kbe, kbf, kbg, kbh, kbi, kbj, kbk, kbl, kbm, kbn, kbo, kbp, kbq, kbr, kbs, kbt, kbu, kbv, kbw, kbx, kby, kbz, kca, kcb, kcc, kcd, kce, kcf, kcg, kch, kci, kcj, kck, kcl, kcm, aop, kcn, kco, kcp, kcq, kcr, kcs, kct, kcu, kcv, kcw, resultsL, resultOf, kcx, Nat.reduceEqDiff, kcy, kcz, kda, reduceCtorEq, kdb, kdc, kdd, kde, kdf, kdg, kdh, kdi, kdj, kdk, kdl, kdm, kdn, kdo, eq1, kdp, kdq, kdr, kds, kdt, kdu, kdv, kdw, kdx, kdy, kdz, kea, keb, kec, apartOK, apart2, AObj.live, ked, kee, kef, keg, keh, kei, kej, kek, kel, Int.reduceEq, Int.reduceLT, Int.reduceLE, Int.reduceAdd, Int.reduceSub, Int.reduceMul, Int.reduceToNat, kem, ken, keo, kep, keq, ker, kes, ket, keu, kev, kew, kex, key, kez, kfa, kfb, kfc, kfd, kfe, kff, kfg, kfh, kfi, kfj, kfk, kfl, cutCells, kfm, kfn, kfo, kfp, kfq, kfr, kfs, kft, kfu, kfv, kfw, kfx, kfy, Nat.reduceAdd, Nat.reduceLeDiff, Nat.reduceLT, Nat.reduceMul, Nat.reduceSub, kfz, kga, kgb, kgc, kgd, kge, kgf, kgg, kgh, kgi, kgj, kgk, kgl, kgm, kgn, kgo, kgp, kgq, kgr, kgs, kgt, kgu, kgv, kgw, kgx, kgy, kgz, kha, khb, khc, khd, hi', hli, wr_i64, nadd1]
    by_cases hc : (l[i].toNat : Int) = 10
    · simp (disch := omega) only [kaa, kab, kac, kad, kae, kaf, kag, kah, kai, kaj, kak, kal, kam, kan, kao, khe, khf, khg, khh, khi, khj, khk, khl, kap, kaq, kar, kas, kat, kau, kav, kaw, kax, kay, kaz, kba, kbb, kbc, kbd, kbe, kbf, kbg, kbh, kbi, kbj, kbk, kbl, kbm, kbn, kbo, kbp, kbq, kbr, kbs, kbt, kbu, kbv, kbw, kbx, kby, kbz, kca, kcb, kcc, kcd, kce, kcf, kcg, kch, kci, kcj, kck, kcl, kcm, aop, kcn, kco, kcp, kcq, kcr, kcs, kct, kcu, kcv, kcw, resultsL, resultOf, kcx, Nat.reduceEqDiff, kcy, kcz, kda, reduceCtorEq, kdb, kdc, kdd, kde, kdf, kdg, kdh, kdi, kdj, kdk, kdl, kdm, kdn, kdo, eq1, kdp, kdq, kdr, kds, kdt, kdu, kdv, kdw, kdx, kdy, kdz, kea, keb, kec, apartOK, apart2, AObj.live, ked, kee, kef, keg, keh, kei, kej, kek, kel, Int.reduceEq, Int.reduceLT, Int.reduceLE, Int.reduceAdd, Int.reduceSub, Int.reduceMul, Int.reduceToNat, kem, ken, keo, kep, keq, ker, kes, ket, keu, kev, kew, kex, key, kez, kfa, kfb, kfc, kfd, kfe, kff, kfg, kfh, kfi, kfj, kfk, kfl, cutCells, kfm, kfn, kfo, kfp, kfq, kfr, kfs, kft, kfu, kfv, kfw, kfx, kfy, Nat.reduceAdd, Nat.reduceLeDiff, Nat.reduceLT, Nat.reduceMul, Nat.reduceSub, kfz, kga, kgb, kgc, kgd, kge, kgf, kgg, kgh, kgi, kgj, kgk, kgl, kgm, kgn, kgo, kgp, kgq, kgr, kgs, kgt, kgu, kgv, kgw, kgx, kgy, kgz, kha, khb, khc, khd, hc, wr_i64, nadd1]
      refine ⟨l.length - (i + 1), by omega, i + 1, by omega, rfl, ?_, ex_env rfl⟩
      rw [htake, adv_append]
      simp only [adv, show l[i].toNat = 10 by omega, if_true]
      rfl
    · simp (disch := omega) only [kaa, kab, kac, kad, kae, kaf, kag, kah, kai, kaj, kak, kal, kam, kan, kao, khe, khf, khg, khh, khi, khj, khk, khl, kap, kaq, kar, kas, kat, kau, kav, kaw, kax, kay, kaz, kba, kbb, kbc, kbd, kbe, kbf, kbg, kbh, kbi, kbj, kbk, kbl, kbm, kbn, kbo, kbp, kbq, kbr, kbs, kbt, kbu, kbv, kbw, kbx, kby, kbz, kca, kcb, kcc, kcd, kce, kcf, kcg, kch, kci, kcj, kck, kcl, kcm, aop, kcn, kco, kcp, kcq, kcr, kcs, kct, kcu, kcv, kcw, resultsL, resultOf, kcx, Nat.reduceEqDiff, kcy, kcz, kda, reduceCtorEq, kdb, kdc, kdd, kde, kdf, kdg, kdh, kdi, kdj, kdk, kdl, kdm, kdn, kdo, eq1, kdp, kdq, kdr, kds, kdt, kdu, kdv, kdw, kdx, kdy, kdz, kea, keb, kec, apartOK, apart2, AObj.live, ked, kee, kef, keg, keh, kei, kej, kek, kel, Int.reduceEq, Int.reduceLT, Int.reduceLE, Int.reduceAdd, Int.reduceSub, Int.reduceMul, Int.reduceToNat, kem, ken, keo, kep, keq, ker, kes, ket, keu, kev, kew, kex, key, kez, kfa, kfb, kfc, kfd, kfe, kff, kfg, kfh, kfi, kfj, kfk, kfl, cutCells, kfm, kfn, kfo, kfp, kfq, kfr, kfs, kft, kfu, kfv, kfw, kfx, kfy, Nat.reduceAdd, Nat.reduceLeDiff, Nat.reduceLT, Nat.reduceMul, Nat.reduceSub, kfz, kga, kgb, kgc, kgd, kge, kgf, kgg, kgh, kgi, kgj, kgk, kgl, kgm, kgn, kgo, kgp, kgq, kgr, kgs, kgt, kgu, kgv, kgw, kgx, kgy, kgz, kha, khb, khc, khd, hc, wr_i64, nadd1]
      refine ⟨l.length - (i + 1), by omega, i + 1, by omega, rfl, ?_, ex_env rfl⟩
      rw [htake, adv_append]
      simp only [adv, show ¬ l[i].toNat = 10 by omega, if_false]
  · have hi' : ¬ (i : Int) < l.length := by omega
    obtain rfl : i = l.length := by omega
    rw [List.take_length]
    simp (disch := omega) only [kaa, kab, kac, kad, kae, kaf, kag, kah, kai, kaj, kak, kal, kam, kan, kao, khe, khf, khg, khh, khi, khj, khk, khl, kap, kaq, kar, kas, kat, kau, kav, kaw, kax, kay, kaz, kba, kbb, kbc, kbd, kbe, kbf, kbg, kbh, kbi, kbj, kbk, kbl, kbm, kbn, kbo, kbp, kbq, kbr, kbs, kbt, kbu, kbv, kbw, kbx, kby, kbz, kca, kcb, kcc, kcd, kce, kcf, kcg, kch, kci, kcj, kck, kcl, kcm, aop, kcn, kco, kcp, kcq, kcr, kcs, kct, kcu, kcv, kcw, resultsL, resultOf, kcx, Nat.reduceEqDiff, kcy, kcz, kda, reduceCtorEq, kdb, kdc, kdd, kde, kdf, kdg, kdh, kdi, kdj, kdk, kdl, kdm, kdn, kdo, eq1, kdp, kdq, kdr, kds, kdt, kdu, kdv, kdw, kdx, kdy, kdz, kea, keb, kec, apartOK, apart2, AObj.live, ked, kee, kef, keg, keh, kei, kej, kek, kel, Int.reduceEq, Int.reduceLT, Int.reduceLE, Int.reduceAdd, Int.reduceSub, Int.reduceMul, Int.reduceToNat, kem, ken, keo, kep, keq, ker, kes, ket, keu, kev, kew, kex, key, kez, kfa, kfb, kfc, kfd, kfe, kff, kfg, kfh, kfi, kfj, kfk, kfl, cutCells, kfm, kfn, kfo, kfp, kfq, kfr, kfs, kft, kfu, kfv, kfw, kfx, kfy, Nat.reduceAdd, Nat.reduceLeDiff, Nat.reduceLT, Nat.reduceMul, Nat.reduceSub, kfz, kga, kgb, kgc, kgd, kge, kgf, kgg, kgh, kgi, kgj, kgk, kgl, kgm, kgn, kgo, kgp, kgq, kgr, kgs, kgt, kgu, kgv, kgw, kgx, kgy, kgz, kha, khb, khc, khd, hi']
    exact ⟨_, rfl, ⟨_, rfl⟩, .agg (l := [_, _]) (by intro v hv; simp at hv; rcases hv with rfl | rfl <;> exact .int), h⟩

theorem blankN_q (b : UInt8) : blankN b.toNat = blankQ b := by
  simp only [blankN, blankQ, isBlankB]
  congr 1
  · congr 1
    · congr 1 <;> (rw [Bool.eq_iff_iff]; simp; omega)
    · rw [Bool.eq_iff_iff]; simp; omega
  · rw [Bool.eq_iff_iff]; simp; omega

def skipI2 (l : List UInt8) (pos : Nat) (H : Heap) : Nat → Env → Heap → Prop := fun n e H' =>
  ∃ (j : Nat) (r : Bool), pos + j ≤ l.length ∧ n = l.length - (pos + j) ∧ H' = H ∧ skN false (l.drop pos) = j + skN r (l.drop (pos + j)) ∧
    (∃ x : Nat → Value, e = [.string (bs l), .int .i64 ((pos + j : Nat) : Int), x 2, x 3, x 4, .bool r, x 6, x 7, x 8, x 9, x 10, x 11, x 12, x 13, x 14, x 15, x 16, x 17, x 18, x 19, x 20, x 21, x 22, x 23, x 24, x 25, x 26, x 27, x 28, x 29, x 30, x 31, x 32])

theorem skipped_s {l : List UInt8} {pos : Nat} (hH : On0 H) (hp : pos ≤ l.length) (hl : l.length ≤ 1000000) (h : R (.ret (.int .i64 ((pos + skN false (l.drop pos) : Nat) : Int))) H) :
    WD T 24 [.string (bs l), .int .i64 pos] H R := by
  refine WD.of follows t24 (by simp) ?_
  simp (disch := omega) only [kaa, kab, kac, kad, kae, kaf, kag, kah, kai, kaj, kak, kal, kam, kan, kao, khe, khf, khg, khh, khi, khj, khk, khl, kap, kaq, kar, kas, kat, kau, kav, kaw, kax, kay, kaz, kba, kbb, kbc, kbd, kbe, kbf, kbg, kbh, kbi, kbj, kbk, kbl, kbm, kbn, kbo, kbp, kbq, kbr, kbs, kbt, kbu, kbv, kbw, kbx, kby, kbz, kca, kcb, kcc, kcd, kce, kcf, kcg, kch, kci, kcj, kck, kcl, kcm, aop, kcn, kco, kcp, kcq, kcr, kcs, kct, kcu, kcv, kcw, resultsL, resultOf, kcx, Nat.reduceEqDiff, kcy, kcz, kda, reduceCtorEq, kdb, kdc, kdd, kde, kdf, kdg, kdh, kdi, kdj, kdk, kdl, kdm, kdn, kdo, eq1, kdp, kdq, kdr, kds, kdt, kdu, kdv, kdw, kdx, kdy, kdz, kea, keb, kec, apartOK, apart2, AObj.live, ked, kee, kef, keg, keh, kei, kej, kek, kel, Int.reduceEq, Int.reduceLT, Int.reduceLE, Int.reduceAdd, Int.reduceSub, Int.reduceMul, Int.reduceToNat, kem, ken, keo, kep, keq, ker, kes, ket, keu, kev, kew, kex, key, kez, kfa, kfb, kfc, kfd, kfe, kff, kfg, kfh, kfi, kfj, kfk, kfl, cutCells, kfm, kfn, kfo, kfp, kfq, kfr, kfs, kft, kfu, kfv, kfw, kfx, kfy, Nat.reduceAdd, Nat.reduceLeDiff, Nat.reduceLT, Nat.reduceMul, Nat.reduceSub, kfz, kga, kgb, kgc, kgd, kge, kgf, kgg, kgh, kgi, kgj, kgk, kgl, kgm, kgn, kgo, kgp, kgq, kgr, kgs, kgt, kgu, kgv, kgw, kgx, kgy, kgz, kha, khb, khc, khd]
  refine WLoop.inv (skipI2 l pos H) ?_ (l.length - pos) _ _ ⟨0, false, by omega, rfl, rfl, by simp, ex_env rfl⟩
  rintro n e H' ⟨j, r, k1, rfl, rfl, k3, ⟨x, rfl⟩⟩
  by_cases hi : pos + j < l.length
  · have hi' : ((pos + j : Nat) : Int) < l.length := by omega
    have hli : l[pos + j]? = some l[pos + j] := List.getElem?_eq_getElem hi
    have hd : l.drop (pos + j) = l[pos + j] :: l.drop (pos + j + 1) := List.drop_eq_getElem_cons hi
    have h256 := l[pos + j].toNat_lt
    rw [hd] at k3
    simp (disch := omega) only [kaa, kab, kac, kad, kae, kaf, kag, kah, kai, kaj, kak, kal, kam, kan, kao, khe, khf, khg, khh, khi, khj, khk, khl, kap, kaq, kar, kas, kat, kau, kav, kaw, kax, kay, kaz, kba, kbb, kbc, kbd, kbe, kbf, kbg, kbh, kbi, kbj, kbk, kbl, kbm, kbn, kbo, kbp, kbq, kbr, kbs, kbt, kbu, kbv, kbw, kbx, kby, kbz, kca, kcb, kcc, kcd, kce, kcf, kcg, kch, kci, kcj, kck, kcl, kcm, aop, kcn, kco, kcp, kcq, kcr, kcs, kct, kcu, kcv, kcw, resultsL, resultOf, kcx, Nat.reduceEqDiff, kcy, kcz, kda, reduceCtorEq, kdb, kdc, kdd, kde, kdf, kdg, kdh, kdi, kdj, kdk, kdl, kdm, kdn, kdo, eq1, kdp, kdq, kdr, kds, kdt, kdu, kdv, kdw, kdx, kdy, kdz, kea, keb, kec, apartOK, apart2, AObj.live, ked, kee, kef, keg, keh, kei, kej, kek, kel, Int.reduceEq, Int.reduceLT, Int.reduceLE, Int.reduceAdd, Int.reduceSub, Int.reduceMul, Int.reduceToNat, kem, ken, keo, kep, keq, ker, kes, ket, keu, kev, kew, kex, key, kez, kfa, kfb, kfc, kfd, kfe, kff, kfg, kfh, kfi, kfj, kfk, kfl, cutCells, kfm, kfn, kfo, kfp, kfq, kfr, kfs, kft, kfu, kfv, kfw, kfx, kfy, Nat.reduceAdd, Nat.reduceLeDiff, Nat.reduceLT, Nat.reduceMul, Nat.reduceSub, kfz, kga, kgb, kgc, kgd, kge, kgf, kgg, kgh, kgi, kgj, kgk, kgl, kgm, kgn, kgo, kgp, kgq, kgr, kgs, kgt, kgu, kgv, kgw, kgx, kgy, kgz, kha, khb, khc, khd, hi', hli]
    (repeat ((first | refine rblank_s hH ?_); try simp (disch := omega) only [kaa, kab, kac, kad, kae, kaf, kag, kah, kai, kaj, kak, kal, kam, kan, kao, khe, khf, khg, khh, khi, khj, khk, khl, kap, kaq, kar, kas, kat, kau, kav, kaw, kax, kay, kaz, kba, kbb, kbc, kbd, kbe, kbf, kbg, kbh, kbi, kbj, kbk, kbl, kbm, kbn, kbo, kbp, kbq, kbr, kbs, kbt, kbu, kbv, kbw, kbx, kby, kbz, kca, kcb, kcc, kcd, kce, kcf, kcg, kch, kci, kcj, kck, kcl, kcm, aop, kcn, kco, kcp, kcq, kcr, kcs, kct, kcu, kcv, kcw, resultsL, resultOf, kcx, Nat.reduceEqDiff, kcy, kcz, kda, reduceCtorEq, kdb, kdc, kdd, kde, kdf, kdg, kdh, kdi, kdj, kdk, kdl, kdm, kdn, kdo, eq1, kdp, kdq, kdr, kds, kdt, kdu, kdv, kdw, kdx, kdy, kdz, kea, keb, kec, apartOK, apart2, AObj.live, ked, kee, kef, keg, keh, kei, kej, kek, kel, Int.reduceEq, Int.reduceLT, Int.reduceLE, Int.reduceAdd, Int.reduceSub, Int.reduceMul, Int.reduceToNat, kem, ken, keo, kep, keq, ker, kes, ket, keu, kev, kew, kex, key, kez, kfa, kfb, kfc, kfd, kfe, kff, kfg, kfh, kfi, kfj, kfk, kfl, cutCells, kfm, kfn, kfo, kfp, kfq, kfr, kfs, kft, kfu, kfv, kfw, kfx, kfy, Nat.reduceAdd, Nat.reduceLeDiff, Nat.reduceLT, Nat.reduceMul, Nat.reduceSub, kfz, kga, kgb, kgc, kgd, kge, kgf, kgg, kgh, kgi, kgj, kgk, kgl, kgm, kgn, kgo, kgp, kgq, kgr, kgs, kgt, kgu, kgv, kgw, kgx, kgy, kgz, kha, khb, khc, khd, hli, blankN_q]))
    cases r with
    | true =>
      simp (disch := omega) only [kaa, kab, kac, kad, kae, kaf, kag, kah, kai, kaj, kak, kal, kam, kan, kao, khe, khf, khg, khh, khi, khj, khk, khl, kap, kaq, kar, kas, kat, kau, kav, kaw, kax, kay, kaz, kba, kbb, kbc, kbd, kbe, kbf, kbg, kbh, kbi, kbj, kbk, kbl, kbm, kbn, kbo, kbp, kbq, kbr, kbs, kbt, kbu, kbv, kbw, kbx, kby, kbz, kca, kcb, kcc, kcd, kce, kcf, kcg, kch, kci, kcj, kck, kcl, kcm, aop, kcn, kco, kcp, kcq, kcr, kcs, kct, kcu, kcv, kcw, resultsL, resultOf, kcx, Nat.reduceEqDiff, kcy, kcz, kda, reduceCtorEq, kdb, kdc, kdd, kde, kdf, kdg, kdh, kdi, kdj, kdk, kdl, kdm, kdn, kdo, eq1, kdp, kdq, kdr, kds, kdt, kdu, kdv, kdw, kdx, kdy, kdz, kea, keb, kec, apartOK, apart2, AObj.live, ked, kee, kef, keg, keh, kei, kej, kek, kel, Int.reduceEq, Int.reduceLT, Int.reduceLE, Int.reduceAdd, Int.reduceSub, Int.reduceMul, Int.reduceToNat, kem, ken, keo, kep, keq, ker, kes, ket, keu, kev, kew, kex, key, kez, kfa, kfb, kfc, kfd, kfe, kff, kfg, kfh, kfi, kfj, kfk, kfl, cutCells, kfm, kfn, kfo, kfp, kfq, kfr, kfs, kft, kfu, kfv, kfw, kfx, kfy, Nat.reduceAdd, Nat.reduceLeDiff, Nat.reduceLT, Nat.reduceMul, Nat.reduceSub, kfz, kga, kgb, kgc, kgd, kge, kgf, kgg, kgh, kgi, kgj, kgk, kgl, kgm, kgn, kgo, kgp, kgq, kgr, kgs, kgt, kgu, kgv, kgw, kgx, kgy, kgz, kha, khb, khc, khd, hli, wr_i64, nadd1]
      simp only [skN] at k3
      refine ⟨l.length - (pos + (j + 1)), by omega, j + 1, !(l[pos + j].toNat == 10), by omega, rfl, rfl, by rw [← Nat.add_assoc]; omega, ?_⟩
      have e : (l[pos + j].toNat == 10) = decide (((l[pos + j].toNat : Nat) : Int) = 10) := by rw [Bool.eq_iff_iff]; simp; omega
      rw [e]
      exact ex_env rfl
    | false =>
      by_cases h35 : (l[pos + j].toNat : Int) = 35
      · have h35' : l[pos + j].toNat = 35 := by omega
        simp only [skN, h35', if_true] at k3
        simp (disch := omega) only [kaa, kab, kac, kad, kae, kaf, kag, kah, kai, kaj, kak, kal, kam, kan, kao, khe, khf, khg, khh, khi, khj, khk, khl, kap, kaq, kar, kas, kat, kau, kav, kaw, kax, kay, kaz, kba, kbb, kbc, kbd, kbe, kbf, kbg, kbh, kbi, kbj, kbk, kbl, kbm, kbn, kbo, kbp, kbq, kbr, kbs, kbt, kbu, kbv, kbw, kbx, kby, kbz, kca, kcb, kcc, kcd, kce, kcf, kcg, kch, kci, kcj, kck, kcl, kcm, aop, kcn, kco, kcp, kcq, kcr, kcs, kct, kcu, kcv, kcw, resultsL, resultOf, kcx, Nat.reduceEqDiff, kcy, kcz, kda, reduceCtorEq, kdb, kdc, kdd, kde, kdf, kdg, kdh, kdi, kdj, kdk, kdl, kdm, kdn, kdo, eq1, kdp, kdq, kdr, kds, kdt, kdu, kdv, kdw, kdx, kdy, kdz, kea, keb, kec, apartOK, apart2, AObj.live, ked, kee, kef, keg, keh, kei, kej, kek, kel, Int.reduceEq, Int.reduceLT, Int.reduceLE, Int.reduceAdd, Int.reduceSub, Int.reduceMul, Int.reduceToNat, kem, ken, keo, kep, keq, ker, kes, ket, keu, kev, kew, kex, key, kez, kfa, kfb, kfc, kfd, kfe, kff, kfg, kfh, kfi, kfj, kfk, kfl, cutCells, kfm, kfn, kfo, kfp, kfq, kfr, kfs, kft, kfu, kfv, kfw, kfx, kfy, Nat.reduceAdd, Nat.reduceLeDiff, Nat.reduceLT, Nat.reduceMul, Nat.reduceSub, kfz, kga, kgb, kgc, kgd, kge, kgf, kgg, kgh, kgi, kgj, kgk, kgl, kgm, kgn, kgo, kgp, kgq, kgr, kgs, kgt, kgu, kgv, kgw, kgx, kgy, kgz, kha, khb, khc, khd, hli, h35, wr_i64, nadd1]
        exact ⟨l.length - (pos + (j + 1)), by omega, j + 1, true, by omega, rfl, rfl, by rw [← Nat.add_assoc]; omega, ex_env rfl⟩
      · have h35' : ¬ l[pos + j].toNat = 35 := by omega
        by_cases hb : blankQ l[pos + j] = true
        · simp only [skN, h35', if_false, hb, if_true] at k3
          simp (disch := omega) only [kaa, kab, kac, kad, kae, kaf, kag, kah, kai, kaj, kak, kal, kam, kan, kao, khe, khf, khg, khh, khi, khj, khk, khl, kap, kaq, kar, kas, kat, kau, kav, kaw, kax, kay, kaz, kba, kbb, kbc, kbd, kbe, kbf, kbg, kbh, kbi, kbj, kbk, kbl, kbm, kbn, kbo, kbp, kbq, kbr, kbs, kbt, kbu, kbv, kbw, kbx, kby, kbz, kca, kcb, kcc, kcd, kce, kcf, kcg, kch, kci, kcj, kck, kcl, kcm, aop, kcn, kco, kcp, kcq, kcr, kcs, kct, kcu, kcv, kcw, resultsL, resultOf, kcx, Nat.reduceEqDiff, kcy, kcz, kda, reduceCtorEq, kdb, kdc, kdd, kde, kdf, kdg, kdh, kdi, kdj, kdk, kdl, kdm, kdn, kdo, eq1, kdp, kdq, kdr, kds, kdt, kdu, kdv, kdw, kdx, kdy, kdz, kea, keb, kec, apartOK, apart2, AObj.live, ked, kee, kef, keg, keh, kei, kej, kek, kel, Int.reduceEq, Int.reduceLT, Int.reduceLE, Int.reduceAdd, Int.reduceSub, Int.reduceMul, Int.reduceToNat, kem, ken, keo, kep, keq, ker, kes, ket, keu, kev, kew, kex, key, kez, kfa, kfb, kfc, kfd, kfe, kff, kfg, kfh, kfi, kfj, kfk, kfl, cutCells, kfm, kfn, kfo, kfp, kfq, kfr, kfs, kft, kfu, kfv, kfw, kfx, kfy, Nat.reduceAdd, Nat.reduceLeDiff, Nat.reduceLT, Nat.reduceMul, Nat.reduceSub, kfz, kga, kgb, kgc, kgd, kge, kgf, kgg, kgh, kgi, kgj, kgk, kgl, kgm, kgn, kgo, kgp, kgq, kgr, kgs, kgt, kgu, kgv, kgw, kgx, kgy, kgz, kha, khb, khc, khd, hli, h35, hb, wr_i64, nadd1]
          exact ⟨l.length - (pos + (j + 1)), by omega, j + 1, false, by omega, rfl, rfl, by rw [← Nat.add_assoc]; omega, ex_env rfl⟩
        · have hb' : blankQ l[pos + j] = false := by simpa using hb
          simp only [skN, h35', if_false, hb', Bool.false_eq_true] at k3
          simp (disch := omega) only [kaa, kab, kac, kad, kae, kaf, kag, kah, kai, kaj, kak, kal, kam, kan, kao, khe, khf, khg, khh, khi, khj, khk, khl, kap, kaq, kar, kas, kat, kau, kav, kaw, kax, kay, kaz, kba, kbb, kbc, kbd, kbe, kbf, kbg, kbh, kbi, kbj, kbk, kbl, kbm, kbn, kbo, kbp, kbq, kbr, kbs, kbt, kbu, kbv, kbw, kbx, kby, kbz, kca, kcb, kcc, kcd, kce, kcf, kcg, kch, kci, kcj, kck, kcl, kcm, aop, kcn, kco, kcp, kcq, kcr, kcs, kct, kcu, kcv, kcw, resultsL, resultOf, kcx, Nat.reduceEqDiff, kcy, kcz, kda, reduceCtorEq, kdb, kdc, kdd, kde, kdf, kdg, kdh, kdi, kdj, kdk, kdl, kdm, kdn, kdo, eq1, kdp, kdq, kdr, kds, kdt, kdu, kdv, kdw, kdx, kdy, kdz, kea, keb, kec, apartOK, apart2, AObj.live, ked, kee, kef, keg, keh, kei, kej, kek, kel, Int.reduceEq, Int.reduceLT, Int.reduceLE, Int.reduceAdd, Int.reduceSub, Int.reduceMul, Int.reduceToNat, kem, ken, keo, kep, keq, ker, kes, ket, keu, kev, kew, kex, key, kez, kfa, kfb, kfc, kfd, kfe, kff, kfg, kfh, kfi, kfj, kfk, kfl, cutCells, kfm, kfn, kfo, kfp, kfq, kfr, kfs, kft, kfu, kfv, kfw, kfx, kfy, Nat.reduceAdd, Nat.reduceLeDiff, Nat.reduceLT, Nat.reduceMul, Nat.reduceSub, kfz, kga, kgb, kgc, kgd, kge, kgf, kgg, kgh, kgi, kgj, kgk, kgl, kgm, kgn, kgo, kgp, kgq, kgr, kgs, kgt, kgu, kgv, kgw, kgx, kgy, kgz, kha, khb, khc, khd, hli, h35, hb', wr_i64, nadd1]
          rw [k3] at h
          exact h
  · have hi' : ¬ ((pos + j : Nat) : Int) < l.length := by omega
    have hz : skN r (l.drop (pos + j)) = 0 := by
      rw [List.drop_eq_nil_iff.2 (by omega)]
      cases r <;> rfl
    simp (disch := omega) only [kaa, kab, kac, kad, kae, kaf, kag, kah, kai, kaj, kak, kal, kam, kan, kao, khe, khf, khg, khh, khi, khj, khk, khl, kap, kaq, kar, kas, kat, kau, kav, kaw, kax, kay, kaz, kba, kbb, kbc, kbd, kbe, kbf, kbg, kbh, kbi, kbj, kbk, kbl, kbm, kbn, kbo, kbp, kbq, kbr, kbs, kbt, kbu, kbv, kbw, kbx, kby, kbz, kca, kcb, kcc, kcd, kce, kcf, kcg, kch, kci, kcj, kck, kcl, kcm, aop, kcn, kco, kcp, kcq, kcr, kcs, kct, kcu, kcv, kcw, resultsL, resultOf, kcx, Nat.reduceEqDiff, kcy, kcz, kda, reduceCtorEq, kdb, kdc, kdd, kde, kdf, kdg, kdh, kdi, kdj, kdk, kdl, kdm, kdn, kdo, eq1, kdp, kdq, kdr, kds, kdt, kdu, kdv, kdw, kdx, kdy, kdz, kea, keb, kec, apartOK, apart2, AObj.live, ked, kee, kef, keg, keh, kei, kej, kek, kel, Int.reduceEq, Int.reduceLT, Int.reduceLE, Int.reduceAdd, Int.reduceSub, Int.reduceMul, Int.reduceToNat, kem, ken, keo, kep, keq, ker, kes, ket, keu, kev, kew, kex, key, kez, kfa, kfb, kfc, kfd, kfe, kff, kfg, kfh, kfi, kfj, kfk, kfl, cutCells, kfm, kfn, kfo, kfp, kfq, kfr, kfs, kft, kfu, kfv, kfw, kfx, kfy, Nat.reduceAdd, Nat.reduceLeDiff, Nat.reduceLT, Nat.reduceMul, Nat.reduceSub, kfz, kga, kgb, kgc, kgd, kge, kgf, kgg, kgh, kgi, kgj, kgk, kgl, kgm, kgn, kgo, kgp, kgq, kgr, kgs, kgt, kgu, kgv, kgw, kgx, kgy, kgz, kha, khb, khc, khd, hi']
    rw [k3, hz] at h
    exact h

end Go.Proofs.YtedemfmafdilmaaDoor.Ev

/- The document's signs. -/
namespace Go.Proofs.YtedemfmafdilmaaDoor.Ev
set_option maxRecDepth 100000
set_option linter.unusedSimpArgs false
set_option linter.unusedVariables false
variable {R : FRes → Heap → Prop} {H : Heap}

theorem signs_lit : signsL = [[61, 61], [33, 61], [60, 61], [123], [125], [40], [41], [59], [58], [44], [46], [61], [60], [43], [45], [38], [124], [94]] := by kernel_rfl

def isSgn (c : UInt8) : Bool := [123, 125, 40, 41, 59, 58, 44, 46, 61, 60, 43, 45, 38, 124, 94].contains c

theorem signN_two {rest : List UInt8} (h : rest.take 2 = [61, 61] ∨ rest.take 2 = [33, 61] ∨ rest.take 2 = [60, 61]) : signN rest = 2 := by
  match rest, h with
  | [], h => simp at h
  | [c], h => simp at h
  | c :: d :: t, h =>
    simp only [List.take_succ_cons, List.take_zero, List.cons.injEq, and_true] at h
    rcases h with ⟨rfl, rfl⟩ | ⟨rfl, rfl⟩ | ⟨rfl, rfl⟩ <;> simp [signN, signs_lit, List.find?_cons]

theorem signN_one {c : UInt8} {t : List UInt8} (h : ¬ ((c :: t).take 2 = [61, 61] ∨ (c :: t).take 2 = [33, 61] ∨ (c :: t).take 2 = [60, 61])) : signN (c :: t) = if isSgn c = true then 1 else 0 := by
  have h1 : [61, 61].isPrefixOf (c :: t) = false := by
    rw [Bool.eq_false_iff]; intro q
    exact h (.inl (List.prefix_iff_eq_take.1 (List.isPrefixOf_iff_prefix.1 q)).symm)
  have h2 : [33, 61].isPrefixOf (c :: t) = false := by
    rw [Bool.eq_false_iff]; intro q
    exact h (.inr (.inl (List.prefix_iff_eq_take.1 (List.isPrefixOf_iff_prefix.1 q)).symm))
  have h3 : [60, 61].isPrefixOf (c :: t) = false := by
    rw [Bool.eq_false_iff]; intro q
    exact h (.inr (.inr (List.prefix_iff_eq_take.1 (List.isPrefixOf_iff_prefix.1 q)).symm))
  have one : ∀ x : UInt8, [x].isPrefixOf (c :: t) = (x == c) := fun x => by cases t <;> simp [List.isPrefixOf]
  unfold signN
  simp only [signs_lit, List.find?_cons, h1, h2, h3, one]
  by_cases e123 : c = 123
  · subst e123; rfl
  have f123 : ((123 : UInt8) == c) = false := by simpa using fun q => e123 q.symm
  by_cases e125 : c = 125
  · subst e125; rfl
  have f125 : ((125 : UInt8) == c) = false := by simpa using fun q => e125 q.symm
  by_cases e40 : c = 40
  · subst e40; rfl
  have f40 : ((40 : UInt8) == c) = false := by simpa using fun q => e40 q.symm
  by_cases e41 : c = 41
  · subst e41; rfl
  have f41 : ((41 : UInt8) == c) = false := by simpa using fun q => e41 q.symm
  by_cases e59 : c = 59
  · subst e59; rfl
  have f59 : ((59 : UInt8) == c) = false := by simpa using fun q => e59 q.symm
  by_cases e58 : c = 58
  · subst e58; rfl
  have f58 : ((58 : UInt8) == c) = false := by simpa using fun q => e58 q.symm
  by_cases e44 : c = 44
  · subst e44; rfl
  have f44 : ((44 : UInt8) == c) = false := by simpa using fun q => e44 q.symm
  by_cases e46 : c = 46
  · subst e46; rfl
  have f46 : ((46 : UInt8) == c) = false := by simpa using fun q => e46 q.symm
  by_cases e61 : c = 61
  · subst e61; rfl
  have f61 : ((61 : UInt8) == c) = false := by simpa using fun q => e61 q.symm
  by_cases e60 : c = 60
  · subst e60; rfl
  have f60 : ((60 : UInt8) == c) = false := by simpa using fun q => e60 q.symm
  by_cases e43 : c = 43
  · subst e43; rfl
  have f43 : ((43 : UInt8) == c) = false := by simpa using fun q => e43 q.symm
  by_cases e45 : c = 45
  · subst e45; rfl
  have f45 : ((45 : UInt8) == c) = false := by simpa using fun q => e45 q.symm
  by_cases e38 : c = 38
  · subst e38; rfl
  have f38 : ((38 : UInt8) == c) = false := by simpa using fun q => e38 q.symm
  by_cases e124 : c = 124
  · subst e124; rfl
  have f124 : ((124 : UInt8) == c) = false := by simpa using fun q => e124 q.symm
  by_cases e94 : c = 94
  · subst e94; rfl
  have f94 : ((94 : UInt8) == c) = false := by simpa using fun q => e94 q.symm
  simp only [f123, f125, f40, f41, f59, f58, f44, f46, f61, f60, f43, f45, f38, f124, f94, List.find?_nil]
  have : isSgn c = false := by
    simp only [isSgn, Bool.eq_false_iff, ne_eq, List.contains_iff_mem, List.mem_cons, List.not_mem_nil, or_false]
    simp [e123, e125, e40, e41, e59, e58, e44, e46, e61, e60, e43, e45, e38, e124, e94]
  rw [this]; rfl

theorem rsign_s {l : List UInt8} {pos : Nat} (hp : pos < l.length) (hl : l.length ≤ 1000000) (h : R (.ret (.int .i64 ((signN (l.drop pos) : Nat) : Int))) H) :
    WD T 46 [.string (bs l), .int .i64 pos] H R := by
  refine WD.of follows t46 (by simp) ?_
  have hd : l.drop pos = l[pos] :: l.drop (pos + 1) := List.drop_eq_getElem_cons hp
  have hli : l[pos]? = some l[pos] := List.getElem?_eq_getElem hp
  have n2 : ((2 : Nat) : Int) = 2 := rfl
  have hadd : ((pos : Nat) : Int) + 2 = ((pos + 2 : Nat) : Int) := rfl
  simp (disch := omega) only [kaa, kab, kac, kad, kae, kaf, kag, kah, kai, kaj, kak, kal, kam, kan, kao, khe, khf, khg, khh, khi, khj, khk, khl, kap, kaq, kar, kas, kat, kau, kav, kaw, kax, kay, kaz, kba, kbb, kbc, kbd, kbe, kbf, kbg, kbh, kbi, kbj, kbk, kbl, kbm, kbn, kbo, kbp, kbq, kbr, kbs, kbt, kbu, kbv, kbw, kbx, kby, kbz, kca, kcb, kcc, kcd, kce, kcf, kcg, kch, kci, kcj, kck, kcl, kcm, aop, kcn, kco, kcp, kcq, kcr, kcs, kct, kcu, kcv, kcw, resultsL, resultOf, kcx, Nat.reduceEqDiff, kcy, kcz, kda, reduceCtorEq, kdb, kdc, kdd, kde, kdf, kdg, kdh, kdi, kdj, kdk, kdl, kdm, kdn, kdo, eq1, kdp, kdq, kdr, kds, kdt, kdu, kdv, kdw, kdx, kdy, kdz, kea, keb, kec, apartOK, apart2, AObj.live, ked, kee, kef, keg, keh, kei, kej, kek, kel, Int.reduceEq, Int.reduceLT, Int.reduceLE, Int.reduceAdd, Int.reduceSub, Int.reduceMul, Int.reduceToNat, kem, ken, keo, kep, keq, ker, kes, ket, keu, kev, kew, kex, key, kez, kfa, kfb, kfc, kfd, kfe, kff, kfg, kfh, kfi, kfj, kfk, kfl, cutCells, kfm, kfn, kfo, kfp, kfq, kfr, kfs, kft, kfu, kfv, kfw, kfx, kfy, Nat.reduceAdd, Nat.reduceLeDiff, Nat.reduceLT, Nat.reduceMul, Nat.reduceSub, kfz, kga, kgb, kgc, kgd, kge, kgf, kgg, kgh, kgi, kgj, kgk, kgl, kgm, kgn, kgo, kgp, kgq, kgr, kgs, kgt, kgu, kgv, kgw, kgx, kgy, kgz, kha, khb, khc, khd, wr_i64, nadd1]
  by_cases h2 : ((pos + 1 : Nat) : Int) < l.length
  · have hlen2 : 2 ≤ (l.drop pos).length := by rw [List.length_drop]; omega
    by_cases t1 : (l.drop pos).take 2 = [61, 61]
    · simp (disch := omega) only [kaa, kab, kac, kad, kae, kaf, kag, kah, kai, kaj, kak, kal, kam, kan, kao, khe, khf, khg, khh, khi, khj, khk, khl, kap, kaq, kar, kas, kat, kau, kav, kaw, kax, kay, kaz, kba, kbb, kbc, kbd, kbe, kbf, kbg, kbh, kbi, kbj, kbk, kbl, kbm, kbn, kbo, kbp, kbq, kbr, kbs, kbt, kbu, kbv, kbw, kbx, kby, kbz, kca, kcb, kcc, kcd, kce, kcf, kcg, kch, kci, kcj, kck, kcl, kcm, aop, kcn, kco, kcp, kcq, kcr, kcs, kct, kcu, kcv, kcw, resultsL, resultOf, kcx, Nat.reduceEqDiff, kcy, kcz, kda, reduceCtorEq, kdb, kdc, kdd, kde, kdf, kdg, kdh, kdi, kdj, kdk, kdl, kdm, kdn, kdo, eq1, kdp, kdq, kdr, kds, kdt, kdu, kdv, kdw, kdx, kdy, kdz, kea, keb, kec, apartOK, apart2, AObj.live, ked, kee, kef, keg, keh, kei, kej, kek, kel, Int.reduceEq, Int.reduceLT, Int.reduceLE, Int.reduceAdd, Int.reduceSub, Int.reduceMul, Int.reduceToNat, kem, ken, keo, kep, keq, ker, kes, ket, keu, kev, kew, kex, key, kez, kfa, kfb, kfc, kfd, kfe, kff, kfg, kfh, kfi, kfj, kfk, kfl, cutCells, kfm, kfn, kfo, kfp, kfq, kfr, kfs, kft, kfu, kfv, kfw, kfx, kfy, Nat.reduceAdd, Nat.reduceLeDiff, Nat.reduceLT, Nat.reduceMul, Nat.reduceSub, kfz, kga, kgb, kgc, kgd, kge, kgf, kgg, kgh, kgi, kgj, kgk, kgl, kgm, kgn, kgo, kgp, kgq, kgr, kgs, kgt, kgu, kgv, kgw, kgx, kgy, kgz, kha, khb, khc, khd, h2, wr_i64, hadd, take_drop_eq, t1]
      rw [signN_two (.inl t1)] at h
      exact h
    · by_cases t2 : (l.drop pos).take 2 = [33, 61]
      · simp (disch := omega) only [kaa, kab, kac, kad, kae, kaf, kag, kah, kai, kaj, kak, kal, kam, kan, kao, khe, khf, khg, khh, khi, khj, khk, khl, kap, kaq, kar, kas, kat, kau, kav, kaw, kax, kay, kaz, kba, kbb, kbc, kbd, kbe, kbf, kbg, kbh, kbi, kbj, kbk, kbl, kbm, kbn, kbo, kbp, kbq, kbr, kbs, kbt, kbu, kbv, kbw, kbx, kby, kbz, kca, kcb, kcc, kcd, kce, kcf, kcg, kch, kci, kcj, kck, kcl, kcm, aop, kcn, kco, kcp, kcq, kcr, kcs, kct, kcu, kcv, kcw, resultsL, resultOf, kcx, Nat.reduceEqDiff, kcy, kcz, kda, reduceCtorEq, kdb, kdc, kdd, kde, kdf, kdg, kdh, kdi, kdj, kdk, kdl, kdm, kdn, kdo, eq1, kdp, kdq, kdr, kds, kdt, kdu, kdv, kdw, kdx, kdy, kdz, kea, keb, kec, apartOK, apart2, AObj.live, ked, kee, kef, keg, keh, kei, kej, kek, kel, Int.reduceEq, Int.reduceLT, Int.reduceLE, Int.reduceAdd, Int.reduceSub, Int.reduceMul, Int.reduceToNat, kem, ken, keo, kep, keq, ker, kes, ket, keu, kev, kew, kex, key, kez, kfa, kfb, kfc, kfd, kfe, kff, kfg, kfh, kfi, kfj, kfk, kfl, cutCells, kfm, kfn, kfo, kfp, kfq, kfr, kfs, kft, kfu, kfv, kfw, kfx, kfy, Nat.reduceAdd, Nat.reduceLeDiff, Nat.reduceLT, Nat.reduceMul, Nat.reduceSub, kfz, kga, kgb, kgc, kgd, kge, kgf, kgg, kgh, kgi, kgj, kgk, kgl, kgm, kgn, kgo, kgp, kgq, kgr, kgs, kgt, kgu, kgv, kgw, kgx, kgy, kgz, kha, khb, khc, khd, h2, wr_i64, hadd, take_drop_eq, t2]
        rw [signN_two (.inr (.inl t2))] at h
        exact h
      · by_cases t3 : (l.drop pos).take 2 = [60, 61]
        · simp (disch := omega) only [kaa, kab, kac, kad, kae, kaf, kag, kah, kai, kaj, kak, kal, kam, kan, kao, khe, khf, khg, khh, khi, khj, khk, khl, kap, kaq, kar, kas, kat, kau, kav, kaw, kax, kay, kaz, kba, kbb, kbc, kbd, kbe, kbf, kbg, kbh, kbi, kbj, kbk, kbl, kbm, kbn, kbo, kbp, kbq, kbr, kbs, kbt, kbu, kbv, kbw, kbx, kby, kbz, kca, kcb, kcc, kcd, kce, kcf, kcg, kch, kci, kcj, kck, kcl, kcm, aop, kcn, kco, kcp, kcq, kcr, kcs, kct, kcu, kcv, kcw, resultsL, resultOf, kcx, Nat.reduceEqDiff, kcy, kcz, kda, reduceCtorEq, kdb, kdc, kdd, kde, kdf, kdg, kdh, kdi, kdj, kdk, kdl, kdm, kdn, kdo, eq1, kdp, kdq, kdr, kds, kdt, kdu, kdv, kdw, kdx, kdy, kdz, kea, keb, kec, apartOK, apart2, AObj.live, ked, kee, kef, keg, keh, kei, kej, kek, kel, Int.reduceEq, Int.reduceLT, Int.reduceLE, Int.reduceAdd, Int.reduceSub, Int.reduceMul, Int.reduceToNat, kem, ken, keo, kep, keq, ker, kes, ket, keu, kev, kew, kex, key, kez, kfa, kfb, kfc, kfd, kfe, kff, kfg, kfh, kfi, kfj, kfk, kfl, cutCells, kfm, kfn, kfo, kfp, kfq, kfr, kfs, kft, kfu, kfv, kfw, kfx, kfy, Nat.reduceAdd, Nat.reduceLeDiff, Nat.reduceLT, Nat.reduceMul, Nat.reduceSub, kfz, kga, kgb, kgc, kgd, kge, kgf, kgg, kgh, kgi, kgj, kgk, kgl, kgm, kgn, kgo, kgp, kgq, kgr, kgs, kgt, kgu, kgv, kgw, kgx, kgy, kgz, kha, khb, khc, khd, h2, wr_i64, hadd, take_drop_eq, t3]
          rw [signN_two (.inr (.inr t3))] at h
          exact h
        · have hnot : ¬ ((l.drop pos).take 2 = [61, 61] ∨ (l.drop pos).take 2 = [33, 61] ∨ (l.drop pos).take 2 = [60, 61]) := fun q => q.elim t1 (fun q => q.elim t2 t3)
          simp (disch := omega) only [kaa, kab, kac, kad, kae, kaf, kag, kah, kai, kaj, kak, kal, kam, kan, kao, khe, khf, khg, khh, khi, khj, khk, khl, kap, kaq, kar, kas, kat, kau, kav, kaw, kax, kay, kaz, kba, kbb, kbc, kbd, kbe, kbf, kbg, kbh, kbi, kbj, kbk, kbl, kbm, kbn, kbo, kbp, kbq, kbr, kbs, kbt, kbu, kbv, kbw, kbx, kby, kbz, kca, kcb, kcc, kcd, kce, kcf, kcg, kch, kci, kcj, kck, kcl, kcm, aop, kcn, kco, kcp, kcq, kcr, kcs, kct, kcu, kcv, kcw, resultsL, resultOf, kcx, Nat.reduceEqDiff, kcy, kcz, kda, reduceCtorEq, kdb, kdc, kdd, kde, kdf, kdg, kdh, kdi, kdj, kdk, kdl, kdm, kdn, kdo, eq1, kdp, kdq, kdr, kds, kdt, kdu, kdv, kdw, kdx, kdy, kdz, kea, keb, kec, apartOK, apart2, AObj.live, ked, kee, kef, keg, keh, kei, kej, kek, kel, Int.reduceEq, Int.reduceLT, Int.reduceLE, Int.reduceAdd, Int.reduceSub, Int.reduceMul, Int.reduceToNat, kem, ken, keo, kep, keq, ker, kes, ket, keu, kev, kew, kex, key, kez, kfa, kfb, kfc, kfd, kfe, kff, kfg, kfh, kfi, kfj, kfk, kfl, cutCells, kfm, kfn, kfo, kfp, kfq, kfr, kfs, kft, kfu, kfv, kfw, kfx, kfy, Nat.reduceAdd, Nat.reduceLeDiff, Nat.reduceLT, Nat.reduceMul, Nat.reduceSub, kfz, kga, kgb, kgc, kgd, kge, kgf, kgg, kgh, kgi, kgj, kgk, kgl, kgm, kgn, kgo, kgp, kgq, kgr, kgs, kgt, kgu, kgv, kgw, kgx, kgy, kgz, kha, khb, khc, khd, h2, wr_i64, hadd, take_drop_eq, t1, t2, t3, hli]
          rw [hd] at hnot h
          rw [signN_one hnot] at h
          by_cases hs : isSgn l[pos] = true
          · rw [if_pos hs] at h
            simp only [isSgn, List.contains_iff_mem, List.mem_cons, List.not_mem_nil, or_false] at hs
            rcases hs with hs | hs | hs | hs | hs | hs | hs | hs | hs | hs | hs | hs | hs | hs | hs
            · have e : (l[pos].toNat : Int) = 123 := by rw [hs]; rfl
              simp (disch := omega) only [kaa, kab, kac, kad, kae, kaf, kag, kah, kai, kaj, kak, kal, kam, kan, kao, khe, khf, khg, khh, khi, khj, khk, khl, kap, kaq, kar, kas, kat, kau, kav, kaw, kax, kay, kaz, kba, kbb, kbc, kbd, kbe, kbf, kbg, kbh, kbi, kbj, kbk, kbl, kbm, kbn, kbo, kbp, kbq, kbr, kbs, kbt, kbu, kbv, kbw, kbx, kby, kbz, kca, kcb, kcc, kcd, kce, kcf, kcg, kch, kci, kcj, kck, kcl, kcm, aop, kcn, kco, kcp, kcq, kcr, kcs, kct, kcu, kcv, kcw, resultsL, resultOf, kcx, Nat.reduceEqDiff, kcy, kcz, kda, reduceCtorEq, kdb, kdc, kdd, kde, kdf, kdg, kdh, kdi, kdj, kdk, kdl, kdm, kdn, kdo, eq1, kdp, kdq, kdr, kds, kdt, kdu, kdv, kdw, kdx, kdy, kdz, kea, keb, kec, apartOK, apart2, AObj.live, ked, kee, kef, keg, keh, kei, kej, kek, kel, Int.reduceEq, Int.reduceLT, Int.reduceLE, Int.reduceAdd, Int.reduceSub, Int.reduceMul, Int.reduceToNat, kem, ken, keo, kep, keq, ker, kes, ket, keu, kev, kew, kex, key, kez, kfa, kfb, kfc, kfd, kfe, kff, kfg, kfh, kfi, kfj, kfk, kfl, cutCells, kfm, kfn, kfo, kfp, kfq, kfr, kfs, kft, kfu, kfv, kfw, kfx, kfy, Nat.reduceAdd, Nat.reduceLeDiff, Nat.reduceLT, Nat.reduceMul, Nat.reduceSub, kfz, kga, kgb, kgc, kgd, kge, kgf, kgg, kgh, kgi, kgj, kgk, kgl, kgm, kgn, kgo, kgp, kgq, kgr, kgs, kgt, kgu, kgv, kgw, kgx, kgy, kgz, kha, khb, khc, khd, h2, hli, e]
              exact h
            · have e : (l[pos].toNat : Int) = 125 := by rw [hs]; rfl
              simp (disch := omega) only [kaa, kab, kac, kad, kae, kaf, kag, kah, kai, kaj, kak, kal, kam, kan, kao, khe, khf, khg, khh, khi, khj, khk, khl, kap, kaq, kar, kas, kat, kau, kav, kaw, kax, kay, kaz, kba, kbb, kbc, kbd, kbe, kbf, kbg, kbh, kbi, kbj, kbk, kbl, kbm, kbn, kbo, kbp, kbq, kbr, kbs, kbt, kbu, kbv, kbw, kbx, kby, kbz, kca, kcb, kcc, kcd, kce, kcf, kcg, kch, kci, kcj, kck, kcl, kcm, aop, kcn, kco, kcp, kcq, kcr, kcs, kct, kcu, kcv, kcw, resultsL, resultOf, kcx, Nat.reduceEqDiff, kcy, kcz, kda, reduceCtorEq, kdb, kdc, kdd, kde, kdf, kdg, kdh, kdi, kdj, kdk, kdl, kdm, kdn, kdo, eq1, kdp, kdq, kdr, kds, kdt, kdu, kdv, kdw, kdx, kdy, kdz, kea, keb, kec, apartOK, apart2, AObj.live, ked, kee, kef, keg, keh, kei, kej, kek, kel, Int.reduceEq, Int.reduceLT, Int.reduceLE, Int.reduceAdd, Int.reduceSub, Int.reduceMul, Int.reduceToNat, kem, ken, keo, kep, keq, ker, kes, ket, keu, kev, kew, kex, key, kez, kfa, kfb, kfc, kfd, kfe, kff, kfg, kfh, kfi, kfj, kfk, kfl, cutCells, kfm, kfn, kfo, kfp, kfq, kfr, kfs, kft, kfu, kfv, kfw, kfx, kfy, Nat.reduceAdd, Nat.reduceLeDiff, Nat.reduceLT, Nat.reduceMul, Nat.reduceSub, kfz, kga, kgb, kgc, kgd, kge, kgf, kgg, kgh, kgi, kgj, kgk, kgl, kgm, kgn, kgo, kgp, kgq, kgr, kgs, kgt, kgu, kgv, kgw, kgx, kgy, kgz, kha, khb, khc, khd, h2, hli, e]
              exact h
            · have e : (l[pos].toNat : Int) = 40 := by rw [hs]; rfl
              simp (disch := omega) only [kaa, kab, kac, kad, kae, kaf, kag, kah, kai, kaj, kak, kal, kam, kan, kao, khe, khf, khg, khh, khi, khj, khk, khl, kap, kaq, kar, kas, kat, kau, kav, kaw, kax, kay, kaz, kba, kbb, kbc, kbd, kbe, kbf, kbg, kbh, kbi, kbj, kbk, kbl, kbm, kbn, kbo, kbp, kbq, kbr, kbs, kbt, kbu, kbv, kbw, kbx, kby, kbz, kca, kcb, kcc, kcd, kce, kcf, kcg, kch, kci, kcj, kck, kcl, kcm, aop, kcn, kco, kcp, kcq, kcr, kcs, kct, kcu, kcv, kcw, resultsL, resultOf, kcx, Nat.reduceEqDiff, kcy, kcz, kda, reduceCtorEq, kdb, kdc, kdd, kde, kdf, kdg, kdh, kdi, kdj, kdk, kdl, kdm, kdn, kdo, eq1, kdp, kdq, kdr, kds, kdt, kdu, kdv, kdw, kdx, kdy, kdz, kea, keb, kec, apartOK, apart2, AObj.live, ked, kee, kef, keg, keh, kei, kej, kek, kel, Int.reduceEq, Int.reduceLT, Int.reduceLE, Int.reduceAdd, Int.reduceSub, Int.reduceMul, Int.reduceToNat, kem, ken, keo, kep, keq, ker, kes, ket, keu, kev, kew, kex, key, kez, kfa, kfb, kfc, kfd, kfe, kff, kfg, kfh, kfi, kfj, kfk, kfl, cutCells, kfm, kfn, kfo, kfp, kfq, kfr, kfs, kft, kfu, kfv, kfw, kfx, kfy, Nat.reduceAdd, Nat.reduceLeDiff, Nat.reduceLT, Nat.reduceMul, Nat.reduceSub, kfz, kga, kgb, kgc, kgd, kge, kgf, kgg, kgh, kgi, kgj, kgk, kgl, kgm, kgn, kgo, kgp, kgq, kgr, kgs, kgt, kgu, kgv, kgw, kgx, kgy, kgz, kha, khb, khc, khd, h2, hli, e]
              exact h
            · have e : (l[pos].toNat : Int) = 41 := by rw [hs]; rfl
              simp (disch := omega) only [kaa, kab, kac, kad, kae, kaf, kag, kah, kai, kaj, kak, kal, kam, kan, kao, khe, khf, khg, khh, khi, khj, khk, khl, kap, kaq, kar, kas, kat, kau, kav, kaw, kax, kay, kaz, kba, kbb, kbc, kbd, kbe, kbf, kbg, kbh, kbi, kbj, kbk, kbl, kbm, kbn, kbo, kbp, kbq, kbr, kbs, kbt, kbu, kbv, kbw, kbx, kby, kbz, kca, kcb, kcc, kcd, kce, kcf, kcg, kch, kci, kcj, kck, kcl, kcm, aop, kcn, kco, kcp, kcq, kcr, kcs, kct, kcu, kcv, kcw, resultsL, resultOf, kcx, Nat.reduceEqDiff, kcy, kcz, kda, reduceCtorEq, kdb, kdc, kdd, kde, kdf, kdg, kdh, kdi, kdj, kdk, kdl, kdm, kdn, kdo, eq1, kdp, kdq, kdr, kds, kdt, kdu, kdv, kdw, kdx, kdy, kdz, kea, keb, kec, apartOK, apart2, AObj.live, ked, kee, kef, keg, keh, kei, kej, kek, kel, Int.reduceEq, Int.reduceLT, Int.reduceLE, Int.reduceAdd, Int.reduceSub, Int.reduceMul, Int.reduceToNat, kem, ken, keo, kep, keq, ker, kes, ket, keu, kev, kew, kex, key, kez, kfa, kfb, kfc, kfd, kfe, kff, kfg, kfh, kfi, kfj, kfk, kfl, cutCells, kfm, kfn, kfo, kfp, kfq, kfr, kfs, kft, kfu, kfv, kfw, kfx, kfy, Nat.reduceAdd, Nat.reduceLeDiff, Nat.reduceLT, Nat.reduceMul, Nat.reduceSub, kfz, kga, kgb, kgc, kgd, kge, kgf, kgg, kgh, kgi, kgj, kgk, kgl, kgm, kgn, kgo, kgp, kgq, kgr, kgs, kgt, kgu, kgv, kgw, kgx, kgy, kgz, kha, khb, khc, khd, h2, hli, e]
              exact h
            · have e : (l[pos].toNat : Int) = 59 := by rw [hs]; rfl
              simp (disch := omega) only [kaa, kab, kac, kad, kae, kaf, kag, kah, kai, kaj, kak, kal, kam, kan, kao, khe, khf, khg, khh, khi, khj, khk, khl, kap, kaq, kar, kas, kat, kau, kav, kaw, kax, kay, kaz, kba, kbb, kbc, kbd, kbe, kbf, kbg, kbh, kbi, kbj, kbk, kbl, kbm, kbn, kbo, kbp, kbq, kbr, kbs, kbt, kbu, kbv, kbw, kbx, kby, kbz, kca, kcb, kcc, kcd, kce, kcf, kcg, kch, kci, kcj, kck, kcl, kcm, aop, kcn, kco, kcp, kcq, kcr, kcs, kct, kcu, kcv, kcw, resultsL, resultOf, kcx, Nat.reduceEqDiff, kcy, kcz, kda, reduceCtorEq, kdb, kdc, kdd, kde, kdf, kdg, kdh, kdi, kdj, kdk, kdl, kdm, kdn, kdo, eq1, kdp, kdq, kdr, kds, kdt, kdu, kdv, kdw, kdx, kdy, kdz, kea, keb, kec, apartOK, apart2, AObj.live, ked, kee, kef, keg, keh, kei, kej, kek, kel, Int.reduceEq, Int.reduceLT, Int.reduceLE, Int.reduceAdd, Int.reduceSub, Int.reduceMul, Int.reduceToNat, kem, ken, keo, kep, keq, ker, kes, ket, keu, kev, kew, kex, key, kez, kfa, kfb, kfc, kfd, kfe, kff, kfg, kfh, kfi, kfj, kfk, kfl, cutCells, kfm, kfn, kfo, kfp, kfq, kfr, kfs, kft, kfu, kfv, kfw, kfx, kfy, Nat.reduceAdd, Nat.reduceLeDiff, Nat.reduceLT, Nat.reduceMul, Nat.reduceSub, kfz, kga, kgb, kgc, kgd, kge, kgf, kgg, kgh, kgi, kgj, kgk, kgl, kgm, kgn, kgo, kgp, kgq, kgr, kgs, kgt, kgu, kgv, kgw, kgx, kgy, kgz, kha, khb, khc, khd, h2, hli, e]
              exact h
            · have e : (l[pos].toNat : Int) = 58 := by rw [hs]; rfl
              simp (disch := omega) only [kaa, kab, kac, kad, kae, kaf, kag, kah, kai, kaj, kak, kal, kam, kan, kao, khe, khf, khg, khh, khi, khj, khk, khl, kap, kaq, kar, kas, kat, kau, kav, kaw, kax, kay, kaz, kba, kbb, kbc, kbd, kbe, kbf, kbg, kbh, kbi, kbj, kbk, kbl, kbm, kbn, kbo, kbp, kbq, kbr, kbs, kbt, kbu, kbv, kbw, kbx, kby, kbz, kca, kcb, kcc, kcd, kce, kcf, kcg, kch, kci, kcj, kck, kcl, kcm, aop, kcn, kco, kcp, kcq, kcr, kcs, kct, kcu, kcv, kcw, resultsL, resultOf, kcx, Nat.reduceEqDiff, kcy, kcz, kda, reduceCtorEq, kdb, kdc, kdd, kde, kdf, kdg, kdh, kdi, kdj, kdk, kdl, kdm, kdn, kdo, eq1, kdp, kdq, kdr, kds, kdt, kdu, kdv, kdw, kdx, kdy, kdz, kea, keb, kec, apartOK, apart2, AObj.live, ked, kee, kef, keg, keh, kei, kej, kek, kel, Int.reduceEq, Int.reduceLT, Int.reduceLE, Int.reduceAdd, Int.reduceSub, Int.reduceMul, Int.reduceToNat, kem, ken, keo, kep, keq, ker, kes, ket, keu, kev, kew, kex, key, kez, kfa, kfb, kfc, kfd, kfe, kff, kfg, kfh, kfi, kfj, kfk, kfl, cutCells, kfm, kfn, kfo, kfp, kfq, kfr, kfs, kft, kfu, kfv, kfw, kfx, kfy, Nat.reduceAdd, Nat.reduceLeDiff, Nat.reduceLT, Nat.reduceMul, Nat.reduceSub, kfz, kga, kgb, kgc, kgd, kge, kgf, kgg, kgh, kgi, kgj, kgk, kgl, kgm, kgn, kgo, kgp, kgq, kgr, kgs, kgt, kgu, kgv, kgw, kgx, kgy, kgz, kha, khb, khc, khd, h2, hli, e]
              exact h
            · have e : (l[pos].toNat : Int) = 44 := by rw [hs]; rfl
              simp (disch := omega) only [kaa, kab, kac, kad, kae, kaf, kag, kah, kai, kaj, kak, kal, kam, kan, kao, khe, khf, khg, khh, khi, khj, khk, khl, kap, kaq, kar, kas, kat, kau, kav, kaw, kax, kay, kaz, kba, kbb, kbc, kbd, kbe, kbf, kbg, kbh, kbi, kbj, kbk, kbl, kbm, kbn, kbo, kbp, kbq, kbr, kbs, kbt, kbu, kbv, kbw, kbx, kby, kbz, kca, kcb, kcc, kcd, kce, kcf, kcg, kch, kci, kcj, kck, kcl, kcm, aop, kcn, kco, kcp, kcq, kcr, kcs, kct, kcu, kcv, kcw, resultsL, resultOf, kcx, Nat.reduceEqDiff, kcy, kcz, kda, reduceCtorEq, kdb, kdc, kdd, kde, kdf, kdg, kdh, kdi, kdj, kdk, kdl, kdm, kdn, kdo, eq1, kdp, kdq, kdr, kds, kdt, kdu, kdv, kdw, kdx, kdy, kdz, kea, keb, kec, apartOK, apart2, AObj.live, ked, kee, kef, keg, keh, kei, kej, kek, kel, Int.reduceEq, Int.reduceLT, Int.reduceLE, Int.reduceAdd, Int.reduceSub, Int.reduceMul, Int.reduceToNat, kem, ken, keo, kep, keq, ker, kes, ket, keu, kev, kew, kex, key, kez, kfa, kfb, kfc, kfd, kfe, kff, kfg, kfh, kfi, kfj, kfk, kfl, cutCells, kfm, kfn, kfo, kfp, kfq, kfr, kfs, kft, kfu, kfv, kfw, kfx, kfy, Nat.reduceAdd, Nat.reduceLeDiff, Nat.reduceLT, Nat.reduceMul, Nat.reduceSub, kfz, kga, kgb, kgc, kgd, kge, kgf, kgg, kgh, kgi, kgj, kgk, kgl, kgm, kgn, kgo, kgp, kgq, kgr, kgs, kgt, kgu, kgv, kgw, kgx, kgy, kgz, kha, khb, khc, khd, h2, hli, e]
              exact h
            · have e : (l[pos].toNat : Int) = 46 := by rw [hs]; rfl
              simp (disch := omega) only [kaa, kab, kac, kad, kae, kaf, kag, kah, kai, kaj, kak, kal, kam, kan, kao, khe, khf, khg, khh, khi, khj, khk, khl, kap, kaq, kar, kas, kat, kau, kav, kaw, kax, kay, kaz, kba, kbb, kbc, kbd, kbe, kbf, kbg, kbh, kbi, kbj, kbk, kbl, kbm, kbn, kbo, kbp, kbq, kbr, kbs, kbt, kbu, kbv, kbw, kbx, kby, kbz, kca, kcb, kcc, kcd, kce, kcf, kcg, kch, kci, kcj, kck, kcl, kcm, aop, kcn, kco, kcp, kcq, kcr, kcs, kct, kcu, kcv, kcw, resultsL, resultOf, kcx, Nat.reduceEqDiff, kcy, kcz, kda, reduceCtorEq, kdb, kdc, kdd, kde, kdf, kdg, kdh, kdi, kdj, kdk, kdl, kdm, kdn, kdo, eq1, kdp, kdq, kdr, kds, kdt, kdu, kdv, kdw, kdx, kdy, kdz, kea, keb, kec, apartOK, apart2, AObj.live, ked, kee, kef, keg, keh, kei, kej, kek, kel, Int.reduceEq, Int.reduceLT, Int.reduceLE, Int.reduceAdd, Int.reduceSub, Int.reduceMul, Int.reduceToNat, kem, ken, keo, kep, keq, ker, kes, ket, keu, kev, kew, kex, key, kez, kfa, kfb, kfc, kfd, kfe, kff, kfg, kfh, kfi, kfj, kfk, kfl, cutCells, kfm, kfn, kfo, kfp, kfq, kfr, kfs, kft, kfu, kfv, kfw, kfx, kfy, Nat.reduceAdd, Nat.reduceLeDiff, Nat.reduceLT, Nat.reduceMul, Nat.reduceSub, kfz, kga, kgb, kgc, kgd, kge, kgf, kgg, kgh, kgi, kgj, kgk, kgl, kgm, kgn, kgo, kgp, kgq, kgr, kgs, kgt, kgu, kgv, kgw, kgx, kgy, kgz, kha, khb, khc, khd, h2, hli, e]
              exact h
            · have e : (l[pos].toNat : Int) = 61 := by rw [hs]; rfl
              simp (disch := omega) only [kaa, kab, kac, kad, kae, kaf, kag, kah, kai, kaj, kak, kal, kam, kan, kao, khe, khf, khg, khh, khi, khj, khk, khl, kap, kaq, kar, kas, kat, kau, kav, kaw, kax, kay, kaz, kba, kbb, kbc, kbd, kbe, kbf, kbg, kbh, kbi, kbj, kbk, kbl, kbm, kbn, kbo, kbp, kbq, kbr, kbs, kbt, kbu, kbv, kbw, kbx, kby, kbz, kca, kcb, kcc, kcd, kce, kcf, kcg, kch, kci, kcj, kck, kcl, kcm, aop, kcn, kco, kcp, kcq, kcr, kcs, kct, kcu, kcv, kcw, resultsL, resultOf, kcx, Nat.reduceEqDiff, kcy, kcz, kda, reduceCtorEq, kdb, kdc, kdd, kde, kdf, kdg, kdh, kdi, kdj, kdk, kdl, kdm, kdn, kdo, eq1, kdp, kdq, kdr, kds, kdt, kdu, kdv, kdw, kdx, kdy, kdz, kea, keb, kec, apartOK, apart2, AObj.live, ked, kee, kef, keg, keh, kei, kej, kek, kel, Int.reduceEq, Int.reduceLT, Int.reduceLE, Int.reduceAdd, Int.reduceSub, Int.reduceMul, Int.reduceToNat, kem, ken, keo, kep, keq, ker, kes, ket, keu, kev, kew, kex, key, kez, kfa, kfb, kfc, kfd, kfe, kff, kfg, kfh, kfi, kfj, kfk, kfl, cutCells, kfm, kfn, kfo, kfp, kfq, kfr, kfs, kft, kfu, kfv, kfw, kfx, kfy, Nat.reduceAdd, Nat.reduceLeDiff, Nat.reduceLT, Nat.reduceMul, Nat.reduceSub, kfz, kga, kgb, kgc, kgd, kge, kgf, kgg, kgh, kgi, kgj, kgk, kgl, kgm, kgn, kgo, kgp, kgq, kgr, kgs, kgt, kgu, kgv, kgw, kgx, kgy, kgz, kha, khb, khc, khd, h2, hli, e]
              exact h
            · have e : (l[pos].toNat : Int) = 60 := by rw [hs]; rfl
              simp (disch := omega) only [kaa, kab, kac, kad, kae, kaf, kag, kah, kai, kaj, kak, kal, kam, kan, kao, khe, khf, khg, khh, khi, khj, khk, khl, kap, kaq, kar, kas, kat, kau, kav, kaw, kax, kay, kaz, kba, kbb, kbc, kbd, kbe, kbf, kbg, kbh, kbi, kbj, kbk, kbl, kbm, kbn, kbo, kbp, kbq, kbr, kbs, kbt, kbu, kbv, kbw, kbx, kby, kbz, kca, kcb, kcc, kcd, kce, kcf, kcg, kch, kci, kcj, kck, kcl, kcm, aop, kcn, kco, kcp, kcq, kcr, kcs, kct, kcu, kcv, kcw, resultsL, resultOf, kcx, Nat.reduceEqDiff, kcy, kcz, kda, reduceCtorEq, kdb, kdc, kdd, kde, kdf, kdg, kdh, kdi, kdj, kdk, kdl, kdm, kdn, kdo, eq1, kdp, kdq, kdr, kds, kdt, kdu, kdv, kdw, kdx, kdy, kdz, kea, keb, kec, apartOK, apart2, AObj.live, ked, kee, kef, keg, keh, kei, kej, kek, kel, Int.reduceEq, Int.reduceLT, Int.reduceLE, Int.reduceAdd, Int.reduceSub, Int.reduceMul, Int.reduceToNat, kem, ken, keo, kep, keq, ker, kes, ket, keu, kev, kew, kex, key, kez, kfa, kfb, kfc, kfd, kfe, kff, kfg, kfh, kfi, kfj, kfk, kfl, cutCells, kfm, kfn, kfo, kfp, kfq, kfr, kfs, kft, kfu, kfv, kfw, kfx, kfy, Nat.reduceAdd, Nat.reduceLeDiff, Nat.reduceLT, Nat.reduceMul, Nat.reduceSub, kfz, kga, kgb, kgc, kgd, kge, kgf, kgg, kgh, kgi, kgj, kgk, kgl, kgm, kgn, kgo, kgp, kgq, kgr, kgs, kgt, kgu, kgv, kgw, kgx, kgy, kgz, kha, khb, khc, khd, h2, hli, e]
              exact h
            · have e : (l[pos].toNat : Int) = 43 := by rw [hs]; rfl
              simp (disch := omega) only [kaa, kab, kac, kad, kae, kaf, kag, kah, kai, kaj, kak, kal, kam, kan, kao, khe, khf, khg, khh, khi, khj, khk, khl, kap, kaq, kar, kas, kat, kau, kav, kaw, kax, kay, kaz, kba, kbb, kbc, kbd, kbe, kbf, kbg, kbh, kbi, kbj, kbk, kbl, kbm, kbn, kbo, kbp, kbq, kbr, kbs, kbt, kbu, kbv, kbw, kbx, kby, kbz, kca, kcb, kcc, kcd, kce, kcf, kcg, kch, kci, kcj, kck, kcl, kcm, aop, kcn, kco, kcp, kcq, kcr, kcs, kct, kcu, kcv, kcw, resultsL, resultOf, kcx, Nat.reduceEqDiff, kcy, kcz, kda, reduceCtorEq, kdb, kdc, kdd, kde, kdf, kdg, kdh, kdi, kdj, kdk, kdl, kdm, kdn, kdo, eq1, kdp, kdq, kdr, kds, kdt, kdu, kdv, kdw, kdx, kdy, kdz, kea, keb, kec, apartOK, apart2, AObj.live, ked, kee, kef, keg, keh, kei, kej, kek, kel, Int.reduceEq, Int.reduceLT, Int.reduceLE, Int.reduceAdd, Int.reduceSub, Int.reduceMul, Int.reduceToNat, kem, ken, keo, kep, keq, ker, kes, ket, keu, kev, kew, kex, key, kez, kfa, kfb, kfc, kfd, kfe, kff, kfg, kfh, kfi, kfj, kfk, kfl, cutCells, kfm, kfn, kfo, kfp, kfq, kfr, kfs, kft, kfu, kfv, kfw, kfx, kfy, Nat.reduceAdd, Nat.reduceLeDiff, Nat.reduceLT, Nat.reduceMul, Nat.reduceSub, kfz, kga, kgb, kgc, kgd, kge, kgf, kgg, kgh, kgi, kgj, kgk, kgl, kgm, kgn, kgo, kgp, kgq, kgr, kgs, kgt, kgu, kgv, kgw, kgx, kgy, kgz, kha, khb, khc, khd, h2, hli, e]
              exact h
            · have e : (l[pos].toNat : Int) = 45 := by rw [hs]; rfl
              simp (disch := omega) only [kaa, kab, kac, kad, kae, kaf, kag, kah, kai, kaj, kak, kal, kam, kan, kao, khe, khf, khg, khh, khi, khj, khk, khl, kap, kaq, kar, kas, kat, kau, kav, kaw, kax, kay, kaz, kba, kbb, kbc, kbd, kbe, kbf, kbg, kbh, kbi, kbj, kbk, kbl, kbm, kbn, kbo, kbp, kbq, kbr, kbs, kbt, kbu, kbv, kbw, kbx, kby, kbz, kca, kcb, kcc, kcd, kce, kcf, kcg, kch, kci, kcj, kck, kcl, kcm, aop, kcn, kco, kcp, kcq, kcr, kcs, kct, kcu, kcv, kcw, resultsL, resultOf, kcx, Nat.reduceEqDiff, kcy, kcz, kda, reduceCtorEq, kdb, kdc, kdd, kde, kdf, kdg, kdh, kdi, kdj, kdk, kdl, kdm, kdn, kdo, eq1, kdp, kdq, kdr, kds, kdt, kdu, kdv, kdw, kdx, kdy, kdz, kea, keb, kec, apartOK, apart2, AObj.live, ked, kee, kef, keg, keh, kei, kej, kek, kel, Int.reduceEq, Int.reduceLT, Int.reduceLE, Int.reduceAdd, Int.reduceSub, Int.reduceMul, Int.reduceToNat, kem, ken, keo, kep, keq, ker, kes, ket, keu, kev, kew, kex, key, kez, kfa, kfb, kfc, kfd, kfe, kff, kfg, kfh, kfi, kfj, kfk, kfl, cutCells, kfm, kfn, kfo, kfp, kfq, kfr, kfs, kft, kfu, kfv, kfw, kfx, kfy, Nat.reduceAdd, Nat.reduceLeDiff, Nat.reduceLT, Nat.reduceMul, Nat.reduceSub, kfz, kga, kgb, kgc, kgd, kge, kgf, kgg, kgh, kgi, kgj, kgk, kgl, kgm, kgn, kgo, kgp, kgq, kgr, kgs, kgt, kgu, kgv, kgw, kgx, kgy, kgz, kha, khb, khc, khd, h2, hli, e]
              exact h
            · have e : (l[pos].toNat : Int) = 38 := by rw [hs]; rfl
              simp (disch := omega) only [kaa, kab, kac, kad, kae, kaf, kag, kah, kai, kaj, kak, kal, kam, kan, kao, khe, khf, khg, khh, khi, khj, khk, khl, kap, kaq, kar, kas, kat, kau, kav, kaw, kax, kay, kaz, kba, kbb, kbc, kbd, kbe, kbf, kbg, kbh, kbi, kbj, kbk, kbl, kbm, kbn, kbo, kbp, kbq, kbr, kbs, kbt, kbu, kbv, kbw, kbx, kby, kbz, kca, kcb, kcc, kcd, kce, kcf, kcg, kch, kci, kcj, kck, kcl, kcm, aop, kcn, kco, kcp, kcq, kcr, kcs, kct, kcu, kcv, kcw, resultsL, resultOf, kcx, Nat.reduceEqDiff, kcy, kcz, kda, reduceCtorEq, kdb, kdc, kdd, kde, kdf, kdg, kdh, kdi, kdj, kdk, kdl, kdm, kdn, kdo, eq1, kdp, kdq, kdr, kds, kdt, kdu, kdv, kdw, kdx, kdy, kdz, kea, keb, kec, apartOK, apart2, AObj.live, ked, kee, kef, keg, keh, kei, kej, kek, kel, Int.reduceEq, Int.reduceLT, Int.reduceLE, Int.reduceAdd, Int.reduceSub, Int.reduceMul, Int.reduceToNat, kem, ken, keo, kep, keq, ker, kes, ket, keu, kev, kew, kex, key, kez, kfa, kfb, kfc, kfd, kfe, kff, kfg, kfh, kfi, kfj, kfk, kfl, cutCells, kfm, kfn, kfo, kfp, kfq, kfr, kfs, kft, kfu, kfv, kfw, kfx, kfy, Nat.reduceAdd, Nat.reduceLeDiff, Nat.reduceLT, Nat.reduceMul, Nat.reduceSub, kfz, kga, kgb, kgc, kgd, kge, kgf, kgg, kgh, kgi, kgj, kgk, kgl, kgm, kgn, kgo, kgp, kgq, kgr, kgs, kgt, kgu, kgv, kgw, kgx, kgy, kgz, kha, khb, khc, khd, h2, hli, e]
              exact h
            · have e : (l[pos].toNat : Int) = 124 := by rw [hs]; rfl
              simp (disch := omega) only [kaa, kab, kac, kad, kae, kaf, kag, kah, kai, kaj, kak, kal, kam, kan, kao, khe, khf, khg, khh, khi, khj, khk, khl, kap, kaq, kar, kas, kat, kau, kav, kaw, kax, kay, kaz, kba, kbb, kbc, kbd, kbe, kbf, kbg, kbh, kbi, kbj, kbk, kbl, kbm, kbn, kbo, kbp, kbq, kbr, kbs, kbt, kbu, kbv, kbw, kbx, kby, kbz, kca, kcb, kcc, kcd, kce, kcf, kcg, kch, kci, kcj, kck, kcl, kcm, aop, kcn, kco, kcp, kcq, kcr, kcs, kct, kcu, kcv, kcw, resultsL, resultOf, kcx, Nat.reduceEqDiff, kcy, kcz, kda, reduceCtorEq, kdb, kdc, kdd, kde, kdf, kdg, kdh, kdi, kdj, kdk, kdl, kdm, kdn, kdo, eq1, kdp, kdq, kdr, kds, kdt, kdu, kdv, kdw, kdx, kdy, kdz, kea, keb, kec, apartOK, apart2, AObj.live, ked, kee, kef, keg, keh, kei, kej, kek, kel, Int.reduceEq, Int.reduceLT, Int.reduceLE, Int.reduceAdd, Int.reduceSub, Int.reduceMul, Int.reduceToNat, kem, ken, keo, kep, keq, ker, kes, ket, keu, kev, kew, kex, key, kez, kfa, kfb, kfc, kfd, kfe, kff, kfg, kfh, kfi, kfj, kfk, kfl, cutCells, kfm, kfn, kfo, kfp, kfq, kfr, kfs, kft, kfu, kfv, kfw, kfx, kfy, Nat.reduceAdd, Nat.reduceLeDiff, Nat.reduceLT, Nat.reduceMul, Nat.reduceSub, kfz, kga, kgb, kgc, kgd, kge, kgf, kgg, kgh, kgi, kgj, kgk, kgl, kgm, kgn, kgo, kgp, kgq, kgr, kgs, kgt, kgu, kgv, kgw, kgx, kgy, kgz, kha, khb, khc, khd, h2, hli, e]
              exact h
            · have e : (l[pos].toNat : Int) = 94 := by rw [hs]; rfl
              simp (disch := omega) only [kaa, kab, kac, kad, kae, kaf, kag, kah, kai, kaj, kak, kal, kam, kan, kao, khe, khf, khg, khh, khi, khj, khk, khl, kap, kaq, kar, kas, kat, kau, kav, kaw, kax, kay, kaz, kba, kbb, kbc, kbd, kbe, kbf, kbg, kbh, kbi, kbj, kbk, kbl, kbm, kbn, kbo, kbp, kbq, kbr, kbs, kbt, kbu, kbv, kbw, kbx, kby, kbz, kca, kcb, kcc, kcd, kce, kcf, kcg, kch, kci, kcj, kck, kcl, kcm, aop, kcn, kco, kcp, kcq, kcr, kcs, kct, kcu, kcv, kcw, resultsL, resultOf, kcx, Nat.reduceEqDiff, kcy, kcz, kda, reduceCtorEq, kdb, kdc, kdd, kde, kdf, kdg, kdh, kdi, kdj, kdk, kdl, kdm, kdn, kdo, eq1, kdp, kdq, kdr, kds, kdt, kdu, kdv, kdw, kdx, kdy, kdz, kea, keb, kec, apartOK, apart2, AObj.live, ked, kee, kef, keg, keh, kei, kej, kek, kel, Int.reduceEq, Int.reduceLT, Int.reduceLE, Int.reduceAdd, Int.reduceSub, Int.reduceMul, Int.reduceToNat, kem, ken, keo, kep, keq, ker, kes, ket, keu, kev, kew, kex, key, kez, kfa, kfb, kfc, kfd, kfe, kff, kfg, kfh, kfi, kfj, kfk, kfl, cutCells, kfm, kfn, kfo, kfp, kfq, kfr, kfs, kft, kfu, kfv, kfw, kfx, kfy, Nat.reduceAdd, Nat.reduceLeDiff, Nat.reduceLT, Nat.reduceMul, Nat.reduceSub, kfz, kga, kgb, kgc, kgd, kge, kgf, kgg, kgh, kgi, kgj, kgk, kgl, kgm, kgn, kgo, kgp, kgq, kgr, kgs, kgt, kgu, kgv, kgw, kgx, kgy, kgz, kha, khb, khc, khd, h2, hli, e]
              exact h
          · rw [if_neg hs] at h
            have n123 : ¬ (l[pos].toNat : Int) = 123 := fun q => hs (by have : l[pos] = 123 := UInt8.toNat_inj.1 (show l[pos].toNat = (123 : UInt8).toNat from Int.ofNat.inj q); rw [this]; rfl)
            have n125 : ¬ (l[pos].toNat : Int) = 125 := fun q => hs (by have : l[pos] = 125 := UInt8.toNat_inj.1 (show l[pos].toNat = (125 : UInt8).toNat from Int.ofNat.inj q); rw [this]; rfl)
            have n40 : ¬ (l[pos].toNat : Int) = 40 := fun q => hs (by have : l[pos] = 40 := UInt8.toNat_inj.1 (show l[pos].toNat = (40 : UInt8).toNat from Int.ofNat.inj q); rw [this]; rfl)
            have n41 : ¬ (l[pos].toNat : Int) = 41 := fun q => hs (by have : l[pos] = 41 := UInt8.toNat_inj.1 (show l[pos].toNat = (41 : UInt8).toNat from Int.ofNat.inj q); rw [this]; rfl)
            have n59 : ¬ (l[pos].toNat : Int) = 59 := fun q => hs (by have : l[pos] = 59 := UInt8.toNat_inj.1 (show l[pos].toNat = (59 : UInt8).toNat from Int.ofNat.inj q); rw [this]; rfl)
            have n58 : ¬ (l[pos].toNat : Int) = 58 := fun q => hs (by have : l[pos] = 58 := UInt8.toNat_inj.1 (show l[pos].toNat = (58 : UInt8).toNat from Int.ofNat.inj q); rw [this]; rfl)
            have n44 : ¬ (l[pos].toNat : Int) = 44 := fun q => hs (by have : l[pos] = 44 := UInt8.toNat_inj.1 (show l[pos].toNat = (44 : UInt8).toNat from Int.ofNat.inj q); rw [this]; rfl)
            have n46 : ¬ (l[pos].toNat : Int) = 46 := fun q => hs (by have : l[pos] = 46 := UInt8.toNat_inj.1 (show l[pos].toNat = (46 : UInt8).toNat from Int.ofNat.inj q); rw [this]; rfl)
            have n61 : ¬ (l[pos].toNat : Int) = 61 := fun q => hs (by have : l[pos] = 61 := UInt8.toNat_inj.1 (show l[pos].toNat = (61 : UInt8).toNat from Int.ofNat.inj q); rw [this]; rfl)
            have n60 : ¬ (l[pos].toNat : Int) = 60 := fun q => hs (by have : l[pos] = 60 := UInt8.toNat_inj.1 (show l[pos].toNat = (60 : UInt8).toNat from Int.ofNat.inj q); rw [this]; rfl)
            have n43 : ¬ (l[pos].toNat : Int) = 43 := fun q => hs (by have : l[pos] = 43 := UInt8.toNat_inj.1 (show l[pos].toNat = (43 : UInt8).toNat from Int.ofNat.inj q); rw [this]; rfl)
            have n45 : ¬ (l[pos].toNat : Int) = 45 := fun q => hs (by have : l[pos] = 45 := UInt8.toNat_inj.1 (show l[pos].toNat = (45 : UInt8).toNat from Int.ofNat.inj q); rw [this]; rfl)
            have n38 : ¬ (l[pos].toNat : Int) = 38 := fun q => hs (by have : l[pos] = 38 := UInt8.toNat_inj.1 (show l[pos].toNat = (38 : UInt8).toNat from Int.ofNat.inj q); rw [this]; rfl)
            have n124 : ¬ (l[pos].toNat : Int) = 124 := fun q => hs (by have : l[pos] = 124 := UInt8.toNat_inj.1 (show l[pos].toNat = (124 : UInt8).toNat from Int.ofNat.inj q); rw [this]; rfl)
            have n94 : ¬ (l[pos].toNat : Int) = 94 := fun q => hs (by have : l[pos] = 94 := UInt8.toNat_inj.1 (show l[pos].toNat = (94 : UInt8).toNat from Int.ofNat.inj q); rw [this]; rfl)
            simp (disch := omega) only [kaa, kab, kac, kad, kae, kaf, kag, kah, kai, kaj, kak, kal, kam, kan, kao, khe, khf, khg, khh, khi, khj, khk, khl, kap, kaq, kar, kas, kat, kau, kav, kaw, kax, kay, kaz, kba, kbb, kbc, kbd, kbe, kbf, kbg, kbh, kbi, kbj, kbk, kbl, kbm, kbn, kbo, kbp, kbq, kbr, kbs, kbt, kbu, kbv, kbw, kbx, kby, kbz, kca, kcb, kcc, kcd, kce, kcf, kcg, kch, kci, kcj, kck, kcl, kcm, aop, kcn, kco, kcp, kcq, kcr, kcs, kct, kcu, kcv, kcw, resultsL, resultOf, kcx, Nat.reduceEqDiff, kcy, kcz, kda, reduceCtorEq, kdb, kdc, kdd, kde, kdf, kdg, kdh, kdi, kdj, kdk, kdl, kdm, kdn, kdo, eq1, kdp, kdq, kdr, kds, kdt, kdu, kdv, kdw, kdx, kdy, kdz, kea, keb, kec, apartOK, apart2, AObj.live, ked, kee, kef, keg, keh, kei, kej, kek, kel, Int.reduceEq, Int.reduceLT, Int.reduceLE, Int.reduceAdd, Int.reduceSub, Int.reduceMul, Int.reduceToNat, kem, ken, keo, kep, keq, ker, kes, ket, keu, kev, kew, kex, key, kez, kfa, kfb, kfc, kfd, kfe, kff, kfg, kfh, kfi, kfj, kfk, kfl, cutCells, kfm, kfn, kfo, kfp, kfq, kfr, kfs, kft, kfu, kfv, kfw, kfx, kfy, Nat.reduceAdd, Nat.reduceLeDiff, Nat.reduceLT, Nat.reduceMul, Nat.reduceSub, kfz, kga, kgb, kgc, kgd, kge, kgf, kgg, kgh, kgi, kgj, kgk, kgl, kgm, kgn, kgo, kgp, kgq, kgr, kgs, kgt, kgu, kgv, kgw, kgx, kgy, kgz, kha, khb, khc, khd, h2, hli, n123, n125, n40, n41, n59, n58, n44, n46, n61, n60, n43, n45, n38, n124, n94]
            exact h
  · have hnot : ¬ ((l.drop pos).take 2 = [61, 61] ∨ (l.drop pos).take 2 = [33, 61] ∨ (l.drop pos).take 2 = [60, 61]) := by
      have : ((l.drop pos).take 2).length < 2 := by rw [List.length_take, List.length_drop]; omega
      rintro (q | q | q) <;> rw [q] at this <;> simp at this
    simp (disch := omega) only [kaa, kab, kac, kad, kae, kaf, kag, kah, kai, kaj, kak, kal, kam, kan, kao, khe, khf, khg, khh, khi, khj, khk, khl, kap, kaq, kar, kas, kat, kau, kav, kaw, kax, kay, kaz, kba, kbb, kbc, kbd, kbe, kbf, kbg, kbh, kbi, kbj, kbk, kbl, kbm, kbn, kbo, kbp, kbq, kbr, kbs, kbt, kbu, kbv, kbw, kbx, kby, kbz, kca, kcb, kcc, kcd, kce, kcf, kcg, kch, kci, kcj, kck, kcl, kcm, aop, kcn, kco, kcp, kcq, kcr, kcs, kct, kcu, kcv, kcw, resultsL, resultOf, kcx, Nat.reduceEqDiff, kcy, kcz, kda, reduceCtorEq, kdb, kdc, kdd, kde, kdf, kdg, kdh, kdi, kdj, kdk, kdl, kdm, kdn, kdo, eq1, kdp, kdq, kdr, kds, kdt, kdu, kdv, kdw, kdx, kdy, kdz, kea, keb, kec, apartOK, apart2, AObj.live, ked, kee, kef, keg, keh, kei, kej, kek, kel, Int.reduceEq, Int.reduceLT, Int.reduceLE, Int.reduceAdd, Int.reduceSub, Int.reduceMul, Int.reduceToNat, kem, ken, keo, kep, keq, ker, kes, ket, keu, kev, kew, kex, key, kez, kfa, kfb, kfc, kfd, kfe, kff, kfg, kfh, kfi, kfj, kfk, kfl, cutCells, kfm, kfn, kfo, kfp, kfq, kfr, kfs, kft, kfu, kfv, kfw, kfx, kfy, Nat.reduceAdd, Nat.reduceLeDiff, Nat.reduceLT, Nat.reduceMul, Nat.reduceSub, kfz, kga, kgb, kgc, kgd, kge, kgf, kgg, kgh, kgi, kgj, kgk, kgl, kgm, kgn, kgo, kgp, kgq, kgr, kgs, kgt, kgu, kgv, kgw, kgx, kgy, kgz, kha, khb, khc, khd, h2, hli]
    rw [hd] at hnot h
    rw [signN_one hnot] at h
    by_cases hs : isSgn l[pos] = true
    · rw [if_pos hs] at h
      simp only [isSgn, List.contains_iff_mem, List.mem_cons, List.not_mem_nil, or_false] at hs
      rcases hs with hs | hs | hs | hs | hs | hs | hs | hs | hs | hs | hs | hs | hs | hs | hs
      · have e : (l[pos].toNat : Int) = 123 := by rw [hs]; rfl
        simp (disch := omega) only [kaa, kab, kac, kad, kae, kaf, kag, kah, kai, kaj, kak, kal, kam, kan, kao, khe, khf, khg, khh, khi, khj, khk, khl, kap, kaq, kar, kas, kat, kau, kav, kaw, kax, kay, kaz, kba, kbb, kbc, kbd, kbe, kbf, kbg, kbh, kbi, kbj, kbk, kbl, kbm, kbn, kbo, kbp, kbq, kbr, kbs, kbt, kbu, kbv, kbw, kbx, kby, kbz, kca, kcb, kcc, kcd, kce, kcf, kcg, kch, kci, kcj, kck, kcl, kcm, aop, kcn, kco, kcp, kcq, kcr, kcs, kct, kcu, kcv, kcw, resultsL, resultOf, kcx, Nat.reduceEqDiff, kcy, kcz, kda, reduceCtorEq, kdb, kdc, kdd, kde, kdf, kdg, kdh, kdi, kdj, kdk, kdl, kdm, kdn, kdo, eq1, kdp, kdq, kdr, kds, kdt, kdu, kdv, kdw, kdx, kdy, kdz, kea, keb, kec, apartOK, apart2, AObj.live, ked, kee, kef, keg, keh, kei, kej, kek, kel, Int.reduceEq, Int.reduceLT, Int.reduceLE, Int.reduceAdd, Int.reduceSub, Int.reduceMul, Int.reduceToNat, kem, ken, keo, kep, keq, ker, kes, ket, keu, kev, kew, kex, key, kez, kfa, kfb, kfc, kfd, kfe, kff, kfg, kfh, kfi, kfj, kfk, kfl, cutCells, kfm, kfn, kfo, kfp, kfq, kfr, kfs, kft, kfu, kfv, kfw, kfx, kfy, Nat.reduceAdd, Nat.reduceLeDiff, Nat.reduceLT, Nat.reduceMul, Nat.reduceSub, kfz, kga, kgb, kgc, kgd, kge, kgf, kgg, kgh, kgi, kgj, kgk, kgl, kgm, kgn, kgo, kgp, kgq, kgr, kgs, kgt, kgu, kgv, kgw, kgx, kgy, kgz, kha, khb, khc, khd, h2, hli, e]
        exact h
      · have e : (l[pos].toNat : Int) = 125 := by rw [hs]; rfl
        simp (disch := omega) only [kaa, kab, kac, kad, kae, kaf, kag, kah, kai, kaj, kak, kal, kam, kan, kao, khe, khf, khg, khh, khi, khj, khk, khl, kap, kaq, kar, kas, kat, kau, kav, kaw, kax, kay, kaz, kba, kbb, kbc, kbd, kbe, kbf, kbg, kbh, kbi, kbj, kbk, kbl, kbm, kbn, kbo, kbp, kbq, kbr, kbs, kbt, kbu, kbv, kbw, kbx, kby, kbz, kca, kcb, kcc, kcd, kce, kcf, kcg, kch, kci, kcj, kck, kcl, kcm, aop, kcn, kco, kcp, kcq, kcr, kcs, kct, kcu, kcv, kcw, resultsL, resultOf, kcx, Nat.reduceEqDiff, kcy, kcz, kda, reduceCtorEq, kdb, kdc, kdd, kde, kdf, kdg, kdh, kdi, kdj, kdk, kdl, kdm, kdn, kdo, eq1, kdp, kdq, kdr, kds, kdt, kdu, kdv, kdw, kdx, kdy, kdz, kea, keb, kec, apartOK, apart2, AObj.live, ked, kee, kef, keg, keh, kei, kej, kek, kel, Int.reduceEq, Int.reduceLT, Int.reduceLE, Int.reduceAdd, Int.reduceSub, Int.reduceMul, Int.reduceToNat, kem, ken, keo, kep, keq, ker, kes, ket, keu, kev, kew, kex, key, kez, kfa, kfb, kfc, kfd, kfe, kff, kfg, kfh, kfi, kfj, kfk, kfl, cutCells, kfm, kfn, kfo, kfp, kfq, kfr, kfs, kft, kfu, kfv, kfw, kfx, kfy, Nat.reduceAdd, Nat.reduceLeDiff, Nat.reduceLT, Nat.reduceMul, Nat.reduceSub, kfz, kga, kgb, kgc, kgd, kge, kgf, kgg, kgh, kgi, kgj, kgk, kgl, kgm, kgn, kgo, kgp, kgq, kgr, kgs, kgt, kgu, kgv, kgw, kgx, kgy, kgz, kha, khb, khc, khd, h2, hli, e]
        exact h
      · have e : (l[pos].toNat : Int) = 40 := by rw [hs]; rfl
        simp (disch := omega) only [kaa, kab, kac, kad, kae, kaf, kag, kah, kai, kaj, kak, kal, kam, kan, kao, khe, khf, khg, khh, khi, khj, khk, khl, kap, kaq, kar, kas, kat, kau, kav, kaw, kax, kay, kaz, kba, kbb, kbc, kbd, kbe, kbf, kbg, kbh, kbi, kbj, kbk, kbl, kbm, kbn, kbo, kbp, kbq, kbr, kbs, kbt, kbu, kbv, kbw, kbx, kby, kbz, kca, kcb, kcc, kcd, kce, kcf, kcg, kch, kci, kcj, kck, kcl, kcm, aop, kcn, kco, kcp, kcq, kcr, kcs, kct, kcu, kcv, kcw, resultsL, resultOf, kcx, Nat.reduceEqDiff, kcy, kcz, kda, reduceCtorEq, kdb, kdc, kdd, kde, kdf, kdg, kdh, kdi, kdj, kdk, kdl, kdm, kdn, kdo, eq1, kdp, kdq, kdr, kds, kdt, kdu, kdv, kdw, kdx, kdy, kdz, kea, keb, kec, apartOK, apart2, AObj.live, ked, kee, kef, keg, keh, kei, kej, kek, kel, Int.reduceEq, Int.reduceLT, Int.reduceLE, Int.reduceAdd, Int.reduceSub, Int.reduceMul, Int.reduceToNat, kem, ken, keo, kep, keq, ker, kes, ket, keu, kev, kew, kex, key, kez, kfa, kfb, kfc, kfd, kfe, kff, kfg, kfh, kfi, kfj, kfk, kfl, cutCells, kfm, kfn, kfo, kfp, kfq, kfr, kfs, kft, kfu, kfv, kfw, kfx, kfy, Nat.reduceAdd, Nat.reduceLeDiff, Nat.reduceLT, Nat.reduceMul, Nat.reduceSub, kfz, kga, kgb, kgc, kgd, kge, kgf, kgg, kgh, kgi, kgj, kgk, kgl, kgm, kgn, kgo, kgp, kgq, kgr, kgs, kgt, kgu, kgv, kgw, kgx, kgy, kgz, kha, khb, khc, khd, h2, hli, e]
        exact h
      · have e : (l[pos].toNat : Int) = 41 := by rw [hs]; rfl
        simp (disch := omega) only [kaa, kab, kac, kad, kae, kaf, kag, kah, kai, kaj, kak, kal, kam, kan, kao, khe, khf, khg, khh, khi, khj, khk, khl, kap, kaq, kar, kas, kat, kau, kav, kaw, kax, kay, kaz, kba, kbb, kbc, kbd, kbe, kbf, kbg, kbh, kbi, kbj, kbk, kbl, kbm, kbn, kbo, kbp, kbq, kbr, kbs, kbt, kbu, kbv, kbw, kbx, kby, kbz, kca, kcb, kcc, kcd, kce, kcf, kcg, kch, kci, kcj, kck, kcl, kcm, aop, kcn, kco, kcp, kcq, kcr, kcs, kct, kcu, kcv, kcw, resultsL, resultOf, kcx, Nat.reduceEqDiff, kcy, kcz, kda, reduceCtorEq, kdb, kdc, kdd, kde, kdf, kdg, kdh, kdi, kdj, kdk, kdl, kdm, kdn, kdo, eq1, kdp, kdq, kdr, kds, kdt, kdu, kdv, kdw, kdx, kdy, kdz, kea, keb, kec, apartOK, apart2, AObj.live, ked, kee, kef, keg, keh, kei, kej, kek, kel, Int.reduceEq, Int.reduceLT, Int.reduceLE, Int.reduceAdd, Int.reduceSub, Int.reduceMul, Int.reduceToNat, kem, ken, keo, kep, keq, ker, kes, ket, keu, kev, kew, kex, key, kez, kfa, kfb, kfc, kfd, kfe, kff, kfg, kfh, kfi, kfj, kfk, kfl, cutCells, kfm, kfn, kfo, kfp, kfq, kfr, kfs, kft, kfu, kfv, kfw, kfx, kfy, Nat.reduceAdd, Nat.reduceLeDiff, Nat.reduceLT, Nat.reduceMul, Nat.reduceSub, kfz, kga, kgb, kgc, kgd, kge, kgf, kgg, kgh, kgi, kgj, kgk, kgl, kgm, kgn, kgo, kgp, kgq, kgr, kgs, kgt, kgu, kgv, kgw, kgx, kgy, kgz, kha, khb, khc, khd, h2, hli, e]
        exact h
      · have e : (l[pos].toNat : Int) = 59 := by rw [hs]; rfl
        simp (disch := omega) only [kaa, kab, kac, kad, kae, kaf, kag, kah, kai, kaj, kak, kal, kam, kan, kao, khe, khf, khg, khh, khi, khj, khk, khl, kap, kaq, kar, kas, kat, kau, kav, kaw, kax, kay, kaz, kba, kbb, kbc, kbd, kbe, kbf, kbg, kbh, kbi, kbj, kbk, kbl, kbm, kbn, kbo, kbp, kbq, kbr, kbs, kbt, kbu, kbv, kbw, kbx, kby, kbz, kca, kcb, kcc, kcd, kce, kcf, kcg, kch, kci, kcj, kck, kcl, kcm, aop, kcn, kco, kcp, kcq, kcr, kcs, kct, kcu, kcv, kcw, resultsL, resultOf, kcx, Nat.reduceEqDiff, kcy, kcz, kda, reduceCtorEq, kdb, kdc, kdd, kde, kdf, kdg, kdh, kdi, kdj, kdk, kdl, kdm, kdn, kdo, eq1, kdp, kdq, kdr, kds, kdt, kdu, kdv, kdw, kdx, kdy, kdz, kea, keb, kec, apartOK, apart2, AObj.live, ked, kee, kef, keg, keh, kei, kej, kek, kel, Int.reduceEq, Int.reduceLT, Int.reduceLE, Int.reduceAdd, Int.reduceSub, Int.reduceMul, Int.reduceToNat, kem, ken, keo, kep, keq, ker, kes, ket, keu, kev, kew, kex, key, kez, kfa, kfb, kfc, kfd, kfe, kff, kfg, kfh, kfi, kfj, kfk, kfl, cutCells, kfm, kfn, kfo, kfp, kfq, kfr, kfs, kft, kfu, kfv, kfw, kfx, kfy, Nat.reduceAdd, Nat.reduceLeDiff, Nat.reduceLT, Nat.reduceMul, Nat.reduceSub, kfz, kga, kgb, kgc, kgd, kge, kgf, kgg, kgh, kgi, kgj, kgk, kgl, kgm, kgn, kgo, kgp, kgq, kgr, kgs, kgt, kgu, kgv, kgw, kgx, kgy, kgz, kha, khb, khc, khd, h2, hli, e]
        exact h
      · have e : (l[pos].toNat : Int) = 58 := by rw [hs]; rfl
        simp (disch := omega) only [kaa, kab, kac, kad, kae, kaf, kag, kah, kai, kaj, kak, kal, kam, kan, kao, khe, khf, khg, khh, khi, khj, khk, khl, kap, kaq, kar, kas, kat, kau, kav, kaw, kax, kay, kaz, kba, kbb, kbc, kbd, kbe, kbf, kbg, kbh, kbi, kbj, kbk, kbl, kbm, kbn, kbo, kbp, kbq, kbr, kbs, kbt, kbu, kbv, kbw, kbx, kby, kbz, kca, kcb, kcc, kcd, kce, kcf, kcg, kch, kci, kcj, kck, kcl, kcm, aop, kcn, kco, kcp, kcq, kcr, kcs, kct, kcu, kcv, kcw, resultsL, resultOf, kcx, Nat.reduceEqDiff, kcy, kcz, kda, reduceCtorEq, kdb, kdc, kdd, kde, kdf, kdg, kdh, kdi, kdj, kdk, kdl, kdm, kdn, kdo, eq1, kdp, kdq, kdr, kds, kdt, kdu, kdv, kdw, kdx, kdy, kdz, kea, keb, kec, apartOK, apart2, AObj.live, ked, kee, kef, keg, keh, kei, kej, kek, kel, Int.reduceEq, Int.reduceLT, Int.reduceLE, Int.reduceAdd, Int.reduceSub, Int.reduceMul, Int.reduceToNat, kem, ken, keo, kep, keq, ker, kes, ket, keu, kev, kew, kex, key, kez, kfa, kfb, kfc, kfd, kfe, kff, kfg, kfh, kfi, kfj, kfk, kfl, cutCells, kfm, kfn, kfo, kfp, kfq, kfr, kfs, kft, kfu, kfv, kfw, kfx, kfy, Nat.reduceAdd, Nat.reduceLeDiff, Nat.reduceLT, Nat.reduceMul, Nat.reduceSub, kfz, kga, kgb, kgc, kgd, kge, kgf, kgg, kgh, kgi, kgj, kgk, kgl, kgm, kgn, kgo, kgp, kgq, kgr, kgs, kgt, kgu, kgv, kgw, kgx, kgy, kgz, kha, khb, khc, khd, h2, hli, e]
        exact h
      · have e : (l[pos].toNat : Int) = 44 := by rw [hs]; rfl
        simp (disch := omega) only [kaa, kab, kac, kad, kae, kaf, kag, kah, kai, kaj, kak, kal, kam, kan, kao, khe, khf, khg, khh, khi, khj, khk, khl, kap, kaq, kar, kas, kat, kau, kav, kaw, kax, kay, kaz, kba, kbb, kbc, kbd, kbe, kbf, kbg, kbh, kbi, kbj, kbk, kbl, kbm, kbn, kbo, kbp, kbq, kbr, kbs, kbt, kbu, kbv, kbw, kbx, kby, kbz, kca, kcb, kcc, kcd, kce, kcf, kcg, kch, kci, kcj, kck, kcl, kcm, aop, kcn, kco, kcp, kcq, kcr, kcs, kct, kcu, kcv, kcw, resultsL, resultOf, kcx, Nat.reduceEqDiff, kcy, kcz, kda, reduceCtorEq, kdb, kdc, kdd, kde, kdf, kdg, kdh, kdi, kdj, kdk, kdl, kdm, kdn, kdo, eq1, kdp, kdq, kdr, kds, kdt, kdu, kdv, kdw, kdx, kdy, kdz, kea, keb, kec, apartOK, apart2, AObj.live, ked, kee, kef, keg, keh, kei, kej, kek, kel, Int.reduceEq, Int.reduceLT, Int.reduceLE, Int.reduceAdd, Int.reduceSub, Int.reduceMul, Int.reduceToNat, kem, ken, keo, kep, keq, ker, kes, ket, keu, kev, kew, kex, key, kez, kfa, kfb, kfc, kfd, kfe, kff, kfg, kfh, kfi, kfj, kfk, kfl, cutCells, kfm, kfn, kfo, kfp, kfq, kfr, kfs, kft, kfu, kfv, kfw, kfx, kfy, Nat.reduceAdd, Nat.reduceLeDiff, Nat.reduceLT, Nat.reduceMul, Nat.reduceSub, kfz, kga, kgb, kgc, kgd, kge, kgf, kgg, kgh, kgi, kgj, kgk, kgl, kgm, kgn, kgo, kgp, kgq, kgr, kgs, kgt, kgu, kgv, kgw, kgx, kgy, kgz, kha, khb, khc, khd, h2, hli, e]
        exact h
      · have e : (l[pos].toNat : Int) = 46 := by rw [hs]; rfl
        simp (disch := omega) only [kaa, kab, kac, kad, kae, kaf, kag, kah, kai, kaj, kak, kal, kam, kan, kao, khe, khf, khg, khh, khi, khj, khk, khl, kap, kaq, kar, kas, kat, kau, kav, kaw, kax, kay, kaz, kba, kbb, kbc, kbd, kbe, kbf, kbg, kbh, kbi, kbj, kbk, kbl, kbm, kbn, kbo, kbp, kbq, kbr, kbs, kbt, kbu, kbv, kbw, kbx, kby, kbz, kca, kcb, kcc, kcd, kce, kcf, kcg, kch, kci, kcj, kck, kcl, kcm, aop, kcn, kco, kcp, kcq, kcr, kcs, kct, kcu, kcv, kcw, resultsL, resultOf, kcx, Nat.reduceEqDiff, kcy, kcz, kda, reduceCtorEq, kdb, kdc, kdd, kde, kdf, kdg, kdh, kdi, kdj, kdk, kdl, kdm, kdn, kdo, eq1, kdp, kdq, kdr, kds, kdt, kdu, kdv, kdw, kdx, kdy, kdz, kea, keb, kec, apartOK, apart2, AObj.live, ked, kee, kef, keg, keh, kei, kej, kek, kel, Int.reduceEq, Int.reduceLT, Int.reduceLE, Int.reduceAdd, Int.reduceSub, Int.reduceMul, Int.reduceToNat, kem, ken, keo, kep, keq, ker, kes, ket, keu, kev, kew, kex, key, kez, kfa, kfb, kfc, kfd, kfe, kff, kfg, kfh, kfi, kfj, kfk, kfl, cutCells, kfm, kfn, kfo, kfp, kfq, kfr, kfs, kft, kfu, kfv, kfw, kfx, kfy, Nat.reduceAdd, Nat.reduceLeDiff, Nat.reduceLT, Nat.reduceMul, Nat.reduceSub, kfz, kga, kgb, kgc, kgd, kge, kgf, kgg, kgh, kgi, kgj, kgk, kgl, kgm, kgn, kgo, kgp, kgq, kgr, kgs, kgt, kgu, kgv, kgw, kgx, kgy, kgz, kha, khb, khc, khd, h2, hli, e]
        exact h
      · have e : (l[pos].toNat : Int) = 61 := by rw [hs]; rfl
        simp (disch := omega) only [kaa, kab, kac, kad, kae, kaf, kag, kah, kai, kaj, kak, kal, kam, kan, kao, khe, khf, khg, khh, khi, khj, khk, khl, kap, kaq, kar, kas, kat, kau, kav, kaw, kax, kay, kaz, kba, kbb, kbc, kbd, kbe, kbf, kbg, kbh, kbi, kbj, kbk, kbl, kbm, kbn, kbo, kbp, kbq, kbr, kbs, kbt, kbu, kbv, kbw, kbx, kby, kbz, kca, kcb, kcc, kcd, kce, kcf, kcg, kch, kci, kcj, kck, kcl, kcm, aop, kcn, kco, kcp, kcq, kcr, kcs, kct, kcu, kcv, kcw, resultsL, resultOf, kcx, Nat.reduceEqDiff, kcy, kcz, kda, reduceCtorEq, kdb, kdc, kdd, kde, kdf, kdg, kdh, kdi, kdj, kdk, kdl, kdm, kdn, kdo, eq1, kdp, kdq, kdr, kds, kdt, kdu, kdv, kdw, kdx, kdy, kdz, kea, keb, kec, apartOK, apart2, AObj.live, ked, kee, kef, keg, keh, kei, kej, kek, kel, Int.reduceEq, Int.reduceLT, Int.reduceLE, Int.reduceAdd, Int.reduceSub, Int.reduceMul, Int.reduceToNat, kem, ken, keo, kep, keq, ker, kes, ket, keu, kev, kew, kex, key, kez, kfa, kfb, kfc, kfd, kfe, kff, kfg, kfh, kfi, kfj, kfk, kfl, cutCells, kfm, kfn, kfo, kfp, kfq, kfr, kfs, kft, kfu, kfv, kfw, kfx, kfy, Nat.reduceAdd, Nat.reduceLeDiff, Nat.reduceLT, Nat.reduceMul, Nat.reduceSub, kfz, kga, kgb, kgc, kgd, kge, kgf, kgg, kgh, kgi, kgj, kgk, kgl, kgm, kgn, kgo, kgp, kgq, kgr, kgs, kgt, kgu, kgv, kgw, kgx, kgy, kgz, kha, khb, khc, khd, h2, hli, e]
        exact h
      · have e : (l[pos].toNat : Int) = 60 := by rw [hs]; rfl
        simp (disch := omega) only [kaa, kab, kac, kad, kae, kaf, kag, kah, kai, kaj, kak, kal, kam, kan, kao, khe, khf, khg, khh, khi, khj, khk, khl, kap, kaq, kar, kas, kat, kau, kav, kaw, kax, kay, kaz, kba, kbb, kbc, kbd, kbe, kbf, kbg, kbh, kbi, kbj, kbk, kbl, kbm, kbn, kbo, kbp, kbq, kbr, kbs, kbt, kbu, kbv, kbw, kbx, kby, kbz, kca, kcb, kcc, kcd, kce, kcf, kcg, kch, kci, kcj, kck, kcl, kcm, aop, kcn, kco, kcp, kcq, kcr, kcs, kct, kcu, kcv, kcw, resultsL, resultOf, kcx, Nat.reduceEqDiff, kcy, kcz, kda, reduceCtorEq, kdb, kdc, kdd, kde, kdf, kdg, kdh, kdi, kdj, kdk, kdl, kdm, kdn, kdo, eq1, kdp, kdq, kdr, kds, kdt, kdu, kdv, kdw, kdx, kdy, kdz, kea, keb, kec, apartOK, apart2, AObj.live, ked, kee, kef, keg, keh, kei, kej, kek, kel, Int.reduceEq, Int.reduceLT, Int.reduceLE, Int.reduceAdd, Int.reduceSub, Int.reduceMul, Int.reduceToNat, kem, ken, keo, kep, keq, ker, kes, ket, keu, kev, kew, kex, key, kez, kfa, kfb, kfc, kfd, kfe, kff, kfg, kfh, kfi, kfj, kfk, kfl, cutCells, kfm, kfn, kfo, kfp, kfq, kfr, kfs, kft, kfu, kfv, kfw, kfx, kfy, Nat.reduceAdd, Nat.reduceLeDiff, Nat.reduceLT, Nat.reduceMul, Nat.reduceSub, kfz, kga, kgb, kgc, kgd, kge, kgf, kgg, kgh, kgi, kgj, kgk, kgl, kgm, kgn, kgo, kgp, kgq, kgr, kgs, kgt, kgu, kgv, kgw, kgx, kgy, kgz, kha, khb, khc, khd, h2, hli, e]
        exact h
      · have e : (l[pos].toNat : Int) = 43 := by rw [hs]; rfl
        simp (disch := omega) only [kaa, kab, kac, kad, kae, kaf, kag, kah, kai, kaj, kak, kal, kam, kan, kao, khe, khf, khg, khh, khi, khj, khk, khl, kap, kaq, kar, kas, kat, kau, kav, kaw, kax, kay, kaz, kba, kbb, kbc, kbd, kbe, kbf, kbg, kbh, kbi, kbj, kbk, kbl, kbm, kbn, kbo, kbp, kbq, kbr, kbs, kbt, kbu, kbv, kbw, kbx, kby, kbz, kca, kcb, kcc, kcd, kce, kcf, kcg, kch, kci, kcj, kck, kcl, kcm, aop, kcn, kco, kcp, kcq, kcr, kcs, kct, kcu, kcv, kcw, resultsL, resultOf, kcx, Nat.reduceEqDiff, kcy, kcz, kda, reduceCtorEq, kdb, kdc, kdd, kde, kdf, kdg, kdh, kdi, kdj, kdk, kdl, kdm, kdn, kdo, eq1, kdp, kdq, kdr, kds, kdt, kdu, kdv, kdw, kdx, kdy, kdz, kea, keb, kec, apartOK, apart2, AObj.live, ked, kee, kef, keg, keh, kei, kej, kek, kel, Int.reduceEq, Int.reduceLT, Int.reduceLE, Int.reduceAdd, Int.reduceSub, Int.reduceMul, Int.reduceToNat, kem, ken, keo, kep, keq, ker, kes, ket, keu, kev, kew, kex, key, kez, kfa, kfb, kfc, kfd, kfe, kff, kfg, kfh, kfi, kfj, kfk, kfl, cutCells, kfm, kfn, kfo, kfp, kfq, kfr, kfs, kft, kfu, kfv, kfw, kfx, kfy, Nat.reduceAdd, Nat.reduceLeDiff, Nat.reduceLT, Nat.reduceMul, Nat.reduceSub, kfz, kga, kgb, kgc, kgd, kge, kgf, kgg, kgh, kgi, kgj, kgk, kgl, kgm, kgn, kgo, kgp, kgq, kgr, kgs, kgt, kgu, kgv, kgw, kgx, kgy, kgz, kha, khb, khc, khd, h2, hli, e]
        exact h
      · have e : (l[pos].toNat : Int) = 45 := by rw [hs]; rfl
        simp (disch := omega) only [kaa, kab, kac, kad, kae, kaf, kag, kah, kai, kaj, kak, kal, kam, kan, kao, khe, khf, khg, khh, khi, khj, khk, khl, kap, kaq, kar, kas, kat, kau, kav, kaw, kax, kay, kaz, kba, kbb, kbc, kbd, kbe, kbf, kbg, kbh, kbi, kbj, kbk, kbl, kbm, kbn, kbo, kbp, kbq, kbr, kbs, kbt, kbu, kbv, kbw, kbx, kby, kbz, kca, kcb, kcc, kcd, kce, kcf, kcg, kch, kci, kcj, kck, kcl, kcm, aop, kcn, kco, kcp, kcq, kcr, kcs, kct, kcu, kcv, kcw, resultsL, resultOf, kcx, Nat.reduceEqDiff, kcy, kcz, kda, reduceCtorEq, kdb, kdc, kdd, kde, kdf, kdg, kdh, kdi, kdj, kdk, kdl, kdm, kdn, kdo, eq1, kdp, kdq, kdr, kds, kdt, kdu, kdv, kdw, kdx, kdy, kdz, kea, keb, kec, apartOK, apart2, AObj.live, ked, kee, kef, keg, keh, kei, kej, kek, kel, Int.reduceEq, Int.reduceLT, Int.reduceLE, Int.reduceAdd, Int.reduceSub, Int.reduceMul, Int.reduceToNat, kem, ken, keo, kep, keq, ker, kes, ket, keu, kev, kew, kex, key, kez, kfa, kfb, kfc, kfd, kfe, kff, kfg, kfh, kfi, kfj, kfk, kfl, cutCells, kfm, kfn, kfo, kfp, kfq, kfr, kfs, kft, kfu, kfv, kfw, kfx, kfy, Nat.reduceAdd, Nat.reduceLeDiff, Nat.reduceLT, Nat.reduceMul, Nat.reduceSub, kfz, kga, kgb, kgc, kgd, kge, kgf, kgg, kgh, kgi, kgj, kgk, kgl, kgm, kgn, kgo, kgp, kgq, kgr, kgs, kgt, kgu, kgv, kgw, kgx, kgy, kgz, kha, khb, khc, khd, h2, hli, e]
        exact h
      · have e : (l[pos].toNat : Int) = 38 := by rw [hs]; rfl
        simp (disch := omega) only [kaa, kab, kac, kad, kae, kaf, kag, kah, kai, kaj, kak, kal, kam, kan, kao, khe, khf, khg, khh, khi, khj, khk, khl, kap, kaq, kar, kas, kat, kau, kav, kaw, kax, kay, kaz, kba, kbb, kbc, kbd, kbe, kbf, kbg, kbh, kbi, kbj, kbk, kbl, kbm, kbn, kbo, kbp, kbq, kbr, kbs, kbt, kbu, kbv, kbw, kbx, kby, kbz, kca, kcb, kcc, kcd, kce, kcf, kcg, kch, kci, kcj, kck, kcl, kcm, aop, kcn, kco, kcp, kcq, kcr, kcs, kct, kcu, kcv, kcw, resultsL, resultOf, kcx, Nat.reduceEqDiff, kcy, kcz, kda, reduceCtorEq, kdb, kdc, kdd, kde, kdf, kdg, kdh, kdi, kdj, kdk, kdl, kdm, kdn, kdo, eq1, kdp, kdq, kdr, kds, kdt, kdu, kdv, kdw, kdx, kdy, kdz, kea, keb, kec, apartOK, apart2, AObj.live, ked, kee, kef, keg, keh, kei, kej, kek, kel, Int.reduceEq, Int.reduceLT, Int.reduceLE, Int.reduceAdd, Int.reduceSub, Int.reduceMul, Int.reduceToNat, kem, ken, keo, kep, keq, ker, kes, ket, keu, kev, kew, kex, key, kez, kfa, kfb, kfc, kfd, kfe, kff, kfg, kfh, kfi, kfj, kfk, kfl, cutCells, kfm, kfn, kfo, kfp, kfq, kfr, kfs, kft, kfu, kfv, kfw, kfx, kfy, Nat.reduceAdd, Nat.reduceLeDiff, Nat.reduceLT, Nat.reduceMul, Nat.reduceSub, kfz, kga, kgb, kgc, kgd, kge, kgf, kgg, kgh, kgi, kgj, kgk, kgl, kgm, kgn, kgo, kgp, kgq, kgr, kgs, kgt, kgu, kgv, kgw, kgx, kgy, kgz, kha, khb, khc, khd, h2, hli, e]
        exact h
      · have e : (l[pos].toNat : Int) = 124 := by rw [hs]; rfl
        simp (disch := omega) only [kaa, kab, kac, kad, kae, kaf, kag, kah, kai, kaj, kak, kal, kam, kan, kao, khe, khf, khg, khh, khi, khj, khk, khl, kap, kaq, kar, kas, kat, kau, kav, kaw, kax, kay, kaz, kba, kbb, kbc, kbd, kbe, kbf, kbg, kbh, kbi, kbj, kbk, kbl, kbm, kbn, kbo, kbp, kbq, kbr, kbs, kbt, kbu, kbv, kbw, kbx, kby, kbz, kca, kcb, kcc, kcd, kce, kcf, kcg, kch, kci, kcj, kck, kcl, kcm, aop, kcn, kco, kcp, kcq, kcr, kcs, kct, kcu, kcv, kcw, resultsL, resultOf, kcx, Nat.reduceEqDiff, kcy, kcz, kda, reduceCtorEq, kdb, kdc, kdd, kde, kdf, kdg, kdh, kdi, kdj, kdk, kdl, kdm, kdn, kdo, eq1, kdp, kdq, kdr, kds, kdt, kdu, kdv, kdw, kdx, kdy, kdz, kea, keb, kec, apartOK, apart2, AObj.live, ked, kee, kef, keg, keh, kei, kej, kek, kel, Int.reduceEq, Int.reduceLT, Int.reduceLE, Int.reduceAdd, Int.reduceSub, Int.reduceMul, Int.reduceToNat, kem, ken, keo, kep, keq, ker, kes, ket, keu, kev, kew, kex, key, kez, kfa, kfb, kfc, kfd, kfe, kff, kfg, kfh, kfi, kfj, kfk, kfl, cutCells, kfm, kfn, kfo, kfp, kfq, kfr, kfs, kft, kfu, kfv, kfw, kfx, kfy, Nat.reduceAdd, Nat.reduceLeDiff, Nat.reduceLT, Nat.reduceMul, Nat.reduceSub, kfz, kga, kgb, kgc, kgd, kge, kgf, kgg, kgh, kgi, kgj, kgk, kgl, kgm, kgn, kgo, kgp, kgq, kgr, kgs, kgt, kgu, kgv, kgw, kgx, kgy, kgz, kha, khb, khc, khd, h2, hli, e]
        exact h
      · have e : (l[pos].toNat : Int) = 94 := by rw [hs]; rfl
        simp (disch := omega) only [kaa, kab, kac, kad, kae, kaf, kag, kah, kai, kaj, kak, kal, kam, kan, kao, khe, khf, khg, khh, khi, khj, khk, khl, kap, kaq, kar, kas, kat, kau, kav, kaw, kax, kay, kaz, kba, kbb, kbc, kbd, kbe, kbf, kbg, kbh, kbi, kbj, kbk, kbl, kbm, kbn, kbo, kbp, kbq, kbr, kbs, kbt, kbu, kbv, kbw, kbx, kby, kbz, kca, kcb, kcc, kcd, kce, kcf, kcg, kch, kci, kcj, kck, kcl, kcm, aop, kcn, kco, kcp, kcq, kcr, kcs, kct, kcu, kcv, kcw, resultsL, resultOf, kcx, Nat.reduceEqDiff, kcy, kcz, kda, reduceCtorEq, kdb, kdc, kdd, kde, kdf, kdg, kdh, kdi, kdj, kdk, kdl, kdm, kdn, kdo, eq1, kdp, kdq, kdr, kds, kdt, kdu, kdv, kdw, kdx, kdy, kdz, kea, keb, kec, apartOK, apart2, AObj.live, ked, kee, kef, keg, keh, kei, kej, kek, kel, Int.reduceEq, Int.reduceLT, Int.reduceLE, Int.reduceAdd, Int.reduceSub, Int.reduceMul, Int.reduceToNat, kem, ken, keo, kep, keq, ker, kes, ket, keu, kev, kew, kex, key, kez, kfa, kfb, kfc, kfd, kfe, kff, kfg, kfh, kfi, kfj, kfk, kfl, cutCells, kfm, kfn, kfo, kfp, kfq, kfr, kfs, kft, kfu, kfv, kfw, kfx, kfy, Nat.reduceAdd, Nat.reduceLeDiff, Nat.reduceLT, Nat.reduceMul, Nat.reduceSub, kfz, kga, kgb, kgc, kgd, kge, kgf, kgg, kgh, kgi, kgj, kgk, kgl, kgm, kgn, kgo, kgp, kgq, kgr, kgs, kgt, kgu, kgv, kgw, kgx, kgy, kgz, kha, khb, khc, khd, h2, hli, e]
        exact h
    · rw [if_neg hs] at h
      have n123 : ¬ (l[pos].toNat : Int) = 123 := fun q => hs (by have : l[pos] = 123 := UInt8.toNat_inj.1 (show l[pos].toNat = (123 : UInt8).toNat from Int.ofNat.inj q); rw [this]; rfl)
      have n125 : ¬ (l[pos].toNat : Int) = 125 := fun q => hs (by have : l[pos] = 125 := UInt8.toNat_inj.1 (show l[pos].toNat = (125 : UInt8).toNat from Int.ofNat.inj q); rw [this]; rfl)
      have n40 : ¬ (l[pos].toNat : Int) = 40 := fun q => hs (by have : l[pos] = 40 := UInt8.toNat_inj.1 (show l[pos].toNat = (40 : UInt8).toNat from Int.ofNat.inj q); rw [this]; rfl)
      have n41 : ¬ (l[pos].toNat : Int) = 41 := fun q => hs (by have : l[pos] = 41 := UInt8.toNat_inj.1 (show l[pos].toNat = (41 : UInt8).toNat from Int.ofNat.inj q); rw [this]; rfl)
      have n59 : ¬ (l[pos].toNat : Int) = 59 := fun q => hs (by have : l[pos] = 59 := UInt8.toNat_inj.1 (show l[pos].toNat = (59 : UInt8).toNat from Int.ofNat.inj q); rw [this]; rfl)
      have n58 : ¬ (l[pos].toNat : Int) = 58 := fun q => hs (by have : l[pos] = 58 := UInt8.toNat_inj.1 (show l[pos].toNat = (58 : UInt8).toNat from Int.ofNat.inj q); rw [this]; rfl)
      have n44 : ¬ (l[pos].toNat : Int) = 44 := fun q => hs (by have : l[pos] = 44 := UInt8.toNat_inj.1 (show l[pos].toNat = (44 : UInt8).toNat from Int.ofNat.inj q); rw [this]; rfl)
      have n46 : ¬ (l[pos].toNat : Int) = 46 := fun q => hs (by have : l[pos] = 46 := UInt8.toNat_inj.1 (show l[pos].toNat = (46 : UInt8).toNat from Int.ofNat.inj q); rw [this]; rfl)
      have n61 : ¬ (l[pos].toNat : Int) = 61 := fun q => hs (by have : l[pos] = 61 := UInt8.toNat_inj.1 (show l[pos].toNat = (61 : UInt8).toNat from Int.ofNat.inj q); rw [this]; rfl)
      have n60 : ¬ (l[pos].toNat : Int) = 60 := fun q => hs (by have : l[pos] = 60 := UInt8.toNat_inj.1 (show l[pos].toNat = (60 : UInt8).toNat from Int.ofNat.inj q); rw [this]; rfl)
      have n43 : ¬ (l[pos].toNat : Int) = 43 := fun q => hs (by have : l[pos] = 43 := UInt8.toNat_inj.1 (show l[pos].toNat = (43 : UInt8).toNat from Int.ofNat.inj q); rw [this]; rfl)
      have n45 : ¬ (l[pos].toNat : Int) = 45 := fun q => hs (by have : l[pos] = 45 := UInt8.toNat_inj.1 (show l[pos].toNat = (45 : UInt8).toNat from Int.ofNat.inj q); rw [this]; rfl)
      have n38 : ¬ (l[pos].toNat : Int) = 38 := fun q => hs (by have : l[pos] = 38 := UInt8.toNat_inj.1 (show l[pos].toNat = (38 : UInt8).toNat from Int.ofNat.inj q); rw [this]; rfl)
      have n124 : ¬ (l[pos].toNat : Int) = 124 := fun q => hs (by have : l[pos] = 124 := UInt8.toNat_inj.1 (show l[pos].toNat = (124 : UInt8).toNat from Int.ofNat.inj q); rw [this]; rfl)
      have n94 : ¬ (l[pos].toNat : Int) = 94 := fun q => hs (by have : l[pos] = 94 := UInt8.toNat_inj.1 (show l[pos].toNat = (94 : UInt8).toNat from Int.ofNat.inj q); rw [this]; rfl)
      simp (disch := omega) only [kaa, kab, kac, kad, kae, kaf, kag, kah, kai, kaj, kak, kal, kam, kan, kao, khe, khf, khg, khh, khi, khj, khk, khl, kap, kaq, kar, kas, kat, kau, kav, kaw, kax, kay, kaz, kba, kbb, kbc, kbd, kbe, kbf, kbg, kbh, kbi, kbj, kbk, kbl, kbm, kbn, kbo, kbp, kbq, kbr, kbs, kbt, kbu, kbv, kbw, kbx, kby, kbz, kca, kcb, kcc, kcd, kce, kcf, kcg, kch, kci, kcj, kck, kcl, kcm, aop, kcn, kco, kcp, kcq, kcr, kcs, kct, kcu, kcv, kcw, resultsL, resultOf, kcx, Nat.reduceEqDiff, kcy, kcz, kda, reduceCtorEq, kdb, kdc, kdd, kde, kdf, kdg, kdh, kdi, kdj, kdk, kdl, kdm, kdn, kdo, eq1, kdp, kdq, kdr, kds, kdt, kdu, kdv, kdw, kdx, kdy, kdz, kea, keb, kec, apartOK, apart2, AObj.live, ked, kee, kef, keg, keh, kei, kej, kek, kel, Int.reduceEq, Int.reduceLT, Int.reduceLE, Int.reduceAdd, Int.reduceSub, Int.reduceMul, Int.reduceToNat, kem, ken, keo, kep, keq, ker, kes, ket, keu, kev, kew, kex, key, kez, kfa, kfb, kfc, kfd, kfe, kff, kfg, kfh, kfi, kfj, kfk, kfl, cutCells, kfm, kfn, kfo, kfp, kfq, kfr, kfs, kft, kfu, kfv, kfw, kfx, kfy, Nat.reduceAdd, Nat.reduceLeDiff, Nat.reduceLT, Nat.reduceMul, Nat.reduceSub, kfz, kga, kgb, kgc, kgd, kge, kgf, kgg, kgh, kgi, kgj, kgk, kgl, kgm, kgn, kgo, kgp, kgq, kgr, kgs, kgt, kgu, kgv, kgw, kgx, kgy, kgz, kha, khb, khc, khd, h2, hli, n123, n125, n40, n41, n59, n58, n44, n46, n61, n60, n43, n45, n38, n124, n94]
      exact h

end Go.Proofs.YtedemfmafdilmaaDoor.Ev

/- Each word stands at its place and is by itself just that word: the plain law. -/
namespace Go.Proofs.YtedemfmafdilmaaDoor.Ev
set_option linter.unusedSimpArgs false
set_option linter.unusedVariables false

/-- Is a text blanks and remarks? -/
def blkB : Bool → List UInt8 → Bool → Bool
  | r, [], e => !r || e
  | true, b :: l, e => blkB (!(b.toNat == 10)) l e
  | false, b :: l, e => if b.toNat = 35 then blkB true l e else if blankQ b = true then blkB false l e else false

theorem blk_some : ∀ (r : Bool) (l : List UInt8), skN r l < l.length → blkB r (l.take (skN r l)) false = true ∧ skN false (l.drop (skN r l)) = 0
  | _, [], h => by simp at h
  | true, b :: l, h => by
    simp only [skN, List.length_cons] at h
    obtain ⟨h1, h2⟩ := blk_some (!(b.toNat == 10)) l (by omega)
    simp only [skN]
    rw [Nat.add_comm 1, List.take_succ_cons, List.drop_succ_cons, blkB]
    exact ⟨h1, h2⟩
  | false, b :: l, h => by
    rw [skN] at h ⊢
    split at h
    · rename_i hb
      rw [if_pos hb]
      simp only [List.length_cons] at h
      obtain ⟨h1, h2⟩ := blk_some true l (by omega)
      rw [Nat.add_comm 1, List.take_succ_cons, List.drop_succ_cons, blkB, if_pos hb]
      exact ⟨h1, h2⟩
    · rename_i hb
      rw [if_neg hb]
      split at h
      · rename_i hq
        rw [if_pos hq]
        simp only [List.length_cons] at h
        obtain ⟨h1, h2⟩ := blk_some false l (by omega)
        rw [Nat.add_comm 1, List.take_succ_cons, List.drop_succ_cons, blkB, if_neg hb, if_pos hq]
        exact ⟨h1, h2⟩
      · rename_i hq
        rw [if_neg hq]
        refine ⟨rfl, ?_⟩
        rw [List.drop_zero, skN, if_neg hb, if_neg hq]

theorem blk_all : ∀ (r : Bool) (l : List UInt8), skN r l = l.length → blkB r l true = true
  | r, [], _ => by simp [blkB]
  | true, b :: l, h => by
    simp only [skN, List.length_cons] at h
    rw [blkB]
    exact blk_all _ l (by omega)
  | false, b :: l, h => by
    rw [skN] at h
    rw [blkB]
    simp only [List.length_cons] at h
    split at h
    · rename_i hb
      rw [if_pos hb]
      exact blk_all true l (by omega)
    · rename_i hb
      rw [if_neg hb]
      split at h
      · rename_i hq
        rw [if_pos hq]
        exact blk_all false l (by omega)
      · omega

/-- Places rise. -/
theorem adv_lt : ∀ (l : List UInt8) (p : Nat × Nat), l ≠ [] → p.1 < (adv p l).1 ∨ (p.1 = (adv p l).1 ∧ p.2 < (adv p l).2)
  | [], p, h => absurd rfl h
  | [b], p, _ => by
    by_cases hb : b.toNat = 10
    · left; simp [adv, hb]
    · right; simp [adv, hb]
  | b :: c :: l, p, _ => by
    by_cases hb : b.toNat = 10
    · have := adv_lt (c :: l) (p.1 + 1, 1) (by simp)
      rw [adv, if_pos hb]
      simp only at this
      omega
    · have := adv_lt (c :: l) (p.1, p.2 + 1) (by simp)
      rw [adv, if_neg hb]
      simp only at this
      omega

theorem isSgn_plain {c : UInt8} (h : isSgn c = true) : partQ c = false := by
  simp only [isSgn, List.contains_iff_mem, List.mem_cons, List.not_mem_nil, or_false] at h
  rcases h with rfl | rfl | rfl | rfl | rfl | rfl | rfl | rfl | rfl | rfl | rfl | rfl | rfl | rfl | rfl <;> decide

/-- A word by itself. -/
theorem tok_self {rest : List UInt8} {k : Int} {m v : Nat} (h : tok rest = .ok (k, m, v)) (hs : skN false rest = 0) : tok (rest.take m) = .ok (k, m, v) ∧ skN false (rest.take m) = 0 ∧ (rest.take m).length = m := by
  have hm := tok_pos h
  have hlen : (rest.take m).length = m := by rw [List.length_take]; omega
  have hsk : skN false (rest.take m) = 0 := by
    cases rest with
    | nil => simp [skN]
    | cons a l =>
      cases m with
      | zero => exact absurd rfl hm.1
      | succ m =>
        rw [skN] at hs
        rw [List.take_succ_cons, skN]
        split at hs
        · omega
        · rename_i hb
          rw [if_neg hb]
          split at hs
          · omega
          · rename_i hq
            rw [if_neg hq]
  refine ⟨?_, hsk, hlen⟩
  have htw := takeWhile_le partQ rest
  have htk := take_takeWhile partQ rest
  unfold tok at h
  simp only at h
  by_cases h0 : 0 < (rest.takeWhile partQ).length
  · rw [if_pos h0] at h
    have hmm : m = (rest.takeWhile partQ).length := by
      split at h
      · split at h
        · cases h; rfl
        · cases h
      · split at h
        · cases h; rfl
        · split at h
          · cases h; rfl
          · cases h
    have hall : ∀ b ∈ rest.take m, partQ b = true := fun b hb => all_takeWhile partQ rest b (by rw [hmm, htk] at hb; exact hb)
    have hne : rest.take m ≠ [] := fun q => by rw [q] at hlen; simp at hlen; omega
    have hhd : (rest.take m).headD 0 = rest.headD 0 := by
      cases rest with
      | nil => simp at h0
      | cons a l =>
        cases m with
        | zero => exact absurd rfl hm.1
        | succ m => rfl
    rw [tok_parts hne hall, hhd, hlen]
    rw [← hmm] at h
    exact h
  · rw [if_neg h0] at h
    split at h
    · cases h
    · rename_i hsn
      obtain ⟨rfl, rfl, rfl⟩ : k = 4 ∧ m = signN rest ∧ v = 0 := by cases h; exact ⟨rfl, rfl, rfl⟩
      match rest, hm with
      | c :: t, hm =>
        by_cases htwo : (c :: t).take 2 = [61, 61] ∨ (c :: t).take 2 = [33, 61] ∨ (c :: t).take 2 = [60, 61]
        · rw [signN_two htwo]
          rcases htwo with q | q | q <;> rw [q] <;> rfl
        · have h1 := signN_one htwo
          rw [h1] at hsn ⊢
          by_cases hc : isSgn c = true
          · rw [if_pos hc]
            have hp := isSgn_plain hc
            have e : signN [c] = 1 := by
              rw [signN_one (by simp), if_pos hc]
            show tok [c] = _
            unfold tok
            simp [List.takeWhile_cons, hp, e]
          · rw [if_neg hc] at hsn
            exact absurd rfl hsn

end Go.Proofs.YtedemfmafdilmaaDoor.Ev

/- Blanks and remarks, as the law has them. -/
namespace Go.Proofs.YtedemfmafdilmaaDoor.Ev
set_option maxRecDepth 100000
set_option linter.unusedSimpArgs false
set_option linter.unusedVariables false
variable {R : FRes → Heap → Prop} {H : Heap}

def blI (l : List UInt8) (e0 : Bool) (H : Heap) : Nat → Env → Heap → Prop := fun n e H' =>
  ∃ (i : Nat) (r : Bool), i ≤ l.length ∧ n = l.length - i ∧ H' = H ∧ blkB false l e0 = blkB r (l.drop i) e0 ∧ (∃ x : Nat → Value, e = [.string (bs l), .bool e0, x 2, x 3, x 4, .bool r, .int .i64 i, x 7, x 8, x 9, x 10, x 11, x 12, x 13, x 14, x 15, x 16, x 17, x 18, x 19, x 20, x 21, x 22, x 23, x 24, x 25, x 26, x 27, x 28, x 29, x 30, x 31, x 32, x 33, x 34, x 35, x 36, x 37, x 38, x 39, x 40, x 41, x 42, x 43, x 44, x 45, x 46, x 47, x 48, x 49, x 50, x 51])

theorem blank_w {l : List UInt8} {e0 : Bool} (hl : l.length ≤ 1000000) (h : R (.ret (.bool (blkB false l e0))) H) : WD T 13 [.string (bs l), .bool e0] H R := by
  refine WD.of follows t13 (by simp) ?_
  simp (disch := omega) only [kaa, kab, kac, kad, kae, kaf, kag, kah, kai, kaj, kak, kal, kam, kan, kao, khe, khf, khg, khh, khi, khj, khk, khl, kap, kaq, kar, kas, kat, kau, kav, kaw, kax, kay, kaz, kba, kbb, kbc, kbd, kbe, kbf, kbg, kbh, kbi, kbj, kbk, kbl, kbm, kbn, kbo, kbp, kbq, kbr, kbs, kbt, kbu, kbv, kbw, kbx, kby, kbz, kca, kcb, kcc, kcd, kce, kcf, kcg, kch, kci, kcj, kck, kcl, kcm, aop, kcn, kco, kcp, kcq, kcr, kcs, kct, kcu, kcv, kcw, resultsL, resultOf, kcx, Nat.reduceEqDiff, kcy, kcz, kda, reduceCtorEq, kdb, kdc, kdd, kde, kdf, kdg, kdh, kdi, kdj, kdk, kdl, kdm, kdn, kdo, eq1, kdp, kdq, kdr, kds, kdt, kdu, kdv, kdw, kdx, kdy, kdz, kea, keb, kec, apartOK, apart2, AObj.live, ked, kee, kef, keg, keh, kei, kej, kek, kel, Int.reduceEq, Int.reduceLT, Int.reduceLE, Int.reduceAdd, Int.reduceSub, Int.reduceMul, Int.reduceToNat, kem, ken, keo, kep, keq, ker, kes, ket, keu, kev, kew, kex, key, kez, kfa, kfb, kfc, kfd, kfe, kff, kfg, kfh, kfi, kfj, kfk, kfl, cutCells, kfm, kfn, kfo, kfp, kfq, kfr, kfs, kft, kfu, kfv, kfw, kfx, kfy, Nat.reduceAdd, Nat.reduceLeDiff, Nat.reduceLT, Nat.reduceMul, Nat.reduceSub, kfz, kga, kgb, kgc, kgd, kge, kgf, kgg, kgh, kgi, kgj, kgk, kgl, kgm, kgn, kgo, kgp, kgq, kgr, kgs, kgt, kgu, kgv, kgw, kgx, kgy, kgz, kha, khb, khc, khd]
  refine WLoop.inv (blI l e0 H) ?_ l.length _ _ ⟨0, false, by omega, rfl, rfl, by simp, ex_env rfl⟩
  rintro n e H' ⟨i, r, k1, rfl, rfl, k3, ⟨x, rfl⟩⟩
  by_cases hi : i < l.length
  · have hi' : (i : Int) < l.length := by omega
    have hli : l[i]? = some l[i] := List.getElem?_eq_getElem hi
    have hd : l.drop i = l[i] :: l.drop (i + 1) := List.drop_eq_getElem_cons hi
    have h256 := l[i].toNat_lt
    rw [hd] at k3
    cases r with
    | true =>
      simp (disch := omega) only [kaa, kab, kac, kad, kae, kaf, kag, kah, kai, kaj, kak, kal, kam, kan, kao, khe, khf, khg, khh, khi, khj, khk, khl, kap, kaq, kar, kas, kat, kau, kav, kaw, kax, kay, kaz, kba, kbb, kbc, kbd, kbe, kbf, kbg, kbh, kbi, kbj, kbk, kbl, kbm, kbn, kbo, kbp, kbq, kbr, kbs, kbt, kbu, kbv, kbw, kbx, kby, kbz, kca, kcb, kcc, kcd, kce, kcf, kcg, kch, kci, kcj, kck, kcl, kcm, aop, kcn, kco, kcp, kcq, kcr, kcs, kct, kcu, kcv, kcw, resultsL, resultOf, kcx, Nat.reduceEqDiff, kcy, kcz, kda, reduceCtorEq, kdb, kdc, kdd, kde, kdf, kdg, kdh, kdi, kdj, kdk, kdl, kdm, kdn, kdo, eq1, kdp, kdq, kdr, kds, kdt, kdu, kdv, kdw, kdx, kdy, kdz, kea, keb, kec, apartOK, apart2, AObj.live, ked, kee, kef, keg, keh, kei, kej, kek, kel, Int.reduceEq, Int.reduceLT, Int.reduceLE, Int.reduceAdd, Int.reduceSub, Int.reduceMul, Int.reduceToNat, kem, ken, keo, kep, keq, ker, kes, ket, keu, kev, kew, kex, key, kez, kfa, kfb, kfc, kfd, kfe, kff, kfg, kfh, kfi, kfj, kfk, kfl, cutCells, kfm, kfn, kfo, kfp, kfq, kfr, kfs, kft, kfu, kfv, kfw, kfx, kfy, Nat.reduceAdd, Nat.reduceLeDiff, Nat.reduceLT, Nat.reduceMul, Nat.reduceSub, kfz, kga, kgb, kgc, kgd, kge, kgf, kgg, kgh, kgi, kgj, kgk, kgl, kgm, kgn, kgo, kgp, kgq, kgr, kgs, kgt, kgu, kgv, kgw, kgx, kgy, kgz, kha, khb, khc, khd, hi', hli, wr_i64, nadd1]
      rw [blkB] at k3
      have e : (l[i].toNat == 10) = decide (((l[i].toNat : Nat) : Int) = 10) := by rw [Bool.eq_iff_iff]; simp; omega
      rw [e] at k3
      exact ⟨l.length - (i + 1), by omega, i + 1, _, by omega, rfl, rfl, k3, ex_env rfl⟩
    | false =>
      rw [blkB] at k3
      by_cases h35 : (l[i].toNat : Int) = 35
      · rw [if_pos (by omega)] at k3
        simp (disch := omega) only [kaa, kab, kac, kad, kae, kaf, kag, kah, kai, kaj, kak, kal, kam, kan, kao, khe, khf, khg, khh, khi, khj, khk, khl, kap, kaq, kar, kas, kat, kau, kav, kaw, kax, kay, kaz, kba, kbb, kbc, kbd, kbe, kbf, kbg, kbh, kbi, kbj, kbk, kbl, kbm, kbn, kbo, kbp, kbq, kbr, kbs, kbt, kbu, kbv, kbw, kbx, kby, kbz, kca, kcb, kcc, kcd, kce, kcf, kcg, kch, kci, kcj, kck, kcl, kcm, aop, kcn, kco, kcp, kcq, kcr, kcs, kct, kcu, kcv, kcw, resultsL, resultOf, kcx, Nat.reduceEqDiff, kcy, kcz, kda, reduceCtorEq, kdb, kdc, kdd, kde, kdf, kdg, kdh, kdi, kdj, kdk, kdl, kdm, kdn, kdo, eq1, kdp, kdq, kdr, kds, kdt, kdu, kdv, kdw, kdx, kdy, kdz, kea, keb, kec, apartOK, apart2, AObj.live, ked, kee, kef, keg, keh, kei, kej, kek, kel, Int.reduceEq, Int.reduceLT, Int.reduceLE, Int.reduceAdd, Int.reduceSub, Int.reduceMul, Int.reduceToNat, kem, ken, keo, kep, keq, ker, kes, ket, keu, kev, kew, kex, key, kez, kfa, kfb, kfc, kfd, kfe, kff, kfg, kfh, kfi, kfj, kfk, kfl, cutCells, kfm, kfn, kfo, kfp, kfq, kfr, kfs, kft, kfu, kfv, kfw, kfx, kfy, Nat.reduceAdd, Nat.reduceLeDiff, Nat.reduceLT, Nat.reduceMul, Nat.reduceSub, kfz, kga, kgb, kgc, kgd, kge, kgf, kgg, kgh, kgi, kgj, kgk, kgl, kgm, kgn, kgo, kgp, kgq, kgr, kgs, kgt, kgu, kgv, kgw, kgx, kgy, kgz, kha, khb, khc, khd, hi', hli, h35, wr_i64, nadd1]
        exact ⟨l.length - (i + 1), by omega, i + 1, _, by omega, rfl, rfl, k3, ex_env rfl⟩
      · rw [if_neg (by omega)] at k3
        by_cases hq : blankQ l[i] = true
        · rw [if_pos hq] at k3
          have hq' : (l[i].toNat : Int) = 32 ∨ (l[i].toNat : Int) = 9 ∨ (l[i].toNat : Int) = 10 ∨ (l[i].toNat : Int) = 13 := by
            simp [blankQ, isBlankB] at hq
            omega
          rcases hq' with q | q | q | q <;> simp (disch := omega) only [kaa, kab, kac, kad, kae, kaf, kag, kah, kai, kaj, kak, kal, kam, kan, kao, khe, khf, khg, khh, khi, khj, khk, khl, kap, kaq, kar, kas, kat, kau, kav, kaw, kax, kay, kaz, kba, kbb, kbc, kbd, kbe, kbf, kbg, kbh, kbi, kbj, kbk, kbl, kbm, kbn, kbo, kbp, kbq, kbr, kbs, kbt, kbu, kbv, kbw, kbx, kby, kbz, kca, kcb, kcc, kcd, kce, kcf, kcg, kch, kci, kcj, kck, kcl, kcm, aop, kcn, kco, kcp, kcq, kcr, kcs, kct, kcu, kcv, kcw, resultsL, resultOf, kcx, Nat.reduceEqDiff, kcy, kcz, kda, reduceCtorEq, kdb, kdc, kdd, kde, kdf, kdg, kdh, kdi, kdj, kdk, kdl, kdm, kdn, kdo, eq1, kdp, kdq, kdr, kds, kdt, kdu, kdv, kdw, kdx, kdy, kdz, kea, keb, kec, apartOK, apart2, AObj.live, ked, kee, kef, keg, keh, kei, kej, kek, kel, Int.reduceEq, Int.reduceLT, Int.reduceLE, Int.reduceAdd, Int.reduceSub, Int.reduceMul, Int.reduceToNat, kem, ken, keo, kep, keq, ker, kes, ket, keu, kev, kew, kex, key, kez, kfa, kfb, kfc, kfd, kfe, kff, kfg, kfh, kfi, kfj, kfk, kfl, cutCells, kfm, kfn, kfo, kfp, kfq, kfr, kfs, kft, kfu, kfv, kfw, kfx, kfy, Nat.reduceAdd, Nat.reduceLeDiff, Nat.reduceLT, Nat.reduceMul, Nat.reduceSub, kfz, kga, kgb, kgc, kgd, kge, kgf, kgg, kgh, kgi, kgj, kgk, kgl, kgm, kgn, kgo, kgp, kgq, kgr, kgs, kgt, kgu, kgv, kgw, kgx, kgy, kgz, kha, khb, khc, khd, hi', hli, q, wr_i64, nadd1] <;> exact ⟨l.length - (i + 1), by omega, i + 1, _, by omega, rfl, rfl, k3, ex_env rfl⟩
        · rw [if_neg hq] at k3
          have q1 : ¬ (l[i].toNat : Int) = 32 := fun q => hq (by simp [blankQ, isBlankB]; omega)
          have q2 : ¬ (l[i].toNat : Int) = 9 := fun q => hq (by simp [blankQ, isBlankB]; omega)
          have q3 : ¬ (l[i].toNat : Int) = 10 := fun q => hq (by simp [blankQ, isBlankB]; omega)
          have q4 : ¬ (l[i].toNat : Int) = 13 := fun q => hq (by simp [blankQ, isBlankB]; omega)
          simp (disch := omega) only [kaa, kab, kac, kad, kae, kaf, kag, kah, kai, kaj, kak, kal, kam, kan, kao, khe, khf, khg, khh, khi, khj, khk, khl, kap, kaq, kar, kas, kat, kau, kav, kaw, kax, kay, kaz, kba, kbb, kbc, kbd, kbe, kbf, kbg, kbh, kbi, kbj, kbk, kbl, kbm, kbn, kbo, kbp, kbq, kbr, kbs, kbt, kbu, kbv, kbw, kbx, kby, kbz, kca, kcb, kcc, kcd, kce, kcf, kcg, kch, kci, kcj, kck, kcl, kcm, aop, kcn, kco, kcp, kcq, kcr, kcs, kct, kcu, kcv, kcw, resultsL, resultOf, kcx, Nat.reduceEqDiff, kcy, kcz, kda, reduceCtorEq, kdb, kdc, kdd, kde, kdf, kdg, kdh, kdi, kdj, kdk, kdl, kdm, kdn, kdo, eq1, kdp, kdq, kdr, kds, kdt, kdu, kdv, kdw, kdx, kdy, kdz, kea, keb, kec, apartOK, apart2, AObj.live, ked, kee, kef, keg, keh, kei, kej, kek, kel, Int.reduceEq, Int.reduceLT, Int.reduceLE, Int.reduceAdd, Int.reduceSub, Int.reduceMul, Int.reduceToNat, kem, ken, keo, kep, keq, ker, kes, ket, keu, kev, kew, kex, key, kez, kfa, kfb, kfc, kfd, kfe, kff, kfg, kfh, kfi, kfj, kfk, kfl, cutCells, kfm, kfn, kfo, kfp, kfq, kfr, kfs, kft, kfu, kfv, kfw, kfx, kfy, Nat.reduceAdd, Nat.reduceLeDiff, Nat.reduceLT, Nat.reduceMul, Nat.reduceSub, kfz, kga, kgb, kgc, kgd, kge, kgf, kgg, kgh, kgi, kgj, kgk, kgl, kgm, kgn, kgo, kgp, kgq, kgr, kgs, kgt, kgu, kgv, kgw, kgx, kgy, kgz, kha, khb, khc, khd, hi', hli, h35, q1, q2, q3, q4]
          rw [k3] at h
          exact h
  · have hi' : ¬ (i : Int) < l.length := by omega
    rw [List.drop_eq_nil_iff.2 (by omega), blkB] at k3
    rw [k3] at h
    cases r with
    | true =>
      simp (disch := omega) only [kaa, kab, kac, kad, kae, kaf, kag, kah, kai, kaj, kak, kal, kam, kan, kao, khe, khf, khg, khh, khi, khj, khk, khl, kap, kaq, kar, kas, kat, kau, kav, kaw, kax, kay, kaz, kba, kbb, kbc, kbd, kbe, kbf, kbg, kbh, kbi, kbj, kbk, kbl, kbm, kbn, kbo, kbp, kbq, kbr, kbs, kbt, kbu, kbv, kbw, kbx, kby, kbz, kca, kcb, kcc, kcd, kce, kcf, kcg, kch, kci, kcj, kck, kcl, kcm, aop, kcn, kco, kcp, kcq, kcr, kcs, kct, kcu, kcv, kcw, resultsL, resultOf, kcx, Nat.reduceEqDiff, kcy, kcz, kda, reduceCtorEq, kdb, kdc, kdd, kde, kdf, kdg, kdh, kdi, kdj, kdk, kdl, kdm, kdn, kdo, eq1, kdp, kdq, kdr, kds, kdt, kdu, kdv, kdw, kdx, kdy, kdz, kea, keb, kec, apartOK, apart2, AObj.live, ked, kee, kef, keg, keh, kei, kej, kek, kel, Int.reduceEq, Int.reduceLT, Int.reduceLE, Int.reduceAdd, Int.reduceSub, Int.reduceMul, Int.reduceToNat, kem, ken, keo, kep, keq, ker, kes, ket, keu, kev, kew, kex, key, kez, kfa, kfb, kfc, kfd, kfe, kff, kfg, kfh, kfi, kfj, kfk, kfl, cutCells, kfm, kfn, kfo, kfp, kfq, kfr, kfs, kft, kfu, kfv, kfw, kfx, kfy, Nat.reduceAdd, Nat.reduceLeDiff, Nat.reduceLT, Nat.reduceMul, Nat.reduceSub, kfz, kga, kgb, kgc, kgd, kge, kgf, kgg, kgh, kgi, kgj, kgk, kgl, kgm, kgn, kgo, kgp, kgq, kgr, kgs, kgt, kgu, kgv, kgw, kgx, kgy, kgz, kha, khb, khc, khd, hi']
      simpa using h
    | false =>
      simp (disch := omega) only [kaa, kab, kac, kad, kae, kaf, kag, kah, kai, kaj, kak, kal, kam, kan, kao, khe, khf, khg, khh, khi, khj, khk, khl, kap, kaq, kar, kas, kat, kau, kav, kaw, kax, kay, kaz, kba, kbb, kbc, kbd, kbe, kbf, kbg, kbh, kbi, kbj, kbk, kbl, kbm, kbn, kbo, kbp, kbq, kbr, kbs, kbt, kbu, kbv, kbw, kbx, kby, kbz, kca, kcb, kcc, kcd, kce, kcf, kcg, kch, kci, kcj, kck, kcl, kcm, aop, kcn, kco, kcp, kcq, kcr, kcs, kct, kcu, kcv, kcw, resultsL, resultOf, kcx, Nat.reduceEqDiff, kcy, kcz, kda, reduceCtorEq, kdb, kdc, kdd, kde, kdf, kdg, kdh, kdi, kdj, kdk, kdl, kdm, kdn, kdo, eq1, kdp, kdq, kdr, kds, kdt, kdu, kdv, kdw, kdx, kdy, kdz, kea, keb, kec, apartOK, apart2, AObj.live, ked, kee, kef, keg, keh, kei, kej, kek, kel, Int.reduceEq, Int.reduceLT, Int.reduceLE, Int.reduceAdd, Int.reduceSub, Int.reduceMul, Int.reduceToNat, kem, ken, keo, kep, keq, ker, kes, ket, keu, kev, kew, kex, key, kez, kfa, kfb, kfc, kfd, kfe, kff, kfg, kfh, kfi, kfj, kfk, kfl, cutCells, kfm, kfn, kfo, kfp, kfq, kfr, kfs, kft, kfu, kfv, kfw, kfx, kfy, Nat.reduceAdd, Nat.reduceLeDiff, Nat.reduceLT, Nat.reduceMul, Nat.reduceSub, kfz, kga, kgb, kgc, kgd, kge, kgf, kgg, kgh, kgi, kgj, kgk, kgl, kgm, kgn, kgo, kgp, kgq, kgr, kgs, kgt, kgu, kgv, kgw, kgx, kgy, kgz, kha, khb, khc, khd, hi']
      simpa using h

end Go.Proofs.YtedemfmafdilmaaDoor.Ev

/- How the words follow one another. -/
namespace Go.Proofs.YtedemfmafdilmaaDoor.Ev
set_option maxRecDepth 100000
set_option linter.unusedSimpArgs false
set_option linter.unusedVariables false

theorem adv_col : ∀ (l : List UInt8) (p : Nat × Nat), 1 ≤ p.2 → 1 ≤ (adv p l).2 ∧ (adv p l).2 ≤ p.2 + l.length
  | [], p, h => by simp [adv]; exact h
  | b :: l, p, h => by
    by_cases hb : b.toNat = 10
    · have := adv_col l (p.1 + 1, 1) (by simp)
      rw [adv, if_pos hb]
      simp only [List.length_cons] at this ⊢
      omega
    · have := adv_col l (p.1, p.2 + 1) (by simp)
      rw [adv, if_neg hb]
      simp only [List.length_cons] at this ⊢
      omega

theorem adv_plain : ∀ (l : List UInt8) (p : Nat × Nat), (∀ b ∈ l, ¬ b.toNat = 10) → adv p l = (p.1, p.2 + l.length)
  | [], p, _ => rfl
  | b :: l, p, h => by
    rw [adv, if_neg (h b (by simp)), adv_plain l _ fun c hc => h c (by simp [hc])]
    simp only [List.length_cons]
    rw [Nat.add_assoc, Nat.add_comm 1]

theorem tok_line {rest : List UInt8} {k : Int} {m v : Nat} (h : tok rest = .ok (k, m, v)) : ∀ b ∈ rest.take m, ¬ b.toNat = 10 := by
  have hm := tok_pos h
  have htk := take_takeWhile partQ rest
  unfold tok at h
  simp only at h
  by_cases h0 : 0 < (rest.takeWhile partQ).length
  · rw [if_pos h0] at h
    have hmm : m = (rest.takeWhile partQ).length := by
      split at h
      · split at h
        · cases h; rfl
        · cases h
      · split at h
        · cases h; rfl
        · split at h
          · cases h; rfl
          · cases h
    intro b hb
    rw [hmm, htk] at hb
    have := all_takeWhile partQ rest b hb
    simp [partQ, isPartB] at this
    omega
  · rw [if_neg h0] at h
    split at h
    · cases h
    · obtain ⟨rfl, rfl, rfl⟩ : k = 4 ∧ m = signN rest ∧ v = 0 := by cases h; exact ⟨rfl, rfl, rfl⟩
      intro b hb hb10
      have hb' : b = 10 := UInt8.toNat_inj.1 hb10
      subst hb'
      unfold signN at hb
      split at hb
      · rename_i s hs
        have h1 := List.find?_some hs
        have h2 := List.mem_of_find?_eq_some hs
        have h3 := List.prefix_iff_eq_take.1 (List.isPrefixOf_iff_prefix.1 h1)
        rw [← h3] at hb
        exact signs_no10 s h2 hb
      · simp at hb

theorem lexT_one {s : List UInt8} {k : Int} {v : Nat} (hne : s ≠ []) (hsk : skN false s = 0) (ht : tok s = .ok (k, s.length, v)) (hl : s.length ≤ 65536) : lexT s = ([⟨k, s, v, (1, 1)⟩], (0, 0, 0)) := by
  have e : lexL s (1, 1) = ([⟨k, s, v, (1, 1)⟩], (0, 0, 0)) := by
    rw [lexL_R, hsk, List.drop_zero, List.take_zero, lexR_ok hne ht, List.take_length, List.drop_length, lexL_end rfl]
    rfl
  rw [lexT, if_pos hl, e]
  rfl

/-- The first of the words that are left. -/
theorem lexL_cons {text : List UInt8} {pos : Nat} {t : Tk} {l : List Tk} (hpos : pos ≤ text.length) (h : (lexL (text.drop pos) (adv (1, 1) (text.take pos))).1 = t :: l) :
    ∃ n m, n = skN false (text.drop pos) ∧ 0 < m ∧ pos + n + m ≤ text.length ∧ skN false (text.drop (pos + n)) = 0 ∧ tok (text.drop (pos + n)) = .ok (t.kind, m, t.val) ∧ t.text = (text.drop (pos + n)).take m ∧ t.pos = adv (1, 1) (text.take (pos + n)) ∧
      blkB false ((text.drop pos).take n) false = true ∧ (lexL (text.drop (pos + n + m)) (adv (1, 1) (text.take (pos + n + m)))).1 = l ∧
      (lexL (text.drop (pos + n + m)) (adv (1, 1) (text.take (pos + n + m)))).2 = (lexL (text.drop pos) (adv (1, 1) (text.take pos))).2 := by
  have hsk := sk_le false (text.drop pos)
  have hdl : (text.drop pos).length = text.length - pos := List.length_drop
  have hR := lexL_R (text.drop pos) (adv (1, 1) (text.take pos))
  rw [List.drop_drop, adv_from] at hR
  rw [hR] at h ⊢
  unfold lexR at h ⊢
  split at h
  · cases h
  · rename_i hne
    have hlt : skN false (text.drop pos) < (text.drop pos).length := by
      rw [List.drop_eq_nil_iff] at hne
      omega
    obtain ⟨b1, b2⟩ := blk_some false _ hlt
    rw [List.drop_drop] at b2
    split at h
    · cases h
    · rename_i k m v ht
      simp only [List.cons.injEq] at h
      obtain ⟨rfl, h⟩ := h
      have hm := tok_pos ht
      rw [List.length_drop] at hm
      refine ⟨_, m, rfl, by omega, by omega, b2, ht, rfl, rfl, b1, ?_, ?_⟩
      · rw [← h, List.drop_drop, adv_from]
      · simp only [if_neg hne, List.drop_drop, adv_from]

theorem lexL_nil {text : List UInt8} {pos : Nat} (hpos : pos ≤ text.length) (h : (lexL (text.drop pos) (adv (1, 1) (text.take pos))).1 = []) (hf : (lexL (text.drop pos) (adv (1, 1) (text.take pos))).2.1 = 0) :
    blkB false (text.drop pos) true = true := by
  have hsk := sk_le false (text.drop pos)
  refine blk_all false _ ?_
  rw [lexL_R, List.drop_drop, adv_from] at h hf
  unfold lexR at h hf
  split at h
  · rename_i he
    rw [List.drop_eq_nil_iff] at he
    rw [List.length_drop] at hsk ⊢
    omega
  · rename_i hne
    rw [if_neg hne] at hf
    cases ht : tok (text.drop (pos + skN false (text.drop pos))) with
    | error c =>
      rw [ht] at hf
      exact absurd hf (tok_code ht)
    | ok x =>
      obtain ⟨k, m, v⟩ := x
      rw [ht] at h
      cases h

end Go.Proofs.YtedemfmafdilmaaDoor.Ev

/- The law LexNumbers: the text of a value at a base. -/
namespace Go.Proofs.YtedemfmafdilmaaDoor.Ev
set_option maxRecDepth 100000
set_option linter.unusedSimpArgs false
set_option linter.unusedVariables false

/-- The text of a value at a base. -/
def digC (d : Nat) : UInt8 := if d < 10 then UInt8.ofNat (48 + d) else UInt8.ofNat (87 + d)
def digs (base : Nat) : Nat → Nat → List UInt8
  | 0, _ => []
  | f + 1, v => if v / base = 0 then [digC (v % base)] else digs base f (v / base) ++ [digC (v % base)]

theorem digV_digC : ∀ d, d < 16 → digV (digC d) = d := by decide

theorem numFold_snoc {base : Nat} (c : UInt8) : ∀ (l : List UInt8) (a : Nat), numFold base a (l ++ [c]) = (numFold base a l).bind fun x => if digV c < base ∧ x * base + digV c < W64 * W64 then some (x * base + digV c) else none
  | [], a => by simp only [List.nil_append, numFold]; rfl
  | b :: l, a => by
    simp only [List.cons_append, numFold]
    split
    · exact numFold_snoc c l _
    · rfl

theorem numFold_bad {base : Nat} {c : UInt8} (h : base ≤ digV c) (l : List UInt8) (a : Nat) : numFold base a (l ++ [c]) = none := by
  rw [numFold_snoc]
  cases numFold base a l with
  | none => rfl
  | some x => exact if_neg (fun q => by omega)

theorem numFold_digs {base : Nat} (h2 : 2 ≤ base) (h16 : base ≤ 16) : ∀ (f v : Nat), v < base ^ f → v < W64 * W64 → 0 < f → numFold base 0 (digs base f v) = some v
  | 0, _, _, _, h => absurd h (by decide)
  | f + 1, v, hv, hw, _ => by
    have hm : v % base < base := Nat.mod_lt _ (by omega)
    have hd : digV (digC (v % base)) = v % base := digV_digC _ (by omega)
    have hdm := Nat.div_add_mod v base
    rw [digs]
    split
    · rename_i h0
      rw [h0] at hdm
      simp only [numFold, hd]
      rw [if_pos ⟨hm, by omega⟩]
      congr 1
      omega
    · rename_i h0
      have hf : 0 < f := by
        rcases Nat.eq_zero_or_pos f with rfl | h
        · rw [Nat.zero_add, Nat.pow_one] at hv
          exact absurd (Nat.div_eq_of_lt hv) h0
        · exact h
      have hlt : v / base < base ^ f := by
        rw [Nat.div_lt_iff_lt_mul (by omega)]
        rwa [Nat.pow_succ] at hv
      have hle : v / base ≤ v := Nat.div_le_self _ _
      rw [numFold_snoc, numFold_digs h2 h16 f _ hlt (by omega) hf]
      simp only [Option.bind_some, hd]
      have e : v / base * base + v % base = v := by rw [Nat.mul_comm]; exact hdm
      rw [e, if_pos ⟨hm, hw⟩]

theorem digs_len (base : Nat) : ∀ f v, (digs base f v).length ≤ f
  | 0, _ => Nat.le_refl _
  | f + 1, v => by
    rw [digs]
    split
    · simp
    · have := digs_len base f (v / base)
      simp only [List.length_append, List.length_cons, List.length_nil]
      omega

theorem digs_mem {base : Nat} (hb : 0 < base) : ∀ f v, ∀ b ∈ digs base f v, ∃ d, d < base ∧ b = digC d
  | 0, _, b, h => by cases h
  | f + 1, v, b, h => by
    have hm : v % base < base := Nat.mod_lt _ hb
    rw [digs] at h
    split at h
    · exact ⟨_, hm, List.mem_singleton.1 h⟩
    · rcases List.mem_append.1 h with h | h
      · exact digs_mem hb f _ b h
      · exact ⟨_, hm, List.mem_singleton.1 h⟩

theorem digs_ne (base f v : Nat) (h : 0 < f) : digs base f v ≠ [] := by
  cases f with
  | zero => cases h
  | succ f =>
    rw [digs]
    split
    · simp
    · simp

/-- The first digit is 0 only of the value 0. -/
theorem digs_head {base : Nat} (h2 : 2 ≤ base) (h16 : base ≤ 16) : ∀ f v, v < base ^ f → 0 < v → (digs base f v).head? ≠ some 48
  | 0, v, hv, h => by rw [Nat.pow_zero] at hv; omega
  | f + 1, v, hv, h => by
    have hm : v % base < base := Nat.mod_lt _ (by omega)
    have hdm := Nat.div_add_mod v base
    rw [digs]
    split
    · rename_i h0
      rw [h0] at hdm
      have hd : digV (digC (v % base)) = v % base := digV_digC _ (by omega)
      intro q
      simp only [List.head?_cons, Option.some.injEq] at q
      rw [q] at hd
      have : digV 48 = 0 := by decide
      omega
    · rename_i h0
      have hlt : v / base < base ^ f := by
        rw [Nat.div_lt_iff_lt_mul (by omega)]
        rwa [Nat.pow_succ] at hv
      have hf : 0 < f := by
        rcases Nat.eq_zero_or_pos f with rfl | h
        · rw [Nat.pow_zero] at hlt; exact absurd (Nat.lt_one_iff.1 hlt) h0
        · exact h
      have hne := digs_ne base f (v / base) hf
      have ih := digs_head h2 h16 f _ hlt (Nat.pos_of_ne_zero h0)
      cases hl : digs base f (v / base) with
      | nil => exact absurd hl hne
      | cons x l => rw [hl] at ih; simpa using ih

theorem part_digC : ∀ d, d < 16 → partQ (digC d) = true := by decide
theorem digQ_digC : ∀ d, d < 10 → digQ (digC d) = true := by decide

theorem run_take {w rest : List UInt8} (hw : ∀ b ∈ w, partQ b = true) (hr : ∀ c, rest.head? = some c → partQ c = false) : (w ++ rest).takeWhile partQ = w := by
  rw [List.takeWhile_append_of_pos hw]
  cases rest with
  | nil => simp
  | cons c r => rw [List.takeWhile_cons, hr c rfl]; simp

theorem skN_dig {b : UInt8} {l : List UInt8} (h : digQ b = true) : skN false (b :: l) = 0 := by
  simp only [digQ, Bool.and_eq_true, decide_eq_true_eq] at h
  have hb : ¬ blankQ b = true := by
    simp only [blankQ, isBlankB, Bool.or_eq_true, decide_eq_true_eq]
    omega
  rw [skN, if_neg (by omega), if_neg hb]

theorem tok_num {w rest : List UInt8} (hw : ∀ b ∈ w, partQ b = true) (hr : ∀ c, rest.head? = some c → partQ c = false) (hd : digQ (w.headD 0) = true) (hne : w ≠ []) :
    tok (w ++ rest) = match numV w with | some v => .ok (3, w.length, v) | none => .error 61 := by
  have e := run_take hw hr
  have hpos : 0 < w.length := List.length_pos_iff.2 hne
  have hh : (w ++ rest).headD 0 = w.headD 0 := by
    cases w with
    | nil => exact absurd rfl hne
    | cons b l => rfl
  have ht : (w ++ rest).take w.length = w := List.take_left
  unfold tok
  simp only [e, hh, hd, if_pos hpos, if_true, ht]
  rfl

theorem num_sk {w rest : List UInt8} (hd : digQ (w.headD 0) = true) (hne : w ≠ []) : skN false (w ++ rest) = 0 := by
  cases w with
  | nil => exact absurd rfl hne
  | cons b l => exact skN_dig hd

theorem lexL_num {w rest : List UInt8} {p : Nat × Nat} {v : Nat} (hw : ∀ b ∈ w, partQ b = true) (hr : ∀ c, rest.head? = some c → partQ c = false) (hd : digQ (w.headD 0) = true) (hne : w ≠ []) (hv : numV w = some v) :
    lexL (w ++ rest) p = (⟨3, w, v, p⟩ :: (lexL rest (adv p w)).1, (lexL rest (adv p w)).2) := by
  have ht := tok_num hw hr hd hne
  rw [hv] at ht
  rw [lexL_R, num_sk hd hne, List.drop_zero, List.take_zero, lexR_ok (by simp [hne]) ht, List.take_left, List.drop_left]
  rfl

theorem lexL_bad {w rest : List UInt8} (hw : ∀ b ∈ w, partQ b = true) (hr : ∀ c, rest.head? = some c → partQ c = false) (hd : digQ (w.headD 0) = true) (hne : w ≠ []) (hv : numV w = none) :
    lexL (w ++ rest) (1, 1) = ([], (61, 1, 1)) := by
  have ht := tok_num hw hr hd hne
  rw [hv] at ht
  rw [lexL_R, num_sk hd hne, List.drop_zero, List.take_zero, lexR, if_neg (by simp [hne]), ht]
  rfl

theorem lexL_blank {c : UInt8} {r : List UInt8} {p : Nat × Nat} (h : blankQ c = true) : lexL (c :: r) p = lexL r (adv p [c]) := by
  have e : skN false (c :: r) = skN false r + 1 := by rw [skN, if_neg (blank_not h), if_pos h, Nat.add_comm]
  rw [lexL_R (c :: r), lexL_R r, e, List.drop_succ_cons, List.take_succ_cons]
  exact congrArg _ (adv_append [c] _ p).symm

theorem no_pre {x : UInt8} (hx : 57 < x.toNat) : ∀ l : List UInt8, (∀ b ∈ l, b.toNat ≤ 57) → [48, x].isPrefixOf l = false
  | [], _ => rfl
  | [b], _ => by simp [List.isPrefixOf]
  | b :: c :: l, h => by
    have hc := h c (by simp)
    have : (x == c) = false := by
      simp only [beq_eq_false_iff_ne, ne_eq]
      rintro rfl
      omega
    simp [List.isPrefixOf, this]

theorem ten_le (f v : Nat) : ∀ b ∈ digs 10 f v, b.toNat ≤ 57 := fun b hb => by
  obtain ⟨d, hd, rfl⟩ := digs_mem (by decide) f v b hb
  exact (by decide : ∀ d, d < 10 → (digC d).toNat ≤ 57) d hd

theorem w_lt {v : Nat} (hv : v < W64 * W64) : v < 2 ^ 128 := hv

theorem base_lt {base v : Nat} (h2 : 2 ≤ base) (hv : v < W64 * W64) : v < base ^ 128 := Nat.lt_of_lt_of_le (w_lt hv) (Nat.pow_le_pow_left h2 128)

theorem digs_zero (base f : Nat) : digs base (f + 1) 0 = [48] := by
  rw [digs, if_pos (Nat.zero_div _), Nat.zero_mod]
  rfl

theorem numV_ten {v : Nat} (hv : v < W64 * W64) : numV (digs 10 128 v) = some v := by
  rw [numV, no_pre (by decide) _ (ten_le _ _), no_pre (by decide) _ (ten_le _ _)]
  have hne := digs_ne 10 128 v (by decide)
  rw [if_neg (by simp), if_neg (by simp), if_neg, if_neg hne]
  · exact numFold_digs (by decide) (by decide) 128 v (base_lt (by decide) hv) hv (by decide)
  · rintro ⟨h1, h2⟩
    rcases Nat.eq_zero_or_pos v with rfl | h0
    · rw [digs_zero] at h1
      simp at h1
    · exact digs_head (by decide) (by decide) 128 v (base_lt (by decide) hv) h0 h2

end Go.Proofs.YtedemfmafdilmaaDoor.Ev

/- The law LexNumbers: what the numbers' texts say. -/
namespace Go.Proofs.YtedemfmafdilmaaDoor.Ev
set_option maxRecDepth 100000
set_option linter.unusedSimpArgs false
set_option linter.unusedVariables false

def upC (c : UInt8) : UInt8 := if 97 ≤ c.toNat then c - 32 else c

theorem digV_up : ∀ d, d < 16 → digV (upC (digC d)) = digV (digC d) ∧ partQ (upC (digC d)) = true := by decide

theorem numFold_map {base : Nat} {f : UInt8 → UInt8} : ∀ (l : List UInt8) (a : Nat), (∀ b ∈ l, digV (f b) = digV b) → numFold base a (l.map f) = numFold base a l
  | [], _, _ => rfl
  | b :: l, a, h => by
    simp only [List.map_cons, numFold]
    rw [h b (by simp), numFold_map l _ fun c hc => h c (by simp [hc])]

theorem sixV {v : Nat} (hv : v < W64 * W64) : numFold 16 0 (digs 16 128 v) = some v := numFold_digs (by decide) (by decide) 128 v (base_lt (by decide) hv) hv (by decide)
theorem twoV {v : Nat} (hv : v < W64 * W64) : numFold 2 0 (digs 2 128 v) = some v := numFold_digs (by decide) (by decide) 128 v (base_lt (by decide) hv) hv (by decide)

theorem numV_x (l : List UInt8) (h : l ≠ []) : numV (48 :: 120 :: l) = numFold 16 0 l := by
  have : ¬ (48 :: 120 :: l).length = 2 := by
    cases l with
    | nil => exact absurd rfl h
    | cons b l => simp
  rw [numV, if_pos (by simp [List.isPrefixOf]), if_neg this]
  rfl

theorem numV_b (l : List UInt8) (h : l ≠ []) : numV (48 :: 98 :: l) = numFold 2 0 l := by
  have : ¬ (48 :: 98 :: l).length = 2 := by
    cases l with
    | nil => exact absurd rfl h
    | cons b l => simp
  rw [numV, if_neg (by simp [List.isPrefixOf]), if_pos (by simp [List.isPrefixOf]), if_neg this]
  rfl

theorem numV_six {v : Nat} (hv : v < W64 * W64) : numV (48 :: 120 :: digs 16 128 v) = some v := by
  rw [numV_x _ (digs_ne _ _ _ (by decide)), sixV hv]

theorem numV_two {v : Nat} (hv : v < W64 * W64) : numV (48 :: 98 :: digs 2 128 v) = some v := by
  rw [numV_b _ (digs_ne _ _ _ (by decide)), twoV hv]

theorem numV_big {v : Nat} (hv : v < W64 * W64) : numV (48 :: 120 :: 48 :: 48 :: (digs 16 128 v).map upC) = some v := by
  rw [numV_x _ (by simp)]
  have e : ∀ l, numFold 16 0 (48 :: 48 :: l) = numFold 16 0 l := fun l => by
    have : digV 48 = 0 := by decide
    simp only [numFold, this]
    rfl
  rw [e, numFold_map _ _ fun b hb => ?_, sixV hv]
  obtain ⟨d, hd, rfl⟩ := digs_mem (by decide) 128 v b hb
  exact (digV_up d hd).1

/-- No number's texts. -/
theorem bad_zero (v : Nat) : numV (48 :: digs 10 128 v) = none := by
  have hm : ∀ b ∈ (48 : UInt8) :: digs 10 128 v, b.toNat ≤ 57 := fun b hb => by
    rcases List.mem_cons.1 hb with rfl | hb
    · decide
    · exact ten_le _ _ b hb
  have hne := digs_ne 10 128 v (by decide)
  rw [numV, no_pre (by decide) _ hm, no_pre (by decide) _ hm, if_neg (by simp), if_neg (by simp), if_pos]
  refine ⟨?_, rfl⟩
  have := List.length_pos_iff.2 hne
  simp only [List.length_cons]
  omega

theorem no_pre' {x : UInt8} : ∀ l : List UInt8, l.head? ≠ some 48 → [48, x].isPrefixOf l = false
  | [], _ => rfl
  | b :: l, h => by
    have : ((48 : UInt8) == b) = false := by
      simp only [beq_eq_false_iff_ne, ne_eq]
      rintro rfl
      exact h rfl
    simp [List.isPrefixOf, this]

theorem bad_tail {c : UInt8} {v : Nat} (hv : v < W64 * W64) (hc : 10 ≤ digV c) (h0 : numV [48, c] = none) : numV (digs 10 128 v ++ [c]) = none := by
  rcases Nat.eq_zero_or_pos v with rfl | hp
  · rw [digs_zero]
    exact h0
  · have hh := digs_head (base := 10) (by decide) (by decide) 128 v (base_lt (by decide) hv) hp
    have hne := digs_ne 10 128 v (by decide)
    have hh2 : (digs 10 128 v ++ [c]).head? ≠ some 48 := by
      cases hl : digs 10 128 v with
      | nil => exact absurd hl hne
      | cons x l => rw [hl] at hh; simpa using hh
    rw [numV, no_pre' _ hh2, no_pre' _ hh2, if_neg (by simp), if_neg (by simp), if_neg (fun q => hh2 q.2), if_neg (by simp)]
    exact numFold_bad hc _ _

theorem bad_g (v : Nat) : numV (48 :: 120 :: (digs 16 128 v ++ [103])) = none := by
  rw [numV_x _ (by simp)]
  exact numFold_bad (by decide) _ _

theorem bad_2 (v : Nat) : numV (48 :: 98 :: (digs 2 128 v ++ [50])) = none := by
  rw [numV_b _ (by simp)]
  exact numFold_bad (by decide) _ _

theorem bad_X (l : List UInt8) : numV (48 :: 88 :: l) = none := by
  rw [numV, if_neg (by simp [List.isPrefixOf]), if_neg (by simp [List.isPrefixOf]), if_pos ⟨by simp, rfl⟩]

end Go.Proofs.YtedemfmafdilmaaDoor.Ev
