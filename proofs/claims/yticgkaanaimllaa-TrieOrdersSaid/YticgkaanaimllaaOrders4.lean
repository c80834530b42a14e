/- TrieOrders: texts under prefixes, in another order, with others that go again: the same is told, and no node is idle: whatever the inputs, the law answers true. Conditions: none. -/
import Derived.Test.YticgkaanaimllaaOrders3
import Derived.ChangeArms
import Derived.ChangeStays
import Derived.ChangeOld
import Derived.ChangeShapes
import Derived.WideShapes
import Derived.DataReads
import Derived.RowKit
import Derived.Test.YticgkaanaimllaaRows
import Derived.ProofKit
import Derived.OpenShut
import Derived.SizedLaws
import Derived.JoinedOf
import Derived.MakeChecks
import Derived.Stop.Joined
/- A trie of texts: its nodes in order, Drop, Set. -/
namespace Go.Proofs.Yticgkaanaimllaa.Ev.S
set_option maxRecDepth 100000
set_option linter.unusedSimpArgs false
set_option linter.unusedVariables false
variable {R : FRes → Heap → Prop} {H : Heap}

theorem walk_t {f : FuncId} {captured : Array Value} (S : List Tr → Heap → Prop) (Wh : List Tr)
    (hC : ∀ L nd H, S L H → (L ++ [nd]) <+: Wh → (∃ b1 c n f v l r, nd = .node b1 c n f v l r) → WD T f (nd.ptr :: captured.toList) H (fun r H' => r = .ret (.tuple #[]) ∧ S (L ++ [nd]) H')) :
    ∀ (t : Tr) (L0 : List Tr) (H : Heap) (R : FRes → Heap → Prop), S L0 H → (∀ L H, S L H → TA H t) → (L0 ++ t.inL) <+: Wh → (∀ H', S (L0 ++ t.inL) H' → R (.ret (.tuple #[])) H') →
      WD T 56 [t.ptr, .func (.func f) #[] captured] H R
  | .nil, L0, H, R, hS, _, _, h => by
    refine WD.of follows t56 (by simp) ?_
    simp only [Tr.ptr]
    simp (disch := omega) only [kB, kcx, kdm, kdn, kel, aop, resultsL, resultOf, Nat.reduceEqDiff, reduceCtorEq, eq1, apartOK, apart2, AObj.live, Int.reduceEq, Int.reduceLT, Int.reduceLE, Int.reduceAdd, Int.reduceSub, Int.reduceMul, Int.reduceToNat, cutCells, Nat.reduceAdd, Nat.reduceLeDiff, Nat.reduceLT, Nat.reduceMul, Nat.reduceSub, eqP_nn]
    exact h _ (by simpa [Tr.inL] using hS)
  | .node b1 c n full v l r, L0, H, R, hS, hta, hpre, h => by
    have c02 : (0 : Int) < ((2 : Nat) : Int) := by decide
    have c12 : (1 : Int) < ((2 : Nat) : Int) := by decide
    simp only [Tr.inL] at hpre h
    have ptr1 : Tr.ptr (.node b1 c n full v l r) = .pointer (some ⟨b1, 0, none⟩) := rfl
    have hx := hC L0 (.node b1 c n full v l r) H hS (List.IsPrefix.trans ⟨l.inL ++ r.inL, by simp⟩ hpre) ⟨_, _, _, _, _, _, _, rfl⟩
    rw [ptr1] at hx ⊢
    refine WD.of follows t56 (by simp) ?_
    simp (disch := omega) only [kB, kcx, kdm, kdn, kel, aop, resultsL, resultOf, Nat.reduceEqDiff, reduceCtorEq, eq1, apartOK, apart2, AObj.live, Int.reduceEq, Int.reduceLT, Int.reduceLE, Int.reduceAdd, Int.reduceSub, Int.reduceMul, Int.reduceToNat, cutCells, Nat.reduceAdd, Nat.reduceLeDiff, Nat.reduceLT, Nat.reduceMul, Nat.reduceSub, eqP_sn]
    refine WD.mono hx ?_
    rintro r0 H2 ⟨rfl, hS2⟩
    obtain ⟨⟨wr, q1⟩, _, _⟩ := hta _ H2 hS2
    unfold nodeRow at q1
    simp (disch := omega) only [kB, kcx, kdm, kdn, kel, aop, resultsL, resultOf, Nat.reduceEqDiff, reduceCtorEq, eq1, apartOK, apart2, AObj.live, Int.reduceEq, Int.reduceLT, Int.reduceLE, Int.reduceAdd, Int.reduceSub, Int.reduceMul, Int.reduceToNat, cutCells, Nat.reduceAdd, Nat.reduceLeDiff, Nat.reduceLT, Nat.reduceMul, Nat.reduceSub, q1, c02]
    refine walk_t S Wh hC l _ H2 _ hS2 (fun L H q => (hta L H q).2.1) (List.IsPrefix.trans ⟨r.inL, by simp⟩ hpre) fun H3 hS3 => ?_
    obtain ⟨⟨wr3, q3⟩, _, _⟩ := hta _ H3 hS3
    unfold nodeRow at q3
    simp (disch := omega) only [kB, kcx, kdm, kdn, kel, aop, resultsL, resultOf, Nat.reduceEqDiff, reduceCtorEq, eq1, apartOK, apart2, AObj.live, Int.reduceEq, Int.reduceLT, Int.reduceLE, Int.reduceAdd, Int.reduceSub, Int.reduceMul, Int.reduceToNat, cutCells, Nat.reduceAdd, Nat.reduceLeDiff, Nat.reduceLT, Nat.reduceMul, Nat.reduceSub, q3, c12]
    refine walk_t S Wh hC r _ H3 _ hS3 (fun L H q => (hta L H q).2.2) (by simpa using hpre) fun H4 hS4 => ?_
    simp (disch := omega) only [kB, kcx, kdm, kdn, kel, aop, resultsL, resultOf, Nat.reduceEqDiff, reduceCtorEq, eq1, apartOK, apart2, AObj.live, Int.reduceEq, Int.reduceLT, Int.reduceLE, Int.reduceAdd, Int.reduceSub, Int.reduceMul, Int.reduceToNat, cutCells, Nat.reduceAdd, Nat.reduceLeDiff, Nat.reduceLT, Nat.reduceMul, Nat.reduceSub]
    exact h _ (by simpa using hS4)

def ndC : Tr → List Value
  | .nil => []
  | .node _ c n f v l r => nodeRow c n f v l.ptr r.ptr

theorem ndC_len {m : Nat → Nat → Bool} {t : Tr} (h : sel m t = true) : (ndC t).length = 7 := by cases t <;> first | rfl | simp [sel] at h

theorem may_all {a : Nat} {n : Int} (h : R (.ret (.bool true)) H) : WD T 59 [pfv a n] H R := by
  refine WD.gc0 (WD.of follows t59 (by simp) ?_)
  simp (disch := omega) only [kB, kcx, kdm, kdn, kel, aop, resultsL, resultOf, Nat.reduceEqDiff, reduceCtorEq, eq1, apartOK, apart2, AObj.live, Int.reduceEq, Int.reduceLT, Int.reduceLE, Int.reduceAdd, Int.reduceSub, Int.reduceMul, Int.reduceToNat, cutCells, Nat.reduceAdd, Nat.reduceLeDiff, Nat.reduceLT, Nat.reduceMul, Nat.reduceSub]
  exact ⟨_, rfl, ⟨_, rfl⟩, .closed rfl, h⟩

/-- What a function that chooses answers, over a heap that begins so. -/
def MayS (H0 : Heap) (w : Nat) (fm : FuncId) (cap : Array Value) (m : Nat → Nat → Bool) : Prop :=
  ∀ K : Heap, H0.length ≤ K.length → (∀ c, c < H0.length → hget K c = hget H0 c) → ∀ c n : Nat, c < 2 ^ w → n ≤ w → ∀ R : FRes → Heap → Prop, R (.ret (.bool (m c n))) K → WD T fm (pfv c n :: cap.toList) K R

def WkS (H0 : Heap) (m : Nat → Nat → Bool) (L : List Tr) (K : Heap) : Prop :=
  H0.length + 1 ≤ K.length ∧ (∀ c, c < H0.length → hget K c = hget H0 c) ∧ ∃ sv, hget K H0.length = .row [sv] 0 true ∧ SLs 7 (H0.length + 1) K sv ((L.filter (sel m)).map ndC)

theorem sel_t {H0 : Heap} {w pM : Nat} {fm : FuncId} {cap : Array Value} {m : Nat → Nat → Bool} (hM : hget H0 pM = .row [.func (.func fm) #[] cap] 0 true) (hm : MayS H0 w fm cap m)
    {L : List Tr} {K : Heap} {b1 c n : Nat} {full : Bool} {v : Int} {l r : Tr} (hS : WkS H0 m L K) (hnd : ∃ wr, hget K b1 = .row (nodeRow c n full v l.ptr r.ptr) 0 wr) (hc : c < 2 ^ w) (hn : n ≤ w) (hlen : L.length ≤ 1000000) :
    WD T 85 [Tr.ptr (.node b1 c n full v l r), .pointer (some ⟨pM, 0, none⟩), .pointer (some ⟨H0.length, 0, none⟩)] K (fun r0 H' => r0 = .ret (.tuple #[]) ∧ WkS H0 m (L ++ [.node b1 c n full v l r]) H') := by
  obtain ⟨s1, s2, sv, s3, s4⟩ := hS
  obtain ⟨wr, q1⟩ := hnd
  have lb1 := hget_lt q1 rfl
  have lM := hget_lt hM rfl
  have hM2 : hget K pM = .row [.func (.func fm) #[] cap] 0 true := (s2 pM lM).trans hM
  have ptr1 : Tr.ptr (.node b1 c n full v l r) = .pointer (some ⟨b1, 0, none⟩) := rfl
  unfold nodeRow at q1
  rw [ptr1]
  refine WD.of follows t85 (by simp) ?_
  cases full with
  | false =>
    simp (disch := omega) only [kB, kcx, kdm, kdn, kel, aop, resultsL, resultOf, Nat.reduceEqDiff, reduceCtorEq, eq1, apartOK, apart2, AObj.live, Int.reduceEq, Int.reduceLT, Int.reduceLE, Int.reduceAdd, Int.reduceSub, Int.reduceMul, Int.reduceToNat, cutCells, Nat.reduceAdd, Nat.reduceLeDiff, Nat.reduceLT, Nat.reduceMul, Nat.reduceSub, q1]
    refine ⟨s1, s2, sv, s3, ?_⟩
    simpa [List.filter_append, List.filter_cons, sel] using s4
  | true =>
    simp (disch := omega) only [kB, kcx, kdm, kdn, kel, aop, resultsL, resultOf, Nat.reduceEqDiff, reduceCtorEq, eq1, apartOK, apart2, AObj.live, Int.reduceEq, Int.reduceLT, Int.reduceLE, Int.reduceAdd, Int.reduceSub, Int.reduceMul, Int.reduceToNat, cutCells, Nat.reduceAdd, Nat.reduceLeDiff, Nat.reduceLT, Nat.reduceMul, Nat.reduceSub, q1, hM2]
    refine hm K (by omega) s2 c n hc hn _ ?_
    cases hmc : m c n with
    | false =>
      simp (disch := omega) only [kB, kcx, kdm, kdn, kel, aop, resultsL, resultOf, Nat.reduceEqDiff, reduceCtorEq, eq1, apartOK, apart2, AObj.live, Int.reduceEq, Int.reduceLT, Int.reduceLE, Int.reduceAdd, Int.reduceSub, Int.reduceMul, Int.reduceToNat, cutCells, Nat.reduceAdd, Nat.reduceLeDiff, Nat.reduceLT, Nat.reduceMul, Nat.reduceSub, q1, hM2]
      refine ⟨s1, s2, sv, s3, ?_⟩
      simpa [List.filter_append, List.filter_cons, sel, hmc] using s4
    | true =>
      have hlf : (List.filter (sel m) L).length ≤ L.length := List.length_filter_le _ _
      obtain ⟨sv', K', h1, h2, h3, h4, h5⟩ := app_sl (K := K ++ [.row (nodeRow c n true v l.ptr r.ptr) 7 true]) (bytes := 64) (bx := K.length) (xs := nodeRow c n true v l.ptr r.ptr) (u2 := 7) (w2 := true) s4.app (by simp; omega) (by rw [hget_base0]; rfl) rfl
        (by simp only [nodeRow, List.all_cons, List.all_nil, one_tr, Bool.and_true]; rfl) (by rw [List.length_map]; simp only [roomMax]; omega)
      have l0 : H0.length < K'.length := by rw [h3]; simp; omega
      have nb := s4.ne s3 (by decide)
      obtain ⟨ad, rfl⟩ := h2.len
      generalize hln : (List.map ndC (List.filter (sel m) L) ++ [nodeRow c n true v l.ptr r.ptr]).length = ln at h1 h2 h4
      unfold nodeRow at h1
      have hs : hget K' H0.length = .row [sv] 0 true := by rw [h5 _ (by simp; omega) nb, hget_old (by omega)]; exact s3
      simp (disch := omega) only [kB, kcx, kdm, kdn, kel, aop, resultsL, resultOf, Nat.reduceEqDiff, reduceCtorEq, eq1, apartOK, apart2, AObj.live, Int.reduceEq, Int.reduceLT, Int.reduceLE, Int.reduceAdd, Int.reduceSub, Int.reduceMul, Int.reduceToNat, cutCells, Nat.reduceAdd, Nat.reduceLeDiff, Nat.reduceLT, Nat.reduceMul, Nat.reduceSub, q1, s3, h1, hs, cof_tr, one_tr]
      refine ⟨by rw [List.length_set, h3]; simp; omega, fun c hc => ?_, _, by rw [hget_set' l0], ?_⟩
      · rw [hget_ne (by omega), h5 c (by simp; omega) (fun q => by have := (s4.lt q).2; omega), hget_old (by omega)]
        exact s2 c hc
      · have e : ((L ++ [Tr.node b1 c n true v l r]).filter (sel m)).map ndC = (L.filter (sel m)).map ndC ++ [nodeRow c n true v l.ptr r.ptr] := by simp [List.filter_append, List.filter_cons, sel, hmc, ndC]
        rw [e]
        refine h2.same fun c hc => ?_
        rw [h4] at hc
        cases hc
        rw [hget_ne]
        simp
        omega

theorem MayS.more {w : Nat} {fm : FuncId} {cap : Array Value} {m : Nat → Nat → Bool} {g : Heap} (h : MayS H w fm cap m) : MayS (H ++ g) w fm cap m := fun K h1 h2 c n hc hn R hR =>
  h K (by simp at h1; omega) (fun d hd => by rw [h2 d (by simp; omega), hget_old hd]) c n hc hn R hR

theorem TA.nodes : ∀ {t : Tr}, TA H t → ∀ b c n f v l r, Tr.node b c n f v l r ∈ t.inL → ∃ wr, hget H b = .row (nodeRow c n f v l.ptr r.ptr) 0 wr
  | .nil, _, _, _, _, _, _, _, _, h => by simp [Tr.inL] at h
  | .node b1 c1 n1 f1 v1 l1 r1, ⟨h1, h2, h3⟩, b, c, n, f, v, l, r, h => by
    simp only [Tr.inL, List.mem_cons, List.mem_append] at h
    rcases h with h | h | h
    · cases h; exact h1
    · exact h2.nodes _ _ _ _ _ _ _ h
    · exact h3.nodes _ _ _ _ _ _ _ h

theorem range_t {pT pM b w : Nat} {mx l : Int} {t : Tr} {fm : FuncId} {cap : Array Value} {m : Nat → Nat → Bool}
    (hT : hget H pT = .row [.pointer (some ⟨b, 0, none⟩)] 0 true) (hd : hget H b = .row [.int .i64 (w : Int), .int .i64 mx, .int .i64 l, t.ptr] 0 true)
    (hM : hget H pM = .row [.func (.func fm) #[] cap] 0 true) (hm : MayS H w fm cap m) (lies : TA H t) (ok : TW w t) (hsz : t.inL.length ≤ 1000000)
    {ps : List Nat} (hps : ps.length = 2) {cz bd : ACode} {ev : Env} {Q : Post} (I : Nat → Heap → Prop)
    (hI0 : ∀ g, I 0 (H ++ .dead :: g)) (hset : ∀ i K o, I i K → I i (K.set H.length o)) (happ : ∀ i K g, I i K → I i (K ++ g))
    (hbody : ∀ i K x, (selP m t)[i]? = some x → H.length < K.length → I i K → WC T cz (putL ev ps [pfv x.1 (x.2.1 : Nat), .string (vb x.2.2)]) K (asK T bd (bodyK H.length Q ev (I (i + 1)) K)))
    (hQ : ∀ K, I (selP m t).length K → H.length < K.length → Q .norm ev K) :
    WRange T (.func (.func 84) #[] #[.pointer (some ⟨pT, 0, none⟩), .pointer (some ⟨pM, 0, none⟩)]) ps cz bd ev H Q := by
  have lT := hget_lt hT rfl
  have ld := hget_lt hd rfl
  have lM := hget_lt hM rfl
  refine WRange.of t84 ?_
  obtain ⟨lp, hlp⟩ : ∃ lp, lp = AObj.loop T.P T.G .ready none ev ps cz bd := ⟨_, rfl⟩
  rw [← hlp]
  refine WD.of follows t84 (by simp) ?_
  simp (disch := omega) only [kB, kcx, kdm, kdn, kel, aop, resultsL, resultOf, Nat.reduceEqDiff, reduceCtorEq, eq1, apartOK, apart2, AObj.live, Int.reduceEq, Int.reduceLT, Int.reduceLE, Int.reduceAdd, Int.reduceSub, Int.reduceMul, Int.reduceToNat, cutCells, Nat.reduceAdd, Nat.reduceLeDiff, Nat.reduceLT, Nat.reduceMul, Nat.reduceSub, hT, hd, eqP_sn]
  have hH0 : ∀ c, c < H.length → hget (H ++ [lp]) c = hget H c := fun c hc => hget_old hc
  have e0 : H ++ [lp, AObj.row [.slice none 0 0] 0 true] = (H ++ [lp]) ++ [AObj.row [.slice none 0 0] 0 true] := by simp
  have l0 : (H ++ [lp]).length = H.length + 1 := by simp
  rw [e0, ← l0]
  refine walk_t (WkS (H ++ [lp]) m) t.inL (fun L nd K hS hpre hex => ?_) t [] _ _ ⟨by simp, fun c hc => hget_old hc, _, hget_last _ _, .inl ⟨rfl, rfl⟩⟩ (fun L K hS => lies.frame fun c hc => (hS.2.1 c (by simp; omega)).trans (hH0 c hc)) ⟨[], by simp⟩ fun K hS => ?_
  · obtain ⟨b1, c, n, f, v, l1, r1, rfl⟩ := hex
    have hmem : Tr.node b1 c n f v l1 r1 ∈ t.inL := hpre.subset (by simp)
    obtain ⟨c1, c2⟩ := ok.nodes _ _ _ _ _ _ _ hmem
    have hta : TA K t := lies.frame fun c hc => (hS.2.1 c (by simp; omega)).trans (hH0 c hc)
    have hl := hpre.length_le
    simp only [List.length_append, List.length_cons, List.length_nil] at hl
    exact sel_t (by rw [hH0 pM lM]; exact hM) hm.more hS (hta.nodes _ _ _ _ _ _ _ hmem) c1 c2 (by omega)
  obtain ⟨s1, s2, sv, s3, s4⟩ := hS
  simp only [List.nil_append] at s4
  obtain ⟨ad, rfl⟩ := s4.len
  have hlen : (List.map ndC (List.filter (sel m) t.inL)).length = (selP m t).length := by
    have := congrArg List.length (sel_mem (m := m) (t := t))
    simpa using this
  have hlp1 : hget K H.length = lp := by rw [s2 _ (by simp), hget_last]
  have h0 : I 0 K := by
    obtain ⟨g, rfl⟩ := pre_of (H := H ++ [lp]) (by omega) s2
    have q := hset 0 _ lp (hI0 g)
    simpa using q
  rw [l0] at s3 s4
  simp (disch := omega) only [kB, kcx, kdm, kdn, kel, aop, resultsL, resultOf, Nat.reduceEqDiff, reduceCtorEq, eq1, apartOK, apart2, AObj.live, Int.reduceEq, Int.reduceLT, Int.reduceLE, Int.reduceAdd, Int.reduceSub, Int.reduceMul, Int.reduceToNat, cutCells, Nat.reduceAdd, Nat.reduceLeDiff, Nat.reduceLT, Nat.reduceMul, Nat.reduceSub, s3]
  generalize hcss : List.map ndC (List.filter (sel m) t.inL) = css at s4 hlen ⊢
  have hnd : ∀ i (hi : i < css.length), ∃ c n v l1 r1, css[i] = nodeRow c n true v l1 r1 ∧ oneCell l1 = true ∧ oneCell r1 = true ∧ cellsOf l1 = [l1] ∧ cellsOf r1 = [r1] ∧ (selP m t)[i]? = some (c, n, v) := fun i hi => by
    have h1 : i < (t.inL.filter (sel m)).length := by rw [← hcss] at hi; simpa using hi
    obtain ⟨b1, c, n, v, l1, r1, h2, h3⟩ := sel_get (List.getElem?_eq_getElem h1)
    refine ⟨c, n, v, l1.ptr, r1.ptr, ?_, one_tr _, one_tr _, cof_tr _, cof_tr _, h3⟩
    have : css[i] = ndC (t.inL.filter (sel m))[i] := by simp [← hcss]
    rw [this, h2]
    rfl
  have l1 : H.length < K.length := by omega
  have hcl : css.length ≤ 1000000 := by
    have := List.length_filter_le (sel m) t.inL
    rw [← hcss, List.length_map]
    omega
  clear hI0 hcss hm lies hd hT hM s1 s2 s3
  refine WLoop.inv (fun z e K => ∃ i : Nat, i ≤ css.length ∧ z = css.length - i ∧ I i K ∧ H.length < K.length ∧ hget K H.length = lp ∧ SLs 7 (H.length + 1 + 1) K (.slice ad css.length css.length) css ∧
    (∃ x : Nat → Value, e = [.func (.yield H.length) #[] #[], x 1, x 2, x 3, x 4, x 5, x 6, x 7, x 8, x 9, x 10, x 11, x 12, x 13, x 14, .slice ad css.length css.length, .int .i64 (css.length : Nat), .int .i64 (i : Int), x 18, x 19, x 20, x 21, x 22, x 23, x 24, x 25, x 26, x 27, x 28])) ?_ css.length _ _ ⟨0, by omega, by omega, h0, l1, hlp1, s4, by exact ex_env rfl⟩
  clear h0 s4 hlp1 l1
  rintro z e K ⟨i, i1, rfl, hI, lK, hlpK, hsl, ⟨x, rfl⟩⟩
  by_cases hi : (i : Int) < (css.length : Nat)
  case neg =>
    simp (disch := omega) only [kB, kcx, kdm, kdn, kel, aop, resultsL, resultOf, Nat.reduceEqDiff, reduceCtorEq, eq1, apartOK, apart2, AObj.live, Int.reduceEq, Int.reduceLT, Int.reduceLE, Int.reduceAdd, Int.reduceSub, Int.reduceMul, Int.reduceToNat, cutCells, Nat.reduceAdd, Nat.reduceLeDiff, Nat.reduceLT, Nat.reduceMul, Nat.reduceSub, hi]
    subst hlp
    refine rangeK_of (st := .ready) (pe := none) (by simp) ?_ hlpK
    simp only
    refine hQ _ ?_ (by simpa using lK)
    rw [← hlen]
    exact hset _ _ _ (by rw [show css.length = i by omega]; exact hI)
  have hi2 : i < css.length := by omega
  obtain ⟨c, n, v, l1, r1, h1, h2, h3, h4, h5, h6⟩ := hnd i hi2
  have hsl0 := hsl
  rcases hsl with ⟨q, _⟩ | ⟨hne, k, k0, hk, hk2, hk3⟩
  · rw [q] at hi2; simp at hi2
  simp only [Value.slice.injEq] at hk
  obtain ⟨rfl, _⟩ := hk
  have hcut := flat_cut i hk3 hi2
  rw [h1] at hcut
  unfold nodeRow at hcut
  have hfl := flat_len_u hk3
  have c0 : (0 : Int) ≤ (i : Int) := by omega
  have lk := hget_lt hk2 rfl
  simp (disch := omega) only [kB, kcx, kdm, kdn, kel, aop, resultsL, resultOf, Nat.reduceEqDiff, reduceCtorEq, eq1, apartOK, apart2, AObj.live, Int.reduceEq, Int.reduceLT, Int.reduceLE, Int.reduceAdd, Int.reduceSub, Int.reduceMul, Int.reduceToNat, cutCells, Nat.reduceAdd, Nat.reduceLeDiff, Nat.reduceLT, Nat.reduceMul, Nat.reduceSub, hi, hk2, hfl, hcut, h2, h3, h4, h5, if_pos, c0, hi2]
  subst hlp
  refine WY.of follows (by rw [hget_old lK]; exact hlpK) (by simp [hps]) ?_
  have hK' : H.length < ((K ++ [AObj.row (nodeRow c n true v l1 r1) 0 true]).set H.length .dead).length := by simp; omega
  have hh := hbody i _ (c, n, v) h6 hK' (hset _ _ _ (happ _ _ _ hI))
  have lk2 : k ≠ H.length := by omega
  have hkk : hget ((K ++ [AObj.row (nodeRow c n true v l1 r1) 0 true]).set H.length .dead) k = .row css.flatten 7 true := by rw [hget_ne (Ne.symm lk2), hget_old lk]; exact hk2
  have lk3 : k < ((K ++ [AObj.row (nodeRow c n true v l1 r1) 0 true]).set H.length .dead).length := by simp; omega
  clear hbody hfl hcut
  refine WC.mono hh ?_
  intro r e2 K2 hK2
  cases r with
  | ret => exact hK2
  | exit id => exact hK2
  | pan v => exact hK2
  | norm =>
  rw [asK_norm] at hK2 ⊢
  refine WC.mono hK2 ?_
  intro r e3 K3 hK3
  cases r with
  | pan v => exact hK3
  | norm =>
    obtain ⟨hI3, hkp, hkp2⟩ := hK3
    have l3 : H.length < K3.length := Nat.lt_of_lt_of_le hK' hkp
    simp (disch := omega) only [kB, kcx, kdm, kdn, kel, aop, resultsL, resultOf, Nat.reduceEqDiff, reduceCtorEq, eq1, apartOK, apart2, AObj.live, Int.reduceEq, Int.reduceLT, Int.reduceLE, Int.reduceAdd, Int.reduceSub, Int.reduceMul, Int.reduceToNat, cutCells, Nat.reduceAdd, Nat.reduceLeDiff, Nat.reduceLT, Nat.reduceMul, Nat.reduceSub, wr_i64, nadd1]
    refine ⟨css.length - (i + 1), by omega, i + 1, by omega, rfl, hset _ _ _ hI3, by simpa using l3, hsl0.same fun c hc => ?_, ex_env rfl⟩
    cases hc
    rw [hget_ne (Ne.symm lk2), hkp2 k _ (by omega) hkk, hk2]
  | ret =>
    obtain ⟨hq, l3⟩ := hK3
    simp (disch := omega) only [kB, kcx, kdm, kdn, kel, aop, resultsL, resultOf, Nat.reduceEqDiff, reduceCtorEq, eq1, apartOK, apart2, AObj.live, Int.reduceEq, Int.reduceLT, Int.reduceLE, Int.reduceAdd, Int.reduceSub, Int.reduceMul, Int.reduceToNat, cutCells, Nat.reduceAdd, Nat.reduceLeDiff, Nat.reduceLT, Nat.reduceMul, Nat.reduceSub]
    refine rangeK_of (st := .done) (pe := some none) (by simp) ?_ (hget_set' l3)
    simpa [List.set_set] using hq
  | exit id =>
    obtain ⟨hq, l3⟩ := hK3
    simp (disch := omega) only [kB, kcx, kdm, kdn, kel, aop, resultsL, resultOf, Nat.reduceEqDiff, reduceCtorEq, eq1, apartOK, apart2, AObj.live, Int.reduceEq, Int.reduceLT, Int.reduceLE, Int.reduceAdd, Int.reduceSub, Int.reduceMul, Int.reduceToNat, cutCells, Nat.reduceAdd, Nat.reduceLeDiff, Nat.reduceLT, Nat.reduceMul, Nat.reduceSub]
    refine rangeK_of (st := .done) (pe := some (some id)) (by simp) ?_ (hget_set' l3)
    simpa [List.set_set] using hq

theorem some_t {b : Nat} {f : Value} (hf : cellsOf f = [f]) (h : R (.ret (.func (.func 84) #[] #[.pointer (some ⟨H.length, 0, none⟩), .pointer (some ⟨H.length + 1, 0, none⟩)])) (H ++ [.row [.pointer (some ⟨b, 0, none⟩)] 0 true, .row [f] 0 true])) :
    WD T 58 [.pointer (some ⟨b, 0, none⟩), f] H R := by
  refine WD.of follows t58 (by simp) ?_
  simp (disch := omega) only [kB, kcx, kdm, kdn, kel, aop, resultsL, resultOf, Nat.reduceEqDiff, reduceCtorEq, eq1, apartOK, apart2, AObj.live, Int.reduceEq, Int.reduceLT, Int.reduceLE, Int.reduceAdd, Int.reduceSub, Int.reduceMul, Int.reduceToNat, cutCells, Nat.reduceAdd, Nat.reduceLeDiff, Nat.reduceLT, Nat.reduceMul, Nat.reduceSub, hf]
  exact h

theorem all_t {b : Nat} (h : R (.ret (.func (.func 84) #[] #[.pointer (some ⟨H.length, 0, none⟩), .pointer (some ⟨H.length + 1, 0, none⟩)])) (H ++ [.row [.pointer (some ⟨b, 0, none⟩)] 0 true, .row [.func (.func 59) #[] #[]] 0 true])) :
    WD T 27 [.pointer (some ⟨b, 0, none⟩)] H R := by
  refine WD.of follows t27 (by simp) ?_
  simp (disch := omega) only [kB, kcx, kdm, kdn, kel, aop, resultsL, resultOf, Nat.reduceEqDiff, reduceCtorEq, eq1, apartOK, apart2, AObj.live, Int.reduceEq, Int.reduceLT, Int.reduceLE, Int.reduceAdd, Int.reduceSub, Int.reduceMul, Int.reduceToNat, cutCells, Nat.reduceAdd, Nat.reduceLeDiff, Nat.reduceLT, Nat.reduceMul, Nat.reduceSub]
  refine some_t rfl ?_
  simp (disch := omega) only [kB, kcx, kdm, kdn, kel, aop, resultsL, resultOf, Nat.reduceEqDiff, reduceCtorEq, eq1, apartOK, apart2, AObj.live, Int.reduceEq, Int.reduceLT, Int.reduceLE, Int.reduceAdd, Int.reduceSub, Int.reduceMul, Int.reduceToNat, cutCells, Nat.reduceAdd, Nat.reduceLeDiff, Nat.reduceLT, Nat.reduceMul, Nat.reduceSub]
  exact h

theorem may_allS {w : Nat} : MayS H w 59 #[] (fun _ _ => true) := fun K h1 h2 c n hc hn R h => may_all h

theorem len_t {b w : Nat} {m l : Int} {rt : Value} {wr : Bool} (hd : hget H b = .row [.int .i64 (w : Int), .int .i64 m, .int .i64 l, rt] 0 wr) (h : R (.ret (.int .i64 l)) H) : WD T 25 [.pointer (some ⟨b, 0, none⟩)] H R := by
  refine WD.of follows t25 (by simp) ?_
  simp (disch := omega) only [kB, kcx, kdm, kdn, kel, aop, resultsL, resultOf, Nat.reduceEqDiff, reduceCtorEq, eq1, apartOK, apart2, AObj.live, Int.reduceEq, Int.reduceLT, Int.reduceLE, Int.reduceAdd, Int.reduceSub, Int.reduceMul, Int.reduceToNat, cutCells, Nat.reduceAdd, Nat.reduceLeDiff, Nat.reduceLT, Nat.reduceMul, Nat.reduceSub, eqP_sn, hd]
  exact h

theorem get_mem {w c n : Nat} {v : Int} {t : Tr} (hw2 : w ≤ 128) (pw : PW w t.er) (hm : (c, n, v) ∈ t.er.mem) (hr : rgt w c (n : Int) = true) : getR w c (n : Nat) t = .tuple #[.string (vb v), .bool true] := by
  obtain ⟨q1, q2⟩ := nodes_ok pw _ (mem_nodes hm)
  have h3 := (at_mem q2 q1 pw).2 hm
  rw [getR_er, if_pos hr, Int.toNat_natCast, h3]

theorem join_lies {b c n : Nat} {f : Bool} {v : Int} {l r : Tr} (h : TAw H (.node b c n f v l r)) : TAw H (joinT b c n f v l r) := by
  unfold joinT
  split
  · exact h
  · split
    · exact h.2.1
    · exact h.2.2

/-- Behind the change of a node: what stays of it. -/
theorem wo_rest {b1 c n : Nat} {full : Bool} {u : Int} {l r : Tr} (q1 : hget H b1 = .row (nodeRow c n full u l.ptr r.ptr) 0 true) {e : Env} (he : (∃ x : Nat → Value, e = [x 0, .pointer (some ⟨b1, 0, none⟩), x 2, x 3, x 4, x 5, x 6, x 7, x 8, x 9, x 10, x 11, x 12, x 13, x 14, x 15, x 16, x 17, x 18, x 19, x 20, x 21, x 22, x 23, x 24, x 25, x 26, x 27, x 28, x 29, x 30, x 31, x 32, x 33, x 34, x 35, x 36, x 37, x 38, x 39, x 40, x 41, x 42, x 43, x 44, x 45, x 46, x 47, x 48, x 49, x 50, x 51, x 52, x 53, x 54, x 55, x 56, x 57, x 58, x 59, x 60, x 61, x 62, x 63, x 64, x 65, x 66, x 67, x 68, x 69, x 70, x 71, x 72, x 73, x 74, x 75, x 76, x 77, x 78, x 79, x 80, x 81, x 82, x 83])) (h : R (.ret (joinT b1 c n full u l r).ptr) H) :
    WC T (g55.body.at [1, 1]) e H (retK [.tmp 6] R) := by
  obtain ⟨x, rfl⟩ := he
  have c02 : (0 : Int) < ((2 : Nat) : Int) := by decide
  have c12 : (1 : Int) < ((2 : Nat) : Int) := by decide
  have pn : ∀ {H : Heap} {t : Tr}, eqP H 0 t.ptr (.pointer none) = some (nilP t.er) := ptr_nil
  unfold nodeRow at q1
  simp only [AFunc.body, g55, ACode.at]
  cases full with
  | true =>
    rw [joinT, if_pos (.inl rfl)] at h
    simp only [Tr.ptr] at h
    simp (disch := omega) only [kB, kcx, kdm, kdn, kel, aop, resultsL, resultOf, Nat.reduceEqDiff, reduceCtorEq, eq1, apartOK, apart2, AObj.live, Int.reduceEq, Int.reduceLT, Int.reduceLE, Int.reduceAdd, Int.reduceSub, Int.reduceMul, Int.reduceToNat, cutCells, Nat.reduceAdd, Nat.reduceLeDiff, Nat.reduceLT, Nat.reduceMul, Nat.reduceSub, q1]
    exact h
  | false =>
    cases hl : nilP l.er with
    | true =>
      rw [joinT, if_neg (by simp [hl]), if_neg (by simp [hl])] at h
      simp (disch := omega) only [kB, kcx, kdm, kdn, kel, aop, resultsL, resultOf, Nat.reduceEqDiff, reduceCtorEq, eq1, apartOK, apart2, AObj.live, Int.reduceEq, Int.reduceLT, Int.reduceLE, Int.reduceAdd, Int.reduceSub, Int.reduceMul, Int.reduceToNat, cutCells, Nat.reduceAdd, Nat.reduceLeDiff, Nat.reduceLT, Nat.reduceMul, Nat.reduceSub, q1, c02, c12, pn, hl]
      exact h
    | false =>
      cases hr : nilP r.er with
      | false =>
        rw [joinT, if_pos (.inr ⟨hl, hr⟩)] at h
        simp only [Tr.ptr] at h
        simp (disch := omega) only [kB, kcx, kdm, kdn, kel, aop, resultsL, resultOf, Nat.reduceEqDiff, reduceCtorEq, eq1, apartOK, apart2, AObj.live, Int.reduceEq, Int.reduceLT, Int.reduceLE, Int.reduceAdd, Int.reduceSub, Int.reduceMul, Int.reduceToNat, cutCells, Nat.reduceAdd, Nat.reduceLeDiff, Nat.reduceLT, Nat.reduceMul, Nat.reduceSub, q1, c02, c12, pn, hl, hr]
        exact h
      | true =>
        rw [joinT, if_neg (by simp [hr]), if_pos hl] at h
        simp (disch := omega) only [kB, kcx, kdm, kdn, kel, aop, resultsL, resultOf, Nat.reduceEqDiff, reduceCtorEq, eq1, apartOK, apart2, AObj.live, Int.reduceEq, Int.reduceLT, Int.reduceLE, Int.reduceAdd, Int.reduceSub, Int.reduceMul, Int.reduceToNat, cutCells, Nat.reduceAdd, Nat.reduceLeDiff, Nat.reduceLT, Nat.reduceMul, Nat.reduceSub, q1, c02, c12, pn, hl, hr]
        exact h

theorem without_t {b w a k : Nat} {v : Int} (hw : 1 ≤ w) (hw2 : w ≤ 128) (ha : a < 2 ^ w) : ∀ (t : Tr) (H : Heap) (R : FRes → Heap → Prop), TH H b w → b ∉ t.blocks → TAw H t → TW w t → t.blocks.Nodup → PW w t.er → (a, k, v) ∈ t.er.mem →
    (∀ H', WPost H t H' (dropT w a k t) → R (.ret (dropT w a k t).ptr) H') → WD T 55 [.pointer (some ⟨b, 0, none⟩), t.ptr, pfv a k] H R := by
  have hpn : 2 ^ w ≤ 2 ^ 128 := Nat.pow_le_pow_right (by decide) hw2
  have c02 : ((0 : Nat) : Int) < ((2 : Nat) : Int) := by decide
  have c12 : ((1 : Nat) : Int) < ((2 : Nat) : Int) := by decide
  intro t
  induction t with
  | nil => intro H R _ _ _ _ _ _ hm; cases hm
  | node b1 c n full u l r ihl ihr =>
    intro H R hb hbn lies htw hnd hpw hm h
    obtain ⟨q1, q2, q3⟩ := lies
    obtain ⟨t1, t2, t3, t4, t5⟩ := htw
    have hms := mem_side (v := v) hpw hm
    have lb := hb.lt
    have l1 := hget_lt q1 rfl
    simp only [Tr.blocks, List.nodup_cons, List.mem_append, not_or, List.nodup_append] at hnd
    obtain ⟨⟨d1, d2⟩, d3, d4, d5⟩ := hnd
    simp only [Tr.blocks, List.mem_cons, List.mem_append, not_or] at hbn
    obtain ⟨Z, hZ⟩ : ∃ Z, Z = WC T (g55.body.at [1, 1]) := ⟨_, rfl⟩
    have hZ' := hZ.symm
    simp only [AFunc.body, g55, ACode.at] at hZ'
    have q1' := q1
    unfold nodeRow at q1
    simp only [Tr.ptr]
    have e0 := eq_pf (a := c) (n := n) (c := a) (k := k)
    refine WD.of follows t55 (by simp) ?_
    rcases hms with ⟨rfl, rfl, rfl, rfl, _, _⟩ | ⟨g1, g2, g3⟩ | ⟨g1, g2, g3⟩
    · rw [decide_eq_true ⟨rfl, rfl⟩] at e0
      simp (disch := omega) only [kB, kcx, kdm, kdn, kel, aop, resultsL, resultOf, Nat.reduceEqDiff, reduceCtorEq, eq1, apartOK, apart2, AObj.live, Int.reduceEq, Int.reduceLT, Int.reduceLE, Int.reduceAdd, Int.reduceSub, Int.reduceMul, Int.reduceToNat, cutCells, Nat.reduceAdd, Nat.reduceLeDiff, Nat.reduceLT, Nat.reduceMul, Nat.reduceSub, q1, e0, hZ', hget_oldS, hget_set', set_oldS, List.set_set]
      rw [hZ]
      have e1 : dropT w c n (.node b1 c n true u l r) = joinT b1 c n false 0 l r := by rw [dropT, if_pos ⟨rfl, rfl⟩]
      rw [e1] at h
      refine wo_rest (by rw [hget_oldS l1, hget_set' l1]; rfl) (by exact ex_env rfl) (h _ ⟨by simp, fun x hx hn => ?_, join_lies ⟨?_, ?_, ?_⟩, join_nd ?_, fun x hx => .inl ?_⟩)
      · simp only [Tr.blocks, List.mem_cons, not_or] at hn
        rw [hget_oldS hx, hget_ne (Ne.symm hn.1)]
      · rw [hget_oldS l1, hget_set' l1]
        rfl
      · exact q2.same fun x hx => by rw [hget_oldS (q2.lt x hx), hget_ne (fun q => d1 (by rw [q]; exact hx))]
      · exact q3.same fun x hx => by rw [hget_oldS (q3.lt x hx), hget_ne (fun q => d2 (by rw [q]; exact hx))]
      · simp only [Tr.blocks, List.nodup_cons, List.mem_append, not_or, List.nodup_append]
        exact ⟨⟨d1, d2⟩, d3, d4, d5⟩
      · simp only [Tr.blocks, List.mem_cons, List.mem_append]
        exact join_own x hx
    · rw [decide_eq_false g1] at e0
      have hk := nodes_ok hpw.2.2.2.2.1 _ (mem_nodes g3)
      have hnk := (hpw.2.2.1 _ (mem_nodes g3)).1
      simp only at hk hnk
      have hs2 : ((sideN w a n : Nat) : Int) = 0 := by omega
      simp (disch := omega) only [kB, kcx, kdm, kdn, kel, aop, resultsL, resultOf, Nat.reduceEqDiff, reduceCtorEq, eq1, apartOK, apart2, AObj.live, Int.reduceEq, Int.reduceLT, Int.reduceLE, Int.reduceAdd, Int.reduceSub, Int.reduceMul, Int.reduceToNat, cutCells, Nat.reduceAdd, Nat.reduceLeDiff, Nat.reduceLT, Nat.reduceMul, Nat.reduceSub, q1, e0, hZ']
      refine side_t hb.app hw hw2 (by omega) (by omega) ?_
      simp (disch := omega) only [kB, kcx, kdm, kdn, kel, aop, resultsL, resultOf, Nat.reduceEqDiff, reduceCtorEq, eq1, apartOK, apart2, AObj.live, Int.reduceEq, Int.reduceLT, Int.reduceLE, Int.reduceAdd, Int.reduceSub, Int.reduceMul, Int.reduceToNat, cutCells, Nat.reduceAdd, Nat.reduceLeDiff, Nat.reduceLT, Nat.reduceMul, Nat.reduceSub, q1, g2, hs2, c02, hZ']
      refine ihl _ _ hb.app hbn.2.1 q2.app t4 d3 hpw.2.2.2.2.1 g3 fun H1 hp => ?_
      have lh := hp.len
      simp only [List.length_append, List.length_cons, List.length_nil] at lh
      have h1 : hget H1 b1 = .row [.int .u64 ((c / W64 : Nat) : Int), .int .u64 ((c % W64 : Nat) : Int), .int .i64 (n : Int), .bool full, .string (vb u), l.ptr, r.ptr] 0 true := by
        rw [hp.frame b1 (by simp; omega) d1, hget_old l1]; exact q1
      have lh1 : b1 < H1.length := by omega
      simp (disch := omega) only [kB, kcx, kdm, kdn, kel, aop, resultsL, resultOf, Nat.reduceEqDiff, reduceCtorEq, eq1, apartOK, apart2, AObj.live, Int.reduceEq, Int.reduceLT, Int.reduceLE, Int.reduceAdd, Int.reduceSub, Int.reduceMul, Int.reduceToNat, cutCells, Nat.reduceAdd, Nat.reduceLeDiff, Nat.reduceLT, Nat.reduceMul, Nat.reduceSub, eqP_sn, h1, g2, c02, cof_tr, one_tr, hZ']
      rw [hZ]
      have e1 : dropT w a k (.node b1 c n full u l r) = joinT b1 c n full u (dropT w a k l) r := by rw [dropT, if_neg g1, if_pos g2]
      rw [e1] at h
      obtain ⟨p1, p2, p3, p4, p5, p6, p7, p8⟩ := kid_post (o := .row (nodeRow c n full u (dropT w a k l).ptr r.ptr) 0 true) hp l1 d1 d2 q3 (fun x hx hy => d5 x hx x hy rfl)
      refine wo_rest (l := dropT w a k l) (r := r) p5 (by exact ex_env rfl) (h _ ⟨p1, fun x hx hn => ?_, join_lies ⟨p5, p3, p4⟩, join_nd ?_, fun x hx => ?_⟩)
      · simp only [Tr.blocks, List.mem_cons, List.mem_append, not_or] at hn
        exact p2 x hx hn.1 hn.2.1
      · simp only [Tr.blocks, List.nodup_cons, List.mem_append, not_or, List.nodup_append]
        exact ⟨⟨p6, d2⟩, hp.nd, d4, fun x hx y hy q => p7 x hx (by rw [q]; exact hy)⟩
      · simp only [Tr.blocks, List.mem_cons, List.mem_append]
        rcases join_own x hx with hx | hx | hx
        · exact .inl (.inl hx)
        · exact (p8 x hx).imp (fun q => .inr (.inl q)) id
        · exact .inl (.inr (.inr hx))
    · rw [decide_eq_false g1] at e0
      have hk := nodes_ok hpw.2.2.2.2.2 _ (mem_nodes g3)
      have hnk := (hpw.2.2.2.1 _ (mem_nodes g3)).1
      simp only at hk hnk
      have hs2 : ((sideN w a n : Nat) : Int) = 1 := by omega
      simp (disch := omega) only [kB, kcx, kdm, kdn, kel, aop, resultsL, resultOf, Nat.reduceEqDiff, reduceCtorEq, eq1, apartOK, apart2, AObj.live, Int.reduceEq, Int.reduceLT, Int.reduceLE, Int.reduceAdd, Int.reduceSub, Int.reduceMul, Int.reduceToNat, cutCells, Nat.reduceAdd, Nat.reduceLeDiff, Nat.reduceLT, Nat.reduceMul, Nat.reduceSub, q1, e0, hZ']
      refine side_t hb.app hw hw2 (by omega) (by omega) ?_
      simp (disch := omega) only [kB, kcx, kdm, kdn, kel, aop, resultsL, resultOf, Nat.reduceEqDiff, reduceCtorEq, eq1, apartOK, apart2, AObj.live, Int.reduceEq, Int.reduceLT, Int.reduceLE, Int.reduceAdd, Int.reduceSub, Int.reduceMul, Int.reduceToNat, cutCells, Nat.reduceAdd, Nat.reduceLeDiff, Nat.reduceLT, Nat.reduceMul, Nat.reduceSub, q1, g2, hs2, c12, hZ']
      refine ihr _ _ hb.app hbn.2.2 q3.app t5 d4 hpw.2.2.2.2.2 g3 fun H1 hp => ?_
      have lh := hp.len
      simp only [List.length_append, List.length_cons, List.length_nil] at lh
      have h1 : hget H1 b1 = .row [.int .u64 ((c / W64 : Nat) : Int), .int .u64 ((c % W64 : Nat) : Int), .int .i64 (n : Int), .bool full, .string (vb u), l.ptr, r.ptr] 0 true := by
        rw [hp.frame b1 (by simp; omega) d2, hget_old l1]; exact q1
      have lh1 : b1 < H1.length := by omega
      simp (disch := omega) only [kB, kcx, kdm, kdn, kel, aop, resultsL, resultOf, Nat.reduceEqDiff, reduceCtorEq, eq1, apartOK, apart2, AObj.live, Int.reduceEq, Int.reduceLT, Int.reduceLE, Int.reduceAdd, Int.reduceSub, Int.reduceMul, Int.reduceToNat, cutCells, Nat.reduceAdd, Nat.reduceLeDiff, Nat.reduceLT, Nat.reduceMul, Nat.reduceSub, eqP_sn, h1, g2, c12, cof_tr, one_tr, hZ']
      rw [hZ]
      have e1 : dropT w a k (.node b1 c n full u l r) = joinT b1 c n full u l (dropT w a k r) := by rw [dropT, if_neg g1, if_neg (by omega)]
      rw [e1] at h
      obtain ⟨p1, p2, p3, p4, p5, p6, p7, p8⟩ := kid_post (o := .row (nodeRow c n full u l.ptr (dropT w a k r).ptr) 0 true) hp l1 d2 d1 q2 (fun x hx hy => d5 x hy x hx rfl)
      refine wo_rest (l := l) (r := dropT w a k r) p5 (by exact ex_env rfl) (h _ ⟨p1, fun x hx hn => ?_, join_lies ⟨p5, p4, p3⟩, join_nd ?_, fun x hx => ?_⟩)
      · simp only [Tr.blocks, List.mem_cons, List.mem_append, not_or] at hn
        exact p2 x hx hn.1 hn.2.2
      · simp only [Tr.blocks, List.nodup_cons, List.mem_append, not_or, List.nodup_append]
        exact ⟨⟨d1, p6⟩, d3, hp.nd, fun x hx y hy q => p7 y hy (by rw [← q]; exact hx)⟩
      · simp only [Tr.blocks, List.mem_cons, List.mem_append]
        rcases join_own x hx with hx | hx | hx
        · exact .inl (.inl hx)
        · exact .inl (.inr (.inl hx))
        · exact (p8 x hx).imp (fun q => .inr (.inr q)) id

theorem drop_t {b w a : Nat} {m l n : Int} {t : Tr} (I : TI H b w m l t) (hw : 1 ≤ w) (hw2 : w ≤ 128) (ha : a < 2 ^ 128) (hpw : PW w t.er) (hl : -9223372036854775807 ≤ l ∧ l < 9223372036854775808)
    (h1 : getR w a n t = .tuple #[.string (bs []), .bool false] → ∀ g, R (.ret (.tuple #[.string (bs []), .bool false])) (H ++ g))
    (h2 : ∀ (k : Nat) (v : Int), n = k → rgt w a k = true → (a, k, v) ∈ t.er.mem → ∀ H', H.length ≤ H'.length → (∀ c, c < H.length → c ≠ b → c ∉ t.blocks → hget H' c = hget H c) → TI H' b w m (l - 1) (dropT w a k t) → (∀ c ∈ (dropT w a k t).blocks, c ∈ t.blocks ∨ H.length ≤ c) →
      R (.ret (.tuple #[.string (vb v), .bool true])) H') :
    WD T 24 [.pointer (some ⟨b, 0, none⟩), pfv a n] H R := by
  obtain ⟨hd, nb, lies, ok, nd⟩ := I
  have lb := hget_lt hd rfl
  refine WD.of follows t24 (by simp) ?_
  simp (disch := omega) only [kB, kcx, kdm, kdn, kel, aop, resultsL, resultOf, Nat.reduceEqDiff, reduceCtorEq, eq1, apartOK, apart2, AObj.live, Int.reduceEq, Int.reduceLT, Int.reduceLE, Int.reduceAdd, Int.reduceSub, Int.reduceMul, Int.reduceToNat, cutCells, Nat.reduceAdd, Nat.reduceLeDiff, Nat.reduceLT, Nat.reduceMul, Nat.reduceSub]
  refine get_t (by rw [hget_old lb]; exact hd) lies.ta.app ok hw hw2 ha ?_
  have hg := getR_er (w := w) (a := a) (n := n) (t := t)
  by_cases hr : rgt w a n = true
  case neg =>
    rw [if_neg hr] at hg
    rw [hg]
    simp (disch := omega) only [kB, kcx, kdm, kdn, kel, aop, resultsL, resultOf, Nat.reduceEqDiff, reduceCtorEq, eq1, apartOK, apart2, AObj.live, Int.reduceEq, Int.reduceLT, Int.reduceLE, Int.reduceAdd, Int.reduceSub, Int.reduceMul, Int.reduceToNat, cutCells, Nat.reduceAdd, Nat.reduceLeDiff, Nat.reduceLT, Nat.reduceMul, Nat.reduceSub]
    exact h1 hg _
  rw [if_pos hr] at hg
  obtain ⟨r1, r2, r3, r4⟩ := (rgt_iff hw2).1 hr
  obtain ⟨k, rfl⟩ : ∃ k : Nat, n = k := ⟨n.toNat, by omega⟩
  simp only [Int.toNat_natCast] at hg
  cases hat : atP w a k t.er with
  | none =>
    rw [hat] at hg
    rw [hg]
    simp (disch := omega) only [kB, kcx, kdm, kdn, kel, aop, resultsL, resultOf, Nat.reduceEqDiff, reduceCtorEq, eq1, apartOK, apart2, AObj.live, Int.reduceEq, Int.reduceLT, Int.reduceLE, Int.reduceAdd, Int.reduceSub, Int.reduceMul, Int.reduceToNat, cutCells, Nat.reduceAdd, Nat.reduceLeDiff, Nat.reduceLT, Nat.reduceMul, Nat.reduceSub]
    exact h1 hg _
  | some v =>
    rw [hat] at hg
    rw [hg]
    have hm := (at_mem r1 (by omega) hpw).1 hat
    have hth2 : TH (H.set b (.row [.int .i64 (w : Int), .int .i64 m, .int .i64 (l - 1), t.ptr] 0 true) ++ [.row [.int .u64 ((a / W64 : Nat) : Int), .int .u64 ((a % W64 : Nat) : Int), .int .i64 (k : Int)] 0 true]) b w := ⟨m, l - 1, t.ptr, true, by rw [hget_oldS lb, hget_set' lb]⟩
    have lies2 : TAw (H.set b (.row [.int .i64 (w : Int), .int .i64 m, .int .i64 (l - 1), t.ptr] 0 true) ++ [.row [.int .u64 ((a / W64 : Nat) : Int), .int .u64 ((a % W64 : Nat) : Int), .int .i64 (k : Int)] 0 true]) t :=
      lies.same fun c hc => by rw [hget_oldS (lies.lt c hc), hget_ne (fun q => nb (by rw [q]; exact hc))]
    simp (disch := omega) only [kB, kcx, kdm, kdn, kel, aop, resultsL, resultOf, Nat.reduceEqDiff, reduceCtorEq, eq1, apartOK, apart2, AObj.live, Int.reduceEq, Int.reduceLT, Int.reduceLE, Int.reduceAdd, Int.reduceSub, Int.reduceMul, Int.reduceToNat, cutCells, Nat.reduceAdd, Nat.reduceLeDiff, Nat.reduceLT, Nat.reduceMul, Nat.reduceSub, hd, wr_i64, hget_oldS, hget_set', set_oldS, List.set_set]
    refine without_t hw hw2 r1 t _ _ hth2 nb lies2 ok nd hpw hm fun H1 hp => ?_
    have lh := hp.len
    simp only [List.length_append, List.length_set, List.length_cons, List.length_nil] at lh
    have lb1 : b < H1.length := by omega
    have hb1 : hget H1 b = .row [.int .i64 (w : Int), .int .i64 m, .int .i64 (l - 1), t.ptr] 0 true := by
      rw [hp.frame b (by simp; omega) nb, hget_oldS lb, hget_set' lb]
    have nb1 : b ∉ (dropT w a k t).blocks := fun q => by
      rcases hp.own b q with q | q
      · exact nb q
      · simp at q; omega
    simp (disch := omega) only [kB, kcx, kdm, kdn, kel, aop, resultsL, resultOf, Nat.reduceEqDiff, reduceCtorEq, eq1, apartOK, apart2, AObj.live, Int.reduceEq, Int.reduceLT, Int.reduceLE, Int.reduceAdd, Int.reduceSub, Int.reduceMul, Int.reduceToNat, cutCells, Nat.reduceAdd, Nat.reduceLeDiff, Nat.reduceLT, Nat.reduceMul, Nat.reduceSub, hb1, cof_tr, one_tr]
    refine h2 k v rfl hr hm _ (by simp; omega) (fun c hc hne hn => ?_) ⟨hget_set' lb1, nb1, hp.lies.same fun c hc => hget_ne (fun q => nb1 (by rw [q]; exact hc)), ?_, hp.nd⟩ (fun c hc => (hp.own c hc).imp id fun q => by simp at q; omega)
    · rw [hget_ne (Ne.symm hne), hp.frame c (by simp; omega) hn, hget_oldS hc, hget_ne (Ne.symm hne)]
    · rw [tw_er, drop_er]
      exact drop_tw (tw_er.1 ok)

theorem set_at {w a k : Nat} {v v0 : Int} (ha : a < 2 ^ w) (hk : k ≤ w) : ∀ {t : Tr}, PW w t.er → TAw H t → t.blocks.Nodup → (a, k, v0) ∈ t.er.mem →
    ∃ b1 l r, atV w a k t = .pointer (some ⟨b1, 0, none⟩) ∧ b1 ∈ t.blocks ∧ hget H b1 = .row (nodeRow a k true v0 l r) 0 true ∧ TAw (H.set b1 (.row (nodeRow a k true v l r) 0 true)) (setT w a k v t)
  | .nil, _, _, _, h => by cases h
  | .node b c n f u l r, hpw, ⟨q1, q2, q3⟩, hnd, hm => by
    have hnd2 := hnd
    simp only [Tr.blocks, List.nodup_cons, List.mem_append, not_or, List.nodup_append] at hnd2
    obtain ⟨⟨d1, d2⟩, d3, d4, d5⟩ := hnd2
    rw [setT]
    have lb := hget_lt q1 rfl
    rcases mem_side hpw hm with ⟨rfl, rfl, rfl, rfl, _, _⟩ | ⟨g1, g2, g3⟩ | ⟨g1, g2, g3⟩
    · refine ⟨b, l.ptr, r.ptr, ?_, by simp [Tr.blocks], q1, ?_⟩
      · have : ¬ (n < n ∧ cmp w c n c n = n) := fun q => by omega
        rw [atV, atT, if_neg this, atR, if_pos ⟨rfl, rfl, rfl⟩]
      · rw [if_pos ⟨rfl, rfl⟩]
        exact ⟨hget_set' lb, q2.same fun x hx => hget_ne (fun q => d1 (by rw [q]; exact hx)), q3.same fun x hx => hget_ne (fun q => d2 (by rw [q]; exact hx))⟩
    · obtain ⟨b1, l1, r1, e1, e2, e3, e4⟩ := set_at (v := v) ha hk hpw.2.2.2.2.1 q2 d3 g3
      have hkid := hpw.2.2.1 _ (mem_nodes g3)
      have hc : n < k ∧ cmp w c n a k = n := ⟨hkid.1, (cmp_eq hpw.1 hpw.2.1 ha).2 ⟨Nat.le_of_lt hkid.1, hkid.2.1⟩⟩
      refine ⟨b1, l1, r1, ?_, by simp [Tr.blocks, e2], e3, ?_⟩
      · rw [atV, atT, if_pos hc, if_pos g2]; exact e1
      · rw [if_neg g1, if_pos g2]
        refine ⟨?_, e4, q3.same fun x hx => hget_ne (fun q => d5 b1 e2 x hx q)⟩
        rw [hget_ne (fun q => d1 (by rw [← q]; exact e2)), q1, set_ptr]
    · obtain ⟨b1, l1, r1, e1, e2, e3, e4⟩ := set_at (v := v) ha hk hpw.2.2.2.2.2 q3 d4 g3
      have hkid := hpw.2.2.2.1 _ (mem_nodes g3)
      have hc : n < k ∧ cmp w c n a k = n := ⟨hkid.1, (cmp_eq hpw.1 hpw.2.1 ha).2 ⟨Nat.le_of_lt hkid.1, hkid.2.1⟩⟩
      have g2' : ¬ sideN w a n = 0 := by omega
      refine ⟨b1, l1, r1, ?_, by simp [Tr.blocks, e2], e3, ?_⟩
      · rw [atV, atT, if_pos hc, if_neg g2']; exact e1
      · rw [if_neg g1, if_neg g2']
        refine ⟨?_, q2.same fun x hx => hget_ne (fun q => d5 x hx b1 e2 q.symm), e4⟩
        rw [hget_ne (fun q => d2 (by rw [← q]; exact e2)), q1, set_ptr]

theorem set_t {b w a : Nat} {m l n v : Int} {t : Tr} (I : TI H b w m l t) (hw : 1 ≤ w) (hw2 : w ≤ 128) (ha : a < 2 ^ 128) (hpw : PW w t.er)
    (h1 : rgt w a n = false → ∀ g, R (.ret (.int .i64 111)) (H ++ g))
    (h2 : rgt w a n = true → atP w a n.toNat t.er = none → ∀ g, R (.ret (.int .i64 122)) (H ++ g))
    (h3 : ∀ (k : Nat) (v0 : Int), n = k → rgt w a k = true → (a, k, v0) ∈ t.er.mem → ∀ H', H.length ≤ H'.length → (∀ c, c < H.length → c ∉ t.blocks → hget H' c = hget H c) → TI H' b w m l (setT w a k v t) → R (.ret (.int .i64 0)) H') :
    WD T 23 [.pointer (some ⟨b, 0, none⟩), pfv a n, .string (vb v)] H R := by
  obtain ⟨hd, nb, lies, ok, nd⟩ := I
  have lb := hget_lt hd rfl
  refine WD.of follows t23 (by simp) ?_
  simp (disch := omega) only [kB, kcx, kdm, kdn, kel, aop, resultsL, resultOf, Nat.reduceEqDiff, reduceCtorEq, eq1, apartOK, apart2, AObj.live, Int.reduceEq, Int.reduceLT, Int.reduceLE, Int.reduceAdd, Int.reduceSub, Int.reduceMul, Int.reduceToNat, cutCells, Nat.reduceAdd, Nat.reduceLeDiff, Nat.reduceLT, Nat.reduceMul, Nat.reduceSub, eqP_sn]
  refine right_t ⟨true, by rw [hget_old lb]; exact hd⟩ hw hw2 ha ?_
  cases hr : rgt w a n with
  | false =>
    simp (disch := omega) only [kB, kcx, kdm, kdn, kel, aop, resultsL, resultOf, Nat.reduceEqDiff, reduceCtorEq, eq1, apartOK, apart2, AObj.live, Int.reduceEq, Int.reduceLT, Int.reduceLE, Int.reduceAdd, Int.reduceSub, Int.reduceMul, Int.reduceToNat, cutCells, Nat.reduceAdd, Nat.reduceLeDiff, Nat.reduceLT, Nat.reduceMul, Nat.reduceSub]
    exact h1 hr _
  | true =>
  obtain ⟨r1, r2, r3, r4⟩ := (rgt_iff hw2).1 hr
  obtain ⟨k, rfl⟩ : ∃ k : Nat, n = k := ⟨n.toNat, by omega⟩
  simp (disch := omega) only [kB, kcx, kdm, kdn, kel, aop, resultsL, resultOf, Nat.reduceEqDiff, reduceCtorEq, eq1, apartOK, apart2, AObj.live, Int.reduceEq, Int.reduceLT, Int.reduceLE, Int.reduceAdd, Int.reduceSub, Int.reduceMul, Int.reduceToNat, cutCells, Nat.reduceAdd, Nat.reduceLeDiff, Nat.reduceLT, Nat.reduceMul, Nat.reduceSub, eqP_sn]
  refine at_t (by rw [hget_old lb]; exact hd) hw hw2 ha lies.ta.app ok ?_
  rw [hr, if_pos rfl]
  simp only [Int.toNat_natCast] at h2 ⊢
  cases hat : atP w a k t.er with
  | none =>
    rw [atV_none.2 hat]
    simp (disch := omega) only [kB, kcx, kdm, kdn, kel, aop, resultsL, resultOf, Nat.reduceEqDiff, reduceCtorEq, eq1, apartOK, apart2, AObj.live, Int.reduceEq, Int.reduceLT, Int.reduceLE, Int.reduceAdd, Int.reduceSub, Int.reduceMul, Int.reduceToNat, cutCells, Nat.reduceAdd, Nat.reduceLeDiff, Nat.reduceLT, Nat.reduceMul, Nat.reduceSub, eqP_nn]
    exact h2 hr hat _
  | some v0 =>
    have hm := (at_mem r1 (by omega) hpw).1 hat
    obtain ⟨b1, l1, r1', e1, e2, e3, e4⟩ := set_at (v := v) r1 (by omega) hpw lies nd hm
    have lb1 := hget_lt e3 rfl
    have hne : b ≠ b1 := fun q => nb (by rw [q]; exact e2)
    rw [e1]
    have e3' := e3
    unfold nodeRow at e3
    simp (disch := omega) only [kB, kcx, kdm, kdn, kel, aop, resultsL, resultOf, Nat.reduceEqDiff, reduceCtorEq, eq1, apartOK, apart2, AObj.live, Int.reduceEq, Int.reduceLT, Int.reduceLE, Int.reduceAdd, Int.reduceSub, Int.reduceMul, Int.reduceToNat, cutCells, Nat.reduceAdd, Nat.reduceLeDiff, Nat.reduceLT, Nat.reduceMul, Nat.reduceSub, eqP_sn, e3]
    refine h3 k v0 rfl hr hm _ (by simp) (fun c hc hn => by rw [hget_oldS hc, hget_ne (fun q => hn (by rw [← q]; exact e2))]) ⟨?_, by rw [set_blocks]; exact nb, ?_, set_tw ok, by rw [set_blocks]; exact nd⟩
    · rw [hget_oldS lb, hget_ne (Ne.symm hne), set_ptr]
      exact hd
    · have : TAw (H.set b1 (.row (nodeRow a k true v l1 r1') 0 true)) (setT w a k v t) := e4
      exact this.app

theorem nodes_t {b w : Nat} {m l : Int} {t : Tr} {wr : Bool} (hd : hget H b = .row [.int .i64 (w : Int), .int .i64 m, .int .i64 l, t.ptr] 0 wr) (lies : TA H t) (hsz : t.inL.length ≤ 1000000) (h : R (.ret (.int .i64 (t.inL.length : Nat))) H) :
    WD T 26 [.pointer (some ⟨b, 0, none⟩)] H R := by
  have lb := hget_lt hd rfl
  refine WD.gc0 (WD.of follows t26 (by simp) ?_)
  simp (disch := omega) only [kB, kcx, kdm, kdn, kel, aop, resultsL, resultOf, Nat.reduceEqDiff, reduceCtorEq, eq1, apartOK, apart2, AObj.live, Int.reduceEq, Int.reduceLT, Int.reduceLE, Int.reduceAdd, Int.reduceSub, Int.reduceMul, Int.reduceToNat, cutCells, Nat.reduceAdd, Nat.reduceLeDiff, Nat.reduceLT, Nat.reduceMul, Nat.reduceSub, eqP_sn, hd]
  refine walk_t (fun L K => K = H ++ [.row [.int .i64 (L.length : Nat)] 0 true]) t.inL (fun L nd K hS hpre hex => ?_) t [] _ _ rfl (fun L K hS => by rw [hS]; exact lies.app) ⟨[], by simp⟩ fun K hS => ?_
  · subst hS
    have hl := hpre.length_le
    simp only [List.length_append, List.length_cons, List.length_nil] at hl
    refine WD.of follows t57 (by simp) ?_
    simp (disch := omega) only [kB, kcx, kdm, kdn, kel, aop, resultsL, resultOf, Nat.reduceEqDiff, reduceCtorEq, eq1, apartOK, apart2, AObj.live, Int.reduceEq, Int.reduceLT, Int.reduceLE, Int.reduceAdd, Int.reduceSub, Int.reduceMul, Int.reduceToNat, cutCells, Nat.reduceAdd, Nat.reduceLeDiff, Nat.reduceLT, Nat.reduceMul, Nat.reduceSub, wr_i64, nadd1]
  · subst hS
    simp (disch := omega) only [kB, kcx, kdm, kdn, kel, aop, resultsL, resultOf, Nat.reduceEqDiff, reduceCtorEq, eq1, apartOK, apart2, AObj.live, Int.reduceEq, Int.reduceLT, Int.reduceLE, Int.reduceAdd, Int.reduceSub, Int.reduceMul, Int.reduceToNat, cutCells, Nat.reduceAdd, Nat.reduceLeDiff, Nat.reduceLT, Nat.reduceMul, Nat.reduceSub]
    exact ⟨_, rfl, ⟨_, rfl⟩, .closed rfl, by simpa using h⟩

theorem TI.same {K : Heap} {b w : Nat} {m l : Int} {t : Tr} (h : TI H b w m l t) (hs : ∀ c, FPt b t c → hget K c = hget H c) : TI K b w m l t :=
  ⟨(hs b (.inl rfl)).trans h.hd, h.nb, h.lies.same fun c hc => hs c (.inr hc), h.ok, h.nd⟩

theorem TAw.row : ∀ {t : Tr}, TAw H t → ∀ c ∈ t.blocks, ∃ a n f v l r, hget H c = .row (nodeRow a n f v l r) 0 true
  | .nil, _, c, hc => by simp [Tr.blocks] at hc
  | .node b a n f v l r, ⟨h1, h2, h3⟩, c, hc => by
    simp only [Tr.blocks, List.mem_cons, List.mem_append] at hc
    rcases hc with rfl | hc | hc
    · exact ⟨_, _, _, _, _, _, h1⟩
    · exact h2.row c hc
    · exact h3.row c hc

end Go.Proofs.Yticgkaanaimllaa.Ev.S

/- A law's arguments as its row reads them: rows of cells that nothing writes, and what stands in them. Conditions: none. -/
namespace Go.Proofs.Yticgkaanaimllaa.Ev
open Go.RowKit Go.ChangeShapes Go.WideShapes

/-- What data stands in some cells. -/
inductive Rep (P : Program) (H : Heap) {X : Type} : TypeId → DataW X → List Value → Prop where
  | bool {t : TypeId} (b : Bool) (hu : P.underlying t = some .bool) : Rep P H t (.lit (.bool b)) [.bool b]
  | int {t : TypeId} (k : IntKind) (n : Int) (hu : P.underlying t = some (.int k)) (hw : (Lit.int k n).wf = true) : Rep P H t (.lit (.int k n)) [.int k n]
  | str {t : TypeId} (l : List UInt8) (hu : P.underlying t = some .string) (hl : l.length ≤ maxLen) : Rep P H t (.lit (.string l)) [.string (bs l)]
  | struct {t : TypeId} {fs : Array Field} {ds : List (DataW X)} {ass : List (List Value)} (hu : P.underlying t = some (.struct fs)) (h1 : ds.length = fs.size) (h2 : ass.length = fs.size)
      (h : ∀ (i : Nat) (f : Field) (d : DataW X) (cz : List Value), fs[i]? = some f → ds[i]? = some d → ass[i]? = some cz → Rep P H f.type d cz)
      (hl : ∀ (i : Nat) (f : Field) (cz : List Value), fs[i]? = some f → ass[i]? = some cz → cz.length = P.cellsOf f.type) : Rep P H t (.agg ds) ass.flatten
  | nilS {t e : TypeId} (hu : P.underlying t = some (.slice e)) : Rep P H t .nil [.slice none 0 0]
  | empty {t e : TypeId} {sp : List (DataW X)} (hu : P.underlying t = some (.slice e)) : Rep P H t (.slice [] sp) [.slice (some ⟨0, 0, some 0⟩) 0 0]
  | slice {t e : TypeId} {b : Nat} {ds sp : List (DataW X)} {ass : List (List Value)} (hu : P.underlying t = some (.slice e)) (hne : ds ≠ []) (hb : hget H b = .row ass.flatten 0 false) (h2 : ass.length = ds.length)
      (h : ∀ (i : Nat) (d : DataW X) (cz : List Value), ds[i]? = some d → ass[i]? = some cz → Rep P H e d cz)
      (hl : ∀ (i : Nat) (cz : List Value), ass[i]? = some cz → cz.length = P.cellsOf e) : Rep P H t (.slice ds sp) [.slice (some ⟨b, 0, none⟩) ds.length ds.length]

theorem Rep.mono {P : Program} {H g : Heap} {X : Type} {t : TypeId} {d : DataW X} {cz : List Value} (h : Rep P H t d cz) : Rep P (H ++ g) t d cz := by
  induction h with
  | bool b hu => exact .bool b hu
  | int k n hu hw => exact .int k n hu hw
  | str l hu hl => exact .str l hu hl
  | struct hu h1 h2 h hl ih => exact .struct hu h1 h2 ih hl
  | nilS hu => exact .nilS hu
  | empty hu => exact .empty hu
  | slice hu hne hb h2 h hl ih => exact .slice hu hne (by rw [hget_old (hget_lt hb rfl)]; exact hb) h2 ih hl

/-- A set of types of plain data: numbers, texts, structs and lists of them. -/
def plainSet (P : Program) (L : List TypeId) : Bool := L.all fun t => decide (t < P.types.size) && match P.underlying t with
  | some .bool | some (.int _) | some .string => true
  | some (.struct fs) => fs.toList.all fun f => L.contains f.type
  | some (.slice e) => L.contains e && decide (0 < P.cellsOf e)
  | _ => false

def chunks : List Nat → List Value → List (List Value)
  | [], _ => []
  | n :: ns, cs => cs.take n :: chunks ns (cs.drop n)

theorem chunks_flat : ∀ (ns : List Nat) (cs : List Value), cs.length = ns.sum → (chunks ns cs).flatten = cs
  | [], cs, h => by simp at h; simp [chunks, h]
  | n :: ns, cs, h => by
    rw [chunks, List.flatten_cons, chunks_flat ns _ (by simp at h ⊢; omega), List.take_append_drop]

theorem chunks_len : ∀ (ns : List Nat) (cs : List Value), (chunks ns cs).length = ns.length
  | [], _ => rfl
  | n :: ns, cs => by rw [chunks, List.length_cons, List.length_cons, chunks_len ns]

theorem chunks_get : ∀ (ns : List Nat) (cs : List Value) (j n : Nat), ns[j]? = some n → (chunks ns cs)[j]? = some ((cs.drop (ns.take j).sum).take n)
  | [], _, j, n, h => by simp at h
  | m :: ns, cs, 0, n, h => by simp at h; simp [chunks, h]
  | m :: ns, cs, j + 1, n, h => by
    have h' : ns[j]? = some n := by simpa using h
    have := chunks_get ns (cs.drop m) j n h'
    simp only [chunks, List.getElem?_cons_succ, List.take_succ_cons, List.sum_cons]
    rw [this, List.drop_drop]

theorem VL.flat {n : Nat} {ρ : Nat → Place} : ∀ (xss yss : List (List Value)), xss.length = yss.length → (∀ (i : Nat) (xs ys : List Value), xss[i]? = some xs → yss[i]? = some ys → VL n ρ xs ys) → VL n ρ xss.flatten yss.flatten
  | [], [], _, _ => VL.nil
  | [], _ :: _, h, _ => by simp at h
  | _ :: _, [], h, _ => by simp at h
  | xs :: xss, ys :: yss, h, hh => by
    rw [List.flatten_cons, List.flatten_cons]
    exact (hh 0 xs ys rfl rfl).append (VL.flat xss yss (by simpa using h) fun i a b ha hb => hh (i + 1) a b (by simpa using ha) (by simpa using hb))

section
variable {X : Type} {enc : TypeId × Value → X} {P : Program} {G : Nat} {W : World} {base : Nat} {sp : Nat → Bool} {held : Bool} {L : List TypeId}

/-- Some cells can be told in a heap of the evaluator's. -/
def Opens (P : Program) (G : Nat) (W : World) (t : TypeId) (cs : List Value) (d : DataW X) : Prop :=
  ∀ (H : Heap) (ρ : Nat → Place), (∀ o ∈ H, o.wrt = false) → Rel G ρ H W → ∃ (g : Heap) (ρ' : Nat → Place) (cz : List Value), Rel G ρ' (H ++ g) W ∧ (∀ b, b < H.length → ρ' b = ρ b) ∧ (∀ o ∈ g, ∃ c, o = .row c 0 false) ∧ VL (H ++ g).length ρ' cz cs ∧ Rep P (H ++ g) t d cz

theorem ro_app {H g : Heap} (h : ∀ o ∈ H, o.wrt = false) (hg : ∀ o ∈ g, ∃ c, o = .row c 0 false) : ∀ o ∈ H ++ g, o.wrt = false := fun o ho => by
  rcases List.mem_append.1 ho with ho | ho
  · exact h o ho
  · obtain ⟨c, rfl⟩ := hg o ho; rfl

theorem opens_list : ∀ (l : List (TypeId × List Value × DataW X)), (∀ q ∈ l, Opens P G W q.1 q.2.1 q.2.2) → ∀ (H : Heap) (ρ : Nat → Place), (∀ o ∈ H, o.wrt = false) → Rel G ρ H W →
    ∃ (g : Heap) (ρ' : Nat → Place) (ass : List (List Value)), Rel G ρ' (H ++ g) W ∧ (∀ b, b < H.length → ρ' b = ρ b) ∧ (∀ o ∈ g, ∃ c, o = .row c 0 false) ∧ ass.length = l.length ∧
      ∀ (i : Nat) (q : TypeId × List Value × DataW X) (cz : List Value), l[i]? = some q → ass[i]? = some cz → VL (H ++ g).length ρ' cz q.2.1 ∧ Rep P (H ++ g) q.1 q.2.2 cz
  | [], _, H, ρ, _, hr => ⟨[], ρ, [], by simpa using hr, fun _ _ => rfl, fun o ho => (by cases ho), rfl, fun i q cz h => by simp at h⟩
  | q :: l, h, H, ρ, hro, hr => by
    obtain ⟨g, ρ1, cz, hr1, hs1, hg1, hv1, hp1⟩ := h q (by simp) H ρ hro hr
    obtain ⟨g2, ρ2, ass, hr2, hs2, hg2, hl2, hh⟩ := opens_list l (fun q hq => h q (by simp [hq])) (H ++ g) ρ1 (ro_app hro hg1) hr1
    rw [List.append_assoc] at hr2 hh
    refine ⟨g ++ g2, ρ2, cz :: ass, hr2, fun b hb => (hs2 b (by simp; omega)).trans (hs1 b hb), fun o ho => ?_, by simp [hl2], fun i q' cz' hq has => ?_⟩
    · rcases List.mem_append.1 ho with ho | ho
      · exact hg1 o ho
      · exact hg2 o ho
    · cases i with
      | zero =>
        simp at hq has
        subst hq; subst has
        refine ⟨hv1.mono (by simp) hs2, ?_⟩
        rw [← List.append_assoc]
        exact hp1.mono
      | succ i => exact hh i q' cz' (by simpa using hq) (by simpa using has)

theorem mem_plain (hP : plainSet P L = true) {t : TypeId} (ht : L.contains t = true) : (decide (t < P.types.size) && (match P.underlying t with
    | some .bool | some (.int _) | some .string => true
    | some (.struct fs) => fs.toList.all fun f => L.contains f.type
    | some (.slice e) => L.contains e && decide (0 < P.cellsOf e)
    | _ => false)) = true := by
  unfold plainSet at hP
  exact List.all_eq_true.1 hP t (List.contains_iff_mem.1 ht)

theorem flat_get {c : Nat} (hc : 0 < c) : ∀ (css : List (List Value)) (k j : Nat) (cs : List Value), (∀ (i : Nat) (cz : List Value), css[i]? = some cz → cz.length = c) → css[k]? = some cs → j < c → css.flatten[k * c + j]? = cs[j]?
  | [], k, j, cs, _, h, _ => by simp at h
  | a :: css, 0, j, cs, hl, h, hj => by
    have h1 := hl 0 a rfl
    simp at h
    subst h
    rw [List.flatten_cons, Nat.zero_mul, Nat.zero_add, List.getElem?_append_left (by omega)]
  | a :: css, k + 1, j, cs, hl, h, hj => by
    have h1 := hl 0 a rfl
    have := flat_get hc css k j cs (fun i cz hi => hl (i + 1) cz (by simpa using hi)) (by simpa using h) hj
    rw [List.flatten_cons, List.getElem?_append_right (by rw [h1, Nat.add_mul]; omega), h1, show (k + 1) * c + j - c = k * c + j by rw [Nat.add_mul]; omega]
    exact this

theorem flat_len {c : Nat} : ∀ (css : List (List Value)), (∀ (i : Nat) (cz : List Value), css[i]? = some cz → cz.length = c) → css.flatten.length = css.length * c
  | [], _ => by simp
  | a :: css, hl => by
    rw [List.flatten_cons, List.length_append, hl 0 a rfl, flat_len css (fun i cz hi => hl (i + 1) cz (by simpa using hi)), List.length_cons, Nat.add_mul]
    omega

/-- A row that nothing writes, new in the evaluator's heap. -/
theorem rel_row {H : Heap} {ρ : Nat → Place} (hro : ∀ o ∈ H, o.wrt = false) (hr : Rel G ρ H W) {a : Addr} {cs : List Value} {cells : Array Value} {t : TypeId} {fr : Nat × Nat} {ext0 : Nat} (hh : W.heap[a.block]? = some (.cells cells t fr))
    (hc : ∀ (i : Nat) (v : Value), cs[i]? = some v → ∃ v', cells[a.off + i]? = some v' ∧ VR H.length ρ v v') : Rel G (ext ρ H.length ⟨a.block, a.off, ext0⟩) (H ++ [.row cs 0 false]) W := by
  have cases_ : ∀ b u, (H ++ [AObj.row cs 0 false])[b]? = some u → (b < H.length ∧ H[b]? = some u) ∨ (b = H.length ∧ u = .row cs 0 false) := fun b u h => by
    by_cases hb : b < H.length
    · rw [List.getElem?_append_left hb] at h; exact .inl ⟨hb, h⟩
    · rw [List.getElem?_append_right (by omega)] at h
      obtain ⟨h1, h2⟩ := List.getElem?_eq_some_iff.1 h
      simp at h1
      have : b = H.length := by omega
      subst this
      simp at h2
      exact .inr ⟨rfl, h2.symm⟩
  have hlen : (H ++ [AObj.row cs 0 false]).length = H.length + 1 := by simp
  refine ⟨fun b u hu => ?_, fun b c u v hu hv hne hw hl => ?_, fun g hg => ?_, by rw [hlen]; have := hr.many; omega⟩
  · rcases cases_ b u hu with ⟨hb, hu⟩ | ⟨rfl, rfl⟩
    · exact (hr.obj b u hu).mono (by omega) (ext_lt hb) (fun c hc => ext_lt hc) (fun _ => rfl)
    · rw [OR, ext_same]
      refine ⟨cells, t, fr, hh, fun i v hi => ?_, fun h => by cases h⟩
      obtain ⟨v', h1, h2⟩ := hc i v hi
      exact ⟨v', h1, h2.mono (by omega) fun b hb => ext_lt hb⟩
  · rcases cases_ b u hu with ⟨hb, hu2⟩ | ⟨rfl, rfl⟩
    · rw [hro u (List.mem_of_getElem? hu2)] at hw
      cases hw
    · cases hw
  · rw [ext_lt (Nat.lt_of_lt_of_le hg hr.many)]; exact hr.glob g hg

theorem opens_trod (hl : laidOutB P = true) (hm : mapsRowed P = true) (hP : plainSet P L = true) : ∀ (n : Nat) (t : TypeId) (cs : List Value) (x : DataW X × List MemPlace), L.contains t = true →
    DataW.trod enc P W base (fun _ => true) held n t cs = some x → Opens P G W t cs x.1 := by
  intro n
  induction n with
  | zero => intro t cs x _ h; simp [DataW.trod] at h
  | succ n ih =>
    intro t cs x ht h
    have hk := mem_plain hP ht
    simp only [Bool.and_eq_true, decide_eq_true_eq] at hk
    obtain ⟨htp, hk⟩ := hk
    have K := kids_rows hl hm
    intro H ρ hro hr
    split at hk
    · rename_i hu
      obtain ⟨b, rfl, rfl⟩ := DataW.trod_bool hu h
      exact ⟨[], ρ, [.bool b], by simpa using hr, fun _ _ => rfl, fun o ho => (by cases ho), VL.cons (.bool b) VL.nil, .bool b hu⟩
    · rename_i k hu
      obtain ⟨m, rfl, rfl, hw⟩ := DataW.trod_int hu h
      exact ⟨[], ρ, [.int k m], by simpa using hr, fun _ _ => rfl, fun o ho => (by cases ho), VL.cons (.int k m) VL.nil, .int k m hu hw⟩
    · rename_i hu
      obtain ⟨s, rfl, rfl, hs⟩ := DataW.trod_string hu h
      exact ⟨[], ρ, [.string s], by simpa using hr, fun _ _ => rfl, fun o ho => (by cases ho), VL.cons (.string s) VL.nil, .str s.data.toList hu (by simpa using hs)⟩
    · rename_i fs hu
      obtain ⟨xs, m, hm1, rfl, hlen, hxl, hf⟩ := DataW.trod_struct hu h
      cases hm1
      obtain ⟨_, hsum, hoff⟩ := K.struct htp hu
      -- the fields, one by one
      have hget : ∀ (i : Nat) (f : Field) (y : DataW X × List MemPlace), fs[i]? = some f → xs[i]? = some y → DataW.trod enc P W base (fun _ => true) held n f.type ((cs.drop f.offset).take (P.cellsOf f.type)) = some y := fun i f y hfi hy => by
        rw [hf i f hfi, hy]
      let l : List (TypeId × List Value × DataW X) := (List.range fs.size).map fun i => ((fs[i]?.map (·.type)).getD 0, ((chunks (fs.toList.map fun f => P.cellsOf f.type) cs)[i]?).getD [], (xs[i]?.map (·.1)).getD .nil)
      have hl1 : ∀ i, i < fs.size → ∃ f y, fs[i]? = some f ∧ xs[i]? = some y ∧ l[i]? = some (f.type, (cs.drop f.offset).take (P.cellsOf f.type), y.1) := fun i hi => by
        have e1 : fs[i]? = some fs[i] := Array.getElem?_eq_getElem hi
        have e2 : xs[i]? = some (xs[i]'(by omega)) := List.getElem?_eq_getElem (by omega)
        refine ⟨_, _, e1, e2, ?_⟩
        have e3 : fs.toList[i]? = some fs[i] := by rw [Array.getElem?_toList]; exact e1
        have e4 := chunks_get (fs.toList.map fun f => P.cellsOf f.type) cs i (P.cellsOf fs[i].type) (by simp [hi])
        have e5 := hoff i _ e3
        rw [List.map_take] at e5
        rw [← e5] at e4
        simp only [l, List.getElem?_map, List.getElem?_range hi, Option.map_some, e1, e2, e4, Option.getD_some]
      have hlL : l.length = fs.size := by simp [l]
      obtain ⟨g, ρ', ass, hr', hs', hg', hal, hh⟩ := opens_list l (fun q hq => by
        obtain ⟨i, hi⟩ := List.getElem?_of_mem hq
        have hi2 : i < fs.size := by rw [← hlL]; exact (List.getElem?_eq_some_iff.1 hi).1
        obtain ⟨f, y, h1, h2, h3⟩ := hl1 i hi2
        rw [hi] at h3
        cases h3
        refine ih f.type _ y ?_ (hget i f y h1 h2)
        have hmem : f ∈ fs.toList := by
          have : fs.toList[i]? = some f := by simpa using h1
          exact List.mem_of_getElem? this
        exact List.all_eq_true.1 hk f hmem) H ρ hro hr
      refine ⟨g, ρ', ass.flatten, hr', hs', hg', ?_, ?_⟩
      · have hflat := chunks_flat (fs.toList.map fun f => P.cellsOf f.type) cs (by rw [hlen, hsum])
        rw [← hflat]
        refine VL.flat _ _ (by rw [hal, hlL, chunks_len]; simp) fun i a b ha hb => ?_
        have hi : i < fs.size := by rw [← hlL, ← hal]; exact (List.getElem?_eq_some_iff.1 ha).1
        obtain ⟨f, y, h1, h2, h3⟩ := hl1 i hi
        have e4 := chunks_get (fs.toList.map fun f => P.cellsOf f.type) cs i (P.cellsOf f.type) (by
          have : fs.toList[i]? = some f := by simpa using h1
          simp [this])
        have e5 := hoff i f (by simpa using h1)
        rw [List.map_take] at e5
        rw [← e5] at e4
        rw [hb] at e4
        cases e4
        exact (hh i _ a h3 ha).1
      · refine .struct hu (by simpa using hxl) (by rw [hal, hlL]) (fun i f d cz hfi hd ha => ?_) (fun i f cz hfi ha => ?_)
        · have hi : i < fs.size := (Array.getElem?_eq_some_iff.1 hfi).1
          obtain ⟨f', y, h1, h2, h3⟩ := hl1 i hi
          rw [hfi] at h1
          cases h1
          rw [List.getElem?_map, h2] at hd
          cases hd
          exact (hh i _ cz h3 ha).2
        · have hi : i < fs.size := (Array.getElem?_eq_some_iff.1 hfi).1
          obtain ⟨f', y, h1, h2, h3⟩ := hl1 i hi
          rw [hfi] at h1
          cases h1
          have := (hh i _ cz h3 ha).1.1
          rw [this]
          have e5 := hoff i f (by simpa using hfi)
          have hle : f.offset + P.cellsOf f.type ≤ cs.length := by
            rw [hlen, hsum, e5]
            have : fs.toList[i]? = some f := by simpa using hfi
            obtain ⟨h7, h8⟩ := List.getElem?_eq_some_iff.1 this
            have e6 : fs.toList = fs.toList.take i ++ f :: fs.toList.drop (i + 1) := by
              rw [← h8, ← List.drop_eq_getElem_cons h7, List.take_append_drop]
            conv => rhs; rw [e6]
            rw [List.map_append, List.sum_append, List.map_cons, List.sum_cons]
            omega
          rw [List.length_take, List.length_drop]
          omega
    · rename_i e hu
      simp only [Bool.and_eq_true, decide_eq_true_eq] at hk
      rcases DataW.trod_slice hu h with ⟨rfl, rfl⟩ | ⟨a, len, cap, elems, rest, m, hm1, rfl, rfl, hbase, hlc, hcm, hel, hge, _, _⟩
      · exact ⟨[], ρ, [.slice none 0 0], by simpa using hr, fun _ _ => rfl, fun o ho => (by cases ho), VL.cons .slNil VL.nil, .nilS hu⟩
      cases hm1
      by_cases h0 : elems = []
      · subst h0
        obtain rfl : len = 0 := by simpa using hel.symm
        exact ⟨[], ρ, [.slice (some ⟨0, 0, some 0⟩) 0 0], by simpa using hr, fun _ _ => rfl, fun o ho => (by cases ho), VL.cons (.slE 0 0 0 a cap) VL.nil, .empty hu⟩
      have hlen0 : 0 < len := by rw [← hel]; exact List.length_pos_iff.2 h0
      have hcell : ∀ i, i < len → ∃ csi y, W.cells? base (a.add (i * P.cellsOf e)) (P.cellsOf e) = some csi ∧ elems[i]? = some y ∧ DataW.trod enc P W base (fun _ => true) held n e csi = some y := fun i hi => by
        have h1 := hge i hi
        have h2 : elems[i]? = some (elems[i]'(by omega)) := List.getElem?_eq_getElem (by omega)
        rw [h2] at h1
        obtain ⟨csi, h3, h4⟩ := Option.bind_eq_some_iff.1 h1
        exact ⟨csi, _, h3, h2, h4⟩
      let css : List (List Value) := (List.range len).map fun i => (W.cells? base (a.add (i * P.cellsOf e)) (P.cellsOf e)).getD []
      have hcss : ∀ i, i < len → ∃ csi y, css[i]? = some csi ∧ W.cells? base (a.add (i * P.cellsOf e)) (P.cellsOf e) = some csi ∧ elems[i]? = some y ∧ DataW.trod enc P W base (fun _ => true) held n e csi = some y := fun i hi => by
        obtain ⟨csi, y, h1, h2, h3⟩ := hcell i hi
        exact ⟨csi, y, by simp [css, hi, h1], h1, h2, h3⟩
      have hcssL : css.length = len := by simp [css]
      let l : List (TypeId × List Value × DataW X) := (List.range len).map fun i => (e, (css[i]?).getD [], (elems[i]?.map (·.1)).getD .nil)
      have hl1 : ∀ i, i < len → ∃ csi y, css[i]? = some csi ∧ W.cells? base (a.add (i * P.cellsOf e)) (P.cellsOf e) = some csi ∧ elems[i]? = some y ∧ DataW.trod enc P W base (fun _ => true) held n e csi = some y ∧ l[i]? = some (e, csi, y.1) := fun i hi => by
        obtain ⟨csi, y, h1, h2, h3, h4⟩ := hcss i hi
        exact ⟨csi, y, h1, h2, h3, h4, by simp [l, hi, h1, h3]⟩
      have hlL : l.length = len := by simp [l]
      obtain ⟨g, ρ', ass, hr', hs', hg', hal, hh⟩ := opens_list l (fun q hq => by
        obtain ⟨i, hi⟩ := List.getElem?_of_mem hq
        have hi2 : i < len := by rw [← hlL]; exact (List.getElem?_eq_some_iff.1 hi).1
        obtain ⟨csi, y, h1, h2, h3, h4, h5⟩ := hl1 i hi2
        rw [hi] at h5
        cases h5
        exact ih e _ y hk.1 h4) H ρ hro hr
      have hasl : ∀ (i : Nat) (cz : List Value), ass[i]? = some cz → cz.length = P.cellsOf e := fun i cz ha => by
        have hi : i < len := by rw [← hlL, ← hal]; exact (List.getElem?_eq_some_iff.1 ha).1
        obtain ⟨csi, y, h1, h2, h3, h4, h5⟩ := hl1 i hi
        rw [(hh i _ cz h5 ha).1.1]
        exact (World.cells?_some h2).2.1
      -- the block itself
      obtain ⟨cs0, y0, g1, g2, _⟩ := hcell 0 hlen0
      obtain ⟨_, gl, gc⟩ := World.cells?_some g1
      have gc0 := gc 0 hk.2
      rw [Nat.zero_mul] at gc0
      have hadd : ∀ (k j : Nat), ((a.add k).add j) = if k + j = 0 then a else ⟨a.block, a.off + (k + j), none⟩ := fun k j => by
        unfold Addr.add
        by_cases hk0 : k = 0
        · subst hk0
          by_cases hj0 : j = 0
          · subst hj0; rfl
          · simp [hj0]
        · by_cases hj0 : j = 0
          · subst hj0; simp [hk0]
          · simp only [if_neg hk0, if_neg hj0, if_neg (show ¬ k + j = 0 by omega), Nat.add_assoc]
      have hblk : ∃ cells ty fr, W.heap[a.block]? = some (.cells cells ty fr) ∧ a.spot = none := by
        have h7 : W.cell? a = cs0[0]? := by simpa [hadd] using gc0
        have h8 : cs0[0]? = some (cs0[0]'(by omega)) := List.getElem?_eq_getElem (by omega)
        rw [h8] at h7
        unfold World.cell? at h7
        split at h7
        · rename_i c ty fr hc
          split at h7
          · cases h7
          · rename_i hsp
            exact ⟨c, ty, fr, hc, by simpa using hsp⟩
        · cases h7
      obtain ⟨cells, ty, fr, hh0, hsp⟩ := hblk
      have hcellat : ∀ (i : Nat) (v : Value), ass.flatten[i]? = some v → ∃ v', cells[a.off + i]? = some v' ∧ VR (H ++ g).length ρ' v v' := fun i v hv => by
        have hi : i < ass.flatten.length := (List.getElem?_eq_some_iff.1 hv).1
        rw [flat_len ass hasl, hal, hlL] at hi
        have hq : i / P.cellsOf e < len := (Nat.div_lt_iff_lt_mul hk.2).2 hi
        have hm2 : i % P.cellsOf e < P.cellsOf e := Nat.mod_lt _ hk.2
        have hid : i / P.cellsOf e * P.cellsOf e + i % P.cellsOf e = i := Nat.div_add_mod' i (P.cellsOf e)
        obtain ⟨csi, y, h1, h2, h3, h4, h5⟩ := hl1 _ hq
        have ha : ass[i / P.cellsOf e]? = some (ass[i / P.cellsOf e]'(by rw [hal, hlL]; exact hq)) := List.getElem?_eq_getElem _
        obtain ⟨hv1, _⟩ := hh _ _ _ h5 ha
        have hfg := flat_get hk.2 ass _ _ _ hasl ha hm2
        rw [hid, hv] at hfg
        obtain ⟨v', hv', hvr⟩ := hv1.get hfg.symm
        refine ⟨v', ?_, hvr⟩
        have h9 := (World.cells?_some h2).2.2 _ hm2
        rw [hadd, hid, hv'] at h9
        by_cases hi0 : i = 0
        · subst hi0
          simp only [if_true] at h9
          unfold World.cell? at h9
          rw [hh0, hsp] at h9
          simpa using h9
        · rw [if_neg hi0] at h9
          unfold World.cell? at h9
          simpa [hh0] using h9
      have hr2 := rel_row (a := a) (cs := ass.flatten) (ext0 := cap - len) (ro_app hro hg') hr' hh0 hcellat
      refine ⟨g ++ [.row ass.flatten 0 false], ext ρ' (H ++ g).length ⟨a.block, a.off, cap - len⟩, [.slice (some ⟨(H ++ g).length, 0, none⟩) len len], by rw [← List.append_assoc]; exact hr2, fun b hb => ?_, fun o ho => ?_, ?_, ?_⟩
      · rw [ext_lt (by rw [List.length_append]; omega)]; exact hs' b hb
      · rcases List.mem_append.1 ho with ho | ho
        · exact hg' o ho
        · rw [List.mem_singleton.1 ho]; exact ⟨_, rfl⟩
      · have := VR.sl (n := (H ++ (g ++ [AObj.row ass.flatten 0 false])).length) (ρ := ext ρ' (H ++ g).length ⟨a.block, a.off, cap - len⟩) (H ++ g).length 0 len len cap (by simp only [List.length_append, List.length_cons, List.length_nil]; omega) (Nat.le_refl _) hlc (by rw [ext_same]; show cap ≤ len + (cap - len); omega)
        rw [ext_same, Nat.add_zero] at this
        have ha2 : (⟨a.block, a.off, none⟩ : Addr) = a := by rw [← hsp]
        rw [ha2] at this
        exact VL.cons this VL.nil
      · have := Rep.slice (P := P) (H := H ++ (g ++ [AObj.row ass.flatten 0 false])) (t := t) (e := e) (b := (H ++ g).length) (ds := elems.map (·.1)) (sp := rest.map (·.1)) (ass := ass) hu (by simpa using h0) (by rw [← List.append_assoc]; exact hget_last _ _) (by rw [hal, hlL, List.length_map, hel])
          (fun i d cz hd ha => by
            have hi : i < len := by rw [← hlL, ← hal]; exact (List.getElem?_eq_some_iff.1 ha).1
            obtain ⟨csi, y, h1, h2, h3, h4, h5⟩ := hl1 i hi
            rw [List.getElem?_map, h3] at hd
            cases hd
            have := (hh i _ cz h5 ha).2
            rw [← List.append_assoc]
            exact this.mono) hasl
        rw [List.length_map, hel] at this
        exact this
    · cases hk

/-! ### The call's end -/

def slicesPos (P : Program) : Bool := (List.range P.types.size).all fun t => match P.underlying t with
  | some (.slice e) => decide (0 < P.cellsOf e)
  | _ => true

theorem args_stay {W' : World} (hl : laidOutB P = true) (hm : mapsRowed P = true) (hp : slicesPos P = true) (bel : Below W.heap.size W W') :
    ∀ {ts : List TypeId} {vs : List Value} {ds : List (DataW X)} {ps : List MemPlace}, (∀ t ∈ ts, t < P.types.size) → DataW.TrodAll enc P W 0 (fun _ => true) true ts vs ds ps →
      DataW.TrodAll enc P W' 0 (fun b => decide (b < W.heap.size)) true ts vs ds ps
  | [], vs, ds, ps, _, h => by
    obtain ⟨rfl, rfl, rfl⟩ := trodAll_nil h
    rfl
  | t :: ts, vs, ds, ps, ht, h => by
    obtain ⟨v, vs1, d, ds1, p, q, rfl, rfl, rfl, ⟨fuel, h1⟩, h2⟩ := trodAll_cons h
    have hlt := DataW.trod_lt fuel t v.cells.toList _ h1
    refine ⟨p, q, ⟨fuel, DataW.trod_stays (kids_rows hl hm) (fun {t e} htt hu => ?_) (fun h => by cases h) (ht t (by simp)) h1 (fun x hx => bel.same (hlt x hx)) (fun x hx => by simpa using hlt x hx)⟩, args_stay hl hm hp bel (fun u hu => ht u (by simp [hu])) h2, rfl⟩
    have := List.all_eq_true.1 hp t (List.mem_range.2 htt)
    simpa [hu] using this

/-! ### The call's arguments -/

/-- An argument tells some data. -/
def ArgRep (P : Program) (H : Heap) (t : TypeId) (d : DataW X) (a : Value) : Prop := ∃ cz, Rep P H t d cz ∧ (((∃ fs, P.underlying t = some (.struct fs)) ∧ a = .agg cz.toArray) ∨ cz = [a])

theorem ArgRep.mono {H g : Heap} {t : TypeId} {d : DataW X} {a : Value} (h : ArgRep P H t d a) : ArgRep P (H ++ g) t d a := by
  obtain ⟨cz, h1, h2⟩ := h
  exact ⟨cz, h1.mono, h2⟩

theorem vr_single {n : Nat} {ρ : Nat → Place} {a : Value} {v : Value} (h : VL n ρ [a] v.cells.toList) (hv : ∀ cs, v ≠ .agg cs) : VR n ρ a v := by
  have : v.cells.toList = [v] := by
    cases v <;> first | rfl | exact absurd rfl (hv _)
  rw [this] at h
  exact h.head

theorem open_args (hl : laidOutB P = true) (hm : mapsRowed P = true) (hP : plainSet P L = true) {r : Reach} {b0 : Nat} : ∀ {ts : List TypeId} {vs : List Value} {ds : List (DataW X)} {ps : List MemPlace},
    (∀ t ∈ ts, L.contains t = true) → DataW.TrodAll enc P W base (fun _ => true) held ts vs ds ps → (∀ (j : Nat) t v, ts[j]? = some t → vs[j]? = some v → Value.okWide P W r b0 t v) →
    ∀ (H : Heap) (ρ : Nat → Place), (∀ o ∈ H, o.wrt = false) → Rel G ρ H W → ∃ (g : Heap) (ρ' : Nat → Place) (avs : List Value), Rel G ρ' (H ++ g) W ∧ (∀ b, b < H.length → ρ' b = ρ b) ∧ (∀ o ∈ g, ∃ c, o = .row c 0 false) ∧
      VL (H ++ g).length ρ' avs vs ∧ avs.length = ts.length ∧ ∀ (j : Nat) t d a, ts[j]? = some t → ds[j]? = some d → avs[j]? = some a → ArgRep P (H ++ g) t d a
  | [], vs, ds, ps, _, h, _, H, ρ, hro, hr => by
    obtain ⟨rfl, rfl, rfl⟩ := trodAll_nil h
    exact ⟨[], ρ, [], by simpa using hr, fun _ _ => rfl, fun o ho => (by cases ho), VL.nil, rfl, fun j t d a h => by simp at h⟩
  | t :: ts, vs, ds, ps, hts, h, hok, H, ρ, hro, hr => by
    obtain ⟨v, vs1, d, ds1, p, q, rfl, rfl, rfl, ⟨fuel, h1⟩, h2⟩ := trodAll_cons h
    have htc := hts t (by simp)
    obtain ⟨g, ρ1, cz, hr1, hs1, hg1, hv1, hp1⟩ := opens_trod (G := G) hl hm hP fuel t _ _ htc h1 H ρ hro hr
    obtain ⟨g2, ρ2, avs, hr2, hs2, hg2, hv2, hl2, hh⟩ := open_args hl hm hP (fun u hu => hts u (by simp [hu])) h2 (fun j t v hj hv => hok (j + 1) t v (by simpa using hj) (by simpa using hv)) (H ++ g) ρ1 (ro_app hro hg1) hr1
    rw [List.append_assoc] at hr2 hh hv2
    have hval := hok 0 t v rfl rfl
    have hk := mem_plain hP htc
    simp only [Bool.and_eq_true, decide_eq_true_eq] at hk
    obtain ⟨_, hk⟩ := hk
    have single : (∀ cs, v ≠ .agg cs) → (∃ a, cz = [a]) → ∃ a, VR (H ++ g).length ρ1 a v ∧ ArgRep P (H ++ g) t d a := fun hna ⟨a, ha⟩ => by
      subst ha
      exact ⟨a, vr_single hv1 hna, [a], hp1, .inr rfl⟩
    have one : (∀ cs, v ≠ .agg cs) → ∃ a, cz = [a] := fun hna => by
      have : v.cells.toList = [v] := by
        cases v <;> first | rfl | exact absurd rfl (hna _)
      have h3 := hv1.1
      rw [this] at h3
      match cz, h3 with
      | [a], _ => exact ⟨a, rfl⟩
    have hex : ∃ a, VR (H ++ g).length ρ1 a v ∧ ArgRep P (H ++ g) t d a := by
      split at hk
      · rename_i hu
        obtain ⟨b, rfl⟩ := okWide_bool hu hval
        exact single (fun _ h => by cases h) (one fun _ h => by cases h)
      · rename_i k hu
        obtain ⟨b, rfl⟩ := okWide_int hu hval
        exact single (fun _ h => by cases h) (one fun _ h => by cases h)
      · rename_i hu
        obtain ⟨b, rfl⟩ := okWide_string hu hval
        exact single (fun _ h => by cases h) (one fun _ h => by cases h)
      · rename_i fs hu
        obtain ⟨cs, rfl, _⟩ := okWide_struct hu hval
        refine ⟨.agg cz.toArray, ?_, cz, hp1, .inl ⟨⟨fs, hu⟩, rfl⟩⟩
        have := hv1.agg
        simpa [Value.cells] using this
      · rename_i e hu
        obtain ⟨a, l, c, rfl⟩ := okWide_slice hu hval
        exact single (fun _ h => by cases h) (one fun _ h => by cases h)
      · cases hk
    obtain ⟨a, ha1, ha2⟩ := hex
    refine ⟨g ++ g2, ρ2, a :: avs, hr2, fun b hb => (hs2 b (by simp; omega)).trans (hs1 b hb), fun o ho => ?_, VL.cons (ha1.mono (by simp) hs2) hv2, by simp [hl2], fun j t' d' a' hj hd ha => ?_⟩
    · rcases List.mem_append.1 ho with ho | ho
      · exact hg1 o ho
      · exact hg2 o ho
    · cases j with
      | zero =>
        simp at hj hd ha
        subst hj; subst hd; subst ha
        rw [← List.append_assoc]
        exact ha2.mono
      | succ j => exact hh j t' d' a' (by simpa using hj) (by simpa using hd) (by simpa using ha)

/-! ### What an argument is -/

theorem Rep.inv_int {H : Heap} {t : TypeId} {k : IntKind} {d : DataW X} {cz : List Value} (hu : P.underlying t = some (.int k)) (h : Rep P H t d cz) : ∃ n, d = .lit (.int k n) ∧ cz = [.int k n] ∧ (Lit.int k n).wf = true := by
  cases h with
  | int k' n hu' hw => rw [hu] at hu'; cases hu'; exact ⟨n, rfl, rfl, hw⟩
  | bool b hu' => rw [hu] at hu'; cases hu'
  | str l hu' hl => rw [hu] at hu'; cases hu'
  | struct hu' => rw [hu] at hu'; cases hu'
  | nilS hu' => rw [hu] at hu'; cases hu'
  | empty hu' => rw [hu] at hu'; cases hu'
  | slice hu' => rw [hu] at hu'; cases hu'

theorem Rep.inv_bool {H : Heap} {t : TypeId} {d : DataW X} {cz : List Value} (hu : P.underlying t = some .bool) (h : Rep P H t d cz) : ∃ b, d = .lit (.bool b) ∧ cz = [.bool b] := by
  cases h with
  | int k' n hu' hw => rw [hu] at hu'; cases hu'
  | bool b hu' => exact ⟨b, rfl, rfl⟩
  | str l hu' hl => rw [hu] at hu'; cases hu'
  | struct hu' => rw [hu] at hu'; cases hu'
  | nilS hu' => rw [hu] at hu'; cases hu'
  | empty hu' => rw [hu] at hu'; cases hu'
  | slice hu' => rw [hu] at hu'; cases hu'

theorem Rep.inv_str {H : Heap} {t : TypeId} {d : DataW X} {cz : List Value} (hu : P.underlying t = some .string) (h : Rep P H t d cz) : ∃ l, d = .lit (.string l) ∧ cz = [.string (bs l)] ∧ l.length ≤ maxLen := by
  cases h with
  | int k' n hu' hw => rw [hu] at hu'; cases hu'
  | bool b hu' => rw [hu] at hu'; cases hu'
  | str l hu' hl => exact ⟨l, rfl, rfl, hl⟩
  | struct hu' => rw [hu] at hu'; cases hu'
  | nilS hu' => rw [hu] at hu'; cases hu'
  | empty hu' => rw [hu] at hu'; cases hu'
  | slice hu' => rw [hu] at hu'; cases hu'

theorem Rep.inv_struct {H : Heap} {t : TypeId} {fs : Array Field} {d : DataW X} {cz : List Value} (hu : P.underlying t = some (.struct fs)) (h : Rep P H t d cz) : ∃ (ds : List (DataW X)) (ass : List (List Value)), d = .agg ds ∧ cz = ass.flatten ∧ ds.length = fs.size ∧ ass.length = fs.size ∧
    ∀ (i : Nat) (f : Field) (d : DataW X) (cz : List Value), fs[i]? = some f → ds[i]? = some d → ass[i]? = some cz → Rep P H f.type d cz := by
  cases h with
  | int k' n hu' hw => rw [hu] at hu'; cases hu'
  | bool b hu' => rw [hu] at hu'; cases hu'
  | str l hu' hl => rw [hu] at hu'; cases hu'
  | struct hu' h1 h2 h3 h4 => rw [hu] at hu'; cases hu'; exact ⟨_, _, rfl, rfl, h1, h2, h3⟩
  | nilS hu' => rw [hu] at hu'; cases hu'
  | empty hu' => rw [hu] at hu'; cases hu'
  | slice hu' => rw [hu] at hu'; cases hu'

theorem Rep.inv_slice {H : Heap} {t e : TypeId} {d : DataW X} {cz : List Value} (hu : P.underlying t = some (.slice e)) (h : Rep P H t d cz) : (d = .nil ∧ cz = [.slice none 0 0]) ∨ (∃ sp, d = .slice [] sp ∧ cz = [.slice (some ⟨0, 0, some 0⟩) 0 0]) ∨
    ∃ (b : Nat) (ds sp : List (DataW X)) (ass : List (List Value)), d = .slice ds sp ∧ ds ≠ [] ∧ cz = [.slice (some ⟨b, 0, none⟩) ds.length ds.length] ∧ hget H b = .row ass.flatten 0 false ∧ ass.length = ds.length ∧
      (∀ (i : Nat) (d : DataW X) (cz : List Value), ds[i]? = some d → ass[i]? = some cz → Rep P H e d cz) ∧ (∀ (i : Nat) (cz : List Value), ass[i]? = some cz → cz.length = P.cellsOf e) := by
  cases h with
  | int k' n hu' hw => rw [hu] at hu'; cases hu'
  | bool b hu' => rw [hu] at hu'; cases hu'
  | str l hu' hl => rw [hu] at hu'; cases hu'
  | struct hu' => rw [hu] at hu'; cases hu'
  | nilS hu' => exact .inl ⟨rfl, rfl⟩
  | empty hu' => exact .inr (.inl ⟨_, rfl, rfl⟩)
  | slice hu' hne hb h2 h3 h4 => rw [hu] at hu'; cases hu'; exact .inr (.inr ⟨_, _, _, _, rfl, hne, rfl, hb, h2, h3, h4⟩)

/-- A struct of two fields. -/
theorem Rep.inv_two {H : Heap} {t : TypeId} {f0 f1 : Field} {d : DataW X} {cz : List Value} (hu : P.underlying t = some (.struct #[f0, f1])) (h : Rep P H t d cz) : ∃ d0 d1 a0 a1, d = .agg [d0, d1] ∧ cz = a0 ++ a1 ∧ Rep P H f0.type d0 a0 ∧ Rep P H f1.type d1 a1 := by
  obtain ⟨ds, ass, rfl, rfl, h1, h2, h3⟩ := h.inv_struct hu
  match ds, ass, h1, h2, h3 with
  | [d0, d1], [a0, a1], _, _, h3 => exact ⟨d0, d1, a0, a1, rfl, by simp, h3 0 f0 d0 a0 rfl rfl rfl, h3 1 f1 d1 a1 rfl rfl rfl⟩

/-- An unsigned number of 64 bits. -/
theorem Rep.inv_u64 {H : Heap} {t : TypeId} {d : DataW X} {cz : List Value} (hu : P.underlying t = some (.int .u64)) (h : Rep P H t d cz) : ∃ n : Nat, d = .lit (.int .u64 n) ∧ cz = [.int .u64 (n : Int)] ∧ n < 18446744073709551616 := by
  obtain ⟨n, rfl, rfl, hw⟩ := h.inv_int hu
  have hw : (0 : Int) ≤ n ∧ n ≤ 18446744073709551615 := by
    simpa [Lit.wf, IntKind.min, IntKind.max, IntKind.signed, IntKind.bits] using hw
  refine ⟨n.toNat, ?_, ?_, by omega⟩ <;> rw [Int.toNat_of_nonneg hw.1]

/-- A number of 64 bits. -/
theorem Rep.inv_i64 {H : Heap} {t : TypeId} {d : DataW X} {cz : List Value} (hu : P.underlying t = some (.int .i64)) (h : Rep P H t d cz) : ∃ n : Int, d = .lit (.int .i64 n) ∧ cz = [.int .i64 n] ∧ -9223372036854775808 ≤ n ∧ n < 9223372036854775808 := by
  obtain ⟨n, rfl, rfl, hw⟩ := h.inv_int hu
  have hw : (-9223372036854775808 : Int) ≤ n ∧ n ≤ 9223372036854775807 := by
    simpa [Lit.wf, IntKind.min, IntKind.max, IntKind.signed, IntKind.bits] using hw
  exact ⟨n, rfl, rfl, hw.1, by omega⟩

end

end Go.Proofs.Yticgkaanaimllaa.Ev

/- Arguments of the trie's laws as their rows read them: numbers, values of 128 bits, operations and lists of them. Conditions: none. -/
namespace Go.Proofs.Yticgkaanaimllaa.Ev
open Go.ChangeShapes Go.WideShapes Go.ChangeAt Go.RowKit

theorem own : ownKnob Try.prog.godebug = none := by kernel_rfl

theorem VL.narrow {n m : Nat} {ρ ρ' : Nat → Place} {xs ys : List Value} (h : VL m ρ' xs ys) (hs : ∀ x ∈ xs, Scoped n x) (he : ∀ b, b < n → ρ' b = ρ b) : VL n ρ xs ys :=
  ⟨h.1, fun i x y hx hy => ((h.2 i x y hx hy).narrow (hs x (List.mem_of_getElem? hx))).mono (Nat.le_refl _) fun b hb => (he b hb).symm⟩

theorem int_arg {P : Program} {H : Heap} {X : Type} {t : TypeId} {d : DataW X} {a : Value} (hu : P.underlying t = some (.int .i64)) (h : ArgRep P H t d a) : ∃ n : Int, d = .lit (.int .i64 n) ∧ a = .int .i64 n := by
  obtain ⟨cs, hr, hcase⟩ := h
  obtain ⟨n, rfl, rfl, _⟩ := hr.inv_i64 hu
  rcases hcase with ⟨⟨fs, hf⟩, _⟩ | h
  · rw [hu] at hf; cases hf
  · simp at h; exact ⟨n, rfl, h.symm⟩

theorem Rep.inv_four {P : Program} {X : Type} {H : Heap} {t : TypeId} {f0 f1 f2 f3 : Field} {d : DataW X} {cz : List Value} (hu : P.underlying t = some (.struct #[f0, f1, f2, f3])) (h : Rep P H t d cz) :
    ∃ d0 d1 d2 d3 a0 a1 a2 a3, d = .agg [d0, d1, d2, d3] ∧ cz = a0 ++ (a1 ++ (a2 ++ a3)) ∧ Rep P H f0.type d0 a0 ∧ Rep P H f1.type d1 a1 ∧ Rep P H f2.type d2 a2 ∧ Rep P H f3.type d3 a3 := by
  obtain ⟨ds, ass, rfl, rfl, h1, h2, h3⟩ := h.inv_struct hu
  match ds, ass, h1, h2, h3 with
  | [d0, d1, d2, d3], [a0, a1, a2, a3], _, _, h3 => exact ⟨d0, d1, d2, d3, a0, a1, a2, a3, rfl, by simp, h3 0 f0 d0 a0 rfl rfl rfl, h3 1 f1 d1 a1 rfl rfl rfl, h3 2 f2 d2 a2 rfl rfl rfl, h3 3 f3 d3 a3 rfl rfl rfl⟩

theorem halves {hi lo : Nat} (h1 : hi < 18446744073709551616) (h2 : lo < 18446744073709551616) : ∃ a, a < 2 ^ 128 ∧ a / W64 = hi ∧ a % W64 = lo := by
  refine ⟨hi * W64 + lo, ?_, ?_, ?_⟩ <;> unfold W64 <;> omega

theorem bits_rep {X : Type} {H : Heap} {d : DataW X} {cz : List Value} (h : Rep Try.prog H 25 d cz) : ∃ a, a < 2 ^ 128 ∧ cz = [.int .u64 ((a / W64 : Nat) : Int), .int .u64 ((a % W64 : Nat) : Int)] := by
  obtain ⟨e0, e1, b0, b1, rfl, rfl, s0, s1⟩ := h.inv_two Try.underlying25
  obtain ⟨x, rfl, rfl, hx⟩ := s0.inv_u64 Try.underlying23
  obtain ⟨y, rfl, rfl, hy⟩ := s1.inv_u64 Try.underlying23
  obtain ⟨a, h1, rfl, rfl⟩ := halves hx hy
  exact ⟨a, h1, rfl⟩

/-- An operation's cells. -/
theorem op_rep {X : Type} {H : Heap} {d : DataW X} {cz : List Value} (h : Rep Try.prog H 35 d cz) : ∃ o : Opr, cz = opC o ∧ o.a < 2 ^ 128 ∧ -9223372036854775808 ≤ o.n ∧ o.n < 9223372036854775808 ∧ -9223372036854775808 ≤ o.v ∧ o.v < 9223372036854775808 ∧ -9223372036854775808 ≤ o.k ∧ o.k < 9223372036854775808 := by
  obtain ⟨d0, d1, d2, d3, a0, a1, a2, a3, rfl, rfl, r0, r1, r2, r3⟩ := h.inv_four Try.underlying35
  obtain ⟨k, rfl, rfl, hk⟩ := r0.inv_i64 Try.underlying3
  obtain ⟨a, ha, rfl⟩ := bits_rep r1
  obtain ⟨n, rfl, rfl, hn⟩ := r2.inv_i64 Try.underlying3
  obtain ⟨v, rfl, rfl, hv⟩ := r3.inv_i64 Try.underlying3
  exact ⟨⟨k, a, n, v⟩, rfl, ha, hn.1, hn.2, hv.1, hv.2, hk.1, hk.2⟩

/-- The numbers of an operation fit their cells. -/
def OprOk (o : Opr) : Prop := o.a < 2 ^ 128 ∧ -9223372036854775808 ≤ o.n ∧ o.n < 9223372036854775808 ∧ -9223372036854775808 ≤ o.v ∧ o.v < 9223372036854775808 ∧ -9223372036854775808 ≤ o.k ∧ o.k < 9223372036854775808

theorem ops_rep {X : Type} {H : Heap} : ∀ (ds : List (DataW X)) (ass : List (List Value)), ass.length = ds.length → (∀ (i : Nat) (d : DataW X) (cz : List Value), ds[i]? = some d → ass[i]? = some cz → Rep Try.prog H 35 d cz) →
    ∃ ops : List Opr, ass = ops.map opC ∧ ∀ o ∈ ops, OprOk o
  | [], [], _, _ => ⟨[], rfl, fun o ho => by cases ho⟩
  | [], _ :: _, h, _ => by simp at h
  | _ :: _, [], h, _ => by simp at h
  | d :: ds, cz :: ass, hl, h => by
    obtain ⟨o, rfl, ho⟩ := op_rep (h 0 d cz rfl rfl)
    obtain ⟨ops, rfl, h2⟩ := ops_rep ds ass (by simpa using hl) fun i d cz h1 h2 => h (i + 1) d cz (by simpa using h1) (by simpa using h2)
    exact ⟨o :: ops, rfl, fun q hq => by
      rcases List.mem_cons.1 hq with rfl | hq
      · exact ho
      · exact h2 q hq⟩

theorem bits_arg {X : Type} {H : Heap} {d : DataW X} {a : Value} (h : ArgRep Try.prog H 25 d a) : ∃ n, n < 2 ^ 128 ∧ a = bvA n := by
  obtain ⟨cs, hr, hcase⟩ := h
  obtain ⟨n, hn, rfl⟩ := bits_rep hr
  rcases hcase with ⟨_, rfl⟩ | h
  · exact ⟨n, hn, rfl⟩
  · simp at h

theorem opr_arg {X : Type} {H : Heap} {d : DataW X} {a : Value} (h : ArgRep Try.prog H 35 d a) : ∃ o, OprOk o ∧ a = .agg (opC o).toArray := by
  obtain ⟨cs, hr, hcase⟩ := h
  obtain ⟨o, rfl, ho⟩ := op_rep hr
  rcases hcase with ⟨_, rfl⟩ | h
  · exact ⟨o, ho, rfl⟩
  · simp [opC] at h

/-- A list of operations. -/
theorem ops_arg {X : Type} {H : Heap} {d : DataW X} {a : Value} (h : ArgRep Try.prog H 22 d a) :
    ∃ (ad : Option Addr) (ops : List Opr), a = .slice ad ops.length ops.length ∧ (∀ o ∈ ops, OprOk o) ∧ OpSl H ad ops H.length ∧ (d = .nil ∧ ops = [] ∨ ∃ ds sp, d = .slice ds sp ∧ ops.length = ds.length) := by
  obtain ⟨cs, hr, hcase⟩ := h
  have hne : ∀ {l}, cs = [l] → a = l := fun e => by
    rcases hcase with ⟨⟨fs, hf⟩, _⟩ | h
    · have := Try.underlying22
      rw [this] at hf; cases hf
    · rw [e] at h; simpa using h.symm
  rcases hr.inv_slice Try.underlying22 with ⟨rfl, e⟩ | ⟨sp, rfl, e⟩ | ⟨b, ds, sp, ass, rfl, hds, e, hb, h2, h3, h4⟩
  · exact ⟨none, [], hne e, (fun o ho => by cases ho), fun q => absurd rfl q, .inl ⟨rfl, rfl⟩⟩
  · exact ⟨some ⟨0, 0, some 0⟩, [], hne e, (fun o ho => by cases ho), fun q => absurd rfl q, .inr ⟨[], sp, rfl, rfl⟩⟩
  · obtain ⟨ops, rfl, hops⟩ := ops_rep ds ass h2 h3
    have hl : ops.length = ds.length := by simpa using h2
    refine ⟨some ⟨b, 0, none⟩, ops, by rw [hne e, hl], hops, fun _ => ⟨b, false, rfl, hget_lt hb rfl, hb⟩, .inr ⟨ds, sp, rfl, hl⟩⟩

theorem rel_nil {ρ : Nat → Place} (w : World) : Rel 0 ρ [] w := ⟨fun b o h => by simp at h, fun b c o u h => by simp at h, fun g h => absurd h (Nat.not_lt_zero _), Nat.le_refl _⟩

theorem rel_globs {ρ : Nat → Place} (w : World) : Rel T.G ρ [] w := by
  have : T.G = 0 := by unfold T; kernel_rfl
  rw [this]
  exact rel_nil w
end Go.Proofs.Yticgkaanaimllaa.Ev

/- The law TrieOrders: what stands; the first loop. -/
namespace Go.Proofs.Yticgkaanaimllaa.Ev
set_option maxRecDepth 100000
set_option linter.unusedSimpArgs false
set_option linter.unusedVariables false
variable {R : FRes → Heap → Prop} {H : Heap}

/-- The prefix of an operation, where it is one. -/
def keyO (w : Nat) (o : Opr) : Option (Nat × Nat) := if rgt w o.a o.n = true then some (o.a, o.n.toNat) else none
def KS (w : Nat) (L : List Opr) : List (Nat × Nat) := L.filterMap (keyO w)
theorem KS_snoc {w i : Nat} {L : List Opr} (hi : i < L.length) : KS w (L.take (i + 1)) = KS w (L.take i) ++ (keyO w L[i]).toList := by
  rw [List.take_add_one, List.getElem?_eq_getElem hi, KS, List.filterMap_append]
  simp only [Option.toList_some, List.filterMap_cons, List.filterMap_nil]
  cases keyO w L[i] <;> rfl
theorem KS_rgt {w : Nat} {L : List Opr} {x : Nat × Nat} (h : x ∈ KS w L) : rgt w x.1 (x.2 : Nat) = true := by
  obtain ⟨o, _, ho⟩ := List.mem_filterMap.1 h
  unfold keyO at ho
  split at ho
  · rename_i hr
    cases ho
    have : (0 : Int) ≤ o.n := by
      simp only [rgt, Bool.and_eq_true, decide_eq_true_eq] at hr
      exact hr.1.1.1
    rw [show ((o.n.toNat : Nat) : Int) = o.n by omega]
    exact hr
  · cases ho
theorem key_none {w : Nat} {o : Opr} (h : rgt w o.a o.n = false) : keyO w o = none := by rw [keyO, if_neg (by rw [h]; simp)]
theorem key_some {w k : Nat} {o : Opr} (h : rgt w o.a o.n = true) (hk : o.n = k) : keyO w o = some (o.a, k) := by rw [keyO, if_pos h, hk, Int.toNat_natCast]

/-- Two tries of texts, and the operations. -/
structure OM (K : Heap) (q w : Nat) (ad1 : Option Addr) (ops1 : List Opr) (ad2 : Option Addr) (ops2 : List Opr) (t u : Tr) : Prop where
  ti : S.TI K (q + 1) w 4096 (t.er.mem.length : Nat) t
  ui : S.TI K (q + 2) w 4096 (u.er.mem.length : Nat) u
  gt : Good w t.er
  gu : Good w u.er
  dj : ∀ c, FPt (q + 1) t c → ¬ FPt (q + 2) u c
  lt : ∀ c ∈ t.blocks, q + 3 < c
  lu : ∀ c ∈ u.blocks, q + 3 < c
  b6 : hget K q = .row [.bool false] 0 true
  b10 : hget K (q + 3) = .row [.pointer (some ⟨q + 2, 0, none⟩)] 0 true
  sl1 : OpSl K ad1 ops1 q
  sl2 : OpSl K ad2 ops2 q

theorem STI.lt {K : Heap} {b w : Nat} {m l : Int} {t : Tr} (h : S.TI K b w m l t) {c : Nat} (hc : FPt b t c) : c < K.length := by
  rcases hc with rfl | hc
  · exact hget_lt h.hd rfl
  · exact h.lies.lt c hc
theorem OM.app {K G : Heap} {q w : Nat} {ad1 ad2 : Option Addr} {ops1 ops2 : List Opr} {t u : Tr} (h : OM K q w ad1 ops1 ad2 ops2 t u) : OM (K ++ G) q w ad1 ops1 ad2 ops2 t u := by
  obtain ⟨h1, h2, h3, h4, h5, h6, h7, h8, h9, h10, h11⟩ := h
  have l9 := hget_lt h9 rfl
  have l8 := hget_lt h8 rfl
  exact ⟨h1.same fun c hc => hget_old (STI.lt h1 hc), h2.same fun c hc => hget_old (STI.lt h2 hc), h3, h4, h5, h6, h7, by rw [hget_old l8]; exact h8, by rw [hget_old l9]; exact h9, h10.same fun c hc => hget_old (by omega), h11.same fun c hc => hget_old (by omega)⟩
/-- The first one has changed. -/
theorem OM.stepT {K K2 : Heap} {q w : Nat} {ad1 ad2 : Option Addr} {ops1 ops2 : List Opr} {t t' u : Tr} (h : OM K q w ad1 ops1 ad2 ops2 t u) (hf : ∀ c, c < K.length → ¬ FPt (q + 1) t c → hget K2 c = hget K c) (h1 : S.TI K2 (q + 1) w 4096 (t'.er.mem.length : Nat) t') (h2 : Good w t'.er)
    (h3 : ∀ c ∈ t'.blocks, c ∈ t.blocks ∨ K.length ≤ c) : OM K2 q w ad1 ops1 ad2 ops2 t' u := by
  obtain ⟨g1, g2, g3, g4, g5, g6, g7, g8, g9, g10, g11⟩ := h
  have l9 := hget_lt g9 rfl
  have hn : ∀ c, c ≤ q + 3 → c ≠ q + 1 → ¬ FPt (q + 1) t c := fun c q1 q2 q3 => by
    rcases q3 with q3 | q3
    · exact q2 q3
    · have := g6 c q3; omega
  have hs : ∀ c, c ≤ q + 3 → c ≠ q + 1 → hget K2 c = hget K c := fun c q1 q2 => hf c (by omega) (hn c q1 q2)
  refine ⟨h1, g2.same fun c hc => hf c (STI.lt g2 hc) fun e => g5 c e hc, h2, g4, fun c h5 h6 => ?_, fun c hc => ?_, g7, by rw [hs _ (by omega) (by omega)]; exact g8, by rw [hs _ (by omega) (by omega)]; exact g9, g10.same fun c hc => hs c (by omega) (by omega), g11.same fun c hc => hs c (by omega) (by omega)⟩
  · rcases h5 with h5 | h5
    · exact g5 c (.inl h5) h6
    · rcases h3 c h5 with e | e
      · exact g5 c (.inr e) h6
      · have := STI.lt g2 h6; omega
  · rcases h3 c hc with e | e
    · exact g6 c e
    · omega
/-- The second one has changed. -/
theorem OM.stepU {K K2 : Heap} {q w : Nat} {ad1 ad2 : Option Addr} {ops1 ops2 : List Opr} {t u u' : Tr} (h : OM K q w ad1 ops1 ad2 ops2 t u) (hf : ∀ c, c < K.length → ¬ FPt (q + 2) u c → hget K2 c = hget K c) (h1 : S.TI K2 (q + 2) w 4096 (u'.er.mem.length : Nat) u') (h2 : Good w u'.er)
    (h3 : ∀ c ∈ u'.blocks, c ∈ u.blocks ∨ K.length ≤ c) : OM K2 q w ad1 ops1 ad2 ops2 t u' := by
  obtain ⟨g1, g2, g3, g4, g5, g6, g7, g8, g9, g10, g11⟩ := h
  have l9 := hget_lt g9 rfl
  have hn : ∀ c, c ≤ q + 3 → c ≠ q + 2 → ¬ FPt (q + 2) u c := fun c q1 q2 q3 => by
    rcases q3 with q3 | q3
    · exact q2 q3
    · have := g7 c q3; omega
  have hs : ∀ c, c ≤ q + 3 → c ≠ q + 2 → hget K2 c = hget K c := fun c q1 q2 => hf c (by omega) (hn c q1 q2)
  refine ⟨g1.same fun c hc => hf c (STI.lt g1 hc) fun e => g5 c hc e, h1, g3, h2, fun c h5 h6 => ?_, g6, fun c hc => ?_, by rw [hs _ (by omega) (by omega)]; exact g8, by rw [hs _ (by omega) (by omega)]; exact g9, g10.same fun c hc => hs c (by omega) (by omega), g11.same fun c hc => hs c (by omega) (by omega)⟩
  · rcases h6 with h6 | h6
    · exact g5 c h5 (.inl h6)
    · rcases h3 c h6 with e | e
      · exact g5 c h5 (.inr e)
      · have := STI.lt g1 h5; omega
  · rcases h3 c hc with e | e
    · exact g7 c e
    · omega

/-- What is kept: all with one thing, under just these. -/
def AllK (w : Nat) (t : PT) (v : Int) (ks : List (Nat × Nat)) : Prop := ∀ x : Mem, x ∈ t.mem ↔ x.2.2 = v ∧ (x.1, x.2.1) ∈ ks

theorem AllK.at {w a k : Nat} {v : Int} {t : PT} {ks : List (Nat × Nat)} (hw : w ≤ 128) (h : AllK w t v ks) (g : Good w t) (hr : rgt w a (k : Nat) = true) : (atP w a k t = none ↔ (a, k) ∉ ks) ∧ (∀ u, atP w a k t = some u → u = v ∧ (a, k) ∈ ks) := by
  have hr2 := hr
  simp only [rgt, Bool.and_eq_true, decide_eq_true_eq, Int.toNat_natCast] at hr2
  obtain ⟨⟨⟨_, a1⟩, a2⟩, a3⟩ := hr2
  have hk : k ≤ w := by omega
  have key : ∀ u, atP w a k t = some u ↔ u = v ∧ (a, k) ∈ ks := fun u => by
    rw [at_mem a2 hk g.pw]
    exact h (a, k, u)
  constructor
  · constructor
    · intro e hin
      have := (key v).2 ⟨rfl, hin⟩
      rw [e] at this
      cases this
    · intro hn
      cases e : atP w a k t with
      | none => rfl
      | some u => exact absurd ((key u).1 e).2 hn
  · exact fun u hu => (key u).1 hu
theorem AllK.with {w a k : Nat} {v : Int} {t t2 : PT} {ks : List (Nat × Nat)} (h : AllK w t v ks) (hx : ∀ x, x ∈ t2.mem ↔ x = (a, k, v) ∨ x ∈ t.mem) : AllK w t2 v (ks ++ [(a, k)]) := fun x => by
  rw [hx x, h x, List.mem_append, List.mem_singleton]
  obtain ⟨c, n, u⟩ := x
  simp only [Prod.mk.injEq]
  constructor
  · rintro (⟨rfl, rfl, rfl⟩ | ⟨h1, h2⟩)
    · exact ⟨rfl, .inr ⟨rfl, rfl⟩⟩
    · exact ⟨h1, .inl h2⟩
  · rintro ⟨h1, h2 | ⟨rfl, rfl⟩⟩
    · exact .inr ⟨h1, h2⟩
    · exact .inl ⟨rfl, rfl, h1⟩
theorem AllK.old {w a k : Nat} {v : Int} {t : PT} {ks : List (Nat × Nat)} (h : AllK w t v ks) (hin : (a, k) ∈ ks) : AllK w t v (ks ++ [(a, k)]) := fun x => by
  rw [h x, List.mem_append, List.mem_singleton]
  constructor
  · rintro ⟨h1, h2⟩; exact ⟨h1, .inl h2⟩
  · rintro ⟨h1, h2 | h2⟩
    · exact ⟨h1, h2⟩
    · exact ⟨h1, by rw [h2]; exact hin⟩

def or1I (q w n : Nat) (ad1 : Option Addr) (ops1 : List Opr) (ad2 : Option Addr) (ops2 : List Opr) : Nat → Env → Heap → Prop := fun z e K =>
  ∃ (i : Nat) (t : Tr), i ≤ n ∧ z = n - i ∧ OM K q w ad1 ops1 ad2 ops2 t .nil ∧ AllK w t.er 1 (KS w (ops1.take i)) ∧ t.er.mem.length ≤ i ∧
    (∃ x : Nat → Value, e = [x 0, .slice ad1 ops1.length ops1.length, .slice ad2 ops2.length ops2.length, x 3, x 4, x 5, .pointer (some ⟨q, 0, none⟩), x 7, .pointer (some ⟨q + 1, 0, none⟩), x 9, .pointer (some ⟨q + 3, 0, none⟩), x 11, .int .i64 (n : Int), .int .i64 (i : Int), x 14, x 15, x 16, x 17, x 18, x 19, x 20, x 21, x 22, x 23, x 24, x 25, x 26, x 27, x 28, x 29, x 30, x 31, x 32, x 33, x 34, x 35, x 36, x 37, x 38, x 39, x 40, x 41, x 42, x 43, x 44, x 45, x 46, x 47, x 48, x 49, x 50, x 51, x 52, x 53, x 54, x 55, x 56, x 57, x 58, x 59, x 60, x 61, x 62, x 63, x 64, x 65, x 66, x 67, x 68, x 69, x 70, x 71, x 72, x 73, x 74, x 75, x 76, x 77, x 78, x 79, x 80, x 81, x 82, x 83, x 84, x 85, x 86, x 87, x 88, x 89, x 90, x 91, x 92, x 93, x 94, x 95, x 96, x 97, x 98, x 99, x 100, x 101, x 102, x 103, x 104, x 105, x 106, x 107, x 108, x 109, x 110, x 111, x 112, x 113, x 114, x 115, x 116, x 117, x 118, x 119, x 120, x 121, x 122, x 123, x 124, x 125, x 126, x 127, x 128, x 129, x 130, x 131, x 132, x 133, x 134, x 135, x 136, x 137, x 138, x 139, x 140, x 141, x 142, x 143, x 144, x 145, x 146, x 147, x 148, x 149, x 150, x 151, x 152, x 153, x 154, x 155, x 156, x 157, x 158, x 159, x 160, x 161, x 162, x 163, x 164, x 165, x 166, x 167, x 168, x 169, x 170, x 171, x 172, x 173, x 174, x 175, x 176, x 177, x 178, x 179, x 180, x 181, x 182, x 183, x 184, x 185, x 186, x 187, x 188, x 189, x 190, x 191, x 192, x 193, x 194, x 195, x 196, x 197, x 198, x 199, x 200, x 201, x 202, x 203, x 204, x 205, x 206, x 207, x 208, x 209, x 210, x 211, x 212, x 213, x 214, x 215, x 216, x 217, x 218, x 219, x 220, x 221, x 222, x 223, x 224, x 225, x 226, x 227, x 228, x 229, x 230, x 231, x 232, x 233])

theorem or1_loop {q w n : Nat} {ad1 ad2 : Option Addr} {ops1 ops2 : List Opr} (hw : 1 ≤ w) (hw2 : w ≤ 128) (hops : ∀ o ∈ ops1, o.a < 2 ^ 128) (hn : n ≤ 1000) (hn2 : n ≤ ops1.length) {Q : Post}
    (hQ : ∀ e K t, OM K q w ad1 ops1 ad2 ops2 t .nil → AllK w t.er 1 (KS w (ops1.take n)) → t.er.mem.length ≤ n →
      (∃ x : Nat → Value, e = [x 0, .slice ad1 ops1.length ops1.length, .slice ad2 ops2.length ops2.length, x 3, x 4, x 5, .pointer (some ⟨q, 0, none⟩), x 7, .pointer (some ⟨q + 1, 0, none⟩), x 9, .pointer (some ⟨q + 3, 0, none⟩), x 11, .int .i64 (n : Int), x 13, x 14, x 15, x 16, x 17, x 18, x 19, x 20, x 21, x 22, x 23, x 24, x 25, x 26, x 27, x 28, x 29, x 30, x 31, x 32, x 33, x 34, x 35, x 36, x 37, x 38, x 39, x 40, x 41, x 42, x 43, x 44, x 45, x 46, x 47, x 48, x 49, x 50, x 51, x 52, x 53, x 54, x 55, x 56, x 57, x 58, x 59, x 60, x 61, x 62, x 63, x 64, x 65, x 66, x 67, x 68, x 69, x 70, x 71, x 72, x 73, x 74, x 75, x 76, x 77, x 78, x 79, x 80, x 81, x 82, x 83, x 84, x 85, x 86, x 87, x 88, x 89, x 90, x 91, x 92, x 93, x 94, x 95, x 96, x 97, x 98, x 99, x 100, x 101, x 102, x 103, x 104, x 105, x 106, x 107, x 108, x 109, x 110, x 111, x 112, x 113, x 114, x 115, x 116, x 117, x 118, x 119, x 120, x 121, x 122, x 123, x 124, x 125, x 126, x 127, x 128, x 129, x 130, x 131, x 132, x 133, x 134, x 135, x 136, x 137, x 138, x 139, x 140, x 141, x 142, x 143, x 144, x 145, x 146, x 147, x 148, x 149, x 150, x 151, x 152, x 153, x 154, x 155, x 156, x 157, x 158, x 159, x 160, x 161, x 162, x 163, x 164, x 165, x 166, x 167, x 168, x 169, x 170, x 171, x 172, x 173, x 174, x 175, x 176, x 177, x 178, x 179, x 180, x 181, x 182, x 183, x 184, x 185, x 186, x 187, x 188, x 189, x 190, x 191, x 192, x 193, x 194, x 195, x 196, x 197, x 198, x 199, x 200, x 201, x 202, x 203, x 204, x 205, x 206, x 207, x 208, x 209, x 210, x 211, x 212, x 213, x 214, x 215, x 216, x 217, x 218, x 219, x 220, x 221, x 222, x 223, x 224, x 225, x 226, x 227, x 228, x 229, x 230, x 231, x 232, x 233]) → Q (.exit 0) e K)
    {z : Nat} {e : Env} {K : Heap} (hI : or1I q w n ad1 ops1 ad2 ops2 z e K) : WLoop T (g5.body.at [1, 1, 1, 1, 1, 1, 1, 0, 1, 0, 0]) e K Q := by
  refine WLoop.inv (or1I q w n ad1 ops1 ad2 ops2) ?_ _ _ _ hI
  clear hI
  rintro z e K ⟨i, t, hi, rfl, hO, hA, hl, ⟨x, rfl⟩⟩
  simp only [AFunc.body, g5, ACode.at]
  by_cases hi2 : (i : Int) < (n : Int)
  case neg =>
    simp (disch := omega) only [kB, kcx, kdm, kdn, kel, aop, resultsL, resultOf, Nat.reduceEqDiff, reduceCtorEq, eq1, apartOK, apart2, AObj.live, Int.reduceEq, Int.reduceLT, Int.reduceLE, Int.reduceAdd, Int.reduceSub, Int.reduceMul, Int.reduceToNat, cutCells, Nat.reduceAdd, Nat.reduceLeDiff, Nat.reduceLT, Nat.reduceMul, Nat.reduceSub, hi2]
    rw [show i = n by omega] at hA
    exact hQ _ _ _ hO hA (by omega) (by exact ex_env rfl)
  have hil : i < ops1.length := by omega
  obtain ⟨bl, wr, rfl, hbl, hrow⟩ := hO.sl1 (fun q => by rw [q] at hil; simp at hil)
  have o1 := op_bits ops1 i hil
  have o2 := op_n ops1 i hil
  have o3 := op_len ops1
  have hoa := hops ops1[i] (List.getElem_mem hil)
  have hks := KS_snoc (w := w) hil
  generalize ops1[i] = o at *
  have hi3 : (i : Int) < ((ops1.length : Nat) : Int) := by omega
  have c0 : (0 : Int) ≤ (i : Int) := by omega
  have hsame : AllK w t.er 1 (KS w (ops1.take i)) → rgt w o.a o.n = false → AllK w t.er 1 (KS w (ops1.take (i + 1))) := fun h hr => by rw [hks, key_none hr]; simpa using h
  simp (disch := omega) only [kB, kcx, kdm, kdn, kel, aop, resultsL, resultOf, Nat.reduceEqDiff, reduceCtorEq, eq1, apartOK, apart2, AObj.live, Int.reduceEq, Int.reduceLT, Int.reduceLE, Int.reduceAdd, Int.reduceSub, Int.reduceMul, Int.reduceToNat, cutCells, Nat.reduceAdd, Nat.reduceLeDiff, Nat.reduceLT, Nat.reduceMul, Nat.reduceSub, hi2, hi3, c0, hrow, o1, o2, o3, if_pos]
  refine S.put_t (v := 1) hO.ti hw hw2 hoa (by omega) (fun hr g => ?_) (fun hr hat g => ?_) (fun hr hat hf => by omega) (fun hr hat _ t' K2 hlen2 hfr hti hown her => ?_)
  · simp (disch := omega) only [kB, kcx, kdm, kdn, kel, aop, resultsL, resultOf, Nat.reduceEqDiff, reduceCtorEq, eq1, apartOK, apart2, AObj.live, Int.reduceEq, Int.reduceLT, Int.reduceLE, Int.reduceAdd, Int.reduceSub, Int.reduceMul, Int.reduceToNat, cutCells, Nat.reduceAdd, Nat.reduceLeDiff, Nat.reduceLT, Nat.reduceMul, Nat.reduceSub, wr_i64, nadd1]
    exact ⟨n - (i + 1), by omega, i + 1, t, by omega, rfl, hO.app, hsame hA hr, by omega, ex_env rfl⟩
  · obtain ⟨k, hk, a1, a2, a3⟩ := rgt_k hw2 hr
    have hr' : rgt w o.a (k : Nat) = true := by rw [← hk]; exact hr
    have hin : (o.a, k) ∈ KS w (ops1.take i) := by
      rw [hk, Int.toNat_natCast] at hat
      cases e : atP w o.a k t.er with
      | none => exact absurd (atV_none.2 e) hat
      | some u => exact ((hA.at hw2 hO.gt hr').2 u e).2
    simp (disch := omega) only [kB, kcx, kdm, kdn, kel, aop, resultsL, resultOf, Nat.reduceEqDiff, reduceCtorEq, eq1, apartOK, apart2, AObj.live, Int.reduceEq, Int.reduceLT, Int.reduceLE, Int.reduceAdd, Int.reduceSub, Int.reduceMul, Int.reduceToNat, cutCells, Nat.reduceAdd, Nat.reduceLeDiff, Nat.reduceLT, Nat.reduceMul, Nat.reduceSub, wr_i64, nadd1]
    exact ⟨n - (i + 1), by omega, i + 1, t, by omega, rfl, hO.app, by rw [hks, key_some hr hk]; exact hA.old hin, by omega, ex_env rfl⟩
  · obtain ⟨k, hk, a1, a2, a3⟩ := rgt_k hw2 hr
    have hr' : rgt w o.a (k : Nat) = true := by rw [← hk]; exact hr
    rw [hk, Int.toNat_natCast] at hat her
    obtain ⟨w1, w2, w3⟩ := good_with (v := 1) hw2 hO.gt hr' (atV_none.1 hat)
    rw [← her] at w1 w2 w3
    have hO2 : OM K2 q w (some ⟨bl, 0, none⟩) ops1 ad2 ops2 t' .nil := hO.stepT (fun c hc hnf => hfr c hc (fun e => hnf (.inl e)) (fun e => hnf (.inr e))) (by rw [w2]; simpa using hti) w1 hown
    simp (disch := omega) only [kB, kcx, kdm, kdn, kel, aop, resultsL, resultOf, Nat.reduceEqDiff, reduceCtorEq, eq1, apartOK, apart2, AObj.live, Int.reduceEq, Int.reduceLT, Int.reduceLE, Int.reduceAdd, Int.reduceSub, Int.reduceMul, Int.reduceToNat, cutCells, Nat.reduceAdd, Nat.reduceLeDiff, Nat.reduceLT, Nat.reduceMul, Nat.reduceSub, wr_i64, nadd1]
    exact ⟨n - (i + 1), by omega, i + 1, t', by omega, rfl, hO2, by rw [hks, key_some hr hk]; exact hA.with w3, by omega, ex_env rfl⟩

end Go.Proofs.Yticgkaanaimllaa.Ev

/- The law TrieOrders: the second loop. -/
namespace Go.Proofs.Yticgkaanaimllaa.Ev
set_option maxRecDepth 100000
set_option linter.unusedSimpArgs false
set_option linter.unusedVariables false
variable {R : FRes → Heap → Prop} {H : Heap}

def pfK (x : Nat × Nat) : List Value := pfM (x.1, x.2, 0)
theorem pfK_u {L : List (Nat × Nat)} : ∀ cs ∈ L.map pfK, cs.length = 3 := by
  intro cs h
  obtain ⟨x, _, rfl⟩ := List.mem_map.1 h
  rfl
theorem STI.no3 {K : Heap} {b w u : Nat} {m l : Int} {t : Tr} {wr : Bool} (h : S.TI K b w m l t) (hu : u ≠ 0) {c : Nat} {cs : List Value} (hc : hget K c = .row cs u wr) : ¬ FPt b t c := by
  intro hf
  rcases hf with rfl | hf
  · have := h.hd
    rw [hc] at this
    exact hu (AObj.row.inj this).2.1
  · obtain ⟨a, n, f, v, l, r, hr⟩ := h.lies.row c hf
    rw [hc] at hr
    exact hu (AObj.row.inj hr).2.1
theorem STI.nosl {K : Heap} {b w n0 : Nat} {m l : Int} {t : Tr} {sv : Value} {css : List (List Value)} (h : S.TI K b w m l t) (hs : SLs 3 n0 K sv css) {c : Nat} (hc : blk sv = some c) : ¬ FPt b t c := by
  rcases hs with ⟨_, rfl⟩ | ⟨_, k, _, rfl, hk, _⟩
  · cases hc
  · cases hc
    exact STI.no3 h (by decide) hk

/-- What was put into the second alone. -/
structure DL (D K1 K2 : List (Nat × Nat)) : Prop where
  nd : D.Nodup
  iff : ∀ x, x ∈ D ↔ x ∈ K2 ∧ x ∉ K1

def or2I (q w n m : Nat) (ad1 : Option Addr) (ops1 : List Opr) (ad2 : Option Addr) (ops2 : List Opr) : Nat → Env → Heap → Prop := fun z e K =>
  ∃ (i : Nat) (t u : Tr) (D : List (Nat × Nat)) (sv : Value), i ≤ m ∧ z = m - i ∧ OM K q w ad1 ops1 ad2 ops2 t u ∧ AllK w t.er 1 (KS w (ops1.take n)) ∧ AllK w u.er 2 (KS w (ops2.take i)) ∧ u.er.mem.length ≤ i ∧ t.er.mem.length ≤ n ∧
    DL D (KS w (ops1.take n)) (KS w (ops2.take i)) ∧ D.length ≤ i ∧ SLs 3 (q + 4) K sv (D.map pfK) ∧ q + 4 ≤ K.length ∧
    (∃ x : Nat → Value, e = [x 0, .slice ad1 ops1.length ops1.length, .slice ad2 ops2.length ops2.length, x 3, x 4, x 5, .pointer (some ⟨q, 0, none⟩), x 7, .pointer (some ⟨q + 1, 0, none⟩), x 9, .pointer (some ⟨q + 3, 0, none⟩), x 11, .int .i64 (n : Int), x 13, sv, .int .i64 (i : Int), x 16, x 17, x 18, x 19, x 20, x 21, x 22, x 23, x 24, x 25, x 26, x 27, x 28, x 29, x 30, x 31, x 32, x 33, x 34, x 35, x 36, x 37, x 38, x 39, x 40, x 41, x 42, x 43, x 44, x 45, x 46, x 47, x 48, x 49, x 50, x 51, x 52, x 53, x 54, x 55, x 56, x 57, x 58, x 59, x 60, x 61, x 62, x 63, x 64, x 65, x 66, x 67, x 68, x 69, x 70, x 71, x 72, x 73, x 74, x 75, x 76, x 77, x 78, x 79, x 80, x 81, x 82, x 83, x 84, x 85, x 86, x 87, x 88, x 89, x 90, x 91, x 92, x 93, x 94, x 95, x 96, x 97, x 98, x 99, x 100, x 101, x 102, x 103, x 104, x 105, x 106, x 107, x 108, x 109, x 110, x 111, x 112, x 113, x 114, x 115, x 116, x 117, x 118, x 119, x 120, x 121, x 122, x 123, x 124, x 125, x 126, x 127, x 128, x 129, x 130, x 131, x 132, x 133, x 134, x 135, x 136, x 137, x 138, x 139, x 140, x 141, x 142, x 143, x 144, x 145, x 146, x 147, x 148, x 149, x 150, x 151, x 152, x 153, x 154, x 155, x 156, x 157, x 158, x 159, x 160, x 161, x 162, x 163, x 164, x 165, x 166, x 167, x 168, x 169, x 170, x 171, x 172, x 173, x 174, x 175, x 176, x 177, x 178, x 179, x 180, x 181, x 182, x 183, x 184, x 185, x 186, x 187, x 188, x 189, x 190, x 191, x 192, x 193, x 194, x 195, x 196, x 197, x 198, x 199, x 200, x 201, x 202, x 203, x 204, x 205, x 206, x 207, x 208, x 209, x 210, x 211, x 212, x 213, x 214, x 215, x 216, x 217, x 218, x 219, x 220, x 221, x 222, x 223, x 224, x 225, x 226, x 227, x 228, x 229, x 230, x 231, x 232, x 233])

theorem DL.stay {D K1 K2 : List (Nat × Nat)} {x : Nat × Nat} (h : DL D K1 K2) (hx : x ∈ K2 ∨ x ∈ K1) : DL D K1 (K2 ++ [x]) := ⟨h.nd, fun y => by
  rw [h.iff y, List.mem_append, List.mem_singleton]
  constructor
  · rintro ⟨h1, h2⟩; exact ⟨.inl h1, h2⟩
  · rintro ⟨h1 | h1, h2⟩
    · exact ⟨h1, h2⟩
    · subst h1
      rcases hx with hx | hx
      · exact ⟨hx, h2⟩
      · exact absurd hx h2⟩
theorem DL.more {D K1 K2 : List (Nat × Nat)} {x : Nat × Nat} (h : DL D K1 K2) (h1 : x ∉ K2) (h2 : x ∉ K1) : DL (D ++ [x]) K1 (K2 ++ [x]) := ⟨by
  rw [List.nodup_append]
  refine ⟨h.nd, by simp, fun a ha b hb e => ?_⟩
  rw [List.mem_singleton] at hb
  rw [e, hb] at ha
  exact h1 ((h.iff x).1 ha).1, fun y => by
  rw [List.mem_append, List.mem_append, h.iff y, List.mem_singleton]
  constructor
  · rintro (⟨q1, q2⟩ | q1)
    · exact ⟨.inl q1, q2⟩
    · rw [q1]; exact ⟨.inr rfl, h2⟩
  · rintro ⟨q1 | q1, q2⟩
    · exact .inl ⟨q1, q2⟩
    · exact .inr q1⟩

set_option maxHeartbeats 1000000 in
theorem or2_loop {q w n m : Nat} {ad1 ad2 : Option Addr} {ops1 ops2 : List Opr} (hw : 1 ≤ w) (hw2 : w ≤ 128) (hops : ∀ o ∈ ops2, o.a < 2 ^ 128) (hm : m ≤ 1000) (hm2 : (m : Nat) = min ops2.length 1000) {Q : Post}
    (hQ : ∀ e K t u D sv, OM K q w ad1 ops1 ad2 ops2 t u → AllK w t.er 1 (KS w (ops1.take n)) → AllK w u.er 2 (KS w (ops2.take m)) → u.er.mem.length ≤ m → t.er.mem.length ≤ n → DL D (KS w (ops1.take n)) (KS w (ops2.take m)) → D.length ≤ m → SLs 3 (q + 4) K sv (D.map pfK) → q + 4 ≤ K.length →
      (∃ x : Nat → Value, e = [x 0, .slice ad1 ops1.length ops1.length, x 2, x 3, x 4, x 5, .pointer (some ⟨q, 0, none⟩), x 7, .pointer (some ⟨q + 1, 0, none⟩), x 9, .pointer (some ⟨q + 3, 0, none⟩), x 11, .int .i64 (n : Int), x 13, sv, x 15, x 16, x 17, x 18, x 19, x 20, x 21, x 22, x 23, x 24, x 25, x 26, x 27, x 28, x 29, x 30, x 31, x 32, x 33, x 34, x 35, x 36, x 37, x 38, x 39, x 40, x 41, x 42, x 43, x 44, x 45, x 46, x 47, x 48, x 49, x 50, x 51, x 52, x 53, x 54, x 55, x 56, x 57, x 58, x 59, x 60, x 61, x 62, x 63, x 64, x 65, x 66, x 67, x 68, x 69, x 70, x 71, x 72, x 73, x 74, x 75, x 76, x 77, x 78, x 79, x 80, x 81, x 82, x 83, x 84, x 85, x 86, x 87, x 88, x 89, x 90, x 91, x 92, x 93, x 94, x 95, x 96, x 97, x 98, x 99, x 100, x 101, x 102, x 103, x 104, x 105, x 106, x 107, x 108, x 109, x 110, x 111, x 112, x 113, x 114, x 115, x 116, x 117, x 118, x 119, x 120, x 121, x 122, x 123, x 124, x 125, x 126, x 127, x 128, x 129, x 130, x 131, x 132, x 133, x 134, x 135, x 136, x 137, x 138, x 139, x 140, x 141, x 142, x 143, x 144, x 145, x 146, x 147, x 148, x 149, x 150, x 151, x 152, x 153, x 154, x 155, x 156, x 157, x 158, x 159, x 160, x 161, x 162, x 163, x 164, x 165, x 166, x 167, x 168, x 169, x 170, x 171, x 172, x 173, x 174, x 175, x 176, x 177, x 178, x 179, x 180, x 181, x 182, x 183, x 184, x 185, x 186, x 187, x 188, x 189, x 190, x 191, x 192, x 193, x 194, x 195, x 196, x 197, x 198, x 199, x 200, x 201, x 202, x 203, x 204, x 205, x 206, x 207, x 208, x 209, x 210, x 211, x 212, x 213, x 214, x 215, x 216, x 217, x 218, x 219, x 220, x 221, x 222, x 223, x 224, x 225, x 226, x 227, x 228, x 229, x 230, x 231, x 232, x 233]) → Q (.exit 2) e K)
    {z : Nat} {e : Env} {K : Heap} (hI : or2I q w n m ad1 ops1 ad2 ops2 z e K) : WLoop T (g5.body.at [1, 1, 1, 1, 1, 1, 1, 1, 1, 0, 1, 0, 0]) e K Q := by
  refine WLoop.inv (or2I q w n m ad1 ops1 ad2 ops2) ?_ _ _ _ hI
  clear hI
  rintro z e K ⟨i, t, u, D, sv, hi, rfl, hO, hA, hB, hl, hlt, hD, hDl, hS, hlK, ⟨x, rfl⟩⟩
  simp only [AFunc.body, g5, ACode.at]
  by_cases hi2 : (i : Int) < ((ops2.length : Nat) : Int)
  case neg =>
    simp (disch := omega) only [kB, kcx, kdm, kdn, kel, aop, resultsL, resultOf, Nat.reduceEqDiff, reduceCtorEq, eq1, apartOK, apart2, AObj.live, Int.reduceEq, Int.reduceLT, Int.reduceLE, Int.reduceAdd, Int.reduceSub, Int.reduceMul, Int.reduceToNat, cutCells, Nat.reduceAdd, Nat.reduceLeDiff, Nat.reduceLT, Nat.reduceMul, Nat.reduceSub, hi2]
    have e1 : i = m := by omega
    rw [e1] at hB hD hl hDl
    exact hQ _ _ _ _ _ _ hO hA hB hl hlt hD hDl hS hlK (by exact ex_env rfl)
  by_cases hi3 : (i : Int) < 1000
  case neg =>
    simp (disch := omega) only [kB, kcx, kdm, kdn, kel, aop, resultsL, resultOf, Nat.reduceEqDiff, reduceCtorEq, eq1, apartOK, apart2, AObj.live, Int.reduceEq, Int.reduceLT, Int.reduceLE, Int.reduceAdd, Int.reduceSub, Int.reduceMul, Int.reduceToNat, cutCells, Nat.reduceAdd, Nat.reduceLeDiff, Nat.reduceLT, Nat.reduceMul, Nat.reduceSub, hi2, hi3]
    have e1 : i = m := by omega
    rw [e1] at hB hD hl hDl
    exact hQ _ _ _ _ _ _ hO hA hB hl hlt hD hDl hS hlK (by exact ex_env rfl)
  have hil : i < ops2.length := by omega
  obtain ⟨bl, wr, rfl, hbl, hrow⟩ := hO.sl2 (fun q => by rw [q] at hil; simp at hil)
  have o1 := op_bits ops2 i hil
  have o2 := op_n ops2 i hil
  have o3 := op_len ops2
  have hoa := hops ops2[i] (List.getElem_mem hil)
  have hks := KS_snoc (w := w) hil
  generalize ops2[i] = o at *
  have c0 : (0 : Int) ≤ (i : Int) := by omega
  have lrow := hget_lt hrow rfl
  obtain ⟨adS, hsvS⟩ := hS.len
  have b10 := hO.b10
  have l10 := hget_lt b10 rfl
  simp (disch := omega) only [kB, kcx, kdm, kdn, kel, aop, resultsL, resultOf, Nat.reduceEqDiff, reduceCtorEq, eq1, apartOK, apart2, AObj.live, Int.reduceEq, Int.reduceLT, Int.reduceLE, Int.reduceAdd, Int.reduceSub, Int.reduceMul, Int.reduceToNat, cutCells, Nat.reduceAdd, Nat.reduceLeDiff, Nat.reduceLT, Nat.reduceMul, Nat.reduceSub, hi2, hi3, c0, hrow, o1, o2, o3, if_pos]
  obtain ⟨K1, hK1⟩ : ∃ K1, K1 = K ++ [.row [.int .u64 ((o.a / W64 : Nat) : Int), .int .u64 ((o.a % W64 : Nat) : Int), .int .i64 o.n] 0 true] := ⟨_, rfl⟩
  have hpf : hget K1 K.length = .row [.int .u64 ((o.a / W64 : Nat) : Int), .int .u64 ((o.a % W64 : Nat) : Int), .int .i64 o.n] 0 true := by rw [hK1, hget_last]
  have hO1 : OM K1 q w ad1 ops1 (some ⟨bl, 0, none⟩) ops2 t u := by rw [hK1]; exact hO.app
  have hS1 : SLs 3 (q + 4) K1 sv (D.map pfK) := by rw [hK1]; exact hS.app
  have hl1 : K1.length = K.length + 1 := by rw [hK1]; simp
  have hK1' := hK1.symm
  rw [hK1']
  have hnp : ¬ FPt (q + 2) u K.length := fun h => by have := STI.lt hO.ui h; omega
  clear hK1 hK1' hrow o1 o2 o3 hO hS b10
  have b10 := hO1.b10
  refine S.get_t hO1.ti.hd hO1.ti.lies.ta hO1.ti.ok hw hw2 hoa ?_
  obtain ⟨inn, vv, hg, hin⟩ : ∃ (inn : Bool) (vv : Value), S.getR w o.a o.n t = .tuple #[vv, .bool inn] ∧ ∀ k : Nat, o.n = k → rgt w o.a o.n = true → (inn = true ↔ (o.a, k) ∈ KS w (ops1.take n)) := by
    rw [S.getR_er]
    by_cases hr : rgt w o.a o.n = true
    · rw [if_pos hr]
      obtain ⟨k, hk, a1, a2, a3⟩ := rgt_k hw2 hr
      have hr' : rgt w o.a (k : Nat) = true := by rw [← hk]; exact hr
      obtain ⟨q1, q2⟩ := hA.at hw2 hO1.gt hr'
      rw [hk, Int.toNat_natCast]
      cases e : atP w o.a k t.er with
      | none => exact ⟨false, _, rfl, fun k2 hk2 _ => by
          obtain rfl : k = k2 := by omega
          simp [q1.1 e]⟩
      | some u2 => exact ⟨true, _, rfl, fun k2 hk2 _ => by
          obtain rfl : k = k2 := by omega
          simp [(q2 u2 e).2]⟩
    · rw [if_neg hr]
      exact ⟨false, _, rfl, fun k hk h => absurd h hr⟩
  rw [hg]
  simp (disch := omega) only [kB, kcx, kdm, kdn, kel, aop, resultsL, resultOf, Nat.reduceEqDiff, reduceCtorEq, eq1, apartOK, apart2, AObj.live, Int.reduceEq, Int.reduceLT, Int.reduceLE, Int.reduceAdd, Int.reduceSub, Int.reduceMul, Int.reduceToNat, cutCells, Nat.reduceAdd, Nat.reduceLeDiff, Nat.reduceLT, Nat.reduceMul, Nat.reduceSub, b10, hpf]
  have nextI : ∀ (K3 : Heap) (u' : Tr) (D' : List (Nat × Nat)) (sv' : Value) (e : Env), OM K3 q w ad1 ops1 (some ⟨bl, 0, none⟩) ops2 t u' → AllK w u'.er 2 (KS w (ops2.take (i + 1))) → u'.er.mem.length ≤ i + 1 → DL D' (KS w (ops1.take n)) (KS w (ops2.take (i + 1))) → D'.length ≤ i + 1 → SLs 3 (q + 4) K3 sv' (D'.map pfK) → q + 4 ≤ K3.length →
      (∃ x : Nat → Value, e = [x 0, .slice ad1 ops1.length ops1.length, .slice (some ⟨bl, 0, none⟩) ops2.length ops2.length, x 3, x 4, x 5, .pointer (some ⟨q, 0, none⟩), x 7, .pointer (some ⟨q + 1, 0, none⟩), x 9, .pointer (some ⟨q + 3, 0, none⟩), x 11, .int .i64 (n : Int), x 13, sv', .int .i64 ((i + 1 : Nat) : Int), x 16, x 17, x 18, x 19, x 20, x 21, x 22, x 23, x 24, x 25, x 26, x 27, x 28, x 29, x 30, x 31, x 32, x 33, x 34, x 35, x 36, x 37, x 38, x 39, x 40, x 41, x 42, x 43, x 44, x 45, x 46, x 47, x 48, x 49, x 50, x 51, x 52, x 53, x 54, x 55, x 56, x 57, x 58, x 59, x 60, x 61, x 62, x 63, x 64, x 65, x 66, x 67, x 68, x 69, x 70, x 71, x 72, x 73, x 74, x 75, x 76, x 77, x 78, x 79, x 80, x 81, x 82, x 83, x 84, x 85, x 86, x 87, x 88, x 89, x 90, x 91, x 92, x 93, x 94, x 95, x 96, x 97, x 98, x 99, x 100, x 101, x 102, x 103, x 104, x 105, x 106, x 107, x 108, x 109, x 110, x 111, x 112, x 113, x 114, x 115, x 116, x 117, x 118, x 119, x 120, x 121, x 122, x 123, x 124, x 125, x 126, x 127, x 128, x 129, x 130, x 131, x 132, x 133, x 134, x 135, x 136, x 137, x 138, x 139, x 140, x 141, x 142, x 143, x 144, x 145, x 146, x 147, x 148, x 149, x 150, x 151, x 152, x 153, x 154, x 155, x 156, x 157, x 158, x 159, x 160, x 161, x 162, x 163, x 164, x 165, x 166, x 167, x 168, x 169, x 170, x 171, x 172, x 173, x 174, x 175, x 176, x 177, x 178, x 179, x 180, x 181, x 182, x 183, x 184, x 185, x 186, x 187, x 188, x 189, x 190, x 191, x 192, x 193, x 194, x 195, x 196, x 197, x 198, x 199, x 200, x 201, x 202, x 203, x 204, x 205, x 206, x 207, x 208, x 209, x 210, x 211, x 212, x 213, x 214, x 215, x 216, x 217, x 218, x 219, x 220, x 221, x 222, x 223, x 224, x 225, x 226, x 227, x 228, x 229, x 230, x 231, x 232, x 233]) →
      ∃ m1, m1 < m - i ∧ or2I q w n m ad1 ops1 (some ⟨bl, 0, none⟩) ops2 m1 e K3 := fun K3 u' D' sv' e p1 p2 p3 p4 p5 p6 p7 p8 => ⟨m - (i + 1), by omega, i + 1, t, u', D', sv', by omega, rfl, p1, hA, p2, p3, hlt, p4, p5, p6, p7, p8⟩
  refine S.put_t (v := 2) hO1.ui hw hw2 hoa (by omega) (fun hr g => ?_) (fun hr hat g => ?_) (fun hr hat hf => by omega) (fun hr hat _ u' K2 hlen2 hfr hti hown her => ?_)
  · simp (disch := omega) only [kB, kcx, kdm, kdn, kel, aop, resultsL, resultOf, Nat.reduceEqDiff, reduceCtorEq, eq1, apartOK, apart2, AObj.live, Int.reduceEq, Int.reduceLT, Int.reduceLE, Int.reduceAdd, Int.reduceSub, Int.reduceMul, Int.reduceToNat, cutCells, Nat.reduceAdd, Nat.reduceLeDiff, Nat.reduceLT, Nat.reduceMul, Nat.reduceSub, wr_i64, nadd1]
    exact nextI _ u D sv _ hO1.app (by rw [hks, key_none hr]; simpa using hB) (by omega) (by rw [hks, key_none hr]; simpa using hD) (by omega) hS1.app (by simp; omega) (ex_env rfl)
  · obtain ⟨k, hk, a1, a2, a3⟩ := rgt_k hw2 hr
    have hr' : rgt w o.a (k : Nat) = true := by rw [← hk]; exact hr
    have hin2 : (o.a, k) ∈ KS w (ops2.take i) := by
      rw [hk, Int.toNat_natCast] at hat
      cases e : atP w o.a k u.er with
      | none => exact absurd (atV_none.2 e) hat
      | some u2 => exact ((hB.at hw2 hO1.gu hr').2 u2 e).2
    simp (disch := omega) only [kB, kcx, kdm, kdn, kel, aop, resultsL, resultOf, Nat.reduceEqDiff, reduceCtorEq, eq1, apartOK, apart2, AObj.live, Int.reduceEq, Int.reduceLT, Int.reduceLE, Int.reduceAdd, Int.reduceSub, Int.reduceMul, Int.reduceToNat, cutCells, Nat.reduceAdd, Nat.reduceLeDiff, Nat.reduceLT, Nat.reduceMul, Nat.reduceSub, wr_i64, nadd1]
    exact nextI _ u D sv _ hO1.app (by rw [hks, key_some hr hk]; exact hB.old hin2) (by omega) (by rw [hks, key_some hr hk]; exact hD.stay (.inl hin2)) (by omega) hS1.app (by simp; omega) (ex_env rfl)
  · obtain ⟨k, hk, a1, a2, a3⟩ := rgt_k hw2 hr
    have hr' : rgt w o.a (k : Nat) = true := by rw [← hk]; exact hr
    rw [hk, Int.toNat_natCast] at hat her
    obtain ⟨w1, w2, w3⟩ := good_with (v := 2) hw2 hO1.gu hr' (atV_none.1 hat)
    have hnot : (o.a, k) ∉ KS w (ops2.take i) := (hB.at hw2 hO1.gu hr').1.1 (atV_none.1 hat)
    rw [← her] at w1 w2 w3
    have hf2 : ∀ c, c < K1.length → ¬ FPt (q + 2) u c → hget K2 c = hget K1 c := fun c hc hnf => hfr c hc (fun e => hnf (.inl e)) (fun e => hnf (.inr e))
    have hO2 : OM K2 q w ad1 ops1 (some ⟨bl, 0, none⟩) ops2 t u' := hO1.stepU hf2 (by rw [w2]; simpa using hti) w1 hown
    have hS2 : SLs 3 (q + 4) K2 sv (D.map pfK) := hS1.same fun c hc => hf2 c (hS1.lt hc).1 (STI.nosl hO1.ui hS1 hc)
    have hpf2 : hget K2 K.length = .row [.int .u64 ((o.a / W64 : Nat) : Int), .int .u64 ((o.a % W64 : Nat) : Int), .int .i64 o.n] 0 true := by rw [hf2 _ (by omega) hnp]; exact hpf
    have hks2 : KS w (ops2.take (i + 1)) = KS w (ops2.take i) ++ [(o.a, k)] := by rw [hks, key_some hr hk]; rfl
    have hin' := hin k hk hr
    cases inn with
    | true =>
      simp (disch := omega) only [kB, kcx, kdm, kdn, kel, aop, resultsL, resultOf, Nat.reduceEqDiff, reduceCtorEq, eq1, apartOK, apart2, AObj.live, Int.reduceEq, Int.reduceLT, Int.reduceLE, Int.reduceAdd, Int.reduceSub, Int.reduceMul, Int.reduceToNat, cutCells, Nat.reduceAdd, Nat.reduceLeDiff, Nat.reduceLT, Nat.reduceMul, Nat.reduceSub, wr_i64, nadd1]
      exact nextI _ u' D sv _ hO2 (by rw [hks2]; exact hB.with w3) (by omega) (by rw [hks2]; exact hD.stay (.inr (hin'.1 rfl))) (by omega) hS2 (by omega) (ex_env rfl)
    | false =>
      have hno : (o.a, k) ∉ KS w (ops1.take n) := fun h => by have := hin'.2 h; cases this
      obtain ⟨sv3, K3, s1, s2, s3, s4, s5⟩ := app_sl (u := 3) (n0 := q + 4) (bytes := 24) (K := K2 ++ [.row (pfM (o.a, k, 0)) 3 true]) (bx := K2.length) (xs := pfM (o.a, k, 0)) (u2 := 3) (w2 := true) hS2.app (by simp; omega) (by rw [hget_last]) rfl rfl (by simp only [roomMax, List.length_map]; omega)
      simp only [pfM] at s1
      rw [hk] at hpf2
      simp (disch := omega) only [kB, kcx, kdm, kdn, kel, aop, resultsL, resultOf, Nat.reduceEqDiff, reduceCtorEq, eq1, apartOK, apart2, AObj.live, Int.reduceEq, Int.reduceLT, Int.reduceLE, Int.reduceAdd, Int.reduceSub, Int.reduceMul, Int.reduceToNat, cutCells, Nat.reduceAdd, Nat.reduceLeDiff, Nat.reduceLT, Nat.reduceMul, Nat.reduceSub, hpf2, s1, wr_i64, nadd1]
      have hO3 : OM K3 q w ad1 ops1 (some ⟨bl, 0, none⟩) ops2 t u' := by
        have l8 := hget_lt hO2.b10 rfl
        have hfr3 : ∀ c, c < K2.length → blk sv ≠ some c → hget K3 c = hget K2 c := fun c hc hb => by rw [s5 c (by simp; omega) hb, hget_old hc]
        have hlow : ∀ c, c < q + 4 → hget K3 c = hget K2 c := fun c hc => hfr3 c (by omega) fun e => by have := (hS2.lt e).2; omega
        obtain ⟨g1, g2, g3, g4, g5, g6, g7, g8, g9, g10, g11⟩ := hO2
        exact ⟨g1.same fun c hc => hfr3 c (STI.lt g1 hc) fun e => STI.nosl g1 hS2 e hc, g2.same fun c hc => hfr3 c (STI.lt g2 hc) fun e => STI.nosl g2 hS2 e hc, g3, g4, g5, g6, g7, by rw [hlow _ (by omega)]; exact g8, by rw [hlow _ (by omega)]; exact g9, g10.same fun c hc => hlow c (by omega), g11.same fun c hc => hlow c (by omega)⟩
      refine nextI _ u' (D ++ [(o.a, k)]) sv3 _ hO3 (by rw [hks2]; exact hB.with w3) (by omega) (by rw [hks2]; exact hD.more hnot hno) (by simp; omega) ?_ (by rw [s3]; simp; omega) (ex_env rfl)
      rw [List.map_append]
      exact s2

end Go.Proofs.Yticgkaanaimllaa.Ev

/- The law TrieOrders: the third and the fourth loop. -/
namespace Go.Proofs.Yticgkaanaimllaa.Ev
set_option maxRecDepth 100000
set_option linter.unusedSimpArgs false
set_option linter.unusedVariables false
variable {R : FRes → Heap → Prop} {H : Heap}

/-- What is kept: one thing under these, another under those others. -/
def Two (t : PT) (k1 : List (Nat × Nat)) (P : Nat × Nat → Prop) : Prop := ∀ x : Mem, x ∈ t.mem ↔ (x.2.2 = 1 ∧ (x.1, x.2.1) ∈ k1) ∨ (x.2.2 = 2 ∧ (x.1, x.2.1) ∉ k1 ∧ P (x.1, x.2.1))

theorem Two.with {a k : Nat} {t t2 : PT} {k1 : List (Nat × Nat)} {P : Nat × Nat → Prop} (h : Two t k1 P) (hno : ∀ v, (a, k, v) ∉ t.mem) (hx : ∀ x, x ∈ t2.mem ↔ x = (a, k, 1) ∨ x ∈ t.mem) : Two t2 ((a, k) :: k1) P := fun x => by
  have h1 : (a, k) ∉ k1 := fun e => hno 1 ((h (a, k, 1)).2 (.inl ⟨rfl, e⟩))
  have h2 : ¬ P (a, k) := fun e => hno 2 ((h (a, k, 2)).2 (.inr ⟨rfl, h1, e⟩))
  rw [hx x, h x]
  obtain ⟨c, n, u⟩ := x
  simp only [Prod.mk.injEq, List.mem_cons, not_or]
  constructor
  · rintro (⟨rfl, rfl, rfl⟩ | ⟨q1, q2⟩ | ⟨q1, q2, q3⟩)
    · exact .inl ⟨rfl, .inl ⟨rfl, rfl⟩⟩
    · exact .inl ⟨q1, .inr q2⟩
    · refine .inr ⟨q1, ⟨fun e => ?_, q2⟩, q3⟩
      obtain ⟨rfl, rfl⟩ := e
      exact h2 q3
  · rintro (⟨q1, ⟨rfl, rfl⟩ | q2⟩ | ⟨q1, ⟨q2, q3⟩, q4⟩)
    · exact .inl ⟨rfl, rfl, q1⟩
    · exact .inr (.inl ⟨q1, q2⟩)
    · exact .inr (.inr ⟨q1, q3, q4⟩)
theorem Two.set {a k : Nat} {t t2 : PT} {k1 : List (Nat × Nat)} {P : Nat × Nat → Prop} (h : Two t k1 P) (hx : ∀ x : Mem, x ∈ t2.mem ↔ x = (a, k, 1) ∨ (x ∈ t.mem ∧ (x.1, x.2.1) ≠ (a, k))) : Two t2 ((a, k) :: k1) P := fun x => by
  rw [hx x, h x]
  obtain ⟨c, n, u⟩ := x
  simp only [Prod.mk.injEq, List.mem_cons, not_or, ne_eq]
  constructor
  · rintro (⟨rfl, rfl, rfl⟩ | ⟨⟨q1, q2⟩ | ⟨q1, q2, q3⟩, q4⟩)
    · exact .inl ⟨rfl, .inl ⟨rfl, rfl⟩⟩
    · exact .inl ⟨q1, .inr q2⟩
    · exact .inr ⟨q1, ⟨q4, q2⟩, q3⟩
  · rintro (⟨q1, ⟨rfl, rfl⟩ | q2⟩ | ⟨q1, ⟨q2, q3⟩, q4⟩)
    · exact .inl ⟨rfl, rfl, q1⟩
    · by_cases e : c = a ∧ n = k
      · exact .inl ⟨e.1, e.2, q1⟩
      · exact .inr ⟨.inl ⟨q1, q2⟩, e⟩
    · exact .inr ⟨.inr ⟨q1, q3, q4⟩, q2⟩

def or3I (q w n : Nat) (ad1 : Option Addr) (ops1 : List Opr) (ad2 : Option Addr) (ops2 : List Opr) (t : Tr) (m : Nat) (D : List (Nat × Nat)) (sv : Value) : Nat → Env → Heap → Prop := fun z e K =>
  ∃ (j : Nat) (u : Tr), j ≤ n ∧ z = j ∧ OM K q w ad1 ops1 ad2 ops2 t u ∧ Two u.er (KS w ((ops1.take n).drop j)) (fun x => x ∈ KS w (ops2.take m)) ∧ u.er.mem.length ≤ m + (n - j) ∧ SLs 3 (q + 4) K sv (D.map pfK) ∧
    (∃ x : Nat → Value, e = [x 0, .slice ad1 ops1.length ops1.length, x 2, x 3, x 4, x 5, .pointer (some ⟨q, 0, none⟩), x 7, .pointer (some ⟨q + 1, 0, none⟩), x 9, .pointer (some ⟨q + 3, 0, none⟩), x 11, x 12, x 13, sv, x 15, x 16, x 17, x 18, x 19, .int .i64 ((j : Int) - 1), x 21, x 22, x 23, x 24, x 25, x 26, x 27, x 28, x 29, x 30, x 31, x 32, x 33, x 34, x 35, x 36, x 37, x 38, x 39, x 40, x 41, x 42, x 43, x 44, x 45, x 46, x 47, x 48, x 49, x 50, x 51, x 52, x 53, x 54, x 55, x 56, x 57, x 58, x 59, x 60, x 61, x 62, x 63, x 64, x 65, x 66, x 67, x 68, x 69, x 70, x 71, x 72, x 73, x 74, x 75, x 76, x 77, x 78, x 79, x 80, x 81, x 82, x 83, x 84, x 85, x 86, x 87, x 88, x 89, x 90, x 91, x 92, x 93, x 94, x 95, x 96, x 97, x 98, x 99, x 100, x 101, x 102, x 103, x 104, x 105, x 106, x 107, x 108, x 109, x 110, x 111, x 112, x 113, x 114, x 115, x 116, x 117, x 118, x 119, x 120, x 121, x 122, x 123, x 124, x 125, x 126, x 127, x 128, x 129, x 130, x 131, x 132, x 133, x 134, x 135, x 136, x 137, x 138, x 139, x 140, x 141, x 142, x 143, x 144, x 145, x 146, x 147, x 148, x 149, x 150, x 151, x 152, x 153, x 154, x 155, x 156, x 157, x 158, x 159, x 160, x 161, x 162, x 163, x 164, x 165, x 166, x 167, x 168, x 169, x 170, x 171, x 172, x 173, x 174, x 175, x 176, x 177, x 178, x 179, x 180, x 181, x 182, x 183, x 184, x 185, x 186, x 187, x 188, x 189, x 190, x 191, x 192, x 193, x 194, x 195, x 196, x 197, x 198, x 199, x 200, x 201, x 202, x 203, x 204, x 205, x 206, x 207, x 208, x 209, x 210, x 211, x 212, x 213, x 214, x 215, x 216, x 217, x 218, x 219, x 220, x 221, x 222, x 223, x 224, x 225, x 226, x 227, x 228, x 229, x 230, x 231, x 232, x 233])

set_option maxHeartbeats 1000000 in
theorem or3_loop {q w n m : Nat} {ad1 ad2 : Option Addr} {ops1 ops2 : List Opr} {t : Tr} {D : List (Nat × Nat)} {sv : Value} (hw : 1 ≤ w) (hw2 : w ≤ 128) (hops : ∀ o ∈ ops1, o.a < 2 ^ 128) (hn : n ≤ 1000) (hn2 : n ≤ ops1.length) (hm : m ≤ 1000) {Q : Post}
    (hQ : ∀ e K u, OM K q w ad1 ops1 ad2 ops2 t u → Two u.er (KS w (ops1.take n)) (fun x => x ∈ KS w (ops2.take m)) → u.er.mem.length ≤ 2000 → SLs 3 (q + 4) K sv (D.map pfK) →
      (∃ x : Nat → Value, e = [x 0, x 1, x 2, x 3, x 4, x 5, .pointer (some ⟨q, 0, none⟩), x 7, .pointer (some ⟨q + 1, 0, none⟩), x 9, .pointer (some ⟨q + 3, 0, none⟩), x 11, x 12, x 13, sv, x 15, x 16, x 17, x 18, x 19, x 20, x 21, x 22, x 23, x 24, x 25, x 26, x 27, x 28, x 29, x 30, x 31, x 32, x 33, x 34, x 35, x 36, x 37, x 38, x 39, x 40, x 41, x 42, x 43, x 44, x 45, x 46, x 47, x 48, x 49, x 50, x 51, x 52, x 53, x 54, x 55, x 56, x 57, x 58, x 59, x 60, x 61, x 62, x 63, x 64, x 65, x 66, x 67, x 68, x 69, x 70, x 71, x 72, x 73, x 74, x 75, x 76, x 77, x 78, x 79, x 80, x 81, x 82, x 83, x 84, x 85, x 86, x 87, x 88, x 89, x 90, x 91, x 92, x 93, x 94, x 95, x 96, x 97, x 98, x 99, x 100, x 101, x 102, x 103, x 104, x 105, x 106, x 107, x 108, x 109, x 110, x 111, x 112, x 113, x 114, x 115, x 116, x 117, x 118, x 119, x 120, x 121, x 122, x 123, x 124, x 125, x 126, x 127, x 128, x 129, x 130, x 131, x 132, x 133, x 134, x 135, x 136, x 137, x 138, x 139, x 140, x 141, x 142, x 143, x 144, x 145, x 146, x 147, x 148, x 149, x 150, x 151, x 152, x 153, x 154, x 155, x 156, x 157, x 158, x 159, x 160, x 161, x 162, x 163, x 164, x 165, x 166, x 167, x 168, x 169, x 170, x 171, x 172, x 173, x 174, x 175, x 176, x 177, x 178, x 179, x 180, x 181, x 182, x 183, x 184, x 185, x 186, x 187, x 188, x 189, x 190, x 191, x 192, x 193, x 194, x 195, x 196, x 197, x 198, x 199, x 200, x 201, x 202, x 203, x 204, x 205, x 206, x 207, x 208, x 209, x 210, x 211, x 212, x 213, x 214, x 215, x 216, x 217, x 218, x 219, x 220, x 221, x 222, x 223, x 224, x 225, x 226, x 227, x 228, x 229, x 230, x 231, x 232, x 233]) → Q (.exit 4) e K)
    {z : Nat} {e : Env} {K : Heap} (hI : or3I q w n ad1 ops1 ad2 ops2 t m D sv z e K) : WLoop T (g5.body.at [1, 1, 1, 1, 1, 1, 1, 1, 1, 1, 0, 1, 0, 0]) e K Q := by
  refine WLoop.inv (or3I q w n ad1 ops1 ad2 ops2 t m D sv) ?_ _ _ _ hI
  clear hI
  rintro j e K ⟨_, u, hj, rfl, hO, hB, hl, hS, ⟨x, rfl⟩⟩
  simp only [AFunc.body, g5, ACode.at]
  by_cases hj0 : (0 : Int) ≤ (j : Int) - 1
  case neg =>
    have e0 : j = 0 := by omega
    subst e0
    rw [List.drop_zero] at hB
    simp (disch := omega) only [kB, kcx, kdm, kdn, kel, aop, resultsL, resultOf, Nat.reduceEqDiff, reduceCtorEq, eq1, apartOK, apart2, AObj.live, Int.reduceEq, Int.reduceLT, Int.reduceLE, Int.reduceAdd, Int.reduceSub, Int.reduceMul, Int.reduceToNat, cutCells, Nat.reduceAdd, Nat.reduceLeDiff, Nat.reduceLT, Nat.reduceMul, Nat.reduceSub, hj0]
    exact hQ _ _ _ hO hB (by omega) hS (by exact ex_env rfl)
  have hjn : j - 1 < n := by omega
  have hil : j - 1 < ops1.length := by omega
  obtain ⟨bl, wr, rfl, hbl, hrow⟩ := hO.sl1 (fun q => by rw [q] at hil; simp at hil)
  have o1 := op_bits ops1 (j - 1) hil
  have o2 := op_n ops1 (j - 1) hil
  have o3 := op_len ops1
  have hoa := hops ops1[j - 1] (List.getElem_mem hil)
  have hks : KS w ((ops1.take n).drop (j - 1)) = (keyO w ops1[j - 1]).toList ++ KS w ((ops1.take n).drop j) := by
    have hlt : j - 1 < (ops1.take n).length := by rw [List.length_take]; omega
    rw [List.drop_eq_getElem_cons hlt, show j - 1 + 1 = j by omega, List.getElem_take]
    unfold KS
    rw [List.filterMap_cons]
    cases keyO w ops1[j - 1] <;> rfl
  generalize ops1[j - 1] = o at *
  have e1 : (j : Int) - 1 = ((j - 1 : Nat) : Int) := by omega
  have c0 : (0 : Int) ≤ ((j - 1 : Nat) : Int) := by omega
  have c1 : ((j - 1 : Nat) : Int) < ((ops1.length : Nat) : Int) := by omega
  have lrow := hget_lt hrow rfl
  have b10 := hO.b10
  have l10 := hget_lt b10 rfl
  rw [e1]
  simp (disch := omega) only [kB, kcx, kdm, kdn, kel, aop, resultsL, resultOf, Nat.reduceEqDiff, reduceCtorEq, eq1, apartOK, apart2, AObj.live, Int.reduceEq, Int.reduceLT, Int.reduceLE, Int.reduceAdd, Int.reduceSub, Int.reduceMul, Int.reduceToNat, cutCells, Nat.reduceAdd, Nat.reduceLeDiff, Nat.reduceLT, Nat.reduceMul, Nat.reduceSub, c0, c1, hrow, o1, o2, o3, if_pos, hil, b10]
  obtain ⟨K1, hK1⟩ : ∃ K1, K1 = K ++ [.row [.int .u64 ((o.a / W64 : Nat) : Int), .int .u64 ((o.a % W64 : Nat) : Int), .int .i64 o.n] 0 true] := ⟨_, rfl⟩
  have hpf : hget K1 K.length = .row [.int .u64 ((o.a / W64 : Nat) : Int), .int .u64 ((o.a % W64 : Nat) : Int), .int .i64 o.n] 0 true := by rw [hK1, hget_last]
  have hO1 : OM K1 q w (some ⟨bl, 0, none⟩) ops1 ad2 ops2 t u := by rw [hK1]; exact hO.app
  have hS1 : SLs 3 (q + 4) K1 sv (D.map pfK) := by rw [hK1]; exact hS.app
  have hl1 : K1.length = K.length + 1 := by rw [hK1]; simp
  have hK1' := hK1.symm
  rw [hK1']
  clear hK1 hK1' hrow o1 o2 o3 hO hS b10
  have b10 := hO1.b10
  have nextI : ∀ (K3 : Heap) (u' : Tr) (e : Env), OM K3 q w (some ⟨bl, 0, none⟩) ops1 ad2 ops2 t u' → Two u'.er (KS w ((ops1.take n).drop (j - 1))) (fun x => x ∈ KS w (ops2.take m)) → u'.er.mem.length ≤ m + (n - (j - 1)) → SLs 3 (q + 4) K3 sv (D.map pfK) →
      (∃ x : Nat → Value, e = [x 0, .slice (some ⟨bl, 0, none⟩) ops1.length ops1.length, x 2, x 3, x 4, x 5, .pointer (some ⟨q, 0, none⟩), x 7, .pointer (some ⟨q + 1, 0, none⟩), x 9, .pointer (some ⟨q + 3, 0, none⟩), x 11, x 12, x 13, sv, x 15, x 16, x 17, x 18, x 19, .int .i64 (((j - 1 : Nat) : Int) - 1), x 21, x 22, x 23, x 24, x 25, x 26, x 27, x 28, x 29, x 30, x 31, x 32, x 33, x 34, x 35, x 36, x 37, x 38, x 39, x 40, x 41, x 42, x 43, x 44, x 45, x 46, x 47, x 48, x 49, x 50, x 51, x 52, x 53, x 54, x 55, x 56, x 57, x 58, x 59, x 60, x 61, x 62, x 63, x 64, x 65, x 66, x 67, x 68, x 69, x 70, x 71, x 72, x 73, x 74, x 75, x 76, x 77, x 78, x 79, x 80, x 81, x 82, x 83, x 84, x 85, x 86, x 87, x 88, x 89, x 90, x 91, x 92, x 93, x 94, x 95, x 96, x 97, x 98, x 99, x 100, x 101, x 102, x 103, x 104, x 105, x 106, x 107, x 108, x 109, x 110, x 111, x 112, x 113, x 114, x 115, x 116, x 117, x 118, x 119, x 120, x 121, x 122, x 123, x 124, x 125, x 126, x 127, x 128, x 129, x 130, x 131, x 132, x 133, x 134, x 135, x 136, x 137, x 138, x 139, x 140, x 141, x 142, x 143, x 144, x 145, x 146, x 147, x 148, x 149, x 150, x 151, x 152, x 153, x 154, x 155, x 156, x 157, x 158, x 159, x 160, x 161, x 162, x 163, x 164, x 165, x 166, x 167, x 168, x 169, x 170, x 171, x 172, x 173, x 174, x 175, x 176, x 177, x 178, x 179, x 180, x 181, x 182, x 183, x 184, x 185, x 186, x 187, x 188, x 189, x 190, x 191, x 192, x 193, x 194, x 195, x 196, x 197, x 198, x 199, x 200, x 201, x 202, x 203, x 204, x 205, x 206, x 207, x 208, x 209, x 210, x 211, x 212, x 213, x 214, x 215, x 216, x 217, x 218, x 219, x 220, x 221, x 222, x 223, x 224, x 225, x 226, x 227, x 228, x 229, x 230, x 231, x 232, x 233]) →
      ∃ m1, m1 < j ∧ or3I q w n (some ⟨bl, 0, none⟩) ops1 ad2 ops2 t m D sv m1 e K3 := fun K3 u' e p1 p2 p3 p4 p5 => ⟨j - 1, by omega, j - 1, u', by omega, rfl, p1, p2, p3, p4, p5⟩
  refine S.put_t (v := 1) hO1.ui hw hw2 hoa (by omega) (fun hr g => ?_) (fun hr hat g => ?_) (fun hr hat hf => by omega) (fun hr hat _ u' K2 hlen2 hfr hti hown her => ?_)
  · simp (disch := omega) only [kB, kcx, kdm, kdn, kel, aop, resultsL, resultOf, Nat.reduceEqDiff, reduceCtorEq, eq1, apartOK, apart2, AObj.live, Int.reduceEq, Int.reduceLT, Int.reduceLE, Int.reduceAdd, Int.reduceSub, Int.reduceMul, Int.reduceToNat, cutCells, Nat.reduceAdd, Nat.reduceLeDiff, Nat.reduceLT, Nat.reduceMul, Nat.reduceSub, wr_i64]
    exact nextI _ u _ hO1.app (by rw [hks, key_none hr]; simpa using hB) (by omega) hS1.app (ex_env rfl)
  · obtain ⟨k, hk, a1, a2, a3⟩ := rgt_k hw2 hr
    have hr' : rgt w o.a (k : Nat) = true := by rw [← hk]; exact hr
    rw [hk, Int.toNat_natCast] at hat
    obtain ⟨v0, hv0⟩ : ∃ v0, atP w o.a k u.er = some v0 := by
      cases e : atP w o.a k u.er with
      | none => exact absurd (atV_none.2 e) hat
      | some u2 => exact ⟨u2, rfl⟩
    have hpf1 := hpf
    have hO1' := hO1.app (G := g)
    have b10' := hO1'.b10
    have hpf' : hget (K1 ++ g) K.length = .row [.int .u64 ((o.a / W64 : Nat) : Int), .int .u64 ((o.a % W64 : Nat) : Int), .int .i64 o.n] 0 true := by rw [hget_old (by omega)]; exact hpf
    simp (disch := omega) only [kB, kcx, kdm, kdn, kel, aop, resultsL, resultOf, Nat.reduceEqDiff, reduceCtorEq, eq1, apartOK, apart2, AObj.live, Int.reduceEq, Int.reduceLT, Int.reduceLE, Int.reduceAdd, Int.reduceSub, Int.reduceMul, Int.reduceToNat, cutCells, Nat.reduceAdd, Nat.reduceLeDiff, Nat.reduceLT, Nat.reduceMul, Nat.reduceSub, b10, hpf]
    refine S.set_t (v := 1) hO1'.ui hw hw2 hoa hO1.gu.pw (fun hr2 => by rw [hr] at hr2; cases hr2) (fun _ hat2 => by rw [hk, Int.toNat_natCast, hv0] at hat2; cases hat2) (fun k2 v2 hk2 hr2 hm2 K2 hlen2 hfr hti => ?_)
    obtain rfl : k = k2 := by omega
    obtain ⟨w1, w2, w3⟩ := good_set (v := 1) hw2 hO1.gu hm2
    rw [← set_er] at w1 w2 w3
    have hf2 : ∀ c, c < (K1 ++ g).length → ¬ FPt (q + 2) u c → hget K2 c = hget (K1 ++ g) c := fun c hc hnf => hfr c hc (fun e => hnf (.inr e))
    have hO2 : OM K2 q w (some ⟨bl, 0, none⟩) ops1 ad2 ops2 t (setT w o.a k 1 u) := hO1'.stepU hf2 (by rw [w2]; exact hti) w1 (fun c hc => by rw [set_blocks] at hc; exact .inl hc)
    simp (disch := omega) only [kB, kcx, kdm, kdn, kel, aop, resultsL, resultOf, Nat.reduceEqDiff, reduceCtorEq, eq1, apartOK, apart2, AObj.live, Int.reduceEq, Int.reduceLT, Int.reduceLE, Int.reduceAdd, Int.reduceSub, Int.reduceMul, Int.reduceToNat, cutCells, Nat.reduceAdd, Nat.reduceLeDiff, Nat.reduceLT, Nat.reduceMul, Nat.reduceSub, wr_i64]
    exact nextI _ _ _ hO2 (by rw [hks, key_some hr hk]; exact hB.set w3) (by omega) ((hS1.app (G := g)).same fun c hc => hf2 c ((hS1.app (G := g)).lt hc).1 (STI.nosl hO1'.ui (hS1.app (G := g)) hc)) (ex_env rfl)
  · obtain ⟨k, hk, a1, a2, a3⟩ := rgt_k hw2 hr
    have hr' : rgt w o.a (k : Nat) = true := by rw [← hk]; exact hr
    rw [hk, Int.toNat_natCast] at hat her
    have hat' := atV_none.1 hat
    obtain ⟨w1, w2, w3⟩ := good_with (v := 1) hw2 hO1.gu hr' hat'
    rw [← her] at w1 w2 w3
    have hno : ∀ v, (o.a, k, v) ∉ u.er.mem := fun v hv => by
      rw [(at_mem a1 a2 hO1.gu.pw).2 hv] at hat'
      cases hat'
    have hf2 : ∀ c, c < K1.length → ¬ FPt (q + 2) u c → hget K2 c = hget K1 c := fun c hc hnf => hfr c hc (fun e => hnf (.inl e)) (fun e => hnf (.inr e))
    have hO2 : OM K2 q w (some ⟨bl, 0, none⟩) ops1 ad2 ops2 t u' := hO1.stepU hf2 (by rw [w2]; simpa using hti) w1 hown
    simp (disch := omega) only [kB, kcx, kdm, kdn, kel, aop, resultsL, resultOf, Nat.reduceEqDiff, reduceCtorEq, eq1, apartOK, apart2, AObj.live, Int.reduceEq, Int.reduceLT, Int.reduceLE, Int.reduceAdd, Int.reduceSub, Int.reduceMul, Int.reduceToNat, cutCells, Nat.reduceAdd, Nat.reduceLeDiff, Nat.reduceLT, Nat.reduceMul, Nat.reduceSub, wr_i64]
    exact nextI _ u' _ hO2 (by rw [hks, key_some hr hk]; exact hB.with hno w3) (by omega) (hS1.same fun c hc => hf2 c (hS1.lt hc).1 (STI.nosl hO1.ui hS1 hc)) (ex_env rfl)

def or4I (q w : Nat) (ad1 : Option Addr) (ops1 : List Opr) (ad2 : Option Addr) (ops2 : List Opr) (t : Tr) (k1 k2 D : List (Nat × Nat)) (sv : Value) : Nat → Env → Heap → Prop := fun z e K =>
  ∃ (j : Nat) (u : Tr), j ≤ D.length ∧ z = D.length - j ∧ OM K q w ad1 ops1 ad2 ops2 t u ∧ Two u.er k1 (fun x => x ∈ k2 ∧ x ∉ D.take j) ∧ u.er.mem.length ≤ 2000 ∧ SLs 3 (q + 4) K sv (D.map pfK) ∧
    (∃ x : Nat → Value, e = [x 0, x 1, x 2, x 3, x 4, x 5, .pointer (some ⟨q, 0, none⟩), x 7, .pointer (some ⟨q + 1, 0, none⟩), x 9, .pointer (some ⟨q + 3, 0, none⟩), x 11, x 12, x 13, sv, x 15, x 16, x 17, x 18, x 19, x 20, x 21, x 22, x 23, .int .i64 (j : Int), x 25, x 26, x 27, x 28, x 29, x 30, x 31, x 32, x 33, x 34, x 35, x 36, x 37, x 38, x 39, x 40, x 41, x 42, x 43, x 44, x 45, x 46, x 47, x 48, x 49, x 50, x 51, x 52, x 53, x 54, x 55, x 56, x 57, x 58, x 59, x 60, x 61, x 62, x 63, x 64, x 65, x 66, x 67, x 68, x 69, x 70, x 71, x 72, x 73, x 74, x 75, x 76, x 77, x 78, x 79, x 80, x 81, x 82, x 83, x 84, x 85, x 86, x 87, x 88, x 89, x 90, x 91, x 92, x 93, x 94, x 95, x 96, x 97, x 98, x 99, x 100, x 101, x 102, x 103, x 104, x 105, x 106, x 107, x 108, x 109, x 110, x 111, x 112, x 113, x 114, x 115, x 116, x 117, x 118, x 119, x 120, x 121, x 122, x 123, x 124, x 125, x 126, x 127, x 128, x 129, x 130, x 131, x 132, x 133, x 134, x 135, x 136, x 137, x 138, x 139, x 140, x 141, x 142, x 143, x 144, x 145, x 146, x 147, x 148, x 149, x 150, x 151, x 152, x 153, x 154, x 155, x 156, x 157, x 158, x 159, x 160, x 161, x 162, x 163, x 164, x 165, x 166, x 167, x 168, x 169, x 170, x 171, x 172, x 173, x 174, x 175, x 176, x 177, x 178, x 179, x 180, x 181, x 182, x 183, x 184, x 185, x 186, x 187, x 188, x 189, x 190, x 191, x 192, x 193, x 194, x 195, x 196, x 197, x 198, x 199, x 200, x 201, x 202, x 203, x 204, x 205, x 206, x 207, x 208, x 209, x 210, x 211, x 212, x 213, x 214, x 215, x 216, x 217, x 218, x 219, x 220, x 221, x 222, x 223, x 224, x 225, x 226, x 227, x 228, x 229, x 230, x 231, x 232, x 233])

set_option maxHeartbeats 1000000 in
theorem or4_loop {q w : Nat} {ad1 ad2 : Option Addr} {ops1 ops2 : List Opr} {t : Tr} {k1 k2 D : List (Nat × Nat)} {sv : Value} (hw : 1 ≤ w) (hw2 : w ≤ 128) (hD : DL D k1 k2) (hDl : D.length ≤ 1000) (hrg : ∀ x ∈ k2, rgt w x.1 (x.2 : Nat) = true) {Q : Post}
    (hQ : ∀ e K u, OM K q w ad1 ops1 ad2 ops2 t u → Two u.er k1 (fun x => x ∈ k2 ∧ x ∉ D) →
      (∃ x : Nat → Value, e = [x 0, x 1, x 2, x 3, x 4, x 5, .pointer (some ⟨q, 0, none⟩), x 7, .pointer (some ⟨q + 1, 0, none⟩), x 9, .pointer (some ⟨q + 3, 0, none⟩), x 11, x 12, x 13, x 14, x 15, x 16, x 17, x 18, x 19, x 20, x 21, x 22, x 23, x 24, x 25, x 26, x 27, x 28, x 29, x 30, x 31, x 32, x 33, x 34, x 35, x 36, x 37, x 38, x 39, x 40, x 41, x 42, x 43, x 44, x 45, x 46, x 47, x 48, x 49, x 50, x 51, x 52, x 53, x 54, x 55, x 56, x 57, x 58, x 59, x 60, x 61, x 62, x 63, x 64, x 65, x 66, x 67, x 68, x 69, x 70, x 71, x 72, x 73, x 74, x 75, x 76, x 77, x 78, x 79, x 80, x 81, x 82, x 83, x 84, x 85, x 86, x 87, x 88, x 89, x 90, x 91, x 92, x 93, x 94, x 95, x 96, x 97, x 98, x 99, x 100, x 101, x 102, x 103, x 104, x 105, x 106, x 107, x 108, x 109, x 110, x 111, x 112, x 113, x 114, x 115, x 116, x 117, x 118, x 119, x 120, x 121, x 122, x 123, x 124, x 125, x 126, x 127, x 128, x 129, x 130, x 131, x 132, x 133, x 134, x 135, x 136, x 137, x 138, x 139, x 140, x 141, x 142, x 143, x 144, x 145, x 146, x 147, x 148, x 149, x 150, x 151, x 152, x 153, x 154, x 155, x 156, x 157, x 158, x 159, x 160, x 161, x 162, x 163, x 164, x 165, x 166, x 167, x 168, x 169, x 170, x 171, x 172, x 173, x 174, x 175, x 176, x 177, x 178, x 179, x 180, x 181, x 182, x 183, x 184, x 185, x 186, x 187, x 188, x 189, x 190, x 191, x 192, x 193, x 194, x 195, x 196, x 197, x 198, x 199, x 200, x 201, x 202, x 203, x 204, x 205, x 206, x 207, x 208, x 209, x 210, x 211, x 212, x 213, x 214, x 215, x 216, x 217, x 218, x 219, x 220, x 221, x 222, x 223, x 224, x 225, x 226, x 227, x 228, x 229, x 230, x 231, x 232, x 233]) → Q (.exit 6) e K)
    {z : Nat} {e : Env} {K : Heap} (hI : or4I q w ad1 ops1 ad2 ops2 t k1 k2 D sv z e K) : WLoop T (g5.body.at [1, 1, 1, 1, 1, 1, 1, 1, 1, 1, 1, 0, 1, 0, 0]) e K Q := by
  refine WLoop.inv (or4I q w ad1 ops1 ad2 ops2 t k1 k2 D sv) ?_ _ _ _ hI
  clear hI
  rintro z e K ⟨j, u, hj, rfl, hO, hB, hl, hS, ⟨x, rfl⟩⟩
  simp only [AFunc.body, g5, ACode.at]
  obtain ⟨adS, rfl⟩ := hS.len
  have hDm : (D.map pfK).length = D.length := List.length_map _
  by_cases hj2 : (j : Int) < ((D.length : Nat) : Int)
  case neg =>
    rw [List.take_of_length_le (by omega)] at hB
    simp (disch := omega) only [kB, kcx, kdm, kdn, kel, aop, resultsL, resultOf, Nat.reduceEqDiff, reduceCtorEq, eq1, apartOK, apart2, AObj.live, Int.reduceEq, Int.reduceLT, Int.reduceLE, Int.reduceAdd, Int.reduceSub, Int.reduceMul, Int.reduceToNat, cutCells, Nat.reduceAdd, Nat.reduceLeDiff, Nat.reduceLT, Nat.reduceMul, Nat.reduceSub, hDm, hj2]
    exact hQ _ _ _ hO hB (by exact ex_env rfl)
  have hj3 : j < D.length := by omega
  obtain ⟨kb, _, hkb, hrow, hu⟩ := sl_row hS (by omega)
  simp only [Value.slice.injEq] at hkb
  obtain ⟨rfl, _⟩ := hkb
  have hcut := flat_cut (css := D.map pfK) (u := 3) j hu (by omega)
  rw [List.getElem_map] at hcut
  have hfl := flat_len_u hu
  obtain ⟨⟨a, k⟩, hx9⟩ : ∃ x9, D[j] = x9 := ⟨_, rfl⟩
  rw [hx9] at hcut
  simp only [pfK, pfM] at hcut
  have hinD : (a, k) ∈ D := by rw [← hx9]; exact List.getElem_mem hj3
  obtain ⟨q1, q2⟩ := (hD.iff (a, k)).1 hinD
  have hr := hrg _ q1
  simp only at hr
  obtain ⟨k', hk', a1, a2, a3⟩ := rgt_k hw2 hr
  obtain rfl : k' = k := by omega
  have ha128 : a < 2 ^ 128 := Nat.lt_of_lt_of_le a1 (Nat.pow_le_pow_right (by decide) hw2)
  have htk : D.take (j + 1) = D.take j ++ [(a, k')] := by rw [List.take_add_one, List.getElem?_eq_getElem hj3, hx9]; rfl
  have hnot : (a, k') ∉ D.take j := fun h => by
    have hnd := hD.nd
    rw [← List.take_append_drop j D, List.nodup_append] at hnd
    exact hnd.2.2 _ h (a, k') (by rw [List.drop_eq_getElem_cons hj3, hx9]; exact List.mem_cons_self) rfl
  have hmem : (a, k', (2 : Int)) ∈ u.er.mem := (hB (a, k', 2)).2 (.inr ⟨rfl, q2, q1, hnot⟩)
  have c0 : (0 : Int) ≤ (j : Int) := by omega
  have lrow := hget_lt hrow rfl
  have b10 := hO.b10
  simp (disch := omega) only [kB, kcx, kdm, kdn, kel, aop, resultsL, resultOf, Nat.reduceEqDiff, reduceCtorEq, eq1, apartOK, apart2, AObj.live, Int.reduceEq, Int.reduceLT, Int.reduceLE, Int.reduceAdd, Int.reduceSub, Int.reduceMul, Int.reduceToNat, cutCells, Nat.reduceAdd, Nat.reduceLeDiff, Nat.reduceLT, Nat.reduceMul, Nat.reduceSub, hDm, hj2, c0, hrow, hcut, hfl, hj3, b10, if_pos]
  refine S.drop_t hO.ui hw hw2 ha128 hO.gu.pw (by omega) (fun hg g => ?_) (fun k3 v hk3 hr3 hm3 K2 hlen2 hfr hti hown => ?_)
  · rw [S.getR_er, if_pos hr, Int.toNat_natCast, (at_mem a1 a2 hO.gu.pw).2 hmem] at hg
    simp at hg
  · obtain rfl : k' = k3 := by omega
    obtain rfl : v = 2 := hO.gu.one hw2 hm3 hmem
    obtain ⟨w1, w2, w3⟩ := good_drop hw2 hO.gu hm3
    rw [← drop_er] at w1 w2 w3
    have hf2 : ∀ c, c < K.length → ¬ FPt (q + 2) u c → hget K2 c = hget K c := fun c hc hnf => hfr c hc (fun e => hnf (.inl e)) (fun e => hnf (.inr e))
    have hlen : (((dropT w a k' u).er.mem.length : Nat) : Int) = (u.er.mem.length : Int) - 1 := by omega
    have hO2 : OM K2 q w ad1 ops1 ad2 ops2 t (dropT w a k' u) := hO.stepU hf2 (by rw [hlen]; exact hti) w1 hown
    have hB2 : Two (dropT w a k' u).er k1 (fun x => x ∈ k2 ∧ x ∉ D.take (j + 1)) := fun x => by
      rw [w3 x, hB x, htk]
      simp only [List.mem_append, List.mem_singleton, not_or]
      constructor
      · rintro ⟨⟨p1, p2⟩ | ⟨p1, p2, p3, p4⟩, p5⟩
        · exact .inl ⟨p1, p2⟩
        · exact .inr ⟨p1, p2, p3, p4, p5⟩
      · rintro (⟨p1, p2⟩ | ⟨p1, p2, p3, p4, p5⟩)
        · exact ⟨.inl ⟨p1, p2⟩, fun e => q2 (by rw [← e]; exact p2)⟩
        · exact ⟨.inr ⟨p1, p2, p3, p4⟩, p5⟩
    have e2 : S.vb 2 = bs [111, 116, 104, 101, 114] := rfl
    rw [e2]
    rw [hDm] at hS
    simp (disch := omega) only [kB, kcx, kdm, kdn, kel, aop, resultsL, resultOf, Nat.reduceEqDiff, reduceCtorEq, eq1, apartOK, apart2, AObj.live, Int.reduceEq, Int.reduceLT, Int.reduceLE, Int.reduceAdd, Int.reduceSub, Int.reduceMul, Int.reduceToNat, cutCells, Nat.reduceAdd, Nat.reduceLeDiff, Nat.reduceLT, Nat.reduceMul, Nat.reduceSub, wr_i64, nadd1]
    exact ⟨D.length - (j + 1), by omega, j + 1, _, by omega, rfl, hO2, hB2, by omega, hS.same fun c hc => hf2 c (hS.lt hc).1 (STI.nosl hO.ui hS hc), ex_env rfl⟩

end Go.Proofs.Yticgkaanaimllaa.Ev

/- The law TrieOrders: behind the loops. -/
namespace Go.Proofs.Yticgkaanaimllaa.Ev
set_option maxRecDepth 100000
set_option linter.unusedSimpArgs false
set_option linter.unusedVariables false
variable {R : FRes → Heap → Prop} {H : Heap}

theorem hget_frz1_ne {b c : Nat} (h : c ≠ b) : hget (frz H [b]) c = hget H c := by
  simp only [frz, frz1]
  split
  · rw [hget_ne (Ne.symm h)]
  · rfl

theorem sget_mem {w c n : Nat} {v : Int} {t : Tr} (hw2 : w ≤ 128) (g : Good w t.er) (hm : (c, n, v) ∈ t.er.mem) : S.getR w c (n : Nat) t = .tuple #[.string (S.vb v), .bool true] ∧ rgt w c (n : Int) = true ∧ c < 2 ^ 128 := by
  obtain ⟨q1, q2⟩ := nodes_ok g.pw _ (mem_nodes hm)
  have h3 := (at_mem q2 q1 g.pw).2 hm
  have hr := mem_rgtP g.tw _ hm
  simp only at hr q2
  refine ⟨by rw [S.getR_er, if_pos hr, Int.toNat_natCast, h3], hr, Nat.lt_of_lt_of_le q2 (Nat.pow_le_pow_right (by decide) hw2)⟩

theorem or_body {H2 K : Heap} {q w N p i : Nat} {ad1 ad2 : Option Addr} {ops1 ops2 : List Opr} {t u : Tr} {c n : Nat} {ev ev0 : Env} {Q : Post} (hw : 1 ≤ w) (hw2 : w ≤ 128) (hN : H2.length = N) (hp : p < N) (hp0 : hget H2 p = .row [.int .i64 0] 0 true) (hO : OM H2 q w ad1 ops1 ad2 ops2 t u) (hpu : ¬ FPt (q + 2) u p) (hpq : p ≠ q + 3)
    (hm : (c, n, (1 : Int)) ∈ u.er.mem) (hi : i ≤ 1000000) (he : (fun e => (∃ x : Nat → Value, e = [x 0, x 1, x 2, x 3, x 4, x 5, x 6, x 7, x 8, x 9, .pointer (some ⟨q + 3, 0, none⟩), x 11, x 12, x 13, x 14, x 15, x 16, x 17, x 18, x 19, x 20, x 21, x 22, x 23, x 24, x 25, x 26, x 27, .pointer (some ⟨p, 0, none⟩), x 29, x 30, x 31, x 32, x 33, x 34, x 35, x 36, x 37, x 38, x 39, x 40, x 41, x 42, x 43, x 44, x 45, x 46, x 47, x 48, x 49, x 50, x 51, x 52, x 53, x 54, x 55, x 56, x 57, x 58, x 59, x 60, x 61, x 62, x 63, x 64, x 65, x 66, x 67, x 68, x 69, x 70, x 71, x 72, x 73, x 74, x 75, x 76, x 77, x 78, x 79, x 80, x 81, x 82, x 83, x 84, x 85, x 86, x 87, x 88, x 89, x 90, x 91, x 92, x 93, x 94, x 95, x 96, x 97, x 98, x 99, x 100, x 101, x 102, x 103, x 104, x 105, x 106, x 107, x 108, x 109, x 110, x 111, x 112, x 113, x 114, x 115, x 116, x 117, x 118, x 119, x 120, x 121, x 122, x 123, x 124, x 125, x 126, x 127, x 128, x 129, x 130, x 131, x 132, x 133, x 134, x 135, x 136, x 137, x 138, x 139, x 140, x 141, x 142, x 143, x 144, x 145, x 146, x 147, x 148, x 149, x 150, x 151, x 152, x 153, x 154, x 155, x 156, x 157, x 158, x 159, x 160, x 161, x 162, x 163, x 164, x 165, x 166, x 167, x 168, x 169, x 170, x 171, x 172, x 173, x 174, x 175, x 176, x 177, x 178, x 179, x 180, x 181, x 182, x 183, x 184, x 185, x 186, x 187, x 188, x 189, x 190, x 191, x 192, x 193, x 194, x 195, x 196, x 197, x 198, x 199, x 200, x 201, x 202, x 203, x 204, x 205, x 206, x 207, x 208, x 209, x 210, x 211, x 212, x 213, x 214, x 215, x 216, x 217, x 218, x 219, x 220, x 221, x 222, x 223, x 224, x 225, x 226, x 227, x 228, x 229, x 230, x 231, x 232, x 233])) ev) (hI : CI H2 N p i K) :
    WC T (g5.body.at [1, 1, 1, 1, 1, 1, 1, 1, 1, 1, 1, 1, 1, 1, 1, 1, 0, 1, 0]).cz (putL ev [210, 211] [pfv c (n : Nat), .string (bs [120])]) K
      (asK T (g5.body.at [1, 1, 1, 1, 1, 1, 1, 1, 1, 1, 1, 1, 1, 1, 1, 1, 0, 1, 0]).bd (bodyK N Q ev0 (CI H2 N p (i + 1)) K)) := by
  obtain ⟨y, rfl⟩ := he
  obtain ⟨len, fr, ct⟩ := hI
  obtain ⟨hg, hr, hc⟩ := sget_mem hw2 hO.gu hm
  have k10 : hget K (q + 3) = .row [.pointer (some ⟨q + 2, 0, none⟩)] 0 true := (fr _ (by rw [← hN]; exact hget_lt hO.b10 rfl) (Ne.symm hpq)).trans hO.b10
  have hu : S.TI K (q + 2) w 4096 (u.er.mem.length : Nat) u := hO.ui.same fun d hd => fr d (by rw [← hN]; exact STI.lt hO.ui hd) fun e => hpu (by rw [← e]; exact hd)
  have lp := hget_lt ct rfl
  have lk10 := hget_lt k10 rfl
  have e1 : S.vb 1 = bs [120] := rfl
  rw [e1] at hg
  simp only [AFunc.body, g5, ACode.at, ACode.cz, ACode.bd]
  simp (disch := omega) only [kB, kcx, kdm, kdn, kel, aop, resultsL, resultOf, Nat.reduceEqDiff, reduceCtorEq, eq1, apartOK, apart2, AObj.live, Int.reduceEq, Int.reduceLT, Int.reduceLE, Int.reduceAdd, Int.reduceSub, Int.reduceMul, Int.reduceToNat, cutCells, Nat.reduceAdd, Nat.reduceLeDiff, Nat.reduceLT, Nat.reduceMul, Nat.reduceSub, k10]
  have hu2 := hu.same (K := K ++ [.row [.int .u64 ((c / W64 : Nat) : Int), .int .u64 ((c % W64 : Nat) : Int), .int .i64 (n : Int)] 0 true]) fun d hd => hget_old (STI.lt hu hd)
  refine S.get_t hu2.hd hu2.lies.ta hu2.ok hw hw2 hc ?_
  rw [hg]
  simp (disch := omega) only [kB, kcx, kdm, kdn, kel, aop, resultsL, resultOf, Nat.reduceEqDiff, reduceCtorEq, eq1, apartOK, apart2, AObj.live, Int.reduceEq, Int.reduceLT, Int.reduceLE, Int.reduceAdd, Int.reduceSub, Int.reduceMul, Int.reduceToNat, cutCells, Nat.reduceAdd, Nat.reduceLeDiff, Nat.reduceLT, Nat.reduceMul, Nat.reduceSub, ct, wr_i64, nadd1]
  exact ⟨⟨by simp; omega, fun d hd hn => by rw [hget_oldS (by omega), hget_ne (Ne.symm hn)]; exact fr d hd hn, by rw [hget_oldS lp, hget_set' lp]⟩, Keep.trans (Keep.set (fun cs e => by rw [ct] at e; cases e)) Keep.app⟩

abbrev QO : Post := retK [.cell1 6] (fun r _ => r = .ret (.bool true))

theorem or_tail {q w : Nat} {ad1 ad2 : Option Addr} {ops1 ops2 : List Opr} {t u : Tr} {K : Heap} {ks : List (Nat × Nat)} {e : Env} (hw : 1 ≤ w) (hw2 : w ≤ 128) (hO : OM K q w ad1 ops1 ad2 ops2 t u) (hA : AllK w t.er 1 ks) (hB : AllK w u.er 1 ks) (hl : t.er.mem.length ≤ 1000) (hsz : t.inL.length ≤ 1000000)
    (he : (∃ x : Nat → Value, e = [x 0, x 1, x 2, x 3, x 4, x 5, .pointer (some ⟨q, 0, none⟩), x 7, .pointer (some ⟨q + 1, 0, none⟩), x 9, .pointer (some ⟨q + 3, 0, none⟩), x 11, x 12, x 13, x 14, x 15, x 16, x 17, x 18, x 19, x 20, x 21, x 22, x 23, x 24, x 25, x 26, x 27, x 28, x 29, x 30, x 31, x 32, x 33, x 34, x 35, x 36, x 37, x 38, x 39, x 40, x 41, x 42, x 43, x 44, x 45, x 46, x 47, x 48, x 49, x 50, x 51, x 52, x 53, x 54, x 55, x 56, x 57, x 58, x 59, x 60, x 61, x 62, x 63, x 64, x 65, x 66, x 67, x 68, x 69, x 70, x 71, x 72, x 73, x 74, x 75, x 76, x 77, x 78, x 79, x 80, x 81, x 82, x 83, x 84, x 85, x 86, x 87, x 88, x 89, x 90, x 91, x 92, x 93, x 94, x 95, x 96, x 97, x 98, x 99, x 100, x 101, x 102, x 103, x 104, x 105, x 106, x 107, x 108, x 109, x 110, x 111, x 112, x 113, x 114, x 115, x 116, x 117, x 118, x 119, x 120, x 121, x 122, x 123, x 124, x 125, x 126, x 127, x 128, x 129, x 130, x 131, x 132, x 133, x 134, x 135, x 136, x 137, x 138, x 139, x 140, x 141, x 142, x 143, x 144, x 145, x 146, x 147, x 148, x 149, x 150, x 151, x 152, x 153, x 154, x 155, x 156, x 157, x 158, x 159, x 160, x 161, x 162, x 163, x 164, x 165, x 166, x 167, x 168, x 169, x 170, x 171, x 172, x 173, x 174, x 175, x 176, x 177, x 178, x 179, x 180, x 181, x 182, x 183, x 184, x 185, x 186, x 187, x 188, x 189, x 190, x 191, x 192, x 193, x 194, x 195, x 196, x 197, x 198, x 199, x 200, x 201, x 202, x 203, x 204, x 205, x 206, x 207, x 208, x 209, x 210, x 211, x 212, x 213, x 214, x 215, x 216, x 217, x 218, x 219, x 220, x 221, x 222, x 223, x 224, x 225, x 226, x 227, x 228, x 229, x 230, x 231, x 232, x 233])) : WC T (g5.body.at [1, 1, 1, 1, 1, 1, 1, 1, 1, 1, 1, 1, 1]) e K QO := by
  obtain ⟨x, rfl⟩ := he
  have b6 := hO.b6
  have l10 := hget_lt hO.b10 rfl
  simp only [AFunc.body, g5, ACode.at]
  simp (disch := omega) only [kB, kcx, kdm, kdn, kel, aop, resultsL, resultOf, Nat.reduceEqDiff, reduceCtorEq, eq1, apartOK, apart2, AObj.live, Int.reduceEq, Int.reduceLT, Int.reduceLE, Int.reduceAdd, Int.reduceSub, Int.reduceMul, Int.reduceToNat, cutCells, Nat.reduceAdd, Nat.reduceLeDiff, Nat.reduceLT, Nat.reduceMul, Nat.reduceSub]
  refine S.all_t ?_
  simp (disch := omega) only [kB, kcx, kdm, kdn, kel, aop, resultsL, resultOf, Nat.reduceEqDiff, reduceCtorEq, eq1, apartOK, apart2, AObj.live, Int.reduceEq, Int.reduceLT, Int.reduceLE, Int.reduceAdd, Int.reduceSub, Int.reduceMul, Int.reduceToNat, cutCells, Nat.reduceAdd, Nat.reduceLeDiff, Nat.reduceLT, Nat.reduceMul, Nat.reduceSub, eqF_n]
  obtain ⟨H2, hH2⟩ : ∃ H2, H2 = K ++ [.row [.pointer (some ⟨q + 1, 0, none⟩)] 0 true, .row [.func (.func 59) #[] #[]] 0 true, .row [.int .i64 0] 0 true] := ⟨_, rfl⟩
  have hl2 : H2.length = K.length + 3 := by rw [hH2]; simp
  have g0 : hget H2 K.length = .row [.pointer (some ⟨q + 1, 0, none⟩)] 0 true := by rw [hH2, hget_base0]; rfl
  have g1 : hget H2 (K.length + 1) = .row [.func (.func 59) #[] #[]] 0 true := by rw [hH2, hget_base]; rfl
  have g2 : hget H2 (K.length + 2) = .row [.int .i64 0] 0 true := by rw [hH2, hget_base]; rfl
  have hO2 : OM H2 q w ad1 ops1 ad2 ops2 t u := by rw [hH2]; exact hO.app
  have hlt : ∀ c, FPt (q + 2) u c → c < K.length := fun c hc => STI.lt hO.ui hc
  have hltt : ∀ c, FPt (q + 1) t c → c < K.length := fun c hc => STI.lt hO.ti hc
  rw [← hH2]
  clear hH2
  refine S.range_t (w := w) (t := t) g0 hO2.ti.hd g1 S.may_allS hO2.ti.lies.ta hO2.ti.ok hsz rfl (CI H2 H2.length (K.length + 2)) (fun g => ⟨by simp, fun c hc hn => hget_old hc, by rw [hget_old (by omega)]; exact g2⟩)
    (fun i K o hI => hI.set (by omega)) (fun i K g hI => hI.app (by omega)) (fun i K2 x hx hl hI => ?_) (fun K2 hI hl2' => ?_)
  · obtain ⟨c, n, v⟩ := x
    have hmt : (c, n, v) ∈ t.er.mem := (List.mem_filter.1 (List.mem_of_getElem? hx)).1
    obtain ⟨rfl, hks⟩ := (hA (c, n, v)).1 hmt
    have hmu : (c, n, (1 : Int)) ∈ u.er.mem := (hB (c, n, 1)).2 ⟨rfl, hks⟩
    have hi : i < t.er.mem.length := Nat.lt_of_lt_of_le (List.getElem?_eq_some_iff.1 hx).1 (List.length_filter_le _ _)
    exact or_body hw hw2 (N := H2.length) (p := K.length + 2) rfl (by omega) g2 hO2 (fun e => by have := hlt _ e; omega) (by omega) hmu (by omega) (by exact ex_env rfl) hI
  · obtain ⟨h1, h2, h3⟩ := hI
    have hall : (selP (fun _ _ => true) t).length = t.er.mem.length := congrArg List.length (List.filter_eq_self.2 fun x _ => rfl)
    rw [hall] at h3
    have hti : S.TI K2 (q + 1) w 4096 (t.er.mem.length : Nat) t := hO2.ti.same fun c hc => h2 c (by have := hltt c hc; omega) (by have := hltt c hc; omega)
    have k6 : hget K2 q = .row [.bool false] 0 true := (h2 _ (by omega) (by omega)).trans hO2.b6
    have l6 := hget_lt k6 rfl
    simp (disch := omega) only [kB, kcx, kdm, kdn, kel, aop, resultsL, resultOf, Nat.reduceEqDiff, reduceCtorEq, eq1, apartOK, apart2, AObj.live, Int.reduceEq, Int.reduceLT, Int.reduceLE, Int.reduceAdd, Int.reduceSub, Int.reduceMul, Int.reduceToNat, cutCells, Nat.reduceAdd, Nat.reduceLeDiff, Nat.reduceLT, Nat.reduceMul, Nat.reduceSub, h3]
    refine WV.of (fun c hc => ?_) ?_
    · simp only [List.mem_cons, List.not_mem_nil, or_false] at hc
      subst hc
      rw [h3]; rfl
    obtain ⟨wr, hfz⟩ := row_frz (bs := [K.length + 2]) hti.hd
    refine S.len_t hfz ?_
    rw [thaw_frz0]
    simp (disch := omega) only [kB, kcx, kdm, kdn, kel, aop, resultsL, resultOf, Nat.reduceEqDiff, reduceCtorEq, eq1, apartOK, apart2, AObj.live, Int.reduceEq, Int.reduceLT, Int.reduceLE, Int.reduceAdd, Int.reduceSub, Int.reduceMul, Int.reduceToNat, cutCells, Nat.reduceAdd, Nat.reduceLeDiff, Nat.reduceLT, Nat.reduceMul, Nat.reduceSub, h3, k6]

theorem or_rest {q w : Nat} {ad1 ad2 : Option Addr} {ops1 ops2 : List Opr} {t u : Tr} {K : Heap} {ks : List (Nat × Nat)} {e : Env} (hw : 1 ≤ w) (hw2 : w ≤ 128) (hO : OM K q w ad1 ops1 ad2 ops2 t u) (hA : AllK w t.er 1 ks) (hB : AllK w u.er 1 ks) (hl : t.er.mem.length ≤ 1000)
    (he : (∃ x : Nat → Value, e = [x 0, x 1, x 2, x 3, x 4, x 5, .pointer (some ⟨q, 0, none⟩), x 7, .pointer (some ⟨q + 1, 0, none⟩), x 9, .pointer (some ⟨q + 3, 0, none⟩), x 11, x 12, x 13, x 14, x 15, x 16, x 17, x 18, x 19, x 20, x 21, x 22, x 23, x 24, x 25, x 26, x 27, x 28, x 29, x 30, x 31, x 32, x 33, x 34, x 35, x 36, x 37, x 38, x 39, x 40, x 41, x 42, x 43, x 44, x 45, x 46, x 47, x 48, x 49, x 50, x 51, x 52, x 53, x 54, x 55, x 56, x 57, x 58, x 59, x 60, x 61, x 62, x 63, x 64, x 65, x 66, x 67, x 68, x 69, x 70, x 71, x 72, x 73, x 74, x 75, x 76, x 77, x 78, x 79, x 80, x 81, x 82, x 83, x 84, x 85, x 86, x 87, x 88, x 89, x 90, x 91, x 92, x 93, x 94, x 95, x 96, x 97, x 98, x 99, x 100, x 101, x 102, x 103, x 104, x 105, x 106, x 107, x 108, x 109, x 110, x 111, x 112, x 113, x 114, x 115, x 116, x 117, x 118, x 119, x 120, x 121, x 122, x 123, x 124, x 125, x 126, x 127, x 128, x 129, x 130, x 131, x 132, x 133, x 134, x 135, x 136, x 137, x 138, x 139, x 140, x 141, x 142, x 143, x 144, x 145, x 146, x 147, x 148, x 149, x 150, x 151, x 152, x 153, x 154, x 155, x 156, x 157, x 158, x 159, x 160, x 161, x 162, x 163, x 164, x 165, x 166, x 167, x 168, x 169, x 170, x 171, x 172, x 173, x 174, x 175, x 176, x 177, x 178, x 179, x 180, x 181, x 182, x 183, x 184, x 185, x 186, x 187, x 188, x 189, x 190, x 191, x 192, x 193, x 194, x 195, x 196, x 197, x 198, x 199, x 200, x 201, x 202, x 203, x 204, x 205, x 206, x 207, x 208, x 209, x 210, x 211, x 212, x 213, x 214, x 215, x 216, x 217, x 218, x 219, x 220, x 221, x 222, x 223, x 224, x 225, x 226, x 227, x 228, x 229, x 230, x 231, x 232, x 233])) : WC T (g5.body.at [1, 1, 1, 1, 1, 1, 1, 1, 1, 1, 1, 1]) e K QO := by
  obtain ⟨x, rfl⟩ := he
  obtain ⟨s1, s2⟩ := good_same hw2 hO.gt hO.gu fun x => (hA x).trans (hB x).symm
  have hnod := good_nodes hO.gt
  obtain ⟨n1, n2⟩ := ni_nodes hO.gt.ni
  have ti := hO.ti
  have ui := hO.ui
  rw [← s1] at ui
  have hnu : u.inL.length = t.inL.length := by rw [inL_len, inL_len, s2]
  have hnt : t.inL.length = t.er.nodes.length := inL_len
  have b6 := hO.b6
  have b10 := hO.b10
  have l6 := hget_lt b6 rfl
  have l10 := hget_lt b10 rfl
  have tf : S.TI (frz K [q + 3]) (q + 1) w 4096 (t.er.mem.length : Nat) t := ti.same fun c hc => hget_frz1_ne fun e => by
    rcases hc with hc | hc
    · omega
    · have := hO.lt _ hc; omega
  simp only [AFunc.body, g5, ACode.at]
  simp (disch := omega) only [kB, kcx, kdm, kdn, kel, aop, resultsL, resultOf, Nat.reduceEqDiff, reduceCtorEq, eq1, apartOK, apart2, AObj.live, Int.reduceEq, Int.reduceLT, Int.reduceLE, Int.reduceAdd, Int.reduceSub, Int.reduceMul, Int.reduceToNat, cutCells, Nat.reduceAdd, Nat.reduceLeDiff, Nat.reduceLT, Nat.reduceMul, Nat.reduceSub, b10]
  refine WV.of (fun d hd => ?_) ?_
  · simp only [List.mem_cons, List.not_mem_nil, or_false] at hd
    subst hd
    rw [b10]; rfl
  refine S.len_t (wr := true) tf.hd ?_
  rw [thaw_frz0]
  simp (disch := omega) only [kB, kcx, kdm, kdn, kel, aop, resultsL, resultOf, Nat.reduceEqDiff, reduceCtorEq, eq1, apartOK, apart2, AObj.live, Int.reduceEq, Int.reduceLT, Int.reduceLE, Int.reduceAdd, Int.reduceSub, Int.reduceMul, Int.reduceToNat, cutCells, Nat.reduceAdd, Nat.reduceLeDiff, Nat.reduceLT, Nat.reduceMul, Nat.reduceSub, b10]
  refine S.len_t ui.hd ?_
  simp (disch := omega) only [kB, kcx, kdm, kdn, kel, aop, resultsL, resultOf, Nat.reduceEqDiff, reduceCtorEq, eq1, apartOK, apart2, AObj.live, Int.reduceEq, Int.reduceLT, Int.reduceLE, Int.reduceAdd, Int.reduceSub, Int.reduceMul, Int.reduceToNat, cutCells, Nat.reduceAdd, Nat.reduceLeDiff, Nat.reduceLT, Nat.reduceMul, Nat.reduceSub, b10]
  refine WV.of (fun d hd => ?_) ?_
  · simp only [List.mem_cons, List.not_mem_nil, or_false] at hd
    subst hd
    rw [b10]; rfl
  refine S.nodes_t tf.hd tf.lies.ta (by omega) ?_
  rw [thaw_frz0]
  simp (disch := omega) only [kB, kcx, kdm, kdn, kel, aop, resultsL, resultOf, Nat.reduceEqDiff, reduceCtorEq, eq1, apartOK, apart2, AObj.live, Int.reduceEq, Int.reduceLT, Int.reduceLE, Int.reduceAdd, Int.reduceSub, Int.reduceMul, Int.reduceToNat, cutCells, Nat.reduceAdd, Nat.reduceLeDiff, Nat.reduceLT, Nat.reduceMul, Nat.reduceSub, b10]
  refine S.nodes_t ui.hd ui.lies.ta (by omega) ?_
  rw [hnu]
  simp (disch := omega) only [kB, kcx, kdm, kdn, kel, aop, resultsL, resultOf, Nat.reduceEqDiff, reduceCtorEq, eq1, apartOK, apart2, AObj.live, Int.reduceEq, Int.reduceLT, Int.reduceLE, Int.reduceAdd, Int.reduceSub, Int.reduceMul, Int.reduceToNat, cutCells, Nat.reduceAdd, Nat.reduceLeDiff, Nat.reduceLT, Nat.reduceMul, Nat.reduceSub, b10]
  refine S.len_t ti.hd ?_
  have hLn : (t.er.mem.length : Int) ≤ (t.inL.length : Nat) := by omega
  have c3 : ¬ ((t.inL.length : Nat) : Int) < ((t.er.mem.length : Nat) : Int) := by omega
  have tail : ∀ e, (∃ x : Nat → Value, e = [x 0, x 1, x 2, x 3, x 4, x 5, .pointer (some ⟨q, 0, none⟩), x 7, .pointer (some ⟨q + 1, 0, none⟩), x 9, .pointer (some ⟨q + 3, 0, none⟩), x 11, x 12, x 13, x 14, x 15, x 16, x 17, x 18, x 19, x 20, x 21, x 22, x 23, x 24, x 25, x 26, x 27, x 28, x 29, x 30, x 31, x 32, x 33, x 34, x 35, x 36, x 37, x 38, x 39, x 40, x 41, x 42, x 43, x 44, x 45, x 46, x 47, x 48, x 49, x 50, x 51, x 52, x 53, x 54, x 55, x 56, x 57, x 58, x 59, x 60, x 61, x 62, x 63, x 64, x 65, x 66, x 67, x 68, x 69, x 70, x 71, x 72, x 73, x 74, x 75, x 76, x 77, x 78, x 79, x 80, x 81, x 82, x 83, x 84, x 85, x 86, x 87, x 88, x 89, x 90, x 91, x 92, x 93, x 94, x 95, x 96, x 97, x 98, x 99, x 100, x 101, x 102, x 103, x 104, x 105, x 106, x 107, x 108, x 109, x 110, x 111, x 112, x 113, x 114, x 115, x 116, x 117, x 118, x 119, x 120, x 121, x 122, x 123, x 124, x 125, x 126, x 127, x 128, x 129, x 130, x 131, x 132, x 133, x 134, x 135, x 136, x 137, x 138, x 139, x 140, x 141, x 142, x 143, x 144, x 145, x 146, x 147, x 148, x 149, x 150, x 151, x 152, x 153, x 154, x 155, x 156, x 157, x 158, x 159, x 160, x 161, x 162, x 163, x 164, x 165, x 166, x 167, x 168, x 169, x 170, x 171, x 172, x 173, x 174, x 175, x 176, x 177, x 178, x 179, x 180, x 181, x 182, x 183, x 184, x 185, x 186, x 187, x 188, x 189, x 190, x 191, x 192, x 193, x 194, x 195, x 196, x 197, x 198, x 199, x 200, x 201, x 202, x 203, x 204, x 205, x 206, x 207, x 208, x 209, x 210, x 211, x 212, x 213, x 214, x 215, x 216, x 217, x 218, x 219, x 220, x 221, x 222, x 223, x 224, x 225, x 226, x 227, x 228, x 229, x 230, x 231, x 232, x 233]) → WC T (g5.body.at [1, 1, 1, 1, 1, 1, 1, 1, 1, 1, 1, 1, 1]) e K QO := fun e he => or_tail hw hw2 hO hA hB hl (by omega) he
  obtain ⟨Z, hZ⟩ : ∃ Z, Z = WC T (g5.body.at [1, 1, 1, 1, 1, 1, 1, 1, 1, 1, 1, 1, 1]) := ⟨_, rfl⟩
  have hZ' := hZ.symm
  simp only [AFunc.body, g5, ACode.at] at hZ'
  by_cases hL0 : (0 : Int) < ((t.er.mem.length : Nat) : Int)
  · have hnn : nilP t.er = false := by
      cases h : nilP t.er
      · rfl
      · rw [nilP_eq h] at hL0
        simp [PT.mem] at hL0
    have := n2 hnn
    have c2 : ¬ 2 * ((t.er.mem.length : Nat) : Int) ≤ ((t.inL.length : Nat) : Int) := by omega
    simp (disch := omega) only [kB, kcx, kdm, kdn, kel, aop, resultsL, resultOf, Nat.reduceEqDiff, reduceCtorEq, eq1, apartOK, apart2, AObj.live, Int.reduceEq, Int.reduceLT, Int.reduceLE, Int.reduceAdd, Int.reduceSub, Int.reduceMul, Int.reduceToNat, cutCells, Nat.reduceAdd, Nat.reduceLeDiff, Nat.reduceLT, Nat.reduceMul, Nat.reduceSub, hL0, hZ']
    refine S.nodes_t ti.hd ti.lies.ta (by omega) ?_
    simp (disch := omega) only [kB, kcx, kdm, kdn, kel, aop, resultsL, resultOf, Nat.reduceEqDiff, reduceCtorEq, eq1, apartOK, apart2, AObj.live, Int.reduceEq, Int.reduceLT, Int.reduceLE, Int.reduceAdd, Int.reduceSub, Int.reduceMul, Int.reduceToNat, cutCells, Nat.reduceAdd, Nat.reduceLeDiff, Nat.reduceLT, Nat.reduceMul, Nat.reduceSub, hZ']
    refine S.len_t ti.hd ?_
    simp (disch := omega) only [kB, kcx, kdm, kdn, kel, aop, resultsL, resultOf, Nat.reduceEqDiff, reduceCtorEq, eq1, apartOK, apart2, AObj.live, Int.reduceEq, Int.reduceLT, Int.reduceLE, Int.reduceAdd, Int.reduceSub, Int.reduceMul, Int.reduceToNat, cutCells, Nat.reduceAdd, Nat.reduceLeDiff, Nat.reduceLT, Nat.reduceMul, Nat.reduceSub, hZ', c2, wr_i64]
    refine S.nodes_t ti.hd ti.lies.ta (by omega) ?_
    simp (disch := omega) only [kB, kcx, kdm, kdn, kel, aop, resultsL, resultOf, Nat.reduceEqDiff, reduceCtorEq, eq1, apartOK, apart2, AObj.live, Int.reduceEq, Int.reduceLT, Int.reduceLE, Int.reduceAdd, Int.reduceSub, Int.reduceMul, Int.reduceToNat, cutCells, Nat.reduceAdd, Nat.reduceLeDiff, Nat.reduceLT, Nat.reduceMul, Nat.reduceSub, hZ']
    refine S.len_t ti.hd ?_
    simp (disch := omega) only [kB, kcx, kdm, kdn, kel, aop, resultsL, resultOf, Nat.reduceEqDiff, reduceCtorEq, eq1, apartOK, apart2, AObj.live, Int.reduceEq, Int.reduceLT, Int.reduceLE, Int.reduceAdd, Int.reduceSub, Int.reduceMul, Int.reduceToNat, cutCells, Nat.reduceAdd, Nat.reduceLeDiff, Nat.reduceLT, Nat.reduceMul, Nat.reduceSub, hZ', c3]
    rw [hZ]
    exact tail _ (by exact ex_env rfl)
  · simp (disch := omega) only [kB, kcx, kdm, kdn, kel, aop, resultsL, resultOf, Nat.reduceEqDiff, reduceCtorEq, eq1, apartOK, apart2, AObj.live, Int.reduceEq, Int.reduceLT, Int.reduceLE, Int.reduceAdd, Int.reduceSub, Int.reduceMul, Int.reduceToNat, cutCells, Nat.reduceAdd, Nat.reduceLeDiff, Nat.reduceLT, Nat.reduceMul, Nat.reduceSub, hL0, hZ']
    refine S.nodes_t ti.hd ti.lies.ta (by omega) ?_
    simp (disch := omega) only [kB, kcx, kdm, kdn, kel, aop, resultsL, resultOf, Nat.reduceEqDiff, reduceCtorEq, eq1, apartOK, apart2, AObj.live, Int.reduceEq, Int.reduceLT, Int.reduceLE, Int.reduceAdd, Int.reduceSub, Int.reduceMul, Int.reduceToNat, cutCells, Nat.reduceAdd, Nat.reduceLeDiff, Nat.reduceLT, Nat.reduceMul, Nat.reduceSub, hZ']
    refine S.len_t ti.hd ?_
    simp (disch := omega) only [kB, kcx, kdm, kdn, kel, aop, resultsL, resultOf, Nat.reduceEqDiff, reduceCtorEq, eq1, apartOK, apart2, AObj.live, Int.reduceEq, Int.reduceLT, Int.reduceLE, Int.reduceAdd, Int.reduceSub, Int.reduceMul, Int.reduceToNat, cutCells, Nat.reduceAdd, Nat.reduceLeDiff, Nat.reduceLT, Nat.reduceMul, Nat.reduceSub, hZ', c3]
    rw [hZ]
    exact tail _ (by exact ex_env rfl)

end Go.Proofs.Yticgkaanaimllaa.Ev

/- The law TrieOrders, whole. -/
namespace Go.Proofs.Yticgkaanaimllaa.Ev
set_option maxRecDepth 100000
set_option linter.unusedSimpArgs false
set_option linter.unusedVariables false
variable {R : FRes → Heap → Prop} {H : Heap}

theorem orders_loops {q w n : Nat} {ad1 ad2 : Option Addr} {ops1 ops2 : List Opr} {K : Heap} {e : Env} (hw : 1 ≤ w) (hw2 : w ≤ 128) (hops1 : ∀ o ∈ ops1, o.a < 2 ^ 128) (hops2 : ∀ o ∈ ops2, o.a < 2 ^ 128) (hn : n ≤ 1000) (hn2 : n ≤ ops1.length) (hO : OM K q w ad1 ops1 ad2 ops2 .nil .nil)
    (he : (∃ x : Nat → Value, e = [x 0, .slice ad1 ops1.length ops1.length, .slice ad2 ops2.length ops2.length, x 3, x 4, x 5, .pointer (some ⟨q, 0, none⟩), x 7, .pointer (some ⟨q + 1, 0, none⟩), x 9, .pointer (some ⟨q + 3, 0, none⟩), x 11, .int .i64 (n : Int), x 13, x 14, x 15, x 16, x 17, x 18, x 19, x 20, x 21, x 22, x 23, x 24, x 25, x 26, x 27, x 28, x 29, x 30, x 31, x 32, x 33, x 34, x 35, x 36, x 37, x 38, x 39, x 40, x 41, x 42, x 43, x 44, x 45, x 46, x 47, x 48, x 49, x 50, x 51, x 52, x 53, x 54, x 55, x 56, x 57, x 58, x 59, x 60, x 61, x 62, x 63, x 64, x 65, x 66, x 67, x 68, x 69, x 70, x 71, x 72, x 73, x 74, x 75, x 76, x 77, x 78, x 79, x 80, x 81, x 82, x 83, x 84, x 85, x 86, x 87, x 88, x 89, x 90, x 91, x 92, x 93, x 94, x 95, x 96, x 97, x 98, x 99, x 100, x 101, x 102, x 103, x 104, x 105, x 106, x 107, x 108, x 109, x 110, x 111, x 112, x 113, x 114, x 115, x 116, x 117, x 118, x 119, x 120, x 121, x 122, x 123, x 124, x 125, x 126, x 127, x 128, x 129, x 130, x 131, x 132, x 133, x 134, x 135, x 136, x 137, x 138, x 139, x 140, x 141, x 142, x 143, x 144, x 145, x 146, x 147, x 148, x 149, x 150, x 151, x 152, x 153, x 154, x 155, x 156, x 157, x 158, x 159, x 160, x 161, x 162, x 163, x 164, x 165, x 166, x 167, x 168, x 169, x 170, x 171, x 172, x 173, x 174, x 175, x 176, x 177, x 178, x 179, x 180, x 181, x 182, x 183, x 184, x 185, x 186, x 187, x 188, x 189, x 190, x 191, x 192, x 193, x 194, x 195, x 196, x 197, x 198, x 199, x 200, x 201, x 202, x 203, x 204, x 205, x 206, x 207, x 208, x 209, x 210, x 211, x 212, x 213, x 214, x 215, x 216, x 217, x 218, x 219, x 220, x 221, x 222, x 223, x 224, x 225, x 226, x 227, x 228, x 229, x 230, x 231, x 232, x 233])) : WC T (g5.body.at [1, 1, 1, 1, 1, 1, 1]) e K QO := by
  obtain ⟨x, rfl⟩ := he
  obtain ⟨Y1, hY1⟩ : ∃ Y, Y = WLoop T (g5.body.at [1, 1, 1, 1, 1, 1, 1, 0, 1, 0, 0]) := ⟨_, rfl⟩
  obtain ⟨Y2, hY2⟩ : ∃ Y, Y = WLoop T (g5.body.at [1, 1, 1, 1, 1, 1, 1, 1, 1, 0, 1, 0, 0]) := ⟨_, rfl⟩
  obtain ⟨Y3, hY3⟩ : ∃ Y, Y = WLoop T (g5.body.at [1, 1, 1, 1, 1, 1, 1, 1, 1, 1, 0, 1, 0, 0]) := ⟨_, rfl⟩
  obtain ⟨Y4, hY4⟩ : ∃ Y, Y = WLoop T (g5.body.at [1, 1, 1, 1, 1, 1, 1, 1, 1, 1, 1, 0, 1, 0, 0]) := ⟨_, rfl⟩
  obtain ⟨Z, hZ⟩ : ∃ Z, Z = WC T (g5.body.at [1, 1, 1, 1, 1, 1, 1, 1, 1, 1, 1, 1]) := ⟨_, rfl⟩
  have hY1' := hY1.symm
  have hY2' := hY2.symm
  have hY3' := hY3.symm
  have hY4' := hY4.symm
  have hZ' := hZ.symm
  simp only [AFunc.body, g5, ACode.at] at hY1' hY2' hY3' hY4' hZ'
  have l10 := hget_lt hO.b10 rfl
  simp only [AFunc.body, g5, ACode.at]
  simp (disch := omega) only [kB, kcx, kdm, kdn, kel, aop, resultsL, resultOf, Nat.reduceEqDiff, reduceCtorEq, eq1, apartOK, apart2, AObj.live, Int.reduceEq, Int.reduceLT, Int.reduceLE, Int.reduceAdd, Int.reduceSub, Int.reduceMul, Int.reduceToNat, cutCells, Nat.reduceAdd, Nat.reduceLeDiff, Nat.reduceLT, Nat.reduceMul, Nat.reduceSub, hY1', hY2', hY3', hY4', hZ']
  rw [hY1]
  refine or1_loop (q := q) (w := w) (n := n) hw hw2 hops1 hn hn2 (fun e K1 t hO1 hA1 hl1 he => ?_) ⟨0, .nil, Nat.zero_le _, rfl, hO, fun x => by simp [Tr.er, PT.mem, KS], by simp [Tr.er, PT.mem], by exact ex_env rfl⟩
  obtain ⟨x1, rfl⟩ := he
  have lK1 := hget_lt hO1.b10 rfl
  simp (disch := omega) only [kB, kcx, kdm, kdn, kel, aop, resultsL, resultOf, Nat.reduceEqDiff, reduceCtorEq, eq1, apartOK, apart2, AObj.live, Int.reduceEq, Int.reduceLT, Int.reduceLE, Int.reduceAdd, Int.reduceSub, Int.reduceMul, Int.reduceToNat, cutCells, Nat.reduceAdd, Nat.reduceLeDiff, Nat.reduceLT, Nat.reduceMul, Nat.reduceSub, hY2', hY3', hY4', hZ']
  rw [hY2]
  refine or2_loop (q := q) (w := w) (n := n) (m := min ops2.length 1000) hw hw2 hops2 (by omega) rfl (fun e K2 t2 u D sv hO2 hA2 hB2 hl2 hlt2 hD hDl hS2 hK2 he => ?_) ⟨0, t, .nil, [], .slice none 0 0, Nat.zero_le _, rfl, hO1, hA1, fun x => by simp [Tr.er, PT.mem, KS], by simp [Tr.er, PT.mem], hl1,
    ⟨List.nodup_nil, fun x => by simp [KS]⟩, by simp, .inl ⟨rfl, rfl⟩, by omega, by exact ex_env rfl⟩
  obtain ⟨x2, rfl⟩ := he
  simp (disch := omega) only [kB, kcx, kdm, kdn, kel, aop, resultsL, resultOf, Nat.reduceEqDiff, reduceCtorEq, eq1, apartOK, apart2, AObj.live, Int.reduceEq, Int.reduceLT, Int.reduceLE, Int.reduceAdd, Int.reduceSub, Int.reduceMul, Int.reduceToNat, cutCells, Nat.reduceAdd, Nat.reduceLeDiff, Nat.reduceLT, Nat.reduceMul, Nat.reduceSub, hY3', hY4', hZ', wr_i64]
  rw [hY3]
  refine or3_loop (q := q) (w := w) (n := n) (m := min ops2.length 1000) (t := t2) (D := D) (sv := sv) hw hw2 hops1 hn hn2 (by omega) (fun e K3 u3 hO3 hB3 hl3 hS3 he => ?_) ⟨n, u, Nat.le_refl _, rfl, hO2, fun x => ?_, by omega, hS2, by exact ex_env rfl⟩
  rotate_left
  · rw [hB2 x, List.drop_of_length_le (by rw [List.length_take]; omega)]
    simp [KS]
  obtain ⟨x3, rfl⟩ := he
  simp (disch := omega) only [kB, kcx, kdm, kdn, kel, aop, resultsL, resultOf, Nat.reduceEqDiff, reduceCtorEq, eq1, apartOK, apart2, AObj.live, Int.reduceEq, Int.reduceLT, Int.reduceLE, Int.reduceAdd, Int.reduceSub, Int.reduceMul, Int.reduceToNat, cutCells, Nat.reduceAdd, Nat.reduceLeDiff, Nat.reduceLT, Nat.reduceMul, Nat.reduceSub, hY4', hZ']
  rw [hY4]
  refine or4_loop (q := q) (w := w) (k1 := KS w (ops1.take n)) (k2 := KS w (ops2.take (min ops2.length 1000))) (D := D) (sv := sv) hw hw2 hD (by omega) (fun x hx => KS_rgt hx) (fun e K4 u4 hO4 hB4 he => ?_) ⟨0, u3, Nat.zero_le _, rfl, hO3, fun x => by rw [hB3 x]; simp, hl3, hS3, by exact ex_env rfl⟩
  have hB5 : AllK w u4.er 1 (KS w (ops1.take n)) := fun x => by
    rw [hB4 x]
    constructor
    · rintro (h | ⟨h1, h2, h3, h4⟩)
      · exact h
      · exact absurd ((hD.iff _).2 ⟨h3, h2⟩) h4
    · exact fun h => .inl h
  simp (disch := omega) only [kB, kcx, kdm, kdn, kel, aop, resultsL, resultOf, Nat.reduceEqDiff, reduceCtorEq, eq1, apartOK, apart2, AObj.live, Int.reduceEq, Int.reduceLT, Int.reduceLE, Int.reduceAdd, Int.reduceSub, Int.reduceMul, Int.reduceToNat, cutCells, Nat.reduceAdd, Nat.reduceLeDiff, Nat.reduceLT, Nat.reduceMul, Nat.reduceSub, hZ']
  rw [hZ]
  exact or_rest hw hw2 hO4 hA2 hB5 (by omega) he

theorem orders_w {w : Int} {ad1 ad2 : Option Addr} {ops1 ops2 : List Opr} (hops1 : ∀ o ∈ ops1, o.a < 2 ^ 128) (hops2 : ∀ o ∈ ops2, o.a < 2 ^ 128) (hlen1 : ops1.length ≤ 4611686018427387904) (hsl1 : OpSl H ad1 ops1 H.length) (hsl2 : OpSl H ad2 ops2 H.length) :
    WD T 5 [.int .i64 w, .slice ad1 ops1.length ops1.length, .slice ad2 ops2.length ops2.length] H (fun r _ => r = .ret (.bool true)) := by
  obtain ⟨Z, hZ⟩ : ∃ Z, Z = WC T (g5.body.at [1, 1, 1, 1, 1, 1, 1]) := ⟨_, rfl⟩
  have hZ' := hZ.symm
  simp only [AFunc.body, g5, ACode.at] at hZ'
  refine WD.of follows t5 (by simp) ?_
  simp (disch := omega) only [kB, kcx, kdm, kdn, kel, aop, resultsL, resultOf, Nat.reduceEqDiff, reduceCtorEq, eq1, apartOK, apart2, AObj.live, Int.reduceEq, Int.reduceLT, Int.reduceLE, Int.reduceAdd, Int.reduceSub, Int.reduceMul, Int.reduceToNat, cutCells, Nat.reduceAdd, Nat.reduceLeDiff, Nat.reduceLT, Nat.reduceMul, Nat.reduceSub, hZ']
  refine live_s ?_
  simp (disch := omega) only [kB, kcx, kdm, kdn, kel, aop, resultsL, resultOf, Nat.reduceEqDiff, reduceCtorEq, eq1, apartOK, apart2, AObj.live, Int.reduceEq, Int.reduceLT, Int.reduceLE, Int.reduceAdd, Int.reduceSub, Int.reduceMul, Int.reduceToNat, cutCells, Nat.reduceAdd, Nat.reduceLeDiff, Nat.reduceLT, Nat.reduceMul, Nat.reduceSub, hZ']
  refine S.new_s ?_
  by_cases hr : rightN w 4096 = true
  case neg =>
    simp only [if_neg hr]
    simp (disch := omega) only [kB, kcx, kdm, kdn, kel, aop, resultsL, resultOf, Nat.reduceEqDiff, reduceCtorEq, eq1, apartOK, apart2, AObj.live, Int.reduceEq, Int.reduceLT, Int.reduceLE, Int.reduceAdd, Int.reduceSub, Int.reduceMul, Int.reduceToNat, cutCells, Nat.reduceAdd, Nat.reduceLeDiff, Nat.reduceLT, Nat.reduceMul, Nat.reduceSub, hZ']
    refine S.new_s ?_
    simp only [if_neg hr]
    simp (disch := omega) only [kB, kcx, kdm, kdn, kel, aop, resultsL, resultOf, Nat.reduceEqDiff, reduceCtorEq, eq1, apartOK, apart2, AObj.live, Int.reduceEq, Int.reduceLT, Int.reduceLE, Int.reduceAdd, Int.reduceSub, Int.reduceMul, Int.reduceToNat, cutCells, Nat.reduceAdd, Nat.reduceLeDiff, Nat.reduceLT, Nat.reduceMul, Nat.reduceSub, hZ', eqP_nn]
  have hr' := hr
  simp only [rightN, Bool.and_eq_true, decide_eq_true_eq] at hr'
  obtain ⟨⟨⟨h1, h2⟩, h3⟩, h4⟩ := hr'
  obtain ⟨n, rfl⟩ : ∃ n : Nat, w = n := ⟨w.toNat, by omega⟩
  simp only [if_pos hr]
  simp (disch := omega) only [kB, kcx, kdm, kdn, kel, aop, resultsL, resultOf, Nat.reduceEqDiff, reduceCtorEq, eq1, apartOK, apart2, AObj.live, Int.reduceEq, Int.reduceLT, Int.reduceLE, Int.reduceAdd, Int.reduceSub, Int.reduceMul, Int.reduceToNat, cutCells, Nat.reduceAdd, Nat.reduceLeDiff, Nat.reduceLT, Nat.reduceMul, Nat.reduceSub, hZ']
  refine S.new_s ?_
  simp only [if_pos hr]
  simp (disch := omega) only [kB, kcx, kdm, kdn, kel, aop, resultsL, resultOf, Nat.reduceEqDiff, reduceCtorEq, eq1, apartOK, apart2, AObj.live, Int.reduceEq, Int.reduceLT, Int.reduceLE, Int.reduceAdd, Int.reduceSub, Int.reduceMul, Int.reduceToNat, cutCells, Nat.reduceAdd, Nat.reduceLeDiff, Nat.reduceLT, Nat.reduceMul, Nat.reduceSub, hZ', eqP_sn]
  obtain ⟨K, hK⟩ : ∃ K, K = H ++ [.row [.bool false] 0 true, .row [.int .i64 (n : Int), .int .i64 4096, .int .i64 0, .pointer none] 0 true, .row [.int .i64 (n : Int), .int .i64 4096, .int .i64 0, .pointer none] 0 true, .row [.pointer (some ⟨H.length + 2, 0, none⟩)] 0 true] := ⟨_, rfl⟩
  have hK' := hK.symm
  have hO : OM K H.length n ad1 ops1 ad2 ops2 .nil .nil := by
    refine ⟨⟨?_, by simp [Tr.blocks], trivial, trivial, by simp [Tr.blocks]⟩, ⟨?_, by simp [Tr.blocks], trivial, trivial, by simp [Tr.blocks]⟩, good_nil, good_nil, fun c h5 h6 => ?_, fun c hc => by simp [Tr.blocks] at hc, fun c hc => by simp [Tr.blocks] at hc, ?_, ?_, hsl1.same fun c hc => by rw [hK, hget_old hc], hsl2.same fun c hc => by rw [hK, hget_old hc]⟩
    · rw [hK, hget_base]; rfl
    · rw [hK, hget_base]; rfl
    · rcases h5 with h5 | h5
      · rcases h6 with h6 | h6
        · omega
        · simp [Tr.blocks] at h6
      · simp [Tr.blocks] at h5
    · rw [hK, hget_base0]; rfl
    · rw [hK, hget_base]; rfl
  by_cases hn : (1000 : Int) < ((ops1.length : Nat) : Int)
  · simp (disch := omega) only [kB, kcx, kdm, kdn, kel, aop, resultsL, resultOf, Nat.reduceEqDiff, reduceCtorEq, eq1, apartOK, apart2, AObj.live, Int.reduceEq, Int.reduceLT, Int.reduceLE, Int.reduceAdd, Int.reduceSub, Int.reduceMul, Int.reduceToNat, cutCells, Nat.reduceAdd, Nat.reduceLeDiff, Nat.reduceLT, Nat.reduceMul, Nat.reduceSub, hZ', hn]
    rw [hZ, hK']
    exact orders_loops (n := 1000) (by omega) (by omega) hops1 hops2 (by omega) (by omega) hO (by exact ex_env rfl)
  · simp (disch := omega) only [kB, kcx, kdm, kdn, kel, aop, resultsL, resultOf, Nat.reduceEqDiff, reduceCtorEq, eq1, apartOK, apart2, AObj.live, Int.reduceEq, Int.reduceLT, Int.reduceLE, Int.reduceAdd, Int.reduceSub, Int.reduceMul, Int.reduceToNat, cutCells, Nat.reduceAdd, Nat.reduceLeDiff, Nat.reduceLT, Nat.reduceMul, Nat.reduceSub, hZ', hn]
    rw [hZ, hK']
    exact orders_loops (n := ops1.length) (by omega) (by omega) hops1 hops2 (by omega) (by omega) hO (by exact ex_env rfl)

end Go.Proofs.Yticgkaanaimllaa.Ev

/- TrieOrders: texts under prefixes, in another order, with others that go again: the same is told, and no node is idle: whatever the inputs, the law answers true. Conditions: none. -/
namespace Go.Proofs.Yticgkaanaimllaa.Ev
open Go.ChangeShapes Go.WideShapes Go.ChangeAt Go.RowKit

set_option maxRecDepth 100000 in
theorem trieOrders_lifted (os : Os) (started : os.Started) (H : Type) (enc : TypeId × Value → H) :
    ReturnsInHanded {} Try.checked os 5 .any (Rows.trieOrdersSpec.pre6 enc Try.prog Try.f5 [] false)
      (Rows.trieOrdersSpec.post enc Try.prog Try.f5 false true false false) := by
  refine returnsInHanded_of_change_sized (C := Try.checked) own started (by kernel_rfl) Try.func5
    (ChangeSpec.witness6 (enc := enc) (C := Try.checked) (os := os) false ⟨#[], #[.int .i64 0, .slice none 0 0, .slice none 0 0], []⟩ 8 (by kernel_rfl) (by kernel_rfl) (by kernel_rfl) (by kernel_rfl)) ?_
  intro W base args ds gs before hval0 hW _ hsz _
  have hval : ∀ (j : Nat) t v, Try.f5.params[j]? = some t → args[j]? = some v → Value.okWide Try.prog W .any base t v := hval0
  have hW' := hW
  obtain ⟨p, q, hA0, hV, rfl, hfz, hnd⟩ := hW
  have hA : DataW.TrodAll enc Try.prog W 0 (fun _ => true) true Try.f5.params.toList args.toList ds p := hA0
  have hsz' : (DataW.weightsEach Try.prog (Try.f5.params.toList ++ Rows.trieOrdersSpec.plain.varTypes Try.prog) (ds ++ gs)).all (· ≤ reachBytes) = true := hsz
  rw [Try.params5] at hA hval hsz'
  obtain ⟨rfl, rfl⟩ := trodVars_none hV
  obtain ⟨g, ρ', avs, hr, hs, hg, hvl, hlen, hrep⟩ := open_args (G := 0) (L := [3, 22, 35, 25, 23]) (by kernel_rfl) (by kernel_rfl) (by kernel_rfl) (by decide) hA (fun j t v h1 h2 => hval j t v (by simpa using h1) (by simpa using h2)) [] (fun _ => ⟨0, 0, 0⟩) (fun o ho => by cases ho) (rel_nil W)
  have hA1 := hA
  obtain ⟨v0, vs0, d0, ds0, p0, q0, hargs, rfl, rfl, h0, r0⟩ := trodAll_cons hA1
  obtain ⟨v1, vs1, d1, ds1, p1, q1, rfl, rfl, rfl, h1, r1⟩ := trodAll_cons r0
  obtain ⟨v2, vs2, d2, ds2, p2, q2, rfl, rfl, rfl, h2, r2⟩ := trodAll_cons r1
  obtain ⟨rfl, rfl, rfl⟩ := trodAll_nil r2
  obtain rfl : args = #[v0, v1, v2] := by cases args; simp_all
  match avs, hlen with
  | [a0, a1, a2], _ =>
  obtain ⟨w, rfl, rfl⟩ := int_arg Try.underlying3 (hrep 0 3 d0 a0 rfl rfl rfl)
  obtain ⟨ad, ops, rfl, hops, hsl, hds⟩ := ops_arg (hrep 1 22 d1 a1 rfl rfl rfl)
  obtain ⟨ad2, ops2, rfl, hops2, hsl2, _⟩ := ops_arg (hrep 2 22 d2 a2 rfl rfl rfl)
  have hlen : ops.length ≤ 4611686018427387904 := by
    rcases hds with ⟨_, rfl⟩ | ⟨ds, sp, rfl, e⟩
    · simp
    · have := sized_slice hsz' (j := 1) (t := 22) rfl rfl Try.underlying22
      have hb : Try.prog.bytesOf 35 = 40 := by kernel_rfl
      have hlt := reachBytes_lt
      rw [hb] at this
      omega
  have hG : T.G = 0 := by unfold T; kernel_rfl
  simp only [List.nil_append] at hr hvl hsl hsl2
  refine (wd_true t5 (H := g) (orders_w (fun o ho => (hops o ho).1) (fun o ho => (hops2 o ho).1) hlen hsl hsl2) (by rw [hG]; exact hr) (args' := #[v0, v1, v2]) hvl (fun o ho => by obtain ⟨c, rfl⟩ := hg o ho; rfl)).mono fun e W' ⟨he, bel⟩ => ?_
  subst he
  exact ⟨_, rfl, _, _, _, [], _, [], hW', trodAll_mk1 (shut_bool Try.underlying4 _), args_stay (by kernel_rfl) (by kernel_rfl) (by kernel_rfl) bel (by decide) hA, rfl, bel.frame _, fun h => by cases h⟩

theorem trieOrders_holds : Rows.TrieOrdersSaid :=
  OpenClaim.holds_of_wide 5 Try.f5 rfl rfl rfl rfl rfl rfl rfl ⟨rfl, rfl, rfl, rfl, rfl⟩ rfl rfl rfl rfl rfl (by kernel_rfl) Try.func5 (by kernel_rfl)
    (of_decide_eq_true (by kernel_rfl)) (by unfold Func.isWrapper; first | (rw [if_pos (by decide +kernel)]; kernel_rfl) | (rw [if_neg (by decide +kernel)]; exact ⟨rfl, rfl⟩))
    (fun os started H enc _ => trieOrders_lifted os started H enc)

#print axioms trieOrders_holds
end Go.Proofs.Yticgkaanaimllaa.Ev
