/- SchemaFinds: what is found in any schema, sound or not, by the program and by the document: whatever the schema and the questions, the law answers true. Conditions: none. -/
import Derived.Test.YtpllhhaeclnngaaGreatFin3
import Derived.ChangeArms
import Derived.ChangeStays
import Derived.ChangeOld
import Derived.ChangeShapes
import Derived.WideShapes
import Derived.DataReads
import Derived.RowKit
import Derived.ProofKit
import Derived.SizedLaws
import Derived.Test.YtpllhhaeclnngaaGreatRows
import Derived.OpenShut
import Derived.JoinedOf
import Derived.MakeChecks
import Derived.Stop.Joined
/- What is wrong with a call: the program and the document. -/
namespace Go.Proofs.YtpllhhaeclnngaaGreat.Ev
set_option maxRecDepth 100000
set_option linter.unusedSimpArgs false
set_option linter.unusedVariables false
variable {R : FRes → Heap → Prop} {H K : Heap}

theorem hget_frz_nin {c : Nat} : ∀ {bs : List Nat} {H : Heap}, c ∉ bs → hget (frz H bs) c = hget H c
  | [], H, _ => rfl
  | b :: bs, H, h => by
    simp only [List.mem_cons, not_or] at h
    rw [frz, hget_frz_nin h.2]
    simp only [frz1]
    split
    · rw [hget_ne (Ne.symm h.1)]
    · rfl
theorem Base.frz {bs : List Nat} (hb : Base H K) (h : ∀ b ∈ bs, H.length ≤ b) : Base H (Ev.frz K bs) :=
  ⟨by rw [frz_length]; exact hb.1, fun c hc => by rw [hget_frz_nin fun q => by have := h c q; omega]; exact hb.2 c hc⟩

/-- What is wrong with a call. -/
def callE (s : Sch) (tab act : List UInt8) (args : List Bt) : Int :=
  match named Tbl.name s.tables tab with
  | none => 110
  | some t => match named Act.name s.actions act with
    | none => 113
    | some a => if ¬ act ∈ t.actions then 113 else if a.params.length ≠ args.length then 76 else if (List.zip a.params args).all (fun x => fitsV x.2 x.1.width) = true then 0 else 76

theorem zip_take {α β : Type} {a : List α} {b : List β} (h : a.length = b.length) {i : Nat} (hi : i < a.length) : (a.zip b).take (i + 1) = (a.zip b).take i ++ [(a[i], b[i])] := by
  rw [List.take_add_one, List.getElem?_eq_getElem (by simp; omega), List.getElem_zip]
  rfl

def clI (K0 : Heap) (bx : Nat) (a : List Fld) (args : List Bt) (va : Value) : Nat → Env → Heap → Prop := fun z e K' =>
  ∃ i : Nat, i ≤ a.length ∧ z = a.length - i ∧ Base K0 K' ∧ ((a.zip args).take i).all (fun x => fitsV x.2 x.1.width) = true ∧
    (∃ x : Nat → Value, e = [x 0, x 1, x 2, x 3, x 4, .pointer (some ⟨bx, 0, none⟩), x 6, x 7, x 8, x 9, x 10, x 11, x 12, x 13, x 14, x 15, x 16, x 17, x 18, x 19, x 20, x 21, x 22, x 23, x 24, x 25, x 26, x 27, x 28, x 29, x 30, x 31, x 32, x 33, x 34, x 35, x 36, x 37, x 38, x 39, x 40, x 41, x 42, x 43, x 44, x 45, x 46, x 47, x 48, x 49, x 50, x 51, x 52, va, .int .i64 (args.length : Int), .int .i64 (i : Int), x 56, x 57, x 58, x 59, x 60, x 61, x 62, x 63, x 64, x 65, x 66, x 67, x 68, x 69])

set_option maxHeartbeats 2000000 in
theorem call_s {s : Sch} (hs : s.OK H) (hb : Base H K) {tab act : List UInt8} {dv : Value} {args : List Bt} (hd : BtL H dv args) (h : R (.ret (.int .i64 (callE s tab act args))) K) : WD T 103 [.agg s.cells.toArray, .string (bs tab), .agg #[.string (bs act), dv]] K R := by
  refine WD.gc0 (WD.of follows t103 (by simp) ?_)
  obtain ⟨o0, o1, o2, o3, o4, o5⟩ := hs.one
  have hd1 := hd.1.one
  simp only [Sch.cells]
  simp (disch := omega) only [kB, kcx, kdm, kdn, kel, aop, resultsL, resultOf, Nat.reduceEqDiff, reduceCtorEq, eq1, apartOK, apart2, AObj.live, Int.reduceEq, Int.reduceLT, Int.reduceLE, Int.reduceAdd, Int.reduceSub, Int.reduceMul, Int.reduceToNat, cutCells, Nat.reduceAdd, Nat.reduceLeDiff, Nat.reduceLT, Nat.reduceMul, Nat.reduceSub, o0, o1, o2, o3, o4, o5, hd1]
  refine WV.of (fun c hc => ?_) ?_
  · simp only [List.mem_cons, List.not_mem_nil, or_false] at hc
    rcases hc with rfl | rfl
    · rw [hget_base0]; rfl
    · rw [hget_base]; rfl
  have hk1 := hb.1
  refine tableAt_s hs ((hb.app _).frz (fun c hc => by simp only [List.mem_cons, List.not_mem_nil, or_false] at hc; rcases hc with rfl | rfl <;> omega)) ?_
  rw [thaw_frz0]
  rcases named_cases Tbl.name s.tables tab with ⟨e1, e2⟩ | ⟨k, hk, e1, e2, _⟩
  · rw [callE, e2] at h
    rw [e1]
    simp (disch := omega) only [kB, kcx, kdm, kdn, kel, aop, resultsL, resultOf, Nat.reduceEqDiff, reduceCtorEq, eq1, apartOK, apart2, AObj.live, Int.reduceEq, Int.reduceLT, Int.reduceLE, Int.reduceAdd, Int.reduceSub, Int.reduceMul, Int.reduceToNat, cutCells, Nat.reduceAdd, Nat.reduceLeDiff, Nat.reduceLT, Nat.reduceMul, Nat.reduceSub]
    refine actionAt_s hs (hb.app _) ?_
    simp (disch := omega) only [kB, kcx, kdm, kdn, kel, aop, resultsL, resultOf, Nat.reduceEqDiff, reduceCtorEq, eq1, apartOK, apart2, AObj.live, Int.reduceEq, Int.reduceLT, Int.reduceLE, Int.reduceAdd, Int.reduceSub, Int.reduceMul, Int.reduceToNat, cutCells, Nat.reduceAdd, Nat.reduceLeDiff, Nat.reduceLT, Nat.reduceMul, Nat.reduceSub]
    exact ⟨_, rfl, ⟨_, rfl⟩, .int, h⟩
  · rw [callE, e2] at h
    simp only at h
    rw [e1]
    simp (disch := omega) only [kB, kcx, kdm, kdn, kel, aop, resultsL, resultOf, Nat.reduceEqDiff, reduceCtorEq, eq1, apartOK, apart2, AObj.live, Int.reduceEq, Int.reduceLT, Int.reduceLE, Int.reduceAdd, Int.reduceSub, Int.reduceMul, Int.reduceToNat, cutCells, Nat.reduceAdd, Nat.reduceLeDiff, Nat.reduceLT, Nat.reduceMul, Nat.reduceSub]
    refine actionAt_s hs (hb.app _) ?_
    have hok := hs.ts.2.2 _ (List.getElem_mem hk)
    obtain ⟨hr, hn, _⟩ := hs.ts
    obtain ⟨ad, hv⟩ := hr.sl
    rw [hv] at hr
    obtain ⟨b, u0, w0, rfl, hbl, hrow0, hcut, hle, hat⟩ := hr.at Tbl.len hk
    have hrow : hget K b = .row (s.tables.map Tbl.cells).flatten u0 w0 := by rw [hb.2 b hbl]; exact hrow0
    have hbl2 : b < K.length := Nat.lt_of_lt_of_le hbl hb.1
    have c3 : (0 : Int) ≤ (k : Int) := by omega
    have c4 : ¬ (k : Int) < 0 := by omega
    have c5 : (k : Int) < (s.tables.length : Int) := by omega
    have h2 := hat 2 (by decide)
    simp only [Tbl.cells, List.getElem?_cons_succ, List.getElem?_cons_zero] at h2
    rw [List.length_map] at hv
    generalize s.tables[k] = t at *
    rcases named_cases Act.name s.actions act with ⟨f1, f2⟩ | ⟨j, hj, f1, f2, _⟩
    · rw [f2] at h
      rw [f1]
      simp (disch := omega) only [kB, kcx, kdm, kdn, kel, aop, resultsL, resultOf, Nat.reduceEqDiff, reduceCtorEq, eq1, apartOK, apart2, AObj.live, Int.reduceEq, Int.reduceLT, Int.reduceLE, Int.reduceAdd, Int.reduceSub, Int.reduceMul, Int.reduceToNat, cutCells, Nat.reduceAdd, Nat.reduceLeDiff, Nat.reduceLT, Nat.reduceMul, Nat.reduceSub, c4]
      exact ⟨_, rfl, ⟨_, rfl⟩, .int, h⟩
    · rw [f2] at h
      simp only at h
      rw [f1]
      have d4 : ¬ (j : Int) < 0 := by omega
      simp (disch := omega) only [kB, kcx, kdm, kdn, kel, aop, resultsL, resultOf, Nat.reduceEqDiff, reduceCtorEq, eq1, apartOK, apart2, AObj.live, Int.reduceEq, Int.reduceLT, Int.reduceLE, Int.reduceAdd, Int.reduceSub, Int.reduceMul, Int.reduceToNat, cutCells, Nat.reduceAdd, Nat.reduceLeDiff, Nat.reduceLT, Nat.reduceMul, Nat.reduceSub, c3, c4, c5, d4, hv, hrow, h2]
      refine ctn_s hok.2.1 (hb.app _) ?_
      by_cases g1 : act ∈ t.actions
      · rw [if_neg (by simpa using g1)] at h
        have aok := hs.acs.2.2 _ (List.getElem_mem hj)
        obtain ⟨ar, an, _⟩ := hs.acs
        obtain ⟨ad2, av⟩ := ar.sl
        rw [av] at ar
        obtain ⟨b2, u2, w2', rfl, hbl3, hrow2, _, hle2, hat2⟩ := ar.at Act.len hj
        have hrow3 : hget K b2 = .row (s.actions.map Act.cells).flatten u2 w2' := by rw [hb.2 b2 hbl3]; exact hrow2
        have hbl4 : b2 < K.length := Nat.lt_of_lt_of_le hbl3 hb.1
        have d3 : (0 : Int) ≤ (j : Int) := by omega
        have d5 : (j : Int) < (s.actions.length : Int) := by omega
        have h3 := hat2 1 (by decide)
        simp only [Act.cells, List.getElem?_cons_succ, List.getElem?_cons_zero] at h3
        rw [List.length_map] at av
        generalize s.actions[j] = a at *
        obtain ⟨pr, pn, pok⟩ := aok.1
        obtain ⟨dr, dn, dok⟩ := hd
        obtain ⟨ad3, pv⟩ := pr.sl
        obtain ⟨ad4, dv'⟩ := dr.sl
        subst dv'
        rw [pv] at pr h3
        rw [List.length_map] at pv pr h3 dr ⊢
        rw [decide_eq_true g1]
        unfold few at pn dn
        by_cases g2 : a.params.length = args.length
        · rw [if_neg (by simpa using g2)] at h
          have g3 : (a.params.length : Int) = (args.length : Int) := by omega
          simp (disch := omega) only [kB, kcx, kdm, kdn, kel, aop, resultsL, resultOf, Nat.reduceEqDiff, reduceCtorEq, eq1, apartOK, apart2, AObj.live, Int.reduceEq, Int.reduceLT, Int.reduceLE, Int.reduceAdd, Int.reduceSub, Int.reduceMul, Int.reduceToNat, cutCells, Nat.reduceAdd, Nat.reduceLeDiff, Nat.reduceLT, Nat.reduceMul, Nat.reduceSub, c4, d3, d4, d5, av, hrow3, h3, g3]
          obtain ⟨K2, hK2⟩ : ∃ K2, K2 = K ++ [AObj.row [s.hv, s.mv, s.sv, s.av, s.tv, s.cv] 0 true, AObj.row [.string (bs act), .slice ad4 args.length args.length] 0 true] := ⟨_, rfl⟩
          have hK2' := hK2.symm
          simp only [hv, av] at hK2'
          rw [hK2']
          have bK : Base K K2 := by rw [hK2]; exact Base.app0 _
          have hbox : hget K2 (K.length + 1) = .row [.string (bs act), .slice ad4 args.length args.length] 0 true := by rw [hK2, hget_base]; rfl
          have lK2 : K2.length = K.length + 2 := by rw [hK2]; simp
          clear hK2 hK2'
          refine WLoop.inv (clI K2 (K.length + 1) a.params args (.slice ad3 a.params.length a.params.length)) ?_ a.params.length _ _ ⟨0, Nat.zero_le _, by omega, Base.refl, rfl, by exact ex_env rfl⟩
          rintro z e K' ⟨i, hi, rfl, bK2, hall, ⟨x, rfl⟩⟩
          by_cases hlt : i < a.params.length
          · have q0 : (i : Int) < (a.params.length : Int) := by omega
            have q1 : (i : Int) < (args.length : Int) := by omega
            have q2 : i < args.length := by omega
            obtain ⟨b5, u5, w5, rfl, p1, p2, p3, p4, p5⟩ := pr.at Fld.len hlt
            obtain ⟨b6, u6, w6, rfl, r1, r2, r3, r4, r5⟩ := dr.at Bt.len q2
            have bA := (hb.trans bK).trans bK2
            have prow : hget K' b5 = .row (a.params.map Fld.cells).flatten u5 w5 := by rw [bA.2 b5 p1]; exact p2
            have rrow : hget K' b6 = .row (args.map Bt.cells).flatten u6 w6 := by rw [bA.2 b6 r1]; exact r2
            have lp : b5 < K'.length := Nat.lt_of_lt_of_le p1 bA.1
            have lr : b6 < K'.length := Nat.lt_of_lt_of_le r1 bA.1
            have hbox2 : hget K' (K.length + 1) = .row [.string (bs act), .slice (some ⟨b6, 0, none⟩) args.length args.length] 0 true := by rw [bK2.2 _ (by omega)]; exact hbox
            have lb : K.length + 1 < K'.length := by have := bK2.1; omega
            have w2 : IntKind.i64.wrap ((i : Int) + 1) = ((i + 1 : Nat) : Int) := by rw [show (i : Int) + 1 = ((i + 1 : Nat) : Int) by omega]; exact wr_i64 (by omega) (by omega)
            have hf := pok _ (List.getElem_mem hlt)
            have hba := dok _ (List.getElem_mem q2)
            have hz := zip_take g2 hlt
            have hin : (a.params[i], args[i]) ∈ a.params.zip args := List.mem_of_getElem? (i := i) (by rw [List.getElem?_eq_getElem (by simp; omega), List.getElem_zip])
            generalize a.params[i] = y at *
            generalize args[i] = c at *
            simp only [Fld.cells] at p3
            have r3' : List.take 2 (List.drop (i * 2) (args.map Bt.cells).flatten) = c.cells := r3
            simp (disch := omega) only [kB, kcx, kdm, kdn, kel, aop, resultsL, resultOf, Nat.reduceEqDiff, reduceCtorEq, eq1, apartOK, apart2, AObj.live, Int.reduceEq, Int.reduceLT, Int.reduceLE, Int.reduceAdd, Int.reduceSub, Int.reduceMul, Int.reduceToNat, cutCells, Nat.reduceAdd, Nat.reduceLeDiff, Nat.reduceLT, Nat.reduceMul, Nat.reduceSub, q0, q1, prow, p3, p4, rrow, r3', r4, hbox2]
            refine fits_s hba hf ?_
            by_cases v : fitsV c y.width = true
            · rw [v]
              simp (disch := omega) only [kB, kcx, kdm, kdn, kel, aop, resultsL, resultOf, Nat.reduceEqDiff, reduceCtorEq, eq1, apartOK, apart2, AObj.live, Int.reduceEq, Int.reduceLT, Int.reduceLE, Int.reduceAdd, Int.reduceSub, Int.reduceMul, Int.reduceToNat, cutCells, Nat.reduceAdd, Nat.reduceLeDiff, Nat.reduceLT, Nat.reduceMul, Nat.reduceSub, w2]
              refine ⟨a.params.length - (i + 1), by omega, i + 1, by omega, rfl, bK2.app _, ?_, by exact ex_env rfl⟩
              rw [hz, List.all_append, hall]
              simpa using v
            · have hnot : ¬ (a.params.zip args).all (fun x => fitsV x.2 x.1.width) = true := fun q => v (List.all_eq_true.1 q _ hin)
              rw [if_neg hnot] at h
              rw [Bool.not_eq_true] at v
              rw [v]
              simp (disch := omega) only [kB, kcx, kdm, kdn, kel, aop, resultsL, resultOf, Nat.reduceEqDiff, reduceCtorEq, eq1, apartOK, apart2, AObj.live, Int.reduceEq, Int.reduceLT, Int.reduceLE, Int.reduceAdd, Int.reduceSub, Int.reduceMul, Int.reduceToNat, cutCells, Nat.reduceAdd, Nat.reduceLeDiff, Nat.reduceLT, Nat.reduceMul, Nat.reduceSub]
              exact ⟨_, rfl, ((bK.trans bK2).app _).ext, .int, h⟩
          · have q0 : ¬ (i : Int) < (args.length : Int) := by omega
            have hil : (a.params.zip args).take i = a.params.zip args := List.take_of_length_le (by simp; omega)
            rw [hil] at hall
            rw [if_pos hall] at h
            simp (disch := omega) only [kB, kcx, kdm, kdn, kel, aop, resultsL, resultOf, Nat.reduceEqDiff, reduceCtorEq, eq1, apartOK, apart2, AObj.live, Int.reduceEq, Int.reduceLT, Int.reduceLE, Int.reduceAdd, Int.reduceSub, Int.reduceMul, Int.reduceToNat, cutCells, Nat.reduceAdd, Nat.reduceLeDiff, Nat.reduceLT, Nat.reduceMul, Nat.reduceSub, q0]
            exact ⟨_, rfl, (bK.trans bK2).ext, .int, h⟩
        · rw [if_pos (by simpa using g2)] at h
          have g3 : ¬ (a.params.length : Int) = (args.length : Int) := by omega
          simp (disch := omega) only [kB, kcx, kdm, kdn, kel, aop, resultsL, resultOf, Nat.reduceEqDiff, reduceCtorEq, eq1, apartOK, apart2, AObj.live, Int.reduceEq, Int.reduceLT, Int.reduceLE, Int.reduceAdd, Int.reduceSub, Int.reduceMul, Int.reduceToNat, cutCells, Nat.reduceAdd, Nat.reduceLeDiff, Nat.reduceLT, Nat.reduceMul, Nat.reduceSub, c4, d3, d4, d5, av, hrow3, h3, g3]
          exact ⟨_, rfl, ⟨_, rfl⟩, .int, h⟩
      · rw [if_pos g1] at h
        rw [decide_eq_false g1]
        simp (disch := omega) only [kB, kcx, kdm, kdn, kel, aop, resultsL, resultOf, Nat.reduceEqDiff, reduceCtorEq, eq1, apartOK, apart2, AObj.live, Int.reduceEq, Int.reduceLT, Int.reduceLE, Int.reduceAdd, Int.reduceSub, Int.reduceMul, Int.reduceToNat, cutCells, Nat.reduceAdd, Nat.reduceLeDiff, Nat.reduceLT, Nat.reduceMul, Nat.reduceSub, c4, d4]
        exact ⟨_, rfl, ⟨_, rfl⟩, .int, h⟩

end Go.Proofs.YtpllhhaeclnngaaGreat.Ev

/- What is wrong with a call: the document. -/
namespace Go.Proofs.YtpllhhaeclnngaaGreat.Ev
set_option maxRecDepth 100000
set_option linter.unusedSimpArgs false
set_option linter.unusedVariables false
variable {R : FRes → Heap → Prop} {H K : Heap}

def rclI (K0 : Heap) (bx : Nat) (a : List Fld) (args : List Bt) (va : Value) : Nat → Env → Heap → Prop := fun z e K' =>
  ∃ i : Nat, i ≤ a.length ∧ z = a.length - i ∧ K' = K0 ∧ ((a.zip args).take i).all (fun x => fitsV x.2 x.1.width) = true ∧
    (∃ x : Nat → Value, e = [x 0, x 1, x 2, x 3, x 4, .pointer (some ⟨bx, 0, none⟩), x 6, x 7, x 8, x 9, va, .int .i64 (i : Int), x 12, x 13, x 14, x 15, x 16, x 17, x 18, x 19, x 20, x 21, x 22, x 23, x 24, x 25, x 26, x 27, x 28, x 29, x 30, x 31, x 32, x 33, x 34, x 35, x 36, x 37, x 38, x 39, x 40, x 41, x 42, x 43, x 44, x 45, x 46, x 47, x 48, x 49, x 50, x 51, x 52, x 53, x 54, x 55, x 56, x 57, x 58, x 59, x 60, x 61, x 62, x 63, x 64, x 65, x 66, x 67])

set_option maxHeartbeats 2000000 in
theorem rcall_s {s : Sch} (hs : s.OK H) (hb : Base H K) {tab act : List UInt8} {dv : Value} {args : List Bt} (hd : BtL H dv args) (h : R (.ret (.int .i64 (callE s tab act args))) K) : WD T 104 [.agg s.cells.toArray, .string (bs tab), .agg #[.string (bs act), dv]] K R := by
  refine WD.gc0 (WD.of follows t104 (by simp) ?_)
  obtain ⟨o0, o1, o2, o3, o4, o5⟩ := hs.one
  have hd1 := hd.1.one
  simp only [Sch.cells]
  simp (disch := omega) only [kB, kcx, kdm, kdn, kel, aop, resultsL, resultOf, Nat.reduceEqDiff, reduceCtorEq, eq1, apartOK, apart2, AObj.live, Int.reduceEq, Int.reduceLT, Int.reduceLE, Int.reduceAdd, Int.reduceSub, Int.reduceMul, Int.reduceToNat, cutCells, Nat.reduceAdd, Nat.reduceLeDiff, Nat.reduceLT, Nat.reduceMul, Nat.reduceSub, o0, o1, o2, o3, o4, o5, hd1]
  have hk1 := hb.1
  refine rtableAt_s hs (hb.app _) ?_
  rcases named_cases Tbl.name s.tables tab with ⟨e1, e2⟩ | ⟨k, hk, e1, e2, _⟩
  · rw [callE, e2] at h
    rw [e1]
    simp (disch := omega) only [kB, kcx, kdm, kdn, kel, aop, resultsL, resultOf, Nat.reduceEqDiff, reduceCtorEq, eq1, apartOK, apart2, AObj.live, Int.reduceEq, Int.reduceLT, Int.reduceLE, Int.reduceAdd, Int.reduceSub, Int.reduceMul, Int.reduceToNat, cutCells, Nat.reduceAdd, Nat.reduceLeDiff, Nat.reduceLT, Nat.reduceMul, Nat.reduceSub]
    exact ⟨_, rfl, ⟨_, rfl⟩, .int, h⟩
  · rw [callE, e2] at h
    simp only at h
    rw [e1]
    have c4 : ¬ (k : Int) < 0 := by omega
    simp (disch := omega) only [kB, kcx, kdm, kdn, kel, aop, resultsL, resultOf, Nat.reduceEqDiff, reduceCtorEq, eq1, apartOK, apart2, AObj.live, Int.reduceEq, Int.reduceLT, Int.reduceLE, Int.reduceAdd, Int.reduceSub, Int.reduceMul, Int.reduceToNat, cutCells, Nat.reduceAdd, Nat.reduceLeDiff, Nat.reduceLT, Nat.reduceMul, Nat.reduceSub, c4]
    refine ractionAt_s hs (hb.app _) ?_
    have hok := hs.ts.2.2 _ (List.getElem_mem hk)
    obtain ⟨hr, hn, _⟩ := hs.ts
    obtain ⟨ad, hv⟩ := hr.sl
    rw [hv] at hr
    obtain ⟨b, u0, w0, rfl, hbl, hrow0, hcut, hle, hat⟩ := hr.at Tbl.len hk
    have hrow : hget K b = .row (s.tables.map Tbl.cells).flatten u0 w0 := by rw [hb.2 b hbl]; exact hrow0
    have hbl2 : b < K.length := Nat.lt_of_lt_of_le hbl hb.1
    have c3 : (0 : Int) ≤ (k : Int) := by omega
    have c5 : (k : Int) < (s.tables.length : Int) := by omega
    have h2 := hat 2 (by decide)
    simp only [Tbl.cells, List.getElem?_cons_succ, List.getElem?_cons_zero] at h2
    rw [List.length_map] at hv
    generalize s.tables[k] = t at *
    simp (disch := omega) only [kB, kcx, kdm, kdn, kel, aop, resultsL, resultOf, Nat.reduceEqDiff, reduceCtorEq, eq1, apartOK, apart2, AObj.live, Int.reduceEq, Int.reduceLT, Int.reduceLE, Int.reduceAdd, Int.reduceSub, Int.reduceMul, Int.reduceToNat, cutCells, Nat.reduceAdd, Nat.reduceLeDiff, Nat.reduceLT, Nat.reduceMul, Nat.reduceSub, c3, c4, c5, hv, hrow, h2]
    refine rhas_s hok.2.1 (hb.app _) ?_
    rcases named_cases Act.name s.actions act with ⟨f1, f2⟩ | ⟨j, hj, f1, f2, _⟩
    · rw [f2] at h
      rw [f1]
      simp (disch := omega) only [kB, kcx, kdm, kdn, kel, aop, resultsL, resultOf, Nat.reduceEqDiff, reduceCtorEq, eq1, apartOK, apart2, AObj.live, Int.reduceEq, Int.reduceLT, Int.reduceLE, Int.reduceAdd, Int.reduceSub, Int.reduceMul, Int.reduceToNat, cutCells, Nat.reduceAdd, Nat.reduceLeDiff, Nat.reduceLT, Nat.reduceMul, Nat.reduceSub]
      exact ⟨_, rfl, ⟨_, rfl⟩, .int, h⟩
    · rw [f2] at h
      simp only at h
      rw [f1]
      have d4 : ¬ (j : Int) < 0 := by omega
      by_cases g1 : act ∈ t.actions
      · rw [if_neg (by simpa using g1)] at h
        have aok := hs.acs.2.2 _ (List.getElem_mem hj)
        obtain ⟨ar, an, _⟩ := hs.acs
        obtain ⟨ad2, av⟩ := ar.sl
        rw [av] at ar
        obtain ⟨b2, u2, w2', rfl, hbl3, hrow2, _, hle2, hat2⟩ := ar.at Act.len hj
        have hrow3 : hget K b2 = .row (s.actions.map Act.cells).flatten u2 w2' := by rw [hb.2 b2 hbl3]; exact hrow2
        have hbl4 : b2 < K.length := Nat.lt_of_lt_of_le hbl3 hb.1
        have d3 : (0 : Int) ≤ (j : Int) := by omega
        have d5 : (j : Int) < (s.actions.length : Int) := by omega
        have h3 := hat2 1 (by decide)
        simp only [Act.cells, List.getElem?_cons_succ, List.getElem?_cons_zero] at h3
        rw [List.length_map] at av
        generalize s.actions[j] = a at *
        obtain ⟨pr, pn, pok⟩ := aok.1
        obtain ⟨dr, dn, dok⟩ := hd
        obtain ⟨ad3, pv⟩ := pr.sl
        obtain ⟨ad4, dv'⟩ := dr.sl
        subst dv'
        rw [pv] at pr h3
        rw [List.length_map] at pv pr h3 dr ⊢
        rw [decide_eq_true g1]
        unfold few at pn dn
        by_cases g2 : a.params.length = args.length
        · rw [if_neg (by simpa using g2)] at h
          have g3 : (a.params.length : Int) = (args.length : Int) := by omega
          simp (disch := omega) only [kB, kcx, kdm, kdn, kel, aop, resultsL, resultOf, Nat.reduceEqDiff, reduceCtorEq, eq1, apartOK, apart2, AObj.live, Int.reduceEq, Int.reduceLT, Int.reduceLE, Int.reduceAdd, Int.reduceSub, Int.reduceMul, Int.reduceToNat, cutCells, Nat.reduceAdd, Nat.reduceLeDiff, Nat.reduceLT, Nat.reduceMul, Nat.reduceSub, d3, d4, d5, av, hrow3, h3, g3]
          obtain ⟨K2, hK2⟩ : ∃ K2, K2 = K ++ [AObj.row [s.hv, s.mv, s.sv, s.av, s.tv, s.cv] 0 true, AObj.row [.string (bs act), .slice ad4 args.length args.length] 0 true] := ⟨_, rfl⟩
          have hK2' := hK2.symm
          simp only [hv, av] at hK2'
          rw [hK2']
          have bK : Base K K2 := by rw [hK2]; exact Base.app0 _
          have hbox : hget K2 (K.length + 1) = .row [.string (bs act), .slice ad4 args.length args.length] 0 true := by rw [hK2, hget_base]; rfl
          have lK2 : K2.length = K.length + 2 := by rw [hK2]; simp
          clear hK2 hK2'
          refine WLoop.inv (rclI K2 (K.length + 1) a.params args (.slice ad3 a.params.length a.params.length)) ?_ a.params.length _ _ ⟨0, Nat.zero_le _, by omega, rfl, rfl, by exact ex_env rfl⟩
          rintro z e K' ⟨i, hi, rfl, rfl, hall, ⟨x, rfl⟩⟩
          by_cases hlt : i < a.params.length
          · have q0 : (i : Int) < (a.params.length : Int) := by omega
            have q1 : (i : Int) < (args.length : Int) := by omega
            have q2 : i < args.length := by omega
            obtain ⟨b5, u5, w5, rfl, p1, p2, p3, p4, p5⟩ := pr.at Fld.len hlt
            obtain ⟨b6, u6, w6, rfl, r1, r2, r3, r4, r5⟩ := dr.at Bt.len q2
            have bA := hb.trans bK
            have prow : hget K' b5 = .row (a.params.map Fld.cells).flatten u5 w5 := by rw [bA.2 b5 p1]; exact p2
            have rrow : hget K' b6 = .row (args.map Bt.cells).flatten u6 w6 := by rw [bA.2 b6 r1]; exact r2
            have lp : b5 < K'.length := Nat.lt_of_lt_of_le p1 bA.1
            have lr : b6 < K'.length := Nat.lt_of_lt_of_le r1 bA.1
            have w2 : IntKind.i64.wrap ((i : Int) + 1) = ((i + 1 : Nat) : Int) := by rw [show (i : Int) + 1 = ((i + 1 : Nat) : Int) by omega]; exact wr_i64 (by omega) (by omega)
            have hf := pok _ (List.getElem_mem hlt)
            have hba := dok _ (List.getElem_mem q2)
            have hz := zip_take g2 hlt
            have hin : (a.params[i], args[i]) ∈ a.params.zip args := List.mem_of_getElem? (i := i) (by rw [List.getElem?_eq_getElem (by simp; omega), List.getElem_zip])
            have p6 := p5 1 (by decide)
            generalize a.params[i] = y at *
            generalize args[i] = c at *
            simp only [Fld.cells, List.getElem?_cons_succ, List.getElem?_cons_zero] at p6
            have r3' : List.take 2 (List.drop (i * 2) (args.map Bt.cells).flatten) = c.cells := r3
            simp (disch := omega) only [kB, kcx, kdm, kdn, kel, aop, resultsL, resultOf, Nat.reduceEqDiff, reduceCtorEq, eq1, apartOK, apart2, AObj.live, Int.reduceEq, Int.reduceLT, Int.reduceLE, Int.reduceAdd, Int.reduceSub, Int.reduceMul, Int.reduceToNat, cutCells, Nat.reduceAdd, Nat.reduceLeDiff, Nat.reduceLT, Nat.reduceMul, Nat.reduceSub, q0, q1, prow, p6, p4, rrow, r3', r4, hbox]
            refine rfits_s hba hf ?_
            by_cases v : fitsV c y.width = true
            · rw [v]
              simp (disch := omega) only [kB, kcx, kdm, kdn, kel, aop, resultsL, resultOf, Nat.reduceEqDiff, reduceCtorEq, eq1, apartOK, apart2, AObj.live, Int.reduceEq, Int.reduceLT, Int.reduceLE, Int.reduceAdd, Int.reduceSub, Int.reduceMul, Int.reduceToNat, cutCells, Nat.reduceAdd, Nat.reduceLeDiff, Nat.reduceLT, Nat.reduceMul, Nat.reduceSub, w2]
              refine ⟨a.params.length - (i + 1), by omega, i + 1, by omega, rfl, rfl, ?_, by exact ex_env rfl⟩
              rw [hz, List.all_append, hall]
              simpa using v
            · have hnot : ¬ (a.params.zip args).all (fun x => fitsV x.2 x.1.width) = true := fun q => v (List.all_eq_true.1 q _ hin)
              rw [if_neg hnot] at h
              rw [Bool.not_eq_true] at v
              rw [v]
              simp (disch := omega) only [kB, kcx, kdm, kdn, kel, aop, resultsL, resultOf, Nat.reduceEqDiff, reduceCtorEq, eq1, apartOK, apart2, AObj.live, Int.reduceEq, Int.reduceLT, Int.reduceLE, Int.reduceAdd, Int.reduceSub, Int.reduceMul, Int.reduceToNat, cutCells, Nat.reduceAdd, Nat.reduceLeDiff, Nat.reduceLT, Nat.reduceMul, Nat.reduceSub]
              exact ⟨_, rfl, bK.ext, .int, h⟩
          · have q0 : ¬ (i : Int) < (a.params.length : Int) := by omega
            have hil : (a.params.zip args).take i = a.params.zip args := List.take_of_length_le (by simp; omega)
            rw [hil] at hall
            rw [if_pos hall] at h
            simp (disch := omega) only [kB, kcx, kdm, kdn, kel, aop, resultsL, resultOf, Nat.reduceEqDiff, reduceCtorEq, eq1, apartOK, apart2, AObj.live, Int.reduceEq, Int.reduceLT, Int.reduceLE, Int.reduceAdd, Int.reduceSub, Int.reduceMul, Int.reduceToNat, cutCells, Nat.reduceAdd, Nat.reduceLeDiff, Nat.reduceLT, Nat.reduceMul, Nat.reduceSub, q0]
            exact ⟨_, rfl, bK.ext, .int, h⟩
        · rw [if_pos (by simpa using g2)] at h
          have g3 : ¬ (a.params.length : Int) = (args.length : Int) := by omega
          simp (disch := omega) only [kB, kcx, kdm, kdn, kel, aop, resultsL, resultOf, Nat.reduceEqDiff, reduceCtorEq, eq1, apartOK, apart2, AObj.live, Int.reduceEq, Int.reduceLT, Int.reduceLE, Int.reduceAdd, Int.reduceSub, Int.reduceMul, Int.reduceToNat, cutCells, Nat.reduceAdd, Nat.reduceLeDiff, Nat.reduceLT, Nat.reduceMul, Nat.reduceSub, d3, d4, d5, av, hrow3, h3, g3]
          exact ⟨_, rfl, ⟨_, rfl⟩, .int, h⟩
      · rw [if_pos g1] at h
        rw [decide_eq_false g1]
        simp (disch := omega) only [kB, kcx, kdm, kdn, kel, aop, resultsL, resultOf, Nat.reduceEqDiff, reduceCtorEq, eq1, apartOK, apart2, AObj.live, Int.reduceEq, Int.reduceLT, Int.reduceLE, Int.reduceAdd, Int.reduceSub, Int.reduceMul, Int.reduceToNat, cutCells, Nat.reduceAdd, Nat.reduceLeDiff, Nat.reduceLT, Nat.reduceMul, Nat.reduceSub, d4]
        exact ⟨_, rfl, ⟨_, rfl⟩, .int, h⟩

end Go.Proofs.YtpllhhaeclnngaaGreat.Ev

/- Lists that are copied: slices.Clone, the document's appends onto nothing. Printed by gen_y10.py. -/
namespace Go.Proofs.YtpllhhaeclnngaaGreat.Ev
set_option maxRecDepth 100000
set_option linter.unusedSimpArgs false
set_option linter.unusedVariables false
variable {R : FRes → Heap → Prop} {H K : Heap}

theorem eqL_nn (H : Heap) (a b c d : Nat) : eqP H 1 (.slice none a b) (.slice none c d) = some true := rfl
theorem eqL_sn (H : Heap) (x : Addr) (a b c d : Nat) : eqP H 1 (.slice (some x) a b) (.slice none c d) = some false := rfl

theorem RoSl.src {u : Nat} {v : Value} {css : List (List Value)} (h : RoSl K v css) (hu : ∀ cs ∈ css, cs.length = u) : lenV v = some css.length ∧ srcCells K u css.length v = some css.flatten := by
  rcases h with ⟨rfl, rfl | ⟨b, o, k, rfl⟩⟩ | ⟨b, rfl, h3, u0, w0, h4⟩
  · exact ⟨rfl, rfl⟩
  · exact ⟨rfl, rfl⟩
  · refine ⟨rfl, ?_⟩
    have e := flat_len_u hu
    simp only [srcCells, h4]
    rw [if_pos (by omega), List.drop_zero, ← e, List.take_length]

def blk : Value → Option Nat
  | .slice (some ⟨b, _, none⟩) _ _ => some b
  | _ => none
theorem RoSl.same {v : Value} {css : List (List Value)} (h : RoSl H v css) (hs : ∀ c, blk v = some c → c < K.length ∧ hget K c = hget H c) : RoSl K v css := by
  rcases h with q | ⟨b, rfl, h1, u, w, h2⟩
  · exact .inl q
  · obtain ⟨e1, e2⟩ := hs b rfl
    exact .inr ⟨b, rfl, e1, u, w, e2.trans h2⟩
theorem RoSl.lt {v : Value} {css : List (List Value)} (h : RoSl H v css) {c : Nat} (hc : blk v = some c) : c < H.length := by
  rcases h with ⟨_, rfl | ⟨b, o, k, rfl⟩⟩ | ⟨b, rfl, h1, _⟩
  · cases hc
  · cases hc
  · cases hc; exact h1
/-- A list in a block that was not there. -/
def New (n : Nat) (v : Value) : Prop := ∀ c, blk v = some c → n ≤ c

/-- A list is put behind an empty one. -/
theorem app_new {u bys : Nat} {v : Value} {css : List (List Value)} (hr : RoSl K v css) (hu : ∀ cs ∈ css, cs.length = u) (hone : ∀ cs ∈ css, cs.all oneCell = true) (hroom : css.length * bys ≤ 140737488355328 ∧ css.length ≤ 140737488355328) :
    ∃ v' K', appendV (K ++ [.row [] u true]) u bys (.slice (some ⟨K.length, 0, none⟩) 0 0) v = .val v' K' ∧ Base K K' ∧ RoSl K' v' css ∧ New K.length v' := by
  obtain ⟨s1, s2⟩ := (hr.base (Base.app0 [.row [] u true])).src hu
  by_cases h0 : css = []
  · subst h0
    refine ⟨_, _, ?_, Base.app0 [.row [] u true], .inr ⟨K.length, rfl, by simp, u, true, by rw [hget_last]; rfl⟩, fun c hc => by cases hc; exact Nat.le_refl _⟩
    simp only [List.length_nil] at s1 s2
    simp only [appendV, s1, s2, if_true, List.length_nil]
  · have hp : 0 < css.length := List.length_pos_iff.2 h0
    have hf := flat_len_u hu
    have hall : css.flatten.all oneCell = true := List.all_eq_true.2 fun x hx => by
      obtain ⟨cs, h1, h2⟩ := List.mem_flatten.1 hx
      exact List.all_eq_true.1 (hone cs h1) x h2
    refine ⟨.slice (some ⟨K.length + 1, 0, none⟩) css.length css.length, (K ++ [AObj.row [] u true]).set K.length .dead ++ [.row css.flatten u true], ?_, ⟨by simp, fun c hc => ?_⟩, .inr ⟨K.length + 1, rfl, by simp, u, true, ?_⟩, fun c hc => by cases hc; omega⟩
    · simp only [appendV, s1, s2, hget_last, Nat.zero_add, Nat.zero_mul, List.length_nil]
      rw [if_neg (by omega), if_pos ⟨trivial, Nat.le_refl _, Nat.le_refl _, hf⟩, if_neg (by omega), if_pos ⟨by simp only [roomMax]; omega, by simp only [roomMax]; omega, hall⟩]
      simp
    · rw [hget_old (by simp; omega), hget_ne (by omega), hget_old hc]
    · have e : ((K ++ [AObj.row [] u true]).set K.length .dead).length = K.length + 1 := by simp
      rw [← e, hget_last]
theorem app_nil0 {u bys : Nat} {v : Value} {css : List (List Value)} (hr : RoSl K v css) (hu : ∀ cs ∈ css, cs.length = u) (hroom : css.length * bys ≤ 140737488355328 ∧ css.length ≤ 140737488355328) :
    ∃ v' K', appendV K u bys (.slice none 0 0) v = .val v' K' ∧ Base K K' ∧ RoSl K' v' css ∧ New K.length v' := by
  obtain ⟨s1, s2⟩ := hr.src hu
  by_cases h0 : css = []
  · subst h0
    refine ⟨.slice none 0 0, K, ?_, Base.refl, .inl ⟨rfl, .inl rfl⟩, fun c hc => by cases hc⟩
    simp only [List.length_nil] at s1 s2
    simp only [appendV, s1, s2, if_true, List.length_nil]
  · have hp : 0 < css.length := List.length_pos_iff.2 h0
    refine ⟨.slice (some ⟨K.length, 0, none⟩) css.length css.length, K ++ [.row css.flatten u true], ?_, Base.app0 _, .inr ⟨K.length, rfl, by simp, u, true, by rw [hget_last]⟩, fun c hc => by cases hc; exact Nat.le_refl _⟩
    simp only [appendV, s1, s2]
    rw [if_neg (by omega), if_pos ⟨by simp only [roomMax]; omega, by simp only [roomMax]; omega⟩]

theorem cloneF_s {v : Value} {l : List (Fld)} (hr0 : RoSl H v (l.map Fld.cells)) (hn : few 24 l.length) (hb : Base H K) (h : ∀ v' K', Base K K' → RoSl K' v' (l.map Fld.cells) → New K.length v' → R (.ret v') K') : WD T 72 [v] K R := by
  unfold few at hn
  have hr := hr0.base hb
  obtain ⟨ad, rfl⟩ := hr.sl
  refine WD.of follows t72 (by simp) ?_
  obtain ⟨v', K', e1, e2, e3, e4⟩ := app_new (u := 2) (bys := 24) hr (fun cs hc => by obtain ⟨x, _, rfl⟩ := List.mem_map.1 hc; exact Fld.len x) (fun cs hc => by obtain ⟨x, _, rfl⟩ := List.mem_map.1 hc; rfl) (by rw [List.length_map]; omega)
  match ad with
  | none =>
    have hh := h (.slice none 0 0) K Base.refl (by
      rcases hr with q | ⟨b, q2, _⟩
      · exact .inl ⟨q.1, .inl rfl⟩
      · cases q2) (fun c hc => by cases hc)
    simp (disch := omega) only [kB, kcx, kdm, kdn, kel, aop, resultsL, resultOf, Nat.reduceEqDiff, reduceCtorEq, eq1, apartOK, apart2, AObj.live, Int.reduceEq, Int.reduceLT, Int.reduceLE, Int.reduceAdd, Int.reduceSub, Int.reduceMul, Int.reduceToNat, cutCells, Nat.reduceAdd, Nat.reduceLeDiff, Nat.reduceLT, Nat.reduceMul, Nat.reduceSub, eqL_sn, eqL_nn]
    exact hh
  | some a =>
    have hh := h v' K' e2 e3 e4
    simp (disch := omega) only [kB, kcx, kdm, kdn, kel, aop, resultsL, resultOf, Nat.reduceEqDiff, reduceCtorEq, eq1, apartOK, apart2, AObj.live, Int.reduceEq, Int.reduceLT, Int.reduceLE, Int.reduceAdd, Int.reduceSub, Int.reduceMul, Int.reduceToNat, cutCells, Nat.reduceAdd, Nat.reduceLeDiff, Nat.reduceLT, Nat.reduceMul, Nat.reduceSub, eqL_sn, eqL_nn, e1]
    exact hh

theorem cloneS_s {v : Value} {l : List (Stp)} (hr0 : RoSl H v (l.map Stp.cells)) (hn : few 144 l.length) (hb : Base H K) (h : ∀ v' K', Base K K' → RoSl K' v' (l.map Stp.cells) → New K.length v' → R (.ret v') K') : WD T 144 [v] K R := by
  unfold few at hn
  have hr := hr0.base hb
  obtain ⟨ad, rfl⟩ := hr.sl
  refine WD.of follows t144 (by simp) ?_
  obtain ⟨v', K', e1, e2, e3, e4⟩ := app_new (u := 12) (bys := 144) hr (fun cs hc => by obtain ⟨x, _, rfl⟩ := List.mem_map.1 hc; exact Stp.len x) (fun cs hc => by obtain ⟨x, _, rfl⟩ := List.mem_map.1 hc; rfl) (by rw [List.length_map]; omega)
  match ad with
  | none =>
    have hh := h (.slice none 0 0) K Base.refl (by
      rcases hr with q | ⟨b, q2, _⟩
      · exact .inl ⟨q.1, .inl rfl⟩
      · cases q2) (fun c hc => by cases hc)
    simp (disch := omega) only [kB, kcx, kdm, kdn, kel, aop, resultsL, resultOf, Nat.reduceEqDiff, reduceCtorEq, eq1, apartOK, apart2, AObj.live, Int.reduceEq, Int.reduceLT, Int.reduceLE, Int.reduceAdd, Int.reduceSub, Int.reduceMul, Int.reduceToNat, cutCells, Nat.reduceAdd, Nat.reduceLeDiff, Nat.reduceLT, Nat.reduceMul, Nat.reduceSub, eqL_sn, eqL_nn]
    exact hh
  | some a =>
    have hh := h v' K' e2 e3 e4
    simp (disch := omega) only [kB, kcx, kdm, kdn, kel, aop, resultsL, resultOf, Nat.reduceEqDiff, reduceCtorEq, eq1, apartOK, apart2, AObj.live, Int.reduceEq, Int.reduceLT, Int.reduceLE, Int.reduceAdd, Int.reduceSub, Int.reduceMul, Int.reduceToNat, cutCells, Nat.reduceAdd, Nat.reduceLeDiff, Nat.reduceLT, Nat.reduceMul, Nat.reduceSub, eqL_sn, eqL_nn, e1]
    exact hh

theorem cloneK_s {v : Value} {l : List (Ky)} (hr0 : RoSl H v (l.map Ky.cells)) (hn : few 40 l.length) (hb : Base H K) (h : ∀ v' K', Base K K' → RoSl K' v' (l.map Ky.cells) → New K.length v' → R (.ret v') K') : WD T 145 [v] K R := by
  unfold few at hn
  have hr := hr0.base hb
  obtain ⟨ad, rfl⟩ := hr.sl
  refine WD.of follows t145 (by simp) ?_
  obtain ⟨v', K', e1, e2, e3, e4⟩ := app_new (u := 3) (bys := 40) hr (fun cs hc => by obtain ⟨x, _, rfl⟩ := List.mem_map.1 hc; exact Ky.len x) (fun cs hc => by obtain ⟨x, _, rfl⟩ := List.mem_map.1 hc; rfl) (by rw [List.length_map]; omega)
  match ad with
  | none =>
    have hh := h (.slice none 0 0) K Base.refl (by
      rcases hr with q | ⟨b, q2, _⟩
      · exact .inl ⟨q.1, .inl rfl⟩
      · cases q2) (fun c hc => by cases hc)
    simp (disch := omega) only [kB, kcx, kdm, kdn, kel, aop, resultsL, resultOf, Nat.reduceEqDiff, reduceCtorEq, eq1, apartOK, apart2, AObj.live, Int.reduceEq, Int.reduceLT, Int.reduceLE, Int.reduceAdd, Int.reduceSub, Int.reduceMul, Int.reduceToNat, cutCells, Nat.reduceAdd, Nat.reduceLeDiff, Nat.reduceLT, Nat.reduceMul, Nat.reduceSub, eqL_sn, eqL_nn]
    exact hh
  | some a =>
    have hh := h v' K' e2 e3 e4
    simp (disch := omega) only [kB, kcx, kdm, kdn, kel, aop, resultsL, resultOf, Nat.reduceEqDiff, reduceCtorEq, eq1, apartOK, apart2, AObj.live, Int.reduceEq, Int.reduceLT, Int.reduceLE, Int.reduceAdd, Int.reduceSub, Int.reduceMul, Int.reduceToNat, cutCells, Nat.reduceAdd, Nat.reduceLeDiff, Nat.reduceLT, Nat.reduceMul, Nat.reduceSub, eqL_sn, eqL_nn, e1]
    exact hh

theorem cloneT_s {v : Value} {l : List (List UInt8)} (hr0 : RoSl H v (l.map txC)) (hn : few 16 l.length) (hb : Base H K) (h : ∀ v' K', Base K K' → RoSl K' v' (l.map txC) → New K.length v' → R (.ret v') K') : WD T 146 [v] K R := by
  unfold few at hn
  have hr := hr0.base hb
  obtain ⟨ad, rfl⟩ := hr.sl
  refine WD.of follows t146 (by simp) ?_
  obtain ⟨v', K', e1, e2, e3, e4⟩ := app_new (u := 1) (bys := 16) hr (fun cs hc => by obtain ⟨x, _, rfl⟩ := List.mem_map.1 hc; exact txC_len x) (fun cs hc => by obtain ⟨x, _, rfl⟩ := List.mem_map.1 hc; rfl) (by rw [List.length_map]; omega)
  match ad with
  | none =>
    have hh := h (.slice none 0 0) K Base.refl (by
      rcases hr with q | ⟨b, q2, _⟩
      · exact .inl ⟨q.1, .inl rfl⟩
      · cases q2) (fun c hc => by cases hc)
    simp (disch := omega) only [kB, kcx, kdm, kdn, kel, aop, resultsL, resultOf, Nat.reduceEqDiff, reduceCtorEq, eq1, apartOK, apart2, AObj.live, Int.reduceEq, Int.reduceLT, Int.reduceLE, Int.reduceAdd, Int.reduceSub, Int.reduceMul, Int.reduceToNat, cutCells, Nat.reduceAdd, Nat.reduceLeDiff, Nat.reduceLT, Nat.reduceMul, Nat.reduceSub, eqL_sn, eqL_nn]
    exact hh
  | some a =>
    have hh := h v' K' e2 e3 e4
    simp (disch := omega) only [kB, kcx, kdm, kdn, kel, aop, resultsL, resultOf, Nat.reduceEqDiff, reduceCtorEq, eq1, apartOK, apart2, AObj.live, Int.reduceEq, Int.reduceLT, Int.reduceLE, Int.reduceAdd, Int.reduceSub, Int.reduceMul, Int.reduceToNat, cutCells, Nat.reduceAdd, Nat.reduceLeDiff, Nat.reduceLT, Nat.reduceMul, Nat.reduceSub, eqL_sn, eqL_nn, e1]
    exact hh

theorem cloneB_s {v : Value} {l : List (Bt)} (hr0 : RoSl H v (l.map Bt.cells)) (hn : few 16 l.length) (hb : Base H K) (h : ∀ v' K', Base K K' → RoSl K' v' (l.map Bt.cells) → New K.length v' → R (.ret v') K') : WD T 147 [v] K R := by
  unfold few at hn
  have hr := hr0.base hb
  obtain ⟨ad, rfl⟩ := hr.sl
  refine WD.of follows t147 (by simp) ?_
  obtain ⟨v', K', e1, e2, e3, e4⟩ := app_new (u := 2) (bys := 16) hr (fun cs hc => by obtain ⟨x, _, rfl⟩ := List.mem_map.1 hc; exact Bt.len x) (fun cs hc => by obtain ⟨x, _, rfl⟩ := List.mem_map.1 hc; rfl) (by rw [List.length_map]; omega)
  match ad with
  | none =>
    have hh := h (.slice none 0 0) K Base.refl (by
      rcases hr with q | ⟨b, q2, _⟩
      · exact .inl ⟨q.1, .inl rfl⟩
      · cases q2) (fun c hc => by cases hc)
    simp (disch := omega) only [kB, kcx, kdm, kdn, kel, aop, resultsL, resultOf, Nat.reduceEqDiff, reduceCtorEq, eq1, apartOK, apart2, AObj.live, Int.reduceEq, Int.reduceLT, Int.reduceLE, Int.reduceAdd, Int.reduceSub, Int.reduceMul, Int.reduceToNat, cutCells, Nat.reduceAdd, Nat.reduceLeDiff, Nat.reduceLT, Nat.reduceMul, Nat.reduceSub, eqL_sn, eqL_nn]
    exact hh
  | some a =>
    have hh := h v' K' e2 e3 e4
    simp (disch := omega) only [kB, kcx, kdm, kdn, kel, aop, resultsL, resultOf, Nat.reduceEqDiff, reduceCtorEq, eq1, apartOK, apart2, AObj.live, Int.reduceEq, Int.reduceLT, Int.reduceLE, Int.reduceAdd, Int.reduceSub, Int.reduceMul, Int.reduceToNat, cutCells, Nat.reduceAdd, Nat.reduceLeDiff, Nat.reduceLT, Nat.reduceMul, Nat.reduceSub, eqL_sn, eqL_nn, e1]
    exact hh

theorem fieldsOf_s {v : Value} {l : List (Fld)} (hr0 : RoSl H v (l.map Fld.cells)) (hn : few 24 l.length) (hb : Base H K) (h : ∀ v' K', Base K K' → RoSl K' v' (l.map Fld.cells) → New K.length v' → R (.ret v') K') : WD T 122 [v] K R := by
  unfold few at hn
  have hr := hr0.base hb
  refine WD.of follows t122 (by simp) ?_
  obtain ⟨v', K', e1, e2, e3, e4⟩ := app_nil0 (u := 2) (bys := 24) hr (fun cs hc => by obtain ⟨x, _, rfl⟩ := List.mem_map.1 hc; exact Fld.len x) (by rw [List.length_map]; omega)
  have hh := h v' K' e2 e3 e4
  simp (disch := omega) only [kB, kcx, kdm, kdn, kel, aop, resultsL, resultOf, Nat.reduceEqDiff, reduceCtorEq, eq1, apartOK, apart2, AObj.live, Int.reduceEq, Int.reduceLT, Int.reduceLE, Int.reduceAdd, Int.reduceSub, Int.reduceMul, Int.reduceToNat, cutCells, Nat.reduceAdd, Nat.reduceLeDiff, Nat.reduceLT, Nat.reduceMul, Nat.reduceSub, e1]
  exact hh

theorem bitsOf_s {v : Value} {l : List (Bt)} (hr0 : RoSl H v (l.map Bt.cells)) (hn : few 16 l.length) (hb : Base H K) (h : ∀ v' K', Base K K' → RoSl K' v' (l.map Bt.cells) → New K.length v' → R (.ret v') K') : WD T 187 [v] K R := by
  unfold few at hn
  have hr := hr0.base hb
  refine WD.of follows t187 (by simp) ?_
  obtain ⟨v', K', e1, e2, e3, e4⟩ := app_nil0 (u := 2) (bys := 16) hr (fun cs hc => by obtain ⟨x, _, rfl⟩ := List.mem_map.1 hc; exact Bt.len x) (by rw [List.length_map]; omega)
  have hh := h v' K' e2 e3 e4
  simp (disch := omega) only [kB, kcx, kdm, kdn, kel, aop, resultsL, resultOf, Nat.reduceEqDiff, reduceCtorEq, eq1, apartOK, apart2, AObj.live, Int.reduceEq, Int.reduceLT, Int.reduceLE, Int.reduceAdd, Int.reduceSub, Int.reduceMul, Int.reduceToNat, cutCells, Nat.reduceAdd, Nat.reduceLeDiff, Nat.reduceLT, Nat.reduceMul, Nat.reduceSub, e1]
  exact hh

end Go.Proofs.YtpllhhaeclnngaaGreat.Ev

/- Lists that are compared by the document. Printed by gen_y11.py. -/
namespace Go.Proofs.YtpllhhaeclnngaaGreat.Ev
set_option maxRecDepth 100000
set_option linter.unusedSimpArgs false
set_option linter.unusedVariables false
variable {R : FRes → Heap → Prop} {H K : Heap}

theorem eqT_s (a b : List UInt8) : eqT1 2 (.string (bs a)) (.string (bs b)) = some (decide (a = b)) := by
  simp only [eqT1, bs]
  congr 1
  rw [Bool.eq_iff_iff]
  simp
theorem eqT_i (k : IntKind) (a b : Int) : eqT1 1 (.int k a) (.int k b) = some (decide (a = b)) := by
  simp only [eqT1, if_true]
  congr 1
theorem eqL_c (t : Nat) (x y : Value) (l : List (Nat × Value × Value)) (b : Bool) (h : eqT1 t x y = some b) (c : Bool) (hl : eqL l = some c) : eqL ((t, x, y) :: l) = some (b && c) := by
  rw [eqL, h]
  cases b
  · rfl
  · exact hl
theorem eqL_n : eqL [] = some true := rfl
theorem nat_dec (a b : Nat) : decide ((a : Int) = (b : Int)) = decide (a = b) := by
  congr 1
  exact propext (by omega)

theorem Fld.eqs (x y : Fld) : eqL [(2, .string (bs x.name), .string (bs y.name)), (1, .int .i64 x.width, .int .i64 y.width)] = some (decide (x = y)) := by
  rw [eqL_c _ _ _ _ _ (eqT_s _ _) _ (eqL_c _ _ _ _ _ (eqT_i _ _ _) _ eqL_n), Bool.and_true]
  congr 1
  cases x; cases y
  rw [Bool.eq_iff_iff]
  simp
theorem Bt.eqs (x y : Bt) : eqL [(1, .int .u64 (x.hi : Int), .int .u64 (y.hi : Int)), (1, .int .u64 (x.lo : Int), .int .u64 (y.lo : Int))] = some (decide (x = y)) := by
  rw [eqL_c _ _ _ _ _ (eqT_i _ _ _) _ (eqL_c _ _ _ _ _ (eqT_i _ _ _) _ eqL_n), Bool.and_true, nat_dec, nat_dec]
  congr 1
  cases x; cases y
  rw [Bool.eq_iff_iff]
  simp
theorem Ky.eqs (x y : Ky) : eqL [(2, .string (bs x.ref.head), .string (bs y.ref.head)), (2, .string (bs x.ref.name), .string (bs y.ref.name)), (1, .int .i64 x.kind, .int .i64 y.kind)] = some (decide (x = y)) := by
  rw [eqL_c _ _ _ _ _ (eqT_s _ _) _ (eqL_c _ _ _ _ _ (eqT_s _ _) _ (eqL_c _ _ _ _ _ (eqT_i _ _ _) _ eqL_n)), Bool.and_true]
  congr 1
  obtain ⟨⟨a, b⟩, c⟩ := x
  obtain ⟨⟨a2, b2⟩, c2⟩ := y
  rw [Bool.eq_iff_iff]
  simp [and_assoc]
theorem Stp.eqs (x y : Stp) : eqL [(1, .int .i64 x.kind, .int .i64 y.kind), (2, .string (bs x.to.head), .string (bs y.to.head)), (2, .string (bs x.to.name), .string (bs y.to.name)), (1, .int .i64 x.op, .int .i64 y.op),
    (2, .string (bs x.a.ref.head), .string (bs y.a.ref.head)), (2, .string (bs x.a.ref.name), .string (bs y.a.ref.name)), (1, .int .u64 (x.a.const.hi : Int), .int .u64 (y.a.const.hi : Int)), (1, .int .u64 (x.a.const.lo : Int), .int .u64 (y.a.const.lo : Int)),
    (2, .string (bs x.b.ref.head), .string (bs y.b.ref.head)), (2, .string (bs x.b.ref.name), .string (bs y.b.ref.name)), (1, .int .u64 (x.b.const.hi : Int), .int .u64 (y.b.const.hi : Int)), (1, .int .u64 (x.b.const.lo : Int), .int .u64 (y.b.const.lo : Int))] = some (decide (x = y)) := by
  rw [eqL_c _ _ _ _ _ (eqT_i _ _ _) _ (eqL_c _ _ _ _ _ (eqT_s _ _) _ (eqL_c _ _ _ _ _ (eqT_s _ _) _ (eqL_c _ _ _ _ _ (eqT_i _ _ _) _ (eqL_c _ _ _ _ _ (eqT_s _ _) _ (eqL_c _ _ _ _ _ (eqT_s _ _) _ (eqL_c _ _ _ _ _ (eqT_i _ _ _) _ (eqL_c _ _ _ _ _ (eqT_i _ _ _) _
    (eqL_c _ _ _ _ _ (eqT_s _ _) _ (eqL_c _ _ _ _ _ (eqT_s _ _) _ (eqL_c _ _ _ _ _ (eqT_i _ _ _) _ (eqL_c _ _ _ _ _ (eqT_i _ _ _) _ eqL_n)))))))))))]
  simp only [nat_dec, Bool.and_true]
  congr 1
  obtain ⟨k, ⟨a, b⟩, o, ⟨⟨c, d⟩, ⟨e, f⟩⟩, ⟨⟨g, h⟩, ⟨i, j⟩⟩⟩ := x
  obtain ⟨k2, ⟨a2, b2⟩, o2, ⟨⟨c2, d2⟩, ⟨e2, f2⟩⟩, ⟨⟨g2, h2⟩, ⟨i2, j2⟩⟩⟩ := y
  rw [Bool.eq_iff_iff]
  simp [and_assoc]

def eqFieldsI (K : Heap) (v1 v2 : Value) (l1 l2 : List (Fld)) : Nat → Env → Heap → Prop := fun z e K' =>
  ∃ i : Nat, i ≤ l1.length ∧ z = l1.length - i ∧ K' = K ∧ (∀ j (h1 : j < l1.length) (h2 : j < l2.length), j < i → l1[j] = l2[j]) ∧ (∃ x : Nat → Value, e = [v1, v2, x 2, x 3, x 4, .int .i64 (i : Int), x 6, x 7, x 8, x 9, x 10, x 11, x 12, x 13, x 14, x 15, x 16, x 17, x 18, x 19, x 20, x 21, x 22, x 23, x 24, x 25])

theorem eqFields_s {v1 v2 : Value} {l1 l2 : List (Fld)} (h1 : RoSl K v1 (l1.map Fld.cells)) (n1 : few 24 l1.length) (h2 : RoSl K v2 (l2.map Fld.cells)) (h : R (.ret (.bool (decide (l1 = l2)))) K) : WD T 80 [v1, v2] K R := by
  unfold few at n1
  obtain ⟨ad1, rfl⟩ := h1.sl
  obtain ⟨ad2, rfl⟩ := h2.sl
  rw [List.length_map] at h1 h2 ⊢
  rw [List.length_map]
  refine WD.of follows t80 (by simp) ?_
  by_cases hn : l1.length = l2.length
  · have c0 : (l1.length : Int) = (l2.length : Int) := by omega
    simp (disch := omega) only [kB, kcx, kdm, kdn, kel, aop, resultsL, resultOf, Nat.reduceEqDiff, reduceCtorEq, eq1, apartOK, apart2, AObj.live, Int.reduceEq, Int.reduceLT, Int.reduceLE, Int.reduceAdd, Int.reduceSub, Int.reduceMul, Int.reduceToNat, cutCells, Nat.reduceAdd, Nat.reduceLeDiff, Nat.reduceLT, Nat.reduceMul, Nat.reduceSub, c0]
    refine WLoop.inv (eqFieldsI K (.slice ad1 l1.length l1.length) (.slice ad2 l2.length l2.length) l1 l2) ?_ l1.length _ _ ⟨0, Nat.zero_le _, by omega, rfl, fun j _ _ h0 => by omega, by exact ex_env rfl⟩
    rintro z e K' ⟨i, hi, rfl, rfl, hq, ⟨x, rfl⟩⟩
    by_cases hlt : i < l1.length
    · have c1 : (i : Int) < (l1.length : Int) := by omega
      have c2 : (i : Int) < (l2.length : Int) := by omega
      obtain ⟨b, u0, w0, rfl, p1, p2, p3, p4, p5⟩ := h1.at (u := 2) Fld.len hlt
      obtain ⟨b2, u2, w2', rfl, q1, q2, q3, q4, q5⟩ := h2.at (u := 2) Fld.len (show i < l2.length by omega)
      have w2 : IntKind.i64.wrap ((i : Int) + 1) = ((i + 1 : Nat) : Int) := by rw [show (i : Int) + 1 = ((i + 1 : Nat) : Int) by omega]; exact wr_i64 (by omega) (by omega)
      have hne : l1[i] ≠ l2[i] → ¬ l1 = l2 := fun hd e => hd (by simp only [e])
      have hq2 : l1[i] = l2[i] → ∀ j (h1 : j < l1.length) (h2 : j < l2.length), j < i + 1 → l1[j] = l2[j] := fun he j a b hj => by
        by_cases q : j = i
        · subst q; exact he
        · exact hq j a b (by omega)
      skip
      generalize l1[i] = x at *
      generalize l2[i] = y at *
      simp only [Fld.cells] at p3 q3
      have heq := Fld.eqs x y
      by_cases he : x = y
      · simp (disch := omega) only [kB, kcx, kdm, kdn, kel, aop, resultsL, resultOf, Nat.reduceEqDiff, reduceCtorEq, eq1, apartOK, apart2, AObj.live, Int.reduceEq, Int.reduceLT, Int.reduceLE, Int.reduceAdd, Int.reduceSub, Int.reduceMul, Int.reduceToNat, cutCells, Nat.reduceAdd, Nat.reduceLeDiff, Nat.reduceLT, Nat.reduceMul, Nat.reduceSub, c1, c2, p2, q2, p3, p4, q3, q4, heq, decide_eq_true he, w2]
        exact ⟨l1.length - (i + 1), by omega, i + 1, by omega, rfl, rfl, hq2 he, by exact ex_env rfl⟩
      · rw [decide_eq_false (hne he)] at h
        simp (disch := omega) only [kB, kcx, kdm, kdn, kel, aop, resultsL, resultOf, Nat.reduceEqDiff, reduceCtorEq, eq1, apartOK, apart2, AObj.live, Int.reduceEq, Int.reduceLT, Int.reduceLE, Int.reduceAdd, Int.reduceSub, Int.reduceMul, Int.reduceToNat, cutCells, Nat.reduceAdd, Nat.reduceLeDiff, Nat.reduceLT, Nat.reduceMul, Nat.reduceSub, c1, c2, p2, q2, p3, p4, q3, q4, heq, decide_eq_false he, w2]
        exact h
    · have c1 : ¬ (i : Int) < (l1.length : Int) := by omega
      have he : l1 = l2 := List.ext_getElem hn fun j a b => hq j a b (by omega)
      rw [decide_eq_true he] at h
      simp (disch := omega) only [kB, kcx, kdm, kdn, kel, aop, resultsL, resultOf, Nat.reduceEqDiff, reduceCtorEq, eq1, apartOK, apart2, AObj.live, Int.reduceEq, Int.reduceLT, Int.reduceLE, Int.reduceAdd, Int.reduceSub, Int.reduceMul, Int.reduceToNat, cutCells, Nat.reduceAdd, Nat.reduceLeDiff, Nat.reduceLT, Nat.reduceMul, Nat.reduceSub, c1]
      exact h
  · have c0 : ¬ (l1.length : Int) = (l2.length : Int) := by omega
    rw [decide_eq_false (fun e => hn (by rw [e]))] at h
    simp (disch := omega) only [kB, kcx, kdm, kdn, kel, aop, resultsL, resultOf, Nat.reduceEqDiff, reduceCtorEq, eq1, apartOK, apart2, AObj.live, Int.reduceEq, Int.reduceLT, Int.reduceLE, Int.reduceAdd, Int.reduceSub, Int.reduceMul, Int.reduceToNat, cutCells, Nat.reduceAdd, Nat.reduceLeDiff, Nat.reduceLT, Nat.reduceMul, Nat.reduceSub, c0]
    exact h

def eqBitsI (K : Heap) (v1 v2 : Value) (l1 l2 : List (Bt)) : Nat → Env → Heap → Prop := fun z e K' =>
  ∃ i : Nat, i ≤ l1.length ∧ z = l1.length - i ∧ K' = K ∧ (∀ j (h1 : j < l1.length) (h2 : j < l2.length), j < i → l1[j] = l2[j]) ∧ (∃ x : Nat → Value, e = [v1, v2, x 2, x 3, x 4, .int .i64 (i : Int), x 6, x 7, x 8, x 9, x 10, x 11, x 12, x 13, x 14, x 15, x 16, x 17, x 18, x 19, x 20, x 21, x 22, x 23, x 24, x 25])

theorem eqBits_s {v1 v2 : Value} {l1 l2 : List (Bt)} (h1 : RoSl K v1 (l1.map Bt.cells)) (n1 : few 16 l1.length) (h2 : RoSl K v2 (l2.map Bt.cells)) (h : R (.ret (.bool (decide (l1 = l2)))) K) : WD T 164 [v1, v2] K R := by
  unfold few at n1
  obtain ⟨ad1, rfl⟩ := h1.sl
  obtain ⟨ad2, rfl⟩ := h2.sl
  rw [List.length_map] at h1 h2 ⊢
  rw [List.length_map]
  refine WD.of follows t164 (by simp) ?_
  by_cases hn : l1.length = l2.length
  · have c0 : (l1.length : Int) = (l2.length : Int) := by omega
    simp (disch := omega) only [kB, kcx, kdm, kdn, kel, aop, resultsL, resultOf, Nat.reduceEqDiff, reduceCtorEq, eq1, apartOK, apart2, AObj.live, Int.reduceEq, Int.reduceLT, Int.reduceLE, Int.reduceAdd, Int.reduceSub, Int.reduceMul, Int.reduceToNat, cutCells, Nat.reduceAdd, Nat.reduceLeDiff, Nat.reduceLT, Nat.reduceMul, Nat.reduceSub, c0]
    refine WLoop.inv (eqBitsI K (.slice ad1 l1.length l1.length) (.slice ad2 l2.length l2.length) l1 l2) ?_ l1.length _ _ ⟨0, Nat.zero_le _, by omega, rfl, fun j _ _ h0 => by omega, by exact ex_env rfl⟩
    rintro z e K' ⟨i, hi, rfl, rfl, hq, ⟨x, rfl⟩⟩
    by_cases hlt : i < l1.length
    · have c1 : (i : Int) < (l1.length : Int) := by omega
      have c2 : (i : Int) < (l2.length : Int) := by omega
      obtain ⟨b, u0, w0, rfl, p1, p2, p3, p4, p5⟩ := h1.at (u := 2) Bt.len hlt
      obtain ⟨b2, u2, w2', rfl, q1, q2, q3, q4, q5⟩ := h2.at (u := 2) Bt.len (show i < l2.length by omega)
      have w2 : IntKind.i64.wrap ((i : Int) + 1) = ((i + 1 : Nat) : Int) := by rw [show (i : Int) + 1 = ((i + 1 : Nat) : Int) by omega]; exact wr_i64 (by omega) (by omega)
      have hne : l1[i] ≠ l2[i] → ¬ l1 = l2 := fun hd e => hd (by simp only [e])
      have hq2 : l1[i] = l2[i] → ∀ j (h1 : j < l1.length) (h2 : j < l2.length), j < i + 1 → l1[j] = l2[j] := fun he j a b hj => by
        by_cases q : j = i
        · subst q; exact he
        · exact hq j a b (by omega)
      skip
      generalize l1[i] = x at *
      generalize l2[i] = y at *
      simp only [Bt.cells] at p3 q3
      have heq := Bt.eqs x y
      by_cases he : x = y
      · simp (disch := omega) only [kB, kcx, kdm, kdn, kel, aop, resultsL, resultOf, Nat.reduceEqDiff, reduceCtorEq, eq1, apartOK, apart2, AObj.live, Int.reduceEq, Int.reduceLT, Int.reduceLE, Int.reduceAdd, Int.reduceSub, Int.reduceMul, Int.reduceToNat, cutCells, Nat.reduceAdd, Nat.reduceLeDiff, Nat.reduceLT, Nat.reduceMul, Nat.reduceSub, c1, c2, p2, q2, p3, p4, q3, q4, heq, decide_eq_true he, w2]
        exact ⟨l1.length - (i + 1), by omega, i + 1, by omega, rfl, rfl, hq2 he, by exact ex_env rfl⟩
      · rw [decide_eq_false (hne he)] at h
        simp (disch := omega) only [kB, kcx, kdm, kdn, kel, aop, resultsL, resultOf, Nat.reduceEqDiff, reduceCtorEq, eq1, apartOK, apart2, AObj.live, Int.reduceEq, Int.reduceLT, Int.reduceLE, Int.reduceAdd, Int.reduceSub, Int.reduceMul, Int.reduceToNat, cutCells, Nat.reduceAdd, Nat.reduceLeDiff, Nat.reduceLT, Nat.reduceMul, Nat.reduceSub, c1, c2, p2, q2, p3, p4, q3, q4, heq, decide_eq_false he, w2]
        exact h
    · have c1 : ¬ (i : Int) < (l1.length : Int) := by omega
      have he : l1 = l2 := List.ext_getElem hn fun j a b => hq j a b (by omega)
      rw [decide_eq_true he] at h
      simp (disch := omega) only [kB, kcx, kdm, kdn, kel, aop, resultsL, resultOf, Nat.reduceEqDiff, reduceCtorEq, eq1, apartOK, apart2, AObj.live, Int.reduceEq, Int.reduceLT, Int.reduceLE, Int.reduceAdd, Int.reduceSub, Int.reduceMul, Int.reduceToNat, cutCells, Nat.reduceAdd, Nat.reduceLeDiff, Nat.reduceLT, Nat.reduceMul, Nat.reduceSub, c1]
      exact h
  · have c0 : ¬ (l1.length : Int) = (l2.length : Int) := by omega
    rw [decide_eq_false (fun e => hn (by rw [e]))] at h
    simp (disch := omega) only [kB, kcx, kdm, kdn, kel, aop, resultsL, resultOf, Nat.reduceEqDiff, reduceCtorEq, eq1, apartOK, apart2, AObj.live, Int.reduceEq, Int.reduceLT, Int.reduceLE, Int.reduceAdd, Int.reduceSub, Int.reduceMul, Int.reduceToNat, cutCells, Nat.reduceAdd, Nat.reduceLeDiff, Nat.reduceLT, Nat.reduceMul, Nat.reduceSub, c0]
    exact h

def eqTextsI (K : Heap) (v1 v2 : Value) (l1 l2 : List (List UInt8)) : Nat → Env → Heap → Prop := fun z e K' =>
  ∃ i : Nat, i ≤ l1.length ∧ z = l1.length - i ∧ K' = K ∧ (∀ j (h1 : j < l1.length) (h2 : j < l2.length), j < i → l1[j] = l2[j]) ∧ (∃ x : Nat → Value, e = [v1, v2, x 2, x 3, x 4, .int .i64 (i : Int), x 6, x 7, x 8, x 9, x 10, x 11, x 12, x 13, x 14, x 15, x 16, x 17, x 18, x 19, x 20, x 21, x 22, x 23, x 24, x 25])

theorem eqTexts_s {v1 v2 : Value} {l1 l2 : List (List UInt8)} (h1 : RoSl K v1 (l1.map txC)) (n1 : few 16 l1.length) (h2 : RoSl K v2 (l2.map txC)) (h : R (.ret (.bool (decide (l1 = l2)))) K) : WD T 42 [v1, v2] K R := by
  unfold few at n1
  obtain ⟨ad1, rfl⟩ := h1.sl
  obtain ⟨ad2, rfl⟩ := h2.sl
  rw [List.length_map] at h1 h2 ⊢
  rw [List.length_map]
  refine WD.of follows t42 (by simp) ?_
  by_cases hn : l1.length = l2.length
  · have c0 : (l1.length : Int) = (l2.length : Int) := by omega
    simp (disch := omega) only [kB, kcx, kdm, kdn, kel, aop, resultsL, resultOf, Nat.reduceEqDiff, reduceCtorEq, eq1, apartOK, apart2, AObj.live, Int.reduceEq, Int.reduceLT, Int.reduceLE, Int.reduceAdd, Int.reduceSub, Int.reduceMul, Int.reduceToNat, cutCells, Nat.reduceAdd, Nat.reduceLeDiff, Nat.reduceLT, Nat.reduceMul, Nat.reduceSub, c0]
    refine WLoop.inv (eqTextsI K (.slice ad1 l1.length l1.length) (.slice ad2 l2.length l2.length) l1 l2) ?_ l1.length _ _ ⟨0, Nat.zero_le _, by omega, rfl, fun j _ _ h0 => by omega, by exact ex_env rfl⟩
    rintro z e K' ⟨i, hi, rfl, rfl, hq, ⟨x, rfl⟩⟩
    by_cases hlt : i < l1.length
    · have c1 : (i : Int) < (l1.length : Int) := by omega
      have c2 : (i : Int) < (l2.length : Int) := by omega
      obtain ⟨b, u0, w0, rfl, p1, p2, p3, p4, p5⟩ := h1.at (u := 1) txC_len hlt
      obtain ⟨b2, u2, w2', rfl, q1, q2, q3, q4, q5⟩ := h2.at (u := 1) txC_len (show i < l2.length by omega)
      have w2 : IntKind.i64.wrap ((i : Int) + 1) = ((i + 1 : Nat) : Int) := by rw [show (i : Int) + 1 = ((i + 1 : Nat) : Int) by omega]; exact wr_i64 (by omega) (by omega)
      have hne : l1[i] ≠ l2[i] → ¬ l1 = l2 := fun hd e => hd (by simp only [e])
      have hq2 : l1[i] = l2[i] → ∀ j (h1 : j < l1.length) (h2 : j < l2.length), j < i + 1 → l1[j] = l2[j] := fun he j a b hj => by
        by_cases q : j = i
        · subst q; exact he
        · exact hq j a b (by omega)
      have p6 := p5 0 (by decide)
      have q6 := q5 0 (by decide)
      generalize l1[i] = x at *
      generalize l2[i] = y at *
      simp only [txC, List.getElem?_cons_zero, Nat.mul_one, Nat.add_zero] at p6 q6
      by_cases he : x = y
      · simp (disch := omega) only [kB, kcx, kdm, kdn, kel, aop, resultsL, resultOf, Nat.reduceEqDiff, reduceCtorEq, eq1, apartOK, apart2, AObj.live, Int.reduceEq, Int.reduceLT, Int.reduceLE, Int.reduceAdd, Int.reduceSub, Int.reduceMul, Int.reduceToNat, cutCells, Nat.reduceAdd, Nat.reduceLeDiff, Nat.reduceLT, Nat.reduceMul, Nat.reduceSub, c1, c2, p2, q2, p6, q6, he, bne_self_eq_false, w2]
        exact ⟨l1.length - (i + 1), by omega, i + 1, by omega, rfl, rfl, hq2 he, by exact ex_env rfl⟩
      · rw [decide_eq_false (hne he)] at h
        simp (disch := omega) only [kB, kcx, kdm, kdn, kel, aop, resultsL, resultOf, Nat.reduceEqDiff, reduceCtorEq, eq1, apartOK, apart2, AObj.live, Int.reduceEq, Int.reduceLT, Int.reduceLE, Int.reduceAdd, Int.reduceSub, Int.reduceMul, Int.reduceToNat, cutCells, Nat.reduceAdd, Nat.reduceLeDiff, Nat.reduceLT, Nat.reduceMul, Nat.reduceSub, c1, c2, p2, q2, p6, q6, decide_eq_false he, w2]
        exact h
    · have c1 : ¬ (i : Int) < (l1.length : Int) := by omega
      have he : l1 = l2 := List.ext_getElem hn fun j a b => hq j a b (by omega)
      rw [decide_eq_true he] at h
      simp (disch := omega) only [kB, kcx, kdm, kdn, kel, aop, resultsL, resultOf, Nat.reduceEqDiff, reduceCtorEq, eq1, apartOK, apart2, AObj.live, Int.reduceEq, Int.reduceLT, Int.reduceLE, Int.reduceAdd, Int.reduceSub, Int.reduceMul, Int.reduceToNat, cutCells, Nat.reduceAdd, Nat.reduceLeDiff, Nat.reduceLT, Nat.reduceMul, Nat.reduceSub, c1]
      exact h
  · have c0 : ¬ (l1.length : Int) = (l2.length : Int) := by omega
    rw [decide_eq_false (fun e => hn (by rw [e]))] at h
    simp (disch := omega) only [kB, kcx, kdm, kdn, kel, aop, resultsL, resultOf, Nat.reduceEqDiff, reduceCtorEq, eq1, apartOK, apart2, AObj.live, Int.reduceEq, Int.reduceLT, Int.reduceLE, Int.reduceAdd, Int.reduceSub, Int.reduceMul, Int.reduceToNat, cutCells, Nat.reduceAdd, Nat.reduceLeDiff, Nat.reduceLT, Nat.reduceMul, Nat.reduceSub, c0]
    exact h

def inC (x : Int) : List Value := [.int .i64 x]
theorem inC_len (x : Int) : (inC x).length = 1 := rfl

def eqIntsI (K : Heap) (v1 v2 : Value) (l1 l2 : List (Int)) : Nat → Env → Heap → Prop := fun z e K' =>
  ∃ i : Nat, i ≤ l1.length ∧ z = l1.length - i ∧ K' = K ∧ (∀ j (h1 : j < l1.length) (h2 : j < l2.length), j < i → l1[j] = l2[j]) ∧ (∃ x : Nat → Value, e = [v1, v2, x 2, x 3, x 4, .int .i64 (i : Int), x 6, x 7, x 8, x 9, x 10, x 11, x 12, x 13, x 14, x 15, x 16, x 17, x 18, x 19, x 20, x 21, x 22, x 23, x 24, x 25])

theorem eqInts_s {v1 v2 : Value} {l1 l2 : List (Int)} (h1 : RoSl K v1 (l1.map inC)) (n1 : few 8 l1.length) (h2 : RoSl K v2 (l2.map inC)) (h : R (.ret (.bool (decide (l1 = l2)))) K) : WD T 41 [v1, v2] K R := by
  unfold few at n1
  obtain ⟨ad1, rfl⟩ := h1.sl
  obtain ⟨ad2, rfl⟩ := h2.sl
  rw [List.length_map] at h1 h2 ⊢
  rw [List.length_map]
  refine WD.of follows t41 (by simp) ?_
  by_cases hn : l1.length = l2.length
  · have c0 : (l1.length : Int) = (l2.length : Int) := by omega
    simp (disch := omega) only [kB, kcx, kdm, kdn, kel, aop, resultsL, resultOf, Nat.reduceEqDiff, reduceCtorEq, eq1, apartOK, apart2, AObj.live, Int.reduceEq, Int.reduceLT, Int.reduceLE, Int.reduceAdd, Int.reduceSub, Int.reduceMul, Int.reduceToNat, cutCells, Nat.reduceAdd, Nat.reduceLeDiff, Nat.reduceLT, Nat.reduceMul, Nat.reduceSub, c0]
    refine WLoop.inv (eqIntsI K (.slice ad1 l1.length l1.length) (.slice ad2 l2.length l2.length) l1 l2) ?_ l1.length _ _ ⟨0, Nat.zero_le _, by omega, rfl, fun j _ _ h0 => by omega, by exact ex_env rfl⟩
    rintro z e K' ⟨i, hi, rfl, rfl, hq, ⟨x, rfl⟩⟩
    by_cases hlt : i < l1.length
    · have c1 : (i : Int) < (l1.length : Int) := by omega
      have c2 : (i : Int) < (l2.length : Int) := by omega
      obtain ⟨b, u0, w0, rfl, p1, p2, p3, p4, p5⟩ := h1.at (u := 1) inC_len hlt
      obtain ⟨b2, u2, w2', rfl, q1, q2, q3, q4, q5⟩ := h2.at (u := 1) inC_len (show i < l2.length by omega)
      have w2 : IntKind.i64.wrap ((i : Int) + 1) = ((i + 1 : Nat) : Int) := by rw [show (i : Int) + 1 = ((i + 1 : Nat) : Int) by omega]; exact wr_i64 (by omega) (by omega)
      have hne : l1[i] ≠ l2[i] → ¬ l1 = l2 := fun hd e => hd (by simp only [e])
      have hq2 : l1[i] = l2[i] → ∀ j (h1 : j < l1.length) (h2 : j < l2.length), j < i + 1 → l1[j] = l2[j] := fun he j a b hj => by
        by_cases q : j = i
        · subst q; exact he
        · exact hq j a b (by omega)
      have p6 := p5 0 (by decide)
      have q6 := q5 0 (by decide)
      generalize l1[i] = x at *
      generalize l2[i] = y at *
      simp only [inC, List.getElem?_cons_zero, Nat.mul_one, Nat.add_zero] at p6 q6
      by_cases he : x = y
      · simp (disch := omega) only [kB, kcx, kdm, kdn, kel, aop, resultsL, resultOf, Nat.reduceEqDiff, reduceCtorEq, eq1, apartOK, apart2, AObj.live, Int.reduceEq, Int.reduceLT, Int.reduceLE, Int.reduceAdd, Int.reduceSub, Int.reduceMul, Int.reduceToNat, cutCells, Nat.reduceAdd, Nat.reduceLeDiff, Nat.reduceLT, Nat.reduceMul, Nat.reduceSub, c1, c2, p2, q2, p6, q6, he, w2]
        exact ⟨l1.length - (i + 1), by omega, i + 1, by omega, rfl, rfl, hq2 he, by exact ex_env rfl⟩
      · rw [decide_eq_false (hne he)] at h
        simp (disch := omega) only [kB, kcx, kdm, kdn, kel, aop, resultsL, resultOf, Nat.reduceEqDiff, reduceCtorEq, eq1, apartOK, apart2, AObj.live, Int.reduceEq, Int.reduceLT, Int.reduceLE, Int.reduceAdd, Int.reduceSub, Int.reduceMul, Int.reduceToNat, cutCells, Nat.reduceAdd, Nat.reduceLeDiff, Nat.reduceLT, Nat.reduceMul, Nat.reduceSub, c1, c2, p2, q2, p6, q6, he, w2]
        exact h
    · have c1 : ¬ (i : Int) < (l1.length : Int) := by omega
      have he : l1 = l2 := List.ext_getElem hn fun j a b => hq j a b (by omega)
      rw [decide_eq_true he] at h
      simp (disch := omega) only [kB, kcx, kdm, kdn, kel, aop, resultsL, resultOf, Nat.reduceEqDiff, reduceCtorEq, eq1, apartOK, apart2, AObj.live, Int.reduceEq, Int.reduceLT, Int.reduceLE, Int.reduceAdd, Int.reduceSub, Int.reduceMul, Int.reduceToNat, cutCells, Nat.reduceAdd, Nat.reduceLeDiff, Nat.reduceLT, Nat.reduceMul, Nat.reduceSub, c1]
      exact h
  · have c0 : ¬ (l1.length : Int) = (l2.length : Int) := by omega
    rw [decide_eq_false (fun e => hn (by rw [e]))] at h
    simp (disch := omega) only [kB, kcx, kdm, kdn, kel, aop, resultsL, resultOf, Nat.reduceEqDiff, reduceCtorEq, eq1, apartOK, apart2, AObj.live, Int.reduceEq, Int.reduceLT, Int.reduceLE, Int.reduceAdd, Int.reduceSub, Int.reduceMul, Int.reduceToNat, cutCells, Nat.reduceAdd, Nat.reduceLeDiff, Nat.reduceLT, Nat.reduceMul, Nat.reduceSub, c0]
    exact h

end Go.Proofs.YtpllhhaeclnngaaGreat.Ev

/- The header, the action, the table of a name: the program's are copies, the document's are not. -/
namespace Go.Proofs.YtpllhhaeclnngaaGreat.Ev
set_option maxRecDepth 100000
set_option linter.unusedSimpArgs false
set_option linter.unusedVariables false
variable {R : FRes → Heap → Prop} {H K : Heap}

/-- The same header elsewhere, and so on. -/
def Hdr.like (x y : Hdr) : Prop := x.name = y.name ∧ x.fields = y.fields
def Act.like (x y : Act) : Prop := x.name = y.name ∧ x.params = y.params ∧ x.steps = y.steps
def Tbl.like (x y : Tbl) : Prop := x.name = y.name ∧ x.keys = y.keys ∧ x.actions = y.actions ∧ x.size = y.size ∧ x.dact = y.dact ∧ x.dargs = y.dargs ∧ x.fixed = y.fixed
def Hdr.New (n : Nat) (x : Hdr) : Prop := Ev.New n x.fv
def Act.New (n : Nat) (x : Act) : Prop := Ev.New n x.pv ∧ Ev.New n x.sv
def Tbl.New (n : Nat) (x : Tbl) : Prop := Ev.New n x.kv ∧ Ev.New n x.av ∧ Ev.New n x.dv
theorem New.low {n m : Nat} {v : Value} (h : Ev.New n v) (hm : m ≤ n) : Ev.New m v := fun c hc => Nat.le_trans hm (h c hc)
def hdrZ : Hdr := ⟨[], .slice none 0 0, []⟩
def actZ : Act := ⟨[], .slice none 0 0, [], .slice none 0 0, []⟩
def tblZ : Tbl := ⟨[], .slice none 0 0, [], .slice none 0 0, [], 0, [], .slice none 0 0, [], false⟩
theorem RoSl.nil {H : Heap} : RoSl H (.slice none 0 0) [] := .inl ⟨rfl, .inl rfl⟩
theorem hdrZ_ok {H : Heap} : hdrZ.OK H := ⟨RoSl.nil, by simp [few, hdrZ], fun x h => by cases h⟩
theorem actZ_ok {H : Heap} : actZ.OK H := ⟨⟨RoSl.nil, by simp [few, actZ], fun x h => by cases h⟩, RoSl.nil, by simp [few, actZ], fun x h => by cases h⟩
theorem tblZ_ok {H : Heap} : tblZ.OK H := ⟨⟨RoSl.nil, by simp [few, tblZ], fun x h => by cases h⟩, ⟨RoSl.nil, by simp [few, tblZ]⟩, ⟨by decide, by decide⟩, ⟨RoSl.nil, by simp [few, tblZ], fun x h => by cases h⟩⟩

theorem Hdr.OK.base {x : Hdr} (h : x.OK H) (hb : Base H K) : x.OK K := ⟨h.1.base hb, h.2⟩
theorem Act.OK.base {x : Act} (h : x.OK H) (hb : Base H K) : x.OK K := ⟨⟨h.1.1.base hb, h.1.2⟩, h.2.1.base hb, h.2.2⟩
theorem Tbl.OK.base {x : Tbl} (h : x.OK H) (hb : Base H K) : x.OK K := ⟨⟨h.1.1.base hb, h.1.2⟩, ⟨h.2.1.1.base hb, h.2.1.2⟩, h.2.2.1, ⟨h.2.2.2.1.base hb, h.2.2.2.2⟩⟩

def hdrOf (s : Sch) (t : List UInt8) : Hdr := (named Hdr.name s.headers t).getD hdrZ
def actOf (s : Sch) (t : List UInt8) : Act := (named Act.name s.actions t).getD actZ
def tblOf (s : Sch) (t : List UInt8) : Tbl := (named Tbl.name s.tables t).getD tblZ

set_option maxHeartbeats 1000000 in
theorem header_s {s : Sch} (hs : s.OK H) (hb : Base H K) {t : List UInt8}
    (h : ∀ (x : Hdr) K', Base K K' → x.OK K' → x.like (hdrOf s t) → R (.ret (.tuple #[.agg x.cells.toArray, .bool (named Hdr.name s.headers t).isSome])) K') : WD T 25 [.agg s.cells.toArray, .string (bs t)] K R := by
  refine WD.of follows t25 (by simp) ?_
  obtain ⟨o0, o1, o2, o3, o4, o5⟩ := hs.one
  simp only [Sch.cells]
  simp (disch := omega) only [kB, kcx, kdm, kdn, kel, aop, resultsL, resultOf, Nat.reduceEqDiff, reduceCtorEq, eq1, apartOK, apart2, AObj.live, Int.reduceEq, Int.reduceLT, Int.reduceLE, Int.reduceAdd, Int.reduceSub, Int.reduceMul, Int.reduceToNat, cutCells, Nat.reduceAdd, Nat.reduceLeDiff, Nat.reduceLT, Nat.reduceMul, Nat.reduceSub, o0, o1, o2, o3, o4, o5]
  refine headerAt_s hs (hb.app _) ?_
  rcases named_cases Hdr.name s.headers t with ⟨e1, e2⟩ | ⟨j, hj, e1, e2, _⟩
  · rw [e1]
    have hh := h hdrZ
    rw [hdrOf, e2] at hh
    simp only [hdrZ, Hdr.cells] at hh
    simp (disch := omega) only [kB, kcx, kdm, kdn, kel, aop, resultsL, resultOf, Nat.reduceEqDiff, reduceCtorEq, eq1, apartOK, apart2, AObj.live, Int.reduceEq, Int.reduceLT, Int.reduceLE, Int.reduceAdd, Int.reduceSub, Int.reduceMul, Int.reduceToNat, cutCells, Nat.reduceAdd, Nat.reduceLeDiff, Nat.reduceLT, Nat.reduceMul, Nat.reduceSub]
    exact hh _ (Base.app0 _) hdrZ_ok ⟨rfl, rfl⟩
  · rw [e1]
    rw [hdrOf, e2] at h
    have hok := hs.hs.2.2 _ (List.getElem_mem hj)
    obtain ⟨hr, hn, _⟩ := hs.hs
    obtain ⟨ad, hv⟩ := hr.sl
    rw [hv] at hr
    obtain ⟨b, u0, w0, rfl, hbl, hrow0, hcut, hle, hat⟩ := hr.at Hdr.len hj
    have hrow : hget K b = .row (s.headers.map Hdr.cells).flatten u0 w0 := by rw [hb.2 b hbl]; exact hrow0
    have hbl2 : b < K.length := Nat.lt_of_lt_of_le hbl hb.1
    have c3 : (0 : Int) ≤ (j : Int) := by omega
    have c5 : (j : Int) < (s.headers.length : Int) := by omega
    rw [List.length_map] at hv
    generalize s.headers[j] = x at *
    simp only [Hdr.cells] at hcut
    have o6 := hok.one
    simp (disch := omega) only [kB, kcx, kdm, kdn, kel, aop, resultsL, resultOf, Nat.reduceEqDiff, reduceCtorEq, eq1, apartOK, apart2, AObj.live, Int.reduceEq, Int.reduceLT, Int.reduceLE, Int.reduceAdd, Int.reduceSub, Int.reduceMul, Int.reduceToNat, cutCells, Nat.reduceAdd, Nat.reduceLeDiff, Nat.reduceLT, Nat.reduceMul, Nat.reduceSub, c3, c5, hv, hrow, hcut, hle, o6]
    refine cloneF_s hok.1 hok.2.1 (hb.app _) ?_
    intro v' K2 b2 hv' hnew
    obtain ⟨ad2, rfl⟩ := hv'.sl
    rw [List.length_map] at hv' hnew ⊢
    clear hcut
    have hb4 : hget K2 (K.length + 1) = .row [.string (bs []), .slice none 0 0] 0 true := by rw [b2.2 _ (by simp), hget_base]; rfl
    have hb7 : hget K2 (K.length + 2) = .row [.string (bs x.name), x.fv] 0 true := by rw [b2.2 _ (by simp), hget_base]; rfl
    have hl2 := b2.1
    simp only [List.length_append, List.length_cons, List.length_nil, Nat.zero_add, Nat.reduceAdd] at hl2
    have hbK : Base K K2 := (Base.app0 _).trans b2
    have hh := h ⟨x.name, .slice ad2 x.fields.length x.fields.length, x.fields⟩
    simp only [Hdr.cells] at hh
    simp (disch := omega) only [kB, kcx, kdm, kdn, kel, aop, resultsL, resultOf, Nat.reduceEqDiff, reduceCtorEq, eq1, apartOK, apart2, AObj.live, Int.reduceEq, Int.reduceLT, Int.reduceLE, Int.reduceAdd, Int.reduceSub, Int.reduceMul, Int.reduceToNat, cutCells, Nat.reduceAdd, Nat.reduceLeDiff, Nat.reduceLT, Nat.reduceMul, Nat.reduceSub, hb4, hb7, hget_ne (show K.length + 2 ≠ K.length + 1 by omega)]
    refine hh _ ((hbK.set (b := K.length + 2) (by omega)).set (b := K.length + 1) (by omega)) ⟨hv'.same fun c hc => ⟨by have := hv'.lt hc; simpa using this, ?_⟩, hok.2⟩ ⟨rfl, rfl⟩
    have := hnew c hc
    simp at this
    rw [hget_ne (by omega), hget_ne (by omega)]

set_option maxHeartbeats 1000000 in
theorem rheader_s {s : Sch} (hs : s.OK H) (hb : Base H K) {t : List UInt8}
    (h : ∀ (x : Hdr) K', Base K K' → x.OK K' → x.like (hdrOf s t) → R (.ret (.tuple #[.agg x.cells.toArray, .bool (named Hdr.name s.headers t).isSome])) K') : WD T 34 [.agg s.cells.toArray, .string (bs t)] K R := by
  refine WD.of follows t34 (by simp) ?_
  obtain ⟨o0, o1, o2, o3, o4, o5⟩ := hs.one
  simp only [Sch.cells]
  simp (disch := omega) only [kB, kcx, kdm, kdn, kel, aop, resultsL, resultOf, Nat.reduceEqDiff, reduceCtorEq, eq1, apartOK, apart2, AObj.live, Int.reduceEq, Int.reduceLT, Int.reduceLE, Int.reduceAdd, Int.reduceSub, Int.reduceMul, Int.reduceToNat, cutCells, Nat.reduceAdd, Nat.reduceLeDiff, Nat.reduceLT, Nat.reduceMul, Nat.reduceSub, o0, o1, o2, o3, o4, o5]
  refine rheaderAt_s hs (hb.app _) ?_
  rcases named_cases Hdr.name s.headers t with ⟨e1, e2⟩ | ⟨j, hj, e1, e2, _⟩
  · rw [e1]
    have hh := h hdrZ
    rw [hdrOf, e2] at hh
    simp only [hdrZ, Hdr.cells] at hh
    simp (disch := omega) only [kB, kcx, kdm, kdn, kel, aop, resultsL, resultOf, Nat.reduceEqDiff, reduceCtorEq, eq1, apartOK, apart2, AObj.live, Int.reduceEq, Int.reduceLT, Int.reduceLE, Int.reduceAdd, Int.reduceSub, Int.reduceMul, Int.reduceToNat, cutCells, Nat.reduceAdd, Nat.reduceLeDiff, Nat.reduceLT, Nat.reduceMul, Nat.reduceSub]
    exact hh _ (Base.app0 _) hdrZ_ok ⟨rfl, rfl⟩
  · rw [e1]
    rw [hdrOf, e2] at h
    have hok := hs.hs.2.2 _ (List.getElem_mem hj)
    obtain ⟨hr, hn, _⟩ := hs.hs
    obtain ⟨ad, hv⟩ := hr.sl
    rw [hv] at hr
    obtain ⟨b, u0, w0, rfl, hbl, hrow0, hcut, hle, hat⟩ := hr.at Hdr.len hj
    have hrow : hget K b = .row (s.headers.map Hdr.cells).flatten u0 w0 := by rw [hb.2 b hbl]; exact hrow0
    have hbl2 : b < K.length := Nat.lt_of_lt_of_le hbl hb.1
    have c3 : (0 : Int) ≤ (j : Int) := by omega
    have c4 : ¬ (j : Int) < 0 := by omega
    have c5 : (j : Int) < (s.headers.length : Int) := by omega
    rw [List.length_map] at hv
    generalize s.headers[j] = x at *
    simp only [Hdr.cells] at hcut
    have o6 := hok.one
    have hh := h x
    simp only [Hdr.cells] at hh
    simp (disch := omega) only [kB, kcx, kdm, kdn, kel, aop, resultsL, resultOf, Nat.reduceEqDiff, reduceCtorEq, eq1, apartOK, apart2, AObj.live, Int.reduceEq, Int.reduceLT, Int.reduceLE, Int.reduceAdd, Int.reduceSub, Int.reduceMul, Int.reduceToNat, cutCells, Nat.reduceAdd, Nat.reduceLeDiff, Nat.reduceLT, Nat.reduceMul, Nat.reduceSub, c3, c4, c5, hv, hrow, hcut, hle, o6]
    exact hh _ (Base.app0 _) (hok.base ((hb.app _))) ⟨rfl, rfl⟩

theorem ro_set2 {K2 : Heap} {v : Value} {css : List (List Value)} {n p q : Nat} {o o' : AObj} (hv : RoSl K2 v css) (hn : New n v) (hp : p < n) (hq : q < n) : RoSl ((K2.set p o).set q o') v css := hv.same fun c hc => by
  have := hv.lt hc
  have := hn c hc
  exact ⟨by simpa using hv.lt hc, by rw [hget_ne (by omega), hget_ne (by omega)]⟩
theorem ro_set1 {K2 : Heap} {v : Value} {css : List (List Value)} {n p : Nat} {o : AObj} (hv : RoSl K2 v css) (hn : New n v) (hp : p < n) : RoSl (K2.set p o) v css := hv.same fun c hc => by
  have := hv.lt hc
  have := hn c hc
  exact ⟨by simpa using hv.lt hc, by rw [hget_ne (by omega)]⟩

set_option maxHeartbeats 1000000 in
/-- An action copied (76). -/
theorem actC_s {x : Act} (hx : x.OK H) (hb : Base H K) (h : ∀ (y : Act) K', Base K K' → y.OK K' → y.New K.length → y.like x → R (.ret (.agg y.cells.toArray)) K') : WD T 76 [.agg x.cells.toArray] K R := by
  refine WD.of follows t76 (by simp) ?_
  obtain ⟨o1, o2⟩ := hx.one
  simp only [Act.cells]
  simp (disch := omega) only [kB, kcx, kdm, kdn, kel, aop, resultsL, resultOf, Nat.reduceEqDiff, reduceCtorEq, eq1, apartOK, apart2, AObj.live, Int.reduceEq, Int.reduceLT, Int.reduceLE, Int.reduceAdd, Int.reduceSub, Int.reduceMul, Int.reduceToNat, cutCells, Nat.reduceAdd, Nat.reduceLeDiff, Nat.reduceLT, Nat.reduceMul, Nat.reduceSub, o1, o2]
  refine cloneF_s hx.1.1 hx.1.2.1 (hb.app _) ?_
  intro v' K2 b2 hv' hnew
  obtain ⟨ad2, rfl⟩ := hv'.sl
  rw [List.length_map] at hv' hnew ⊢
  have hl2 := b2.1
  simp only [List.length_append, List.length_cons, List.length_nil, Nat.zero_add, Nat.reduceAdd] at hl2 hnew
  have hb1 : hget K2 K.length = .row [.string (bs x.name), x.pv, x.sv] 0 true := by rw [b2.2 _ (by simp), hget_base0]; rfl
  have hb2 : hget K2 (K.length + 1) = .row [.string (bs []), .slice none 0 0, .slice none 0 0] 0 true := by rw [b2.2 _ (by simp), hget_base]; rfl
  have hbK : Base K K2 := (Base.app0 _).trans b2
  have n1 : K.length ≠ K.length + 1 := by omega
  have n2 : K.length + 1 ≠ K.length := by omega
  simp (disch := omega) only [kB, kcx, kdm, kdn, kel, aop, resultsL, resultOf, Nat.reduceEqDiff, reduceCtorEq, eq1, apartOK, apart2, AObj.live, Int.reduceEq, Int.reduceLT, Int.reduceLE, Int.reduceAdd, Int.reduceSub, Int.reduceMul, Int.reduceToNat, cutCells, Nat.reduceAdd, Nat.reduceLeDiff, Nat.reduceLT, Nat.reduceMul, Nat.reduceSub, hb1]
  refine cloneS_s hx.2.1 hx.2.2.1 ((hb.trans hbK).set (by have := hb.1; omega)) ?_
  intro v3 K3 b3 hv3 hnew3
  obtain ⟨ad3, rfl⟩ := hv3.sl
  rw [List.length_map] at hv3 hnew3 ⊢
  have hl3 := b3.1
  simp only [List.length_set] at hl3 hnew3
  have hc1 : hget K3 K.length = .row [.string (bs x.name), .slice ad2 x.params.length x.params.length, x.sv] 0 true := by rw [b3.2 _ (by simp; omega), hget_set' (by omega)]
  have hc2 : hget K3 (K.length + 1) = .row [.string (bs []), .slice none 0 0, .slice none 0 0] 0 true := by rw [b3.2 _ (by simp; omega), hget_ne n1]; exact hb2
  have hbK3 : Base K K3 := (hbK.set (Nat.le_refl _)).trans b3
  have hv4 : RoSl K3 (.slice ad2 x.params.length x.params.length) (x.params.map Fld.cells) := (ro_set1 hv' hnew (show K.length < K.length + 2 by omega)).base b3
  have hh := h ⟨x.name, .slice ad2 x.params.length x.params.length, x.params, .slice ad3 x.steps.length x.steps.length, x.steps⟩
  simp only [Act.cells] at hh
  simp (disch := omega) only [kB, kcx, kdm, kdn, kel, aop, resultsL, resultOf, Nat.reduceEqDiff, reduceCtorEq, eq1, apartOK, apart2, AObj.live, Int.reduceEq, Int.reduceLT, Int.reduceLE, Int.reduceAdd, Int.reduceSub, Int.reduceMul, Int.reduceToNat, cutCells, Nat.reduceAdd, Nat.reduceLeDiff, Nat.reduceLT, Nat.reduceMul, Nat.reduceSub, hc1, hc2, hget_ne n1]
  exact hh _ ((hbK3.set (b := K.length) (Nat.le_refl _)).set (b := K.length + 1) (by omega)) ⟨⟨ro_set2 hv4 hnew (by omega) (by omega), hx.1.2⟩, ro_set2 hv3 hnew3 (by omega) (by omega), hx.2.2⟩ ⟨hnew.low (by omega), hnew3.low (by omega)⟩ ⟨rfl, rfl, rfl⟩

theorem Act.OK.same {x : Act} {n : Nat} (h : x.OK H) (hn : x.New n) (hl : H.length ≤ K.length) (hk : ∀ c, c < H.length → n ≤ c → hget K c = hget H c) : x.OK K := by
  obtain ⟨⟨a1, a2⟩, b1, b2⟩ := h
  exact ⟨⟨a1.same fun c hc => ⟨Nat.lt_of_lt_of_le (a1.lt hc) hl, hk c (a1.lt hc) (hn.1 c hc)⟩, a2⟩, b1.same fun c hc => ⟨Nat.lt_of_lt_of_le (b1.lt hc) hl, hk c (b1.lt hc) (hn.2 c hc)⟩, b2⟩
theorem Tbl.OK.same {x : Tbl} {n : Nat} (h : x.OK H) (hn : x.New n) (hl : H.length ≤ K.length) (hk : ∀ c, c < H.length → n ≤ c → hget K c = hget H c) : x.OK K := by
  obtain ⟨⟨a1, a2⟩, ⟨b1, b2⟩, c1, d1, d2⟩ := h
  exact ⟨⟨a1.same fun c hc => ⟨Nat.lt_of_lt_of_le (a1.lt hc) hl, hk c (a1.lt hc) (hn.1 c hc)⟩, a2⟩, ⟨b1.same fun c hc => ⟨Nat.lt_of_lt_of_le (b1.lt hc) hl, hk c (b1.lt hc) (hn.2.1 c hc)⟩, b2⟩, c1, d1.same fun c hc => ⟨Nat.lt_of_lt_of_le (d1.lt hc) hl, hk c (d1.lt hc) (hn.2.2 c hc)⟩, d2⟩

end Go.Proofs.YtpllhhaeclnngaaGreat.Ev

/- The action, the table of a name. -/
namespace Go.Proofs.YtpllhhaeclnngaaGreat.Ev
set_option maxRecDepth 100000
set_option linter.unusedSimpArgs false
set_option linter.unusedVariables false
variable {R : FRes → Heap → Prop} {H K : Heap}

set_option maxHeartbeats 1000000 in
theorem action_s {s : Sch} (hs : s.OK H) (hb : Base H K) {t : List UInt8}
    (h : ∀ (x : Act) K', Base K K' → x.OK K' → x.like (actOf s t) → R (.ret (.tuple #[.agg x.cells.toArray, .bool (named Act.name s.actions t).isSome])) K') : WD T 26 [.agg s.cells.toArray, .string (bs t)] K R := by
  refine WD.of follows t26 (by simp) ?_
  obtain ⟨o0, o1, o2, o3, o4, o5⟩ := hs.one
  simp only [Sch.cells]
  simp (disch := omega) only [kB, kcx, kdm, kdn, kel, aop, resultsL, resultOf, Nat.reduceEqDiff, reduceCtorEq, eq1, apartOK, apart2, AObj.live, Int.reduceEq, Int.reduceLT, Int.reduceLE, Int.reduceAdd, Int.reduceSub, Int.reduceMul, Int.reduceToNat, cutCells, Nat.reduceAdd, Nat.reduceLeDiff, Nat.reduceLT, Nat.reduceMul, Nat.reduceSub, o0, o1, o2, o3, o4, o5]
  refine actionAt_s hs (hb.app _) ?_
  rcases named_cases Act.name s.actions t with ⟨e1, e2⟩ | ⟨j, hj, e1, e2, _⟩
  · rw [e1]
    have hh := h actZ
    rw [actOf, e2] at hh
    simp only [actZ, Act.cells] at hh
    simp (disch := omega) only [kB, kcx, kdm, kdn, kel, aop, resultsL, resultOf, Nat.reduceEqDiff, reduceCtorEq, eq1, apartOK, apart2, AObj.live, Int.reduceEq, Int.reduceLT, Int.reduceLE, Int.reduceAdd, Int.reduceSub, Int.reduceMul, Int.reduceToNat, cutCells, Nat.reduceAdd, Nat.reduceLeDiff, Nat.reduceLT, Nat.reduceMul, Nat.reduceSub]
    exact hh _ (Base.app0 _) actZ_ok ⟨rfl, rfl, rfl⟩
  · rw [e1]
    rw [actOf, e2] at h
    have hok := hs.acs.2.2 _ (List.getElem_mem hj)
    obtain ⟨hr, hn, _⟩ := hs.acs
    obtain ⟨ad, hv⟩ := hr.sl
    rw [hv] at hr
    obtain ⟨b, u0, w0, rfl, hbl, hrow0, hcut, hle, hat⟩ := hr.at Act.len hj
    have hrow : hget K b = .row (s.actions.map Act.cells).flatten u0 w0 := by rw [hb.2 b hbl]; exact hrow0
    have hbl2 : b < K.length := Nat.lt_of_lt_of_le hbl hb.1
    have c3 : (0 : Int) ≤ (j : Int) := by omega
    have c5 : (j : Int) < (s.actions.length : Int) := by omega
    rw [List.length_map] at hv
    generalize s.actions[j] = x at *
    obtain ⟨o6, o7⟩ := hok.one
    simp (disch := omega) only [kB, kcx, kdm, kdn, kel, aop, resultsL, resultOf, Nat.reduceEqDiff, reduceCtorEq, eq1, apartOK, apart2, AObj.live, Int.reduceEq, Int.reduceLT, Int.reduceLE, Int.reduceAdd, Int.reduceSub, Int.reduceMul, Int.reduceToNat, cutCells, Nat.reduceAdd, Nat.reduceLeDiff, Nat.reduceLT, Nat.reduceMul, Nat.reduceSub, c3, c5, hv, hrow, hcut, hle]
    refine actC_s hok (hb.app _) ?_
    intro y K2 b2 hy hnw hlk
    have hb4 : hget K2 (K.length + 1) = .row [.string (bs []), .slice none 0 0, .slice none 0 0] 0 true := by rw [b2.2 _ (by simp), hget_base]; rfl
    have hl2 := b2.1
    simp only [List.length_append, List.length_cons, List.length_nil, Nat.zero_add, Nat.reduceAdd] at hl2
    have hbK : Base K K2 := (Base.app0 _).trans b2
    have hy2 : (y.OK (K2.set (K.length + 1) (.row y.cells 0 true))) := by
      refine hy.same hnw (by simp) fun c h1 h2 => ?_
      simp at h2
      rw [hget_ne (by omega)]
    obtain ⟨q1, q2⟩ := hy.one
    have hh := h y _ (hbK.set (b := K.length + 1) (o := .row y.cells 0 true) (by omega)) hy2 hlk
    simp only [Act.cells] at hh ⊢
    simp (disch := omega) only [kB, kcx, kdm, kdn, kel, aop, resultsL, resultOf, Nat.reduceEqDiff, reduceCtorEq, eq1, apartOK, apart2, AObj.live, Int.reduceEq, Int.reduceLT, Int.reduceLE, Int.reduceAdd, Int.reduceSub, Int.reduceMul, Int.reduceToNat, cutCells, Nat.reduceAdd, Nat.reduceLeDiff, Nat.reduceLT, Nat.reduceMul, Nat.reduceSub, hb4, q1, q2]
    exact hh

set_option maxHeartbeats 1000000 in
theorem raction_s {s : Sch} (hs : s.OK H) (hb : Base H K) {t : List UInt8}
    (h : ∀ (x : Act) K', Base K K' → x.OK K' → x.like (actOf s t) → R (.ret (.tuple #[.agg x.cells.toArray, .bool (named Act.name s.actions t).isSome])) K') : WD T 35 [.agg s.cells.toArray, .string (bs t)] K R := by
  refine WD.of follows t35 (by simp) ?_
  obtain ⟨o0, o1, o2, o3, o4, o5⟩ := hs.one
  simp only [Sch.cells]
  simp (disch := omega) only [kB, kcx, kdm, kdn, kel, aop, resultsL, resultOf, Nat.reduceEqDiff, reduceCtorEq, eq1, apartOK, apart2, AObj.live, Int.reduceEq, Int.reduceLT, Int.reduceLE, Int.reduceAdd, Int.reduceSub, Int.reduceMul, Int.reduceToNat, cutCells, Nat.reduceAdd, Nat.reduceLeDiff, Nat.reduceLT, Nat.reduceMul, Nat.reduceSub, o0, o1, o2, o3, o4, o5]
  refine ractionAt_s hs (hb.app _) ?_
  rcases named_cases Act.name s.actions t with ⟨e1, e2⟩ | ⟨j, hj, e1, e2, _⟩
  · rw [e1]
    have hh := h actZ
    rw [actOf, e2] at hh
    simp only [actZ, Act.cells] at hh
    simp (disch := omega) only [kB, kcx, kdm, kdn, kel, aop, resultsL, resultOf, Nat.reduceEqDiff, reduceCtorEq, eq1, apartOK, apart2, AObj.live, Int.reduceEq, Int.reduceLT, Int.reduceLE, Int.reduceAdd, Int.reduceSub, Int.reduceMul, Int.reduceToNat, cutCells, Nat.reduceAdd, Nat.reduceLeDiff, Nat.reduceLT, Nat.reduceMul, Nat.reduceSub]
    exact hh _ (Base.app0 _) actZ_ok ⟨rfl, rfl, rfl⟩
  · rw [e1]
    rw [actOf, e2] at h
    have hok := hs.acs.2.2 _ (List.getElem_mem hj)
    obtain ⟨hr, hn, _⟩ := hs.acs
    obtain ⟨ad, hv⟩ := hr.sl
    rw [hv] at hr
    obtain ⟨b, u0, w0, rfl, hbl, hrow0, hcut, hle, hat⟩ := hr.at Act.len hj
    have hrow : hget K b = .row (s.actions.map Act.cells).flatten u0 w0 := by rw [hb.2 b hbl]; exact hrow0
    have hbl2 : b < K.length := Nat.lt_of_lt_of_le hbl hb.1
    have c3 : (0 : Int) ≤ (j : Int) := by omega
    have c4 : ¬ (j : Int) < 0 := by omega
    have c5 : (j : Int) < (s.actions.length : Int) := by omega
    rw [List.length_map] at hv
    generalize s.actions[j] = x at *
    simp only [Act.cells] at hcut
    obtain ⟨o6, o7⟩ := hok.one
    have hh := h x
    simp only [Act.cells] at hh
    simp (disch := omega) only [kB, kcx, kdm, kdn, kel, aop, resultsL, resultOf, Nat.reduceEqDiff, reduceCtorEq, eq1, apartOK, apart2, AObj.live, Int.reduceEq, Int.reduceLT, Int.reduceLE, Int.reduceAdd, Int.reduceSub, Int.reduceMul, Int.reduceToNat, cutCells, Nat.reduceAdd, Nat.reduceLeDiff, Nat.reduceLT, Nat.reduceMul, Nat.reduceSub, c3, c4, c5, hv, hrow, hcut, hle, o6, o7]
    exact hh _ (Base.app0 _) (hok.base (hb.app _)) ⟨rfl, rfl, rfl⟩

set_option maxHeartbeats 2000000 in
/-- A table copied (78). -/
theorem tblC_s {x : Tbl} (hx : x.OK H) (hb : Base H K) (h : ∀ (y : Tbl) K', Base K K' → y.OK K' → y.New K.length → y.like x → R (.ret (.agg y.cells.toArray)) K') : WD T 78 [.agg x.cells.toArray] K R := by
  refine WD.of follows t78 (by simp) ?_
  obtain ⟨o1, o2, o3⟩ := hx.one
  simp only [Tbl.cells]
  simp (disch := omega) only [kB, kcx, kdm, kdn, kel, aop, resultsL, resultOf, Nat.reduceEqDiff, reduceCtorEq, eq1, apartOK, apart2, AObj.live, Int.reduceEq, Int.reduceLT, Int.reduceLE, Int.reduceAdd, Int.reduceSub, Int.reduceMul, Int.reduceToNat, cutCells, Nat.reduceAdd, Nat.reduceLeDiff, Nat.reduceLT, Nat.reduceMul, Nat.reduceSub, o1, o2, o3]
  refine cloneK_s hx.1.1 hx.1.2.1 (hb.app _) ?_
  intro v' K2 b2 hv' hnew
  obtain ⟨ad2, rfl⟩ := hv'.sl
  rw [List.length_map] at hv' hnew ⊢
  have hl2 := b2.1
  simp only [List.length_append, List.length_cons, List.length_nil, Nat.zero_add, Nat.reduceAdd] at hl2 hnew
  have hb1 : hget K2 K.length = .row [.string (bs x.name), x.kv, x.av, .int .i64 x.size, .string (bs x.dact), x.dv, .bool x.fixed] 0 true := by rw [b2.2 _ (by simp), hget_base0]; rfl
  have hb2 : hget K2 (K.length + 1) = .row [.string (bs []), .slice none 0 0, .slice none 0 0, .int .i64 0, .string (bs []), .slice none 0 0, .bool false] 0 true := by rw [b2.2 _ (by simp), hget_base]; rfl
  have hbK : Base K K2 := (Base.app0 _).trans b2
  have n1 : K.length ≠ K.length + 1 := by omega
  have n2 : K.length + 1 ≠ K.length := by omega
  simp (disch := omega) only [kB, kcx, kdm, kdn, kel, aop, resultsL, resultOf, Nat.reduceEqDiff, reduceCtorEq, eq1, apartOK, apart2, AObj.live, Int.reduceEq, Int.reduceLT, Int.reduceLE, Int.reduceAdd, Int.reduceSub, Int.reduceMul, Int.reduceToNat, cutCells, Nat.reduceAdd, Nat.reduceLeDiff, Nat.reduceLT, Nat.reduceMul, Nat.reduceSub, hb1]
  refine cloneT_s hx.2.1.1 hx.2.1.2 ((hb.trans hbK).set (by have := hb.1; omega)) ?_
  intro v3 K3 b3 hv3 hnew3
  obtain ⟨ad3, rfl⟩ := hv3.sl
  rw [List.length_map] at hv3 hnew3 ⊢
  have hl3 := b3.1
  simp only [List.length_set] at hl3 hnew3
  have hc1 : hget K3 K.length = .row [.string (bs x.name), .slice ad2 x.keys.length x.keys.length, x.av, .int .i64 x.size, .string (bs x.dact), x.dv, .bool x.fixed] 0 true := by rw [b3.2 _ (by simp; omega), hget_set' (by omega)]
  have hc2 : hget K3 (K.length + 1) = .row [.string (bs []), .slice none 0 0, .slice none 0 0, .int .i64 0, .string (bs []), .slice none 0 0, .bool false] 0 true := by rw [b3.2 _ (by simp; omega), hget_ne n1]; exact hb2
  have hbK3 : Base K K3 := (hbK.set (Nat.le_refl _)).trans b3
  have hv4 : RoSl K3 (.slice ad2 x.keys.length x.keys.length) (x.keys.map Ky.cells) := (ro_set1 hv' hnew (show K.length < K.length + 2 by omega)).base b3
  simp (disch := omega) only [kB, kcx, kdm, kdn, kel, aop, resultsL, resultOf, Nat.reduceEqDiff, reduceCtorEq, eq1, apartOK, apart2, AObj.live, Int.reduceEq, Int.reduceLT, Int.reduceLE, Int.reduceAdd, Int.reduceSub, Int.reduceMul, Int.reduceToNat, cutCells, Nat.reduceAdd, Nat.reduceLeDiff, Nat.reduceLT, Nat.reduceMul, Nat.reduceSub, hc1]
  refine cloneB_s hx.2.2.2.1 hx.2.2.2.2.1 ((hb.trans hbK3).set (by have := hb.1; omega)) ?_
  intro v5 K4 b4 hv5 hnew5
  obtain ⟨ad5, rfl⟩ := hv5.sl
  rw [List.length_map] at hv5 hnew5 ⊢
  have hl4 := b4.1
  simp only [List.length_set] at hl4 hnew5
  have hd1 : hget K4 K.length = .row [.string (bs x.name), .slice ad2 x.keys.length x.keys.length, .slice ad3 x.actions.length x.actions.length, .int .i64 x.size, .string (bs x.dact), x.dv, .bool x.fixed] 0 true := by rw [b4.2 _ (by simp; omega), hget_set' (by omega)]
  have hd2 : hget K4 (K.length + 1) = .row [.string (bs []), .slice none 0 0, .slice none 0 0, .int .i64 0, .string (bs []), .slice none 0 0, .bool false] 0 true := by rw [b4.2 _ (by simp; omega), hget_ne n1]; exact hc2
  have hbK4 : Base K K4 := (hbK3.set (Nat.le_refl _)).trans b4
  have hv6 : RoSl K4 (.slice ad2 x.keys.length x.keys.length) (x.keys.map Ky.cells) := (ro_set1 hv4 hnew (show K.length < K.length + 2 by omega)).base b4
  have hv7 : RoSl K4 (.slice ad3 x.actions.length x.actions.length) (x.actions.map txC) := (ro_set1 hv3 hnew3 (by omega)).base b4
  have hh := h ⟨x.name, .slice ad2 x.keys.length x.keys.length, x.keys, .slice ad3 x.actions.length x.actions.length, x.actions, x.size, x.dact, .slice ad5 x.dargs.length x.dargs.length, x.dargs, x.fixed⟩
  simp only [Tbl.cells] at hh
  simp (disch := omega) only [kB, kcx, kdm, kdn, kel, aop, resultsL, resultOf, Nat.reduceEqDiff, reduceCtorEq, eq1, apartOK, apart2, AObj.live, Int.reduceEq, Int.reduceLT, Int.reduceLE, Int.reduceAdd, Int.reduceSub, Int.reduceMul, Int.reduceToNat, cutCells, Nat.reduceAdd, Nat.reduceLeDiff, Nat.reduceLT, Nat.reduceMul, Nat.reduceSub, hd1, hd2, hget_ne n1]
  exact hh _ ((hbK4.set (b := K.length) (Nat.le_refl _)).set (b := K.length + 1) (by omega)) ⟨⟨ro_set2 hv6 hnew (by omega) (by omega), hx.1.2⟩, ⟨ro_set2 hv7 hnew3 (by omega) (by omega), hx.2.1.2⟩, hx.2.2.1, ro_set2 hv5 hnew5 (by omega) (by omega), hx.2.2.2.2⟩ ⟨hnew.low (by omega), hnew3.low (by omega), hnew5.low (by omega)⟩ ⟨rfl, rfl, rfl, rfl, rfl, rfl, rfl⟩

/-- The place of a table's name, 0 where it is none. -/
def tblIx (s : Sch) (t : List UInt8) : Int := if ixT t (s.tables.map Tbl.name) 0 < 0 then 0 else ixT t (s.tables.map Tbl.name) 0

set_option maxHeartbeats 1000000 in
theorem table_s {s : Sch} (hs : s.OK H) (hb : Base H K) {t : List UInt8}
    (h : ∀ (x : Tbl) K', Base K K' → x.OK K' → x.like (tblOf s t) → R (.ret (.tuple #[.agg x.cells.toArray, .int .i64 (tblIx s t), .bool (named Tbl.name s.tables t).isSome])) K') : WD T 27 [.agg s.cells.toArray, .string (bs t)] K R := by
  refine WD.of follows t27 (by simp) ?_
  obtain ⟨o0, o1, o2, o3, o4, o5⟩ := hs.one
  simp only [Sch.cells]
  simp (disch := omega) only [kB, kcx, kdm, kdn, kel, aop, resultsL, resultOf, Nat.reduceEqDiff, reduceCtorEq, eq1, apartOK, apart2, AObj.live, Int.reduceEq, Int.reduceLT, Int.reduceLE, Int.reduceAdd, Int.reduceSub, Int.reduceMul, Int.reduceToNat, cutCells, Nat.reduceAdd, Nat.reduceLeDiff, Nat.reduceLT, Nat.reduceMul, Nat.reduceSub, o0, o1, o2, o3, o4, o5]
  refine tableAt_s hs (hb.app _) ?_
  rcases named_cases Tbl.name s.tables t with ⟨e1, e2⟩ | ⟨j, hj, e1, e2, _⟩
  · rw [e1]
    have hh := h tblZ
    rw [tblOf, tblIx, e1, e2] at hh
    simp only [tblZ, Tbl.cells] at hh
    simp (disch := omega) only [kB, kcx, kdm, kdn, kel, aop, resultsL, resultOf, Nat.reduceEqDiff, reduceCtorEq, eq1, apartOK, apart2, AObj.live, Int.reduceEq, Int.reduceLT, Int.reduceLE, Int.reduceAdd, Int.reduceSub, Int.reduceMul, Int.reduceToNat, cutCells, Nat.reduceAdd, Nat.reduceLeDiff, Nat.reduceLT, Nat.reduceMul, Nat.reduceSub]
    exact hh _ (Base.app0 _) tblZ_ok ⟨rfl, rfl, rfl, rfl, rfl, rfl, rfl⟩
  · rw [e1]
    rw [tblOf, tblIx, e1, e2, if_neg (by omega)] at h
    have hok := hs.ts.2.2 _ (List.getElem_mem hj)
    obtain ⟨hr, hn, _⟩ := hs.ts
    obtain ⟨ad, hv⟩ := hr.sl
    rw [hv] at hr
    obtain ⟨b, u0, w0, rfl, hbl, hrow0, hcut, hle, hat⟩ := hr.at Tbl.len hj
    have hrow : hget K b = .row (s.tables.map Tbl.cells).flatten u0 w0 := by rw [hb.2 b hbl]; exact hrow0
    have hbl2 : b < K.length := Nat.lt_of_lt_of_le hbl hb.1
    have c3 : (0 : Int) ≤ (j : Int) := by omega
    have c5 : (j : Int) < (s.tables.length : Int) := by omega
    rw [List.length_map] at hv
    generalize s.tables[j] = x at *
    simp (disch := omega) only [kB, kcx, kdm, kdn, kel, aop, resultsL, resultOf, Nat.reduceEqDiff, reduceCtorEq, eq1, apartOK, apart2, AObj.live, Int.reduceEq, Int.reduceLT, Int.reduceLE, Int.reduceAdd, Int.reduceSub, Int.reduceMul, Int.reduceToNat, cutCells, Nat.reduceAdd, Nat.reduceLeDiff, Nat.reduceLT, Nat.reduceMul, Nat.reduceSub, c3, c5, hv, hrow, hcut, hle]
    refine tblC_s hok (hb.app _) ?_
    intro y K2 b2 hy hnw hlk
    have hb4 : hget K2 (K.length + 1) = .row [.string (bs []), .slice none 0 0, .slice none 0 0, .int .i64 0, .string (bs []), .slice none 0 0, .bool false] 0 true := by rw [b2.2 _ (by simp), hget_base]; rfl
    have hl2 := b2.1
    simp only [List.length_append, List.length_cons, List.length_nil, Nat.zero_add, Nat.reduceAdd] at hl2
    have hbK : Base K K2 := (Base.app0 _).trans b2
    have hy2 : (y.OK (K2.set (K.length + 1) (.row y.cells 0 true))) := by
      refine hy.same hnw (by simp) fun c h1 h2 => ?_
      simp at h2
      rw [hget_ne (by omega)]
    obtain ⟨q1, q2, q3⟩ := hy.one
    have hh := h y _ (hbK.set (b := K.length + 1) (o := .row y.cells 0 true) (by omega)) hy2 hlk
    simp only [Tbl.cells] at hh ⊢
    simp (disch := omega) only [kB, kcx, kdm, kdn, kel, aop, resultsL, resultOf, Nat.reduceEqDiff, reduceCtorEq, eq1, apartOK, apart2, AObj.live, Int.reduceEq, Int.reduceLT, Int.reduceLE, Int.reduceAdd, Int.reduceSub, Int.reduceMul, Int.reduceToNat, cutCells, Nat.reduceAdd, Nat.reduceLeDiff, Nat.reduceLT, Nat.reduceMul, Nat.reduceSub, hb4, q1, q2, q3]
    exact hh

set_option maxHeartbeats 1000000 in
theorem rtable_s {s : Sch} (hs : s.OK H) (hb : Base H K) {t : List UInt8}
    (h : ∀ (x : Tbl) K', Base K K' → x.OK K' → x.like (tblOf s t) → R (.ret (.tuple #[.agg x.cells.toArray, .int .i64 (tblIx s t), .bool (named Tbl.name s.tables t).isSome])) K') : WD T 36 [.agg s.cells.toArray, .string (bs t)] K R := by
  refine WD.of follows t36 (by simp) ?_
  obtain ⟨o0, o1, o2, o3, o4, o5⟩ := hs.one
  simp only [Sch.cells]
  simp (disch := omega) only [kB, kcx, kdm, kdn, kel, aop, resultsL, resultOf, Nat.reduceEqDiff, reduceCtorEq, eq1, apartOK, apart2, AObj.live, Int.reduceEq, Int.reduceLT, Int.reduceLE, Int.reduceAdd, Int.reduceSub, Int.reduceMul, Int.reduceToNat, cutCells, Nat.reduceAdd, Nat.reduceLeDiff, Nat.reduceLT, Nat.reduceMul, Nat.reduceSub, o0, o1, o2, o3, o4, o5]
  refine rtableAt_s hs (hb.app _) ?_
  rcases named_cases Tbl.name s.tables t with ⟨e1, e2⟩ | ⟨j, hj, e1, e2, _⟩
  · rw [e1]
    have hh := h tblZ
    rw [tblOf, tblIx, e1, e2] at hh
    simp only [tblZ, Tbl.cells] at hh
    simp (disch := omega) only [kB, kcx, kdm, kdn, kel, aop, resultsL, resultOf, Nat.reduceEqDiff, reduceCtorEq, eq1, apartOK, apart2, AObj.live, Int.reduceEq, Int.reduceLT, Int.reduceLE, Int.reduceAdd, Int.reduceSub, Int.reduceMul, Int.reduceToNat, cutCells, Nat.reduceAdd, Nat.reduceLeDiff, Nat.reduceLT, Nat.reduceMul, Nat.reduceSub]
    exact hh _ (Base.app0 _) tblZ_ok ⟨rfl, rfl, rfl, rfl, rfl, rfl, rfl⟩
  · rw [e1]
    rw [tblOf, tblIx, e1, e2, if_neg (by omega)] at h
    have hok := hs.ts.2.2 _ (List.getElem_mem hj)
    obtain ⟨hr, hn, _⟩ := hs.ts
    obtain ⟨ad, hv⟩ := hr.sl
    rw [hv] at hr
    obtain ⟨b, u0, w0, rfl, hbl, hrow0, hcut, hle, hat⟩ := hr.at Tbl.len hj
    have hrow : hget K b = .row (s.tables.map Tbl.cells).flatten u0 w0 := by rw [hb.2 b hbl]; exact hrow0
    have hbl2 : b < K.length := Nat.lt_of_lt_of_le hbl hb.1
    have c3 : (0 : Int) ≤ (j : Int) := by omega
    have c4 : ¬ (j : Int) < 0 := by omega
    have c5 : (j : Int) < (s.tables.length : Int) := by omega
    rw [List.length_map] at hv
    generalize s.tables[j] = x at *
    simp only [Tbl.cells] at hcut
    obtain ⟨o6, o7, o8⟩ := hok.one
    have hh := h x
    simp only [Tbl.cells] at hh
    simp (disch := omega) only [kB, kcx, kdm, kdn, kel, aop, resultsL, resultOf, Nat.reduceEqDiff, reduceCtorEq, eq1, apartOK, apart2, AObj.live, Int.reduceEq, Int.reduceLT, Int.reduceLE, Int.reduceAdd, Int.reduceSub, Int.reduceMul, Int.reduceToNat, cutCells, Nat.reduceAdd, Nat.reduceLeDiff, Nat.reduceLT, Nat.reduceMul, Nat.reduceSub, c3, c4, c5, hv, hrow, hcut, hle, o6, o7, o8]
    exact hh _ (Base.app0 _) (hok.base (hb.app _)) ⟨rfl, rfl, rfl, rfl, rfl, rfl, rfl⟩

end Go.Proofs.YtpllhhaeclnngaaGreat.Ev

/- Slices that grow (the same laws as in the texts of the trie). -/
namespace Go.Proofs.YtpllhhaeclnngaaGreat.Ev
set_option maxRecDepth 100000
set_option linter.unusedSimpArgs false
set_option linter.unusedVariables false
variable {R : FRes → Heap → Prop} {H : Heap}

theorem append_one {K : Heap} {b bx l unit bytes u2 : Nat} {cells xs : List Value} {w2 : Bool} (hb : hget K b = .row cells unit true) (hl : cells.length = l * unit) (hx : hget K bx = .row xs u2 w2) (hxl : xs.length = unit) (hall : xs.all oneCell = true)
    (hr : (l + 1) * bytes ≤ roomMax ∧ l + 1 ≤ roomMax) :
    appendV K unit bytes (.slice (some ⟨b, 0, none⟩) l l) (.slice (some ⟨bx, 0, none⟩) 1 1) = .val (.slice (some ⟨K.length, 0, none⟩) (l + 1) (l + 1)) (K.set b .dead ++ [.row (cells ++ xs) unit true]) := by
  simp only [appendV, lenV, srcCells, hx, hb]
  rw [if_pos (by omega)]
  have e1 : List.take (1 * unit) (List.drop 0 xs) = xs := by rw [List.drop_zero, Nat.one_mul, ← hxl, List.take_length]
  have e2 : List.take (l * unit) (List.drop 0 cells) = cells := by rw [List.drop_zero, ← hl, List.take_length]
  simp only [e1]
  rw [if_neg (by omega)]
  simp only [hb, e2]
  rw [if_pos ⟨trivial, by omega, by omega, by omega⟩, if_neg (by omega), if_pos ⟨hr.1, hr.2, hall⟩]

theorem append_nil {K : Heap} {bx unit bytes u2 : Nat} {xs : List Value} {w2 : Bool} (hx : hget K bx = .row xs u2 w2) (hxl : xs.length = unit) (hr : 1 * bytes ≤ roomMax) :
    appendV K unit bytes (.slice none 0 0) (.slice (some ⟨bx, 0, none⟩) 1 1) = .val (.slice (some ⟨K.length, 0, none⟩) 1 1) (K ++ [.row xs unit true]) := by
  simp only [appendV, lenV, srcCells, hx]
  rw [if_pos (by omega)]
  have e1 : List.take (1 * unit) (List.drop 0 xs) = xs := by rw [List.drop_zero, Nat.one_mul, ← hxl, List.take_length]
  simp only [e1]
  rw [if_neg (by omega), if_pos ⟨hr, by decide⟩]

/-! ### Slices that grow -/

/-- A slice of elements of so many cells, in a block of its own. -/
def SLs (u n0 : Nat) (H : Heap) (sv : Value) (css : List (List Value)) : Prop :=
  (css = [] ∧ sv = .slice none 0 0) ∨ (css ≠ [] ∧ ∃ k, n0 ≤ k ∧ sv = .slice (some ⟨k, 0, none⟩) css.length css.length ∧ hget H k = .row css.flatten u true ∧ ∀ cs ∈ css, cs.length = u)
theorem SLs.same {u n0 : Nat} {H K : Heap} {sv : Value} {css : List (List Value)} (h : SLs u n0 H sv css) (hs : ∀ c, blk sv = some c → hget K c = hget H c) : SLs u n0 K sv css := by
  rcases h with h | ⟨h1, k, k0, rfl, k2, k3⟩
  · exact .inl h
  · exact .inr ⟨h1, k, k0, rfl, by rw [hs k rfl]; exact k2, k3⟩
theorem SLs.lt {u n0 : Nat} {H : Heap} {sv : Value} {css : List (List Value)} (h : SLs u n0 H sv css) {c : Nat} (hc : blk sv = some c) : c < H.length ∧ n0 ≤ c := by
  rcases h with ⟨_, rfl⟩ | ⟨h1, k, k0, rfl, k2, k3⟩
  · cases hc
  · cases hc; exact ⟨hget_lt k2 rfl, k0⟩
theorem SLs.app {u n0 : Nat} {H G : Heap} {sv : Value} {css : List (List Value)} (h : SLs u n0 H sv css) : SLs u n0 (H ++ G) sv css := h.same fun c hc => hget_old (h.lt hc).1
theorem SLs.ne {u n0 : Nat} {H : Heap} {sv : Value} {css : List (List Value)} (h : SLs u n0 H sv css) {c u2 : Nat} {cs : List Value} {wr : Bool} (hc : hget H c = .row cs u2 wr) (hu : u ≠ u2) : blk sv ≠ some c := by
  intro e
  rcases h with ⟨_, rfl⟩ | ⟨h1, k, k0, rfl, k2, k3⟩
  · cases e
  · cases e
    rw [k2] at hc
    cases hc
    exact hu rfl
theorem SLs.len {u n0 : Nat} {H : Heap} {sv : Value} {css : List (List Value)} (h : SLs u n0 H sv css) : ∃ ad, sv = .slice ad css.length css.length := by
  rcases h with ⟨rfl, rfl⟩ | ⟨h1, k, k0, rfl, k2, k3⟩
  · exact ⟨_, rfl⟩
  · exact ⟨_, rfl⟩

theorem app_sl {u n0 bytes bx u2 : Nat} {K : Heap} {sv : Value} {css : List (List Value)} {xs : List Value} {w2 : Bool} (h : SLs u n0 K sv css) (hn : n0 ≤ K.length) (hx : hget K bx = .row xs u2 w2) (hl : xs.length = u) (hall : xs.all oneCell = true)
    (hr : (css.length + 1) * bytes ≤ roomMax ∧ css.length + 1 ≤ roomMax) : ∃ sv' K', appendV K u bytes sv (.slice (some ⟨bx, 0, none⟩) 1 1) = .val sv' K' ∧ SLs u n0 K' sv' (css ++ [xs]) ∧ K'.length = K.length + 1 ∧ blk sv' = some K.length ∧
      ∀ c, c < K.length → blk sv ≠ some c → hget K' c = hget K c := by
  rcases h with ⟨rfl, rfl⟩ | ⟨h1, k, k0, rfl, k2, k3⟩
  · refine ⟨_, _, append_nil hx hl (by simpa using hr.1), .inr ⟨by simp, K.length, hn, rfl, by simp [hget_last], by simpa using hl⟩, by simp, rfl, fun c hc _ => hget_old hc⟩
  · have lk := hget_lt k2 rfl
    refine ⟨_, _, append_one k2 (flat_len_u k3) hx hl hall hr, .inr ⟨by simp, K.length, hn, by simp, ?_, ?_⟩, by simp, rfl, fun c hc hb => ?_⟩
    · have e : (K.set k AObj.dead).length = K.length := List.length_set ..
      rw [← e, hget_last]
      simp
    · intro cs hcs
      rcases List.mem_append.1 hcs with q | q
      · exact k3 cs q
      · simp at q; rw [q]; exact hl
    · rw [hget_oldS hc, hget_ne (fun q => hb (by rw [q]; rfl))]

/-- A slice in a cell of its own grows. -/
theorem app_box {u n0 bytes p : Nat} {K : Heap} {sv : Value} {css : List (List Value)} {xs : List Value} (hp : hget K p = .row [sv] 0 true) (h : SLs u n0 K sv css) (hn : n0 ≤ K.length) (hu : 0 < u) (hl : xs.length = u) (hall : xs.all oneCell = true)
    (hr : (css.length + 1) * bytes ≤ roomMax ∧ css.length + 1 ≤ roomMax) : ∃ ad K', appendV (K ++ [.row xs u true]) u bytes sv (.slice (some ⟨K.length, 0, none⟩) 1 1) = .val (.slice ad (css.length + 1) (css.length + 1)) K' ∧ hget K' p = .row [sv] 0 true ∧
      SLs u n0 (K'.set p (.row [.slice ad (css.length + 1) (css.length + 1)] 0 true)) (.slice ad (css.length + 1) (css.length + 1)) (css ++ [xs]) ∧ K.length ≤ K'.length ∧ p < K'.length ∧
      (∀ c, blk (.slice ad (css.length + 1) (css.length + 1)) = some c → K.length ≤ c) ∧
      ∀ c, c < K.length → c ≠ p → blk sv ≠ some c → hget (K'.set p (.row [.slice ad (css.length + 1) (css.length + 1)] 0 true)) c = hget K c := by
  have lp := hget_lt hp rfl
  obtain ⟨sv', K', h1, h2, h3, h4, h5⟩ := app_sl (K := K ++ [.row xs u true]) (bytes := bytes) (bx := K.length) (xs := xs) (u2 := u) (w2 := true) h.app (by simp; omega) (by rw [hget_last]) hl hall hr
  simp only [List.length_append, List.length_cons, List.length_nil, Nat.zero_add] at h3 h4
  obtain ⟨ad, rfl⟩ := h2.len
  generalize hln : (css ++ [xs]).length = ln at h1 h2 h4
  have hln2 : ln = css.length + 1 := by rw [← hln]; simp
  subst hln2
  refine ⟨ad, K', h1, ?_, h2.same fun c hc => ?_, by omega, by omega, fun c hc => ?_, fun c h6 h7 h8 => ?_⟩
  · rw [h5 p (by simp; omega) (h.ne hp (by omega)), hget_old lp]
    exact hp
  · rw [h4] at hc
    cases hc
    rw [hget_ne (by omega)]
  · rw [h4] at hc
    cases hc
    omega
  · rw [hget_ne (Ne.symm h7), h5 c (by simp; omega) h8, hget_old h6]

/-- Many are put behind a slice's elements. -/
theorem app_many {u n0 bytes : Nat} {K : Heap} {sv x : Value} {css dss : List (List Value)} (h : SLs u n0 K sv css) (hn : n0 ≤ K.length) (hu : 0 < u) (hx : lenV x = some dss.length) (hs : srcCells K u dss.length x = some dss.flatten) (hd : ∀ cs ∈ dss, cs.length = u) (hall : dss.flatten.all oneCell = true)
    (hr : (css.length + dss.length) * bytes ≤ roomMax ∧ css.length + dss.length ≤ roomMax) : ∃ sv' K', appendV K u bytes sv x = .val sv' K' ∧ SLs u n0 K' sv' (css ++ dss) ∧ K.length ≤ K'.length ∧ (∀ c, blk sv' = some c → blk sv = some c ∨ K.length ≤ c) ∧
      ∀ c, c < K.length → blk sv ≠ some c → hget K' c = hget K c := by
  by_cases h0 : dss = []
  · subst h0
    rcases h with ⟨rfl, rfl⟩ | ⟨h1, k, k0, rfl, k2, k3⟩
    · refine ⟨.slice none 0 0, K, ?_, .inl ⟨rfl, rfl⟩, Nat.le_refl _, fun c q => .inl q, fun _ _ _ => rfl⟩
      simp only [List.length_nil, List.flatten_nil] at hx hs
      simp only [appendV, hx, hs, if_true]
    · refine ⟨.slice (some ⟨k, 0, none⟩) css.length css.length, K, ?_, .inr ⟨by simpa using h1, k, k0, by simp, by simpa using k2, by simpa using k3⟩, Nat.le_refl _, fun c q => .inl q, fun _ _ _ => rfl⟩
      simp only [List.length_nil, List.flatten_nil] at hx hs
      simp only [appendV, hx, hs, if_true]
  have hpos : 0 < dss.length := List.length_pos_iff.2 h0
  have hne : ¬ dss.length = 0 := by omega
  have hfl := flat_len_u hd
  rcases h with ⟨rfl, rfl⟩ | ⟨h1, k, k0, rfl, k2, k3⟩
  · refine ⟨.slice (some ⟨K.length, 0, none⟩) dss.length dss.length, K ++ [.row dss.flatten u true], ?_, .inr ⟨by simpa using h0, K.length, hn, by simp, by simp [hget_last], by simpa using hd⟩, by simp, fun c q => .inr (by cases q; exact Nat.le_refl _), fun c hc _ => hget_old hc⟩
    simp only [appendV, hx, hs]
    rw [if_neg hne, if_pos (by simpa using hr)]
  · have lk := hget_lt k2 rfl
    refine ⟨.slice (some ⟨K.length, 0, none⟩) (css.length + dss.length) (css.length + dss.length), (K.set k .dead) ++ [.row (css.flatten ++ dss.flatten) u true], ?_, .inr ⟨by simp [h0], K.length, hn, by simp, ?_, fun cs hcs => ?_⟩, by simp, fun c q => .inr (by cases q; exact Nat.le_refl _), fun c hc hb => ?_⟩
    · have e2 : List.take (css.length * u) (List.drop 0 css.flatten) = css.flatten := by rw [List.drop_zero, ← flat_len_u k3, List.take_length]
      simp only [appendV, hx, hs]
      rw [if_neg hne]
      simp only [k2, e2]
      rw [if_pos ⟨trivial, Nat.le_refl _, by rw [flat_len_u k3]; omega, hfl⟩, if_neg (by omega), if_pos ⟨hr.1, hr.2, hall⟩]
    · have e : (K.set k AObj.dead).length = K.length := List.length_set ..
      rw [← e, hget_last]
      simp
    · rcases List.mem_append.1 hcs with q | q
      · exact k3 cs q
      · exact hd cs q
    · rw [hget_oldS hc, hget_ne (fun q => hb (by rw [q]; rfl))]

theorem SLs.ro {u n0 : Nat} {K : Heap} {sv : Value} {css : List (List Value)} (h : SLs u n0 K sv css) : RoSl K sv css := by
  rcases h with ⟨rfl, rfl⟩ | ⟨h1, k, k0, rfl, k2, k3⟩
  · exact .inl ⟨rfl, .inl rfl⟩
  · exact .inr ⟨k, rfl, hget_lt k2 rfl, u, true, k2⟩

end Go.Proofs.YtpllhhaeclnngaaGreat.Ev

/- The widths of a table's keys: the program and the document. -/
namespace Go.Proofs.YtpllhhaeclnngaaGreat.Ev
set_option maxRecDepth 100000
set_option linter.unusedSimpArgs false
set_option linter.unusedVariables false
variable {R : FRes → Heap → Prop} {H K : Heap}

def keyW (s : Sch) (l : List Ky) : List Int := l.map fun k => widthV (fldOf s k.ref)
def widthsV (s : Sch) (t : List UInt8) : List Int := match named Tbl.name s.tables t with
  | none => []
  | some x => keyW s x.keys
def widthsE (s : Sch) (t : List UInt8) : Int := match named Tbl.name s.tables t with
  | none => 110
  | some _ => 0
theorem keyW_take {s : Sch} {l : List Ky} {i : Nat} (hi : i < l.length) : keyW s (l.take (i + 1)) = keyW s (l.take i) ++ [widthV (fldOf s l[i].ref)] := by
  rw [keyW, List.take_add_one, List.getElem?_eq_getElem hi, List.map_append]
  rfl

def wdI (s : Sch) (K0 : Heap) (bx : Nat) (l : List Ky) (kv : Value) : Nat → Env → Heap → Prop := fun z e K' =>
  ∃ (i : Nat) (ad : Option Addr) (E : List Int), i ≤ l.length ∧ z = l.length - i ∧ Base K0 K' ∧ E = keyW s (l.take i) ∧ SLs 1 K0.length K' (.slice ad E.length E.length) (E.map inC) ∧
    (∃ x : Nat → Value, e = [x 0, x 1, .pointer (some ⟨bx, 0, none⟩), x 3, x 4, x 5, x 6, .slice ad E.length E.length, x 8, x 9, x 10, x 11, x 12, x 13, x 14, x 15, x 16, x 17, x 18, x 19, kv, .int .i64 (l.length : Int), .int .i64 (i : Int), x 23, x 24, x 25, x 26, x 27, x 28, x 29, x 30, x 31, x 32, x 33, x 34])

set_option maxHeartbeats 2000000 in
theorem widths_s {s : Sch} (hs : s.OK H) (hb : Base H K) {t : List UInt8}
    (h : ∀ v K', Base K K' → RoSl K' v ((widthsV s t).map inC) → few 8 (widthsV s t).length → R (.ret (.tuple #[v, .int .i64 (widthsE s t)])) K') : WD T 28 [.agg s.cells.toArray, .string (bs t)] K R := by
  refine WD.of follows t28 (by simp) ?_
  obtain ⟨o0, o1, o2, o3, o4, o5⟩ := hs.one
  simp only [Sch.cells]
  simp (disch := omega) only [kB, kcx, kdm, kdn, kel, aop, resultsL, resultOf, Nat.reduceEqDiff, reduceCtorEq, eq1, apartOK, apart2, AObj.live, Int.reduceEq, Int.reduceLT, Int.reduceLE, Int.reduceAdd, Int.reduceSub, Int.reduceMul, Int.reduceToNat, cutCells, Nat.reduceAdd, Nat.reduceLeDiff, Nat.reduceLT, Nat.reduceMul, Nat.reduceSub, o0, o1, o2, o3, o4, o5]
  refine tableAt_s hs (hb.app _) ?_
  rcases named_cases Tbl.name s.tables t with ⟨e1, e2⟩ | ⟨j, hj, e1, e2, _⟩
  · rw [e1]
    rw [widthsV, widthsE, e2] at h
    have hh := h (.slice none 0 0) _ (Base.app0 [.row [s.hv, s.mv, s.sv, s.av, s.tv, s.cv] 0 true]) RoSl.nil (by simp [few])
    simp (disch := omega) only [kB, kcx, kdm, kdn, kel, aop, resultsL, resultOf, Nat.reduceEqDiff, reduceCtorEq, eq1, apartOK, apart2, AObj.live, Int.reduceEq, Int.reduceLT, Int.reduceLE, Int.reduceAdd, Int.reduceSub, Int.reduceMul, Int.reduceToNat, cutCells, Nat.reduceAdd, Nat.reduceLeDiff, Nat.reduceLT, Nat.reduceMul, Nat.reduceSub]
    exact hh
  · rw [e1]
    rw [widthsV, widthsE, e2] at h
    simp only at h
    have hok := hs.ts.2.2 _ (List.getElem_mem hj)
    obtain ⟨hr, hn, _⟩ := hs.ts
    obtain ⟨ad, hv⟩ := hr.sl
    rw [hv] at hr
    obtain ⟨b, u0, w0, rfl, hbl, hrow0, hcut, hle, hat⟩ := hr.at Tbl.len hj
    have hrow : hget K b = .row (s.tables.map Tbl.cells).flatten u0 w0 := by rw [hb.2 b hbl]; exact hrow0
    have hbl2 : b < K.length := Nat.lt_of_lt_of_le hbl hb.1
    have c3 : (0 : Int) ≤ (j : Int) := by omega
    have c4 : ¬ (j : Int) < 0 := by omega
    have c5 : (j : Int) < (s.tables.length : Int) := by omega
    have h1 := hat 1 (by decide)
    simp only [Tbl.cells, List.getElem?_cons_succ, List.getElem?_cons_zero] at h1
    rw [List.length_map] at hv
    generalize s.tables[j] = x at *
    obtain ⟨⟨kr, kn, kok⟩, _⟩ := hok
    obtain ⟨ad2, kv⟩ := kr.sl
    rw [kv] at kr h1
    rw [List.length_map] at kv kr h1
    unfold few at kn
    generalize x.keys = l at *
    simp (disch := omega) only [kB, kcx, kdm, kdn, kel, aop, resultsL, resultOf, Nat.reduceEqDiff, reduceCtorEq, eq1, apartOK, apart2, AObj.live, Int.reduceEq, Int.reduceLT, Int.reduceLE, Int.reduceAdd, Int.reduceSub, Int.reduceMul, Int.reduceToNat, cutCells, Nat.reduceAdd, Nat.reduceLeDiff, Nat.reduceLT, Nat.reduceMul, Nat.reduceSub, c3, c4, c5, hv, hrow, h1]
    obtain ⟨K2, hK2⟩ : ∃ K2, K2 = K ++ [AObj.row [s.hv, s.mv, s.sv, s.av, s.tv, s.cv] 0 true] := ⟨_, rfl⟩
    have hK2' := hK2.symm
    simp only [hv] at hK2'
    rw [hK2']
    have bK : Base K K2 := by rw [hK2]; exact Base.app0 _
    have hbox : hget K2 K.length = .row [s.hv, s.mv, s.sv, s.av, s.tv, s.cv] 0 true := by rw [hK2, hget_last]
    have lK2 : K2.length = K.length + 1 := by rw [hK2]; simp
    clear hK2 hK2'
    refine WLoop.inv (wdI s K2 K.length l (.slice ad2 l.length l.length)) ?_ l.length _ _ ⟨0, none, [], Nat.zero_le _, by omega, Base.refl, rfl, .inl ⟨rfl, rfl⟩, by exact ex_env rfl⟩
    rintro z e K' ⟨i, ad3, E, hi, rfl, bK2, hE, hg, ⟨x, rfl⟩⟩
    have bA := bK.trans bK2
    have hEl : E.length ≤ l.length := by rw [hE, keyW, List.length_map, List.length_take]; omega
    by_cases hlt : i < l.length
    · have q0 : (i : Int) < (l.length : Int) := by omega
      obtain ⟨b5, u5, w5, rfl, p1, p2, p3, p4, p5⟩ := kr.at Ky.len hlt
      have prow : hget K' b5 = .row (l.map Ky.cells).flatten u5 w5 := by rw [(hb.trans bA).2 b5 p1]; exact p2
      have lp : b5 < K'.length := Nat.lt_of_lt_of_le p1 (hb.trans bA).1
      have hbox2 : hget K' K.length = .row [s.hv, s.mv, s.sv, s.av, s.tv, s.cv] 0 true := by rw [bK2.2 _ (by omega)]; exact hbox
      have lb : K.length < K'.length := by have := bK2.1; omega
      have lK3 := bK2.1
      have w2 : IntKind.i64.wrap ((i : Int) + 1) = ((i + 1 : Nat) : Int) := by rw [show (i : Int) + 1 = ((i + 1 : Nat) : Int) by omega]; exact wr_i64 (by omega) (by omega)
      have hnx := keyW_take (s := s) hlt
      rw [← hE] at hnx
      generalize l[i] = y at *
      simp only [Ky.cells] at p3
      simp (disch := omega) only [kB, kcx, kdm, kdn, kel, aop, resultsL, resultOf, Nat.reduceEqDiff, reduceCtorEq, eq1, apartOK, apart2, AObj.live, Int.reduceEq, Int.reduceLT, Int.reduceLE, Int.reduceAdd, Int.reduceSub, Int.reduceMul, Int.reduceToNat, cutCells, Nat.reduceAdd, Nat.reduceLeDiff, Nat.reduceLT, Nat.reduceMul, Nat.reduceSub, q0, prow, p3, p4, hbox2]
      refine width_s (r := y.ref) hs ((hb.trans bA).app _) ?_
      obtain ⟨sv6, K6, f1, f2, f3, f4, f5⟩ := app_sl (u := 1) (n0 := K2.length) (bytes := 8) (K := K' ++ [AObj.row [.string (bs y.ref.head), .string (bs y.ref.name), .int .i64 y.kind] 0 true, .row [.int .i64 (widthV (fldOf s y.ref))] 1 true]) (bx := K'.length + 1) (xs := inC (widthV (fldOf s y.ref))) (u2 := 1) (w2 := true) (SLs.app hg) (by simp; omega) (by rw [hget_base]; rfl) rfl rfl (by simp only [roomMax, List.length_map]; omega)
      have f2' : SLs 1 K2.length K6 sv6 ((E ++ [widthV (fldOf s y.ref)]).map inC) := by
        rw [List.map_append]
        exact f2
      obtain ⟨ad6, rfl⟩ := f2'.len
      rw [List.length_map] at f1 f2' f4
      generalize E ++ [widthV (fldOf s y.ref)] = E' at *
      simp (disch := omega) only [kB, kcx, kdm, kdn, kel, aop, resultsL, resultOf, Nat.reduceEqDiff, reduceCtorEq, eq1, apartOK, apart2, AObj.live, Int.reduceEq, Int.reduceLT, Int.reduceLE, Int.reduceAdd, Int.reduceSub, Int.reduceMul, Int.reduceToNat, cutCells, Nat.reduceAdd, Nat.reduceLeDiff, Nat.reduceLT, Nat.reduceMul, Nat.reduceSub, f1, w2]
      refine ⟨l.length - (i + 1), by omega, i + 1, ad6, E', by omega, rfl, ⟨by rw [f3]; simp; omega, fun c hc => ?_⟩, hnx.symm, f2', by exact ex_env rfl⟩
      rw [f5 c (by simp; omega) (fun q => by have := (SLs.lt hg q).2; omega), hget_old (by omega)]
      exact bK2.2 c hc
    · have q0 : ¬ (i : Int) < (l.length : Int) := by omega
      have hil : i = l.length := by omega
      rw [hil, List.take_length] at hE
      subst hE
      have hh := h _ K' bA hg.ro (by unfold few; omega)
      simp (disch := omega) only [kB, kcx, kdm, kdn, kel, aop, resultsL, resultOf, Nat.reduceEqDiff, reduceCtorEq, eq1, apartOK, apart2, AObj.live, Int.reduceEq, Int.reduceLT, Int.reduceLE, Int.reduceAdd, Int.reduceSub, Int.reduceMul, Int.reduceToNat, cutCells, Nat.reduceAdd, Nat.reduceLeDiff, Nat.reduceLT, Nat.reduceMul, Nat.reduceSub, q0]
      exact hh

end Go.Proofs.YtpllhhaeclnngaaGreat.Ev

/- The widths of a table's keys: the document. -/
namespace Go.Proofs.YtpllhhaeclnngaaGreat.Ev
set_option maxRecDepth 100000
set_option linter.unusedSimpArgs false
set_option linter.unusedVariables false
variable {R : FRes → Heap → Prop} {H K : Heap}

def rwdI (s : Sch) (K0 : Heap) (bx j : Nat) (l : List Ky) : Nat → Env → Heap → Prop := fun z e K' =>
  ∃ (i : Nat) (ad : Option Addr) (E : List Int), i ≤ l.length ∧ z = l.length - i ∧ Base K0 K' ∧ E = keyW s (l.take i) ∧ SLs 1 K0.length K' (.slice ad E.length E.length) (E.map inC) ∧
    (∃ x : Nat → Value, e = [x 0, x 1, .pointer (some ⟨bx, 0, none⟩), x 3, x 4, x 5, .int .i64 (j : Int), .slice ad E.length E.length, .int .i64 (i : Int), x 9, x 10, x 11, x 12, x 13, x 14, x 15, x 16, x 17, x 18, x 19, x 20, x 21, x 22, x 23, x 24, x 25, x 26, x 27, x 28, x 29, x 30, x 31, x 32, x 33, x 34, x 35, x 36, x 37, x 38, x 39, x 40, x 41, x 42])

set_option maxHeartbeats 2000000 in
theorem rwidths_s {s : Sch} (hs : s.OK H) (hb : Base H K) {t : List UInt8}
    (h : ∀ v K', Base K K' → RoSl K' v ((widthsV s t).map inC) → few 8 (widthsV s t).length → R (.ret (.tuple #[v, .int .i64 (widthsE s t)])) K') : WD T 37 [.agg s.cells.toArray, .string (bs t)] K R := by
  refine WD.of follows t37 (by simp) ?_
  obtain ⟨o0, o1, o2, o3, o4, o5⟩ := hs.one
  simp only [Sch.cells]
  simp (disch := omega) only [kB, kcx, kdm, kdn, kel, aop, resultsL, resultOf, Nat.reduceEqDiff, reduceCtorEq, eq1, apartOK, apart2, AObj.live, Int.reduceEq, Int.reduceLT, Int.reduceLE, Int.reduceAdd, Int.reduceSub, Int.reduceMul, Int.reduceToNat, cutCells, Nat.reduceAdd, Nat.reduceLeDiff, Nat.reduceLT, Nat.reduceMul, Nat.reduceSub, o0, o1, o2, o3, o4, o5]
  refine rtableAt_s hs (hb.app _) ?_
  rcases named_cases Tbl.name s.tables t with ⟨e1, e2⟩ | ⟨j, hj, e1, e2, _⟩
  · rw [e1]
    rw [widthsV, widthsE, e2] at h
    have hh := h (.slice none 0 0) _ (Base.app0 [.row [s.hv, s.mv, s.sv, s.av, s.tv, s.cv] 0 true]) RoSl.nil (by simp [few])
    simp (disch := omega) only [kB, kcx, kdm, kdn, kel, aop, resultsL, resultOf, Nat.reduceEqDiff, reduceCtorEq, eq1, apartOK, apart2, AObj.live, Int.reduceEq, Int.reduceLT, Int.reduceLE, Int.reduceAdd, Int.reduceSub, Int.reduceMul, Int.reduceToNat, cutCells, Nat.reduceAdd, Nat.reduceLeDiff, Nat.reduceLT, Nat.reduceMul, Nat.reduceSub]
    exact hh
  · rw [e1]
    rw [widthsV, widthsE, e2] at h
    simp only at h
    have hok := hs.ts.2.2 _ (List.getElem_mem hj)
    obtain ⟨hr, hn, _⟩ := hs.ts
    obtain ⟨ad, hv⟩ := hr.sl
    rw [hv] at hr
    obtain ⟨b, u0, w0, rfl, hbl, hrow0, hcut, hle, hat⟩ := hr.at Tbl.len hj
    have c3 : (0 : Int) ≤ (j : Int) := by omega
    have c4 : ¬ (j : Int) < 0 := by omega
    have c5 : (j : Int) < (s.tables.length : Int) := by omega
    have h1 := hat 1 (by decide)
    simp only [Tbl.cells, List.getElem?_cons_succ, List.getElem?_cons_zero] at h1
    rw [List.length_map] at hv
    generalize s.tables[j] = x at *
    obtain ⟨⟨kr, kn, kok⟩, _⟩ := hok
    obtain ⟨ad2, kv⟩ := kr.sl
    rw [kv] at kr h1
    rw [List.length_map] at kv kr h1
    unfold few at kn
    generalize x.keys = l at *
    simp (disch := omega) only [kB, kcx, kdm, kdn, kel, aop, resultsL, resultOf, Nat.reduceEqDiff, reduceCtorEq, eq1, apartOK, apart2, AObj.live, Int.reduceEq, Int.reduceLT, Int.reduceLE, Int.reduceAdd, Int.reduceSub, Int.reduceMul, Int.reduceToNat, cutCells, Nat.reduceAdd, Nat.reduceLeDiff, Nat.reduceLT, Nat.reduceMul, Nat.reduceSub, c4]
    obtain ⟨K2, hK2⟩ : ∃ K2, K2 = K ++ [AObj.row [s.hv, s.mv, s.sv, s.av, s.tv, s.cv] 0 true] := ⟨_, rfl⟩
    have hK2' := hK2.symm
    rw [hK2']
    have bK : Base K K2 := by rw [hK2]; exact Base.app0 _
    have hbox : hget K2 K.length = .row [s.hv, s.mv, s.sv, s.av, s.tv, s.cv] 0 true := by rw [hK2, hget_last]
    have lK2 : K2.length = K.length + 1 := by rw [hK2]; simp
    clear hK2 hK2'
    refine WLoop.inv (rwdI s K2 K.length j l) ?_ l.length _ _ ⟨0, none, [], Nat.zero_le _, by omega, Base.refl, rfl, .inl ⟨rfl, rfl⟩, by exact ex_env rfl⟩
    rintro z e K' ⟨i, ad3, E, hi, rfl, bK2, hE, hg, ⟨x, rfl⟩⟩
    have bA := bK.trans bK2
    have hEl : E.length ≤ l.length := by rw [hE, keyW, List.length_map, List.length_take]; omega
    have hrow : hget K' b = .row (s.tables.map Tbl.cells).flatten u0 w0 := by rw [(hb.trans bA).2 b hbl]; exact hrow0
    have hbl2 : b < K'.length := Nat.lt_of_lt_of_le hbl (hb.trans bA).1
    have hbox2 : hget K' K.length = .row [s.hv, s.mv, s.sv, s.av, s.tv, s.cv] 0 true := by rw [bK2.2 _ (by omega)]; exact hbox
    have lb : K.length < K'.length := by have := bK2.1; omega
    by_cases hlt : i < l.length
    · have q0 : (i : Int) < (l.length : Int) := by omega
      obtain ⟨b5, u5, w5, rfl, p1, p2, p3, p4, p5⟩ := kr.at Ky.len hlt
      have prow : hget K' b5 = .row (l.map Ky.cells).flatten u5 w5 := by rw [(hb.trans bA).2 b5 p1]; exact p2
      have lp : b5 < K'.length := Nat.lt_of_lt_of_le p1 (hb.trans bA).1
      have lK3 := bK2.1
      have w2 : IntKind.i64.wrap ((i : Int) + 1) = ((i + 1 : Nat) : Int) := by rw [show (i : Int) + 1 = ((i + 1 : Nat) : Int) by omega]; exact wr_i64 (by omega) (by omega)
      have hnx := keyW_take (s := s) hlt
      rw [← hE] at hnx
      have p6 : List.take 2 (List.drop (i * 3) (l.map Ky.cells).flatten) = [.string (bs l[i].ref.head), .string (bs l[i].ref.name)] := by
        have := congrArg (List.take 2) p3
        rw [List.take_take] at this
        exact this
      generalize l[i] = y at *
      have hle2 : i * 3 + 2 ≤ ((l.map Ky.cells).flatten).length := by omega
      simp (disch := omega) only [kB, kcx, kdm, kdn, kel, aop, resultsL, resultOf, Nat.reduceEqDiff, reduceCtorEq, eq1, apartOK, apart2, AObj.live, Int.reduceEq, Int.reduceLT, Int.reduceLE, Int.reduceAdd, Int.reduceSub, Int.reduceMul, Int.reduceToNat, cutCells, Nat.reduceAdd, Nat.reduceLeDiff, Nat.reduceLT, Nat.reduceMul, Nat.reduceSub, c3, c5, hv, hrow, h1, q0, prow, p6, hle2, hbox2]
      rw [← hv]
      refine rwidth_s (r := y.ref) hs (hb.trans bA) ?_
      obtain ⟨sv6, K6, f1, f2, f3, f4, f5⟩ := app_sl (u := 1) (n0 := K2.length) (bytes := 8) (K := K' ++ [AObj.row [.int .i64 (widthV (fldOf s y.ref))] 1 true]) (bx := K'.length) (xs := inC (widthV (fldOf s y.ref))) (u2 := 1) (w2 := true) (SLs.app hg) (by simp; omega) (by rw [hget_last]; rfl) rfl rfl (by simp only [roomMax, List.length_map]; omega)
      have f2' : SLs 1 K2.length K6 sv6 ((E ++ [widthV (fldOf s y.ref)]).map inC) := by
        rw [List.map_append]
        exact f2
      obtain ⟨ad6, rfl⟩ := f2'.len
      rw [List.length_map] at f1 f2' f4
      generalize E ++ [widthV (fldOf s y.ref)] = E' at *
      simp (disch := omega) only [kB, kcx, kdm, kdn, kel, aop, resultsL, resultOf, Nat.reduceEqDiff, reduceCtorEq, eq1, apartOK, apart2, AObj.live, Int.reduceEq, Int.reduceLT, Int.reduceLE, Int.reduceAdd, Int.reduceSub, Int.reduceMul, Int.reduceToNat, cutCells, Nat.reduceAdd, Nat.reduceLeDiff, Nat.reduceLT, Nat.reduceMul, Nat.reduceSub, f1, w2]
      refine ⟨l.length - (i + 1), by omega, i + 1, ad6, E', by omega, rfl, ⟨by rw [f3]; simp; omega, fun c hc => ?_⟩, hnx.symm, f2', by exact ex_env rfl⟩
      rw [f5 c (by simp; omega) (fun q => by have := (SLs.lt hg q).2; omega), hget_old (by omega)]
      exact bK2.2 c hc
    · have q0 : ¬ (i : Int) < (l.length : Int) := by omega
      have hil : i = l.length := by omega
      rw [hil, List.take_length] at hE
      subst hE
      have hh := h _ K' bA hg.ro (by unfold few; omega)
      simp (disch := omega) only [kB, kcx, kdm, kdn, kel, aop, resultsL, resultOf, Nat.reduceEqDiff, reduceCtorEq, eq1, apartOK, apart2, AObj.live, Int.reduceEq, Int.reduceLT, Int.reduceLE, Int.reduceAdd, Int.reduceSub, Int.reduceMul, Int.reduceToNat, cutCells, Nat.reduceAdd, Nat.reduceLeDiff, Nat.reduceLT, Nat.reduceMul, Nat.reduceSub, c3, c5, hv, hrow, h1, q0, hbox2]
      exact hh

end Go.Proofs.YtpllhhaeclnngaaGreat.Ev

/- Headers, actions, tables that are compared by the document: the same. -/
namespace Go.Proofs.YtpllhhaeclnngaaGreat.Ev
set_option maxRecDepth 100000
set_option linter.unusedSimpArgs false
set_option linter.unusedVariables false
variable {R : FRes → Heap → Prop} {H K : Heap}

theorem eqHeader_s {x y : Hdr} (hx : x.OK K) (hy : y.OK K) (hl : x.like y) (h : R (.ret (.bool true)) K) : WD T 38 [.agg x.cells.toArray, .agg y.cells.toArray] K R := by
  refine WD.gc0 (WD.of follows t38 (by simp) ?_)
  have o1 := hx.one
  have o2 := hy.one
  obtain ⟨l1, l2⟩ := hl
  simp only [Hdr.cells]
  simp (disch := omega) only [kB, kcx, kdm, kdn, kel, aop, resultsL, resultOf, Nat.reduceEqDiff, reduceCtorEq, eq1, apartOK, apart2, AObj.live, Int.reduceEq, Int.reduceLT, Int.reduceLE, Int.reduceAdd, Int.reduceSub, Int.reduceMul, Int.reduceToNat, cutCells, Nat.reduceAdd, Nat.reduceLeDiff, Nat.reduceLT, Nat.reduceMul, Nat.reduceSub, o1, o2]
  refine eqFields_s (hx.1.base (Base.app0 _)) hx.2.1 (hy.1.base (Base.app0 _)) ?_
  rw [decide_eq_true l2, l1]
  simp (disch := omega) only [kB, kcx, kdm, kdn, kel, aop, resultsL, resultOf, Nat.reduceEqDiff, reduceCtorEq, eq1, apartOK, apart2, AObj.live, Int.reduceEq, Int.reduceLT, Int.reduceLE, Int.reduceAdd, Int.reduceSub, Int.reduceMul, Int.reduceToNat, cutCells, Nat.reduceAdd, Nat.reduceLeDiff, Nat.reduceLT, Nat.reduceMul, Nat.reduceSub, beq_self_eq_true]
  exact ⟨_, rfl, ⟨_, rfl⟩, .bool, h⟩

def eqaI (K : Heap) (bx by' : Nat) (l : List Stp) : Nat → Env → Heap → Prop := fun z e K' =>
  ∃ i : Nat, i ≤ l.length ∧ z = l.length - i ∧ K' = K ∧ (∃ x : Nat → Value, e = [x 0, x 1, .pointer (some ⟨bx, 0, none⟩), .pointer (some ⟨by', 0, none⟩), x 4, x 5, .int .i64 (i : Int), x 7, x 8, x 9, x 10, x 11, x 12, x 13, x 14, x 15, x 16, x 17, x 18, x 19, x 20, x 21, x 22, x 23, x 24, x 25, x 26, x 27, x 28, x 29, x 30, x 31, x 32, x 33, x 34, x 35, x 36, x 37, x 38, x 39, x 40, x 41, x 42, x 43, x 44, x 45, x 46, x 47])

set_option maxHeartbeats 1000000 in
theorem eqAction_s {x y : Act} (hx : x.OK K) (hy : y.OK K) (hl : x.like y) (h : R (.ret (.bool true)) K) : WD T 39 [.agg x.cells.toArray, .agg y.cells.toArray] K R := by
  refine WD.gc0 (WD.of follows t39 (by simp) ?_)
  obtain ⟨o1, o2⟩ := hx.one
  obtain ⟨o3, o4⟩ := hy.one
  obtain ⟨l1, l2, l3⟩ := hl
  simp only [Act.cells]
  obtain ⟨hx1, sx, nx, _⟩ := hx
  obtain ⟨hy1, sy, ny, _⟩ := hy
  obtain ⟨adx, ex⟩ := sx.sl
  obtain ⟨ady, ey⟩ := sy.sl
  rw [List.length_map] at ex ey
  rw [← l3] at ey sy
  rw [ex] at sx o2 ⊢
  rw [ey] at sy o4 ⊢
  unfold few at nx
  generalize x.steps = l at *
  simp (disch := omega) only [kB, kcx, kdm, kdn, kel, aop, resultsL, resultOf, Nat.reduceEqDiff, reduceCtorEq, eq1, apartOK, apart2, AObj.live, Int.reduceEq, Int.reduceLT, Int.reduceLE, Int.reduceAdd, Int.reduceSub, Int.reduceMul, Int.reduceToNat, cutCells, Nat.reduceAdd, Nat.reduceLeDiff, Nat.reduceLT, Nat.reduceMul, Nat.reduceSub, o1, o2, o3, o4]
  refine eqFields_s (hx1.1.base (Base.app0 _)) hx1.2.1 (hy1.1.base (Base.app0 _)) ?_
  rw [decide_eq_true l2, l1]
  simp (disch := omega) only [kB, kcx, kdm, kdn, kel, aop, resultsL, resultOf, Nat.reduceEqDiff, reduceCtorEq, eq1, apartOK, apart2, AObj.live, Int.reduceEq, Int.reduceLT, Int.reduceLE, Int.reduceAdd, Int.reduceSub, Int.reduceMul, Int.reduceToNat, cutCells, Nat.reduceAdd, Nat.reduceLeDiff, Nat.reduceLT, Nat.reduceMul, Nat.reduceSub, bne_self_eq_false]
  refine WLoop.inv (eqaI (K ++ [_, _]) K.length (K.length + 1) l) ?_ l.length _ _ ⟨0, Nat.zero_le _, by omega, rfl, by exact ex_env rfl⟩
  rintro z e K' ⟨i, hi, rfl, rfl, ⟨x, rfl⟩⟩
  by_cases hlt : i < l.length
  · have c1 : (i : Int) < (l.length : Int) := by omega
    obtain ⟨b, u0, w0, rfl, p1, p2, p3, p4, p5⟩ := sx.at Stp.len hlt
    obtain ⟨b2, u2, w2', rfl, q1, q2, q3, q4, q5⟩ := sy.at Stp.len hlt
    have w2 : IntKind.i64.wrap ((i : Int) + 1) = ((i + 1 : Nat) : Int) := by rw [show (i : Int) + 1 = ((i + 1 : Nat) : Int) by omega]; exact wr_i64 (by omega) (by omega)
    generalize l[i] = z at *
    simp only [Stp.cells] at p3 q3
    have heq := Stp.eqs z z
    simp (disch := omega) only [kB, kcx, kdm, kdn, kel, aop, resultsL, resultOf, Nat.reduceEqDiff, reduceCtorEq, eq1, apartOK, apart2, AObj.live, Int.reduceEq, Int.reduceLT, Int.reduceLE, Int.reduceAdd, Int.reduceSub, Int.reduceMul, Int.reduceToNat, cutCells, Nat.reduceAdd, Nat.reduceLeDiff, Nat.reduceLT, Nat.reduceMul, Nat.reduceSub, c1, p2, q2, p3, p4, q3, q4, heq, w2]
    exact ⟨l.length - (i + 1), by omega, i + 1, by omega, rfl, rfl, by exact ex_env rfl⟩
  · have c1 : ¬ (i : Int) < (l.length : Int) := by omega
    simp (disch := omega) only [kB, kcx, kdm, kdn, kel, aop, resultsL, resultOf, Nat.reduceEqDiff, reduceCtorEq, eq1, apartOK, apart2, AObj.live, Int.reduceEq, Int.reduceLT, Int.reduceLE, Int.reduceAdd, Int.reduceSub, Int.reduceMul, Int.reduceToNat, cutCells, Nat.reduceAdd, Nat.reduceLeDiff, Nat.reduceLT, Nat.reduceMul, Nat.reduceSub, c1]
    exact ⟨_, rfl, ⟨_, rfl⟩, .bool, h⟩

def eqtI (K : Heap) (bx by' : Nat) (l : List Ky) : Nat → Env → Heap → Prop := fun z e K' =>
  ∃ i : Nat, i ≤ l.length ∧ z = l.length - i ∧ K' = K ∧ (∃ x : Nat → Value, e = [x 0, x 1, .pointer (some ⟨bx, 0, none⟩), .pointer (some ⟨by', 0, none⟩), x 4, x 5, x 6, .int .i64 (i : Int), x 8, x 9, x 10, x 11, x 12, x 13, x 14, x 15, x 16, x 17, x 18, x 19, x 20, x 21, x 22, x 23, x 24, x 25, x 26, x 27, x 28, x 29, x 30, x 31, x 32, x 33, x 34, x 35, x 36, x 37, x 38, x 39, x 40, x 41, x 42, x 43, x 44, x 45, x 46, x 47, x 48, x 49, x 50, x 51, x 52, x 53, x 54, x 55, x 56, x 57, x 58, x 59, x 60, x 61, x 62, x 63, x 64, x 65, x 66, x 67, x 68, x 69, x 70, x 71])

theorem eqCall_s {a b : List UInt8} {v1 v2 : Value} {l : List Bt} (h1 : BtL K v1 l) (h2 : BtL K v2 l) (hab : a = b) (h : R (.ret (.bool true)) K) : WD T 119 [.agg #[.string (bs a), v1], .agg #[.string (bs b), v2]] K R := by
  refine WD.gc0 (WD.of follows t119 (by simp) ?_)
  have o1 := h1.1.one
  have o2 := h2.1.one
  simp (disch := omega) only [kB, kcx, kdm, kdn, kel, aop, resultsL, resultOf, Nat.reduceEqDiff, reduceCtorEq, eq1, apartOK, apart2, AObj.live, Int.reduceEq, Int.reduceLT, Int.reduceLE, Int.reduceAdd, Int.reduceSub, Int.reduceMul, Int.reduceToNat, cutCells, Nat.reduceAdd, Nat.reduceLeDiff, Nat.reduceLT, Nat.reduceMul, Nat.reduceSub, o1, o2]
  refine eqBits_s (h1.1.base (Base.app0 _)) h1.2.1 (h2.1.base (Base.app0 _)) ?_
  rw [decide_eq_true rfl, hab]
  simp (disch := omega) only [kB, kcx, kdm, kdn, kel, aop, resultsL, resultOf, Nat.reduceEqDiff, reduceCtorEq, eq1, apartOK, apart2, AObj.live, Int.reduceEq, Int.reduceLT, Int.reduceLE, Int.reduceAdd, Int.reduceSub, Int.reduceMul, Int.reduceToNat, cutCells, Nat.reduceAdd, Nat.reduceLeDiff, Nat.reduceLT, Nat.reduceMul, Nat.reduceSub, beq_self_eq_true]
  exact ⟨_, rfl, ⟨_, rfl⟩, .bool, h⟩

set_option maxHeartbeats 2000000 in
theorem eqTable_s {x y : Tbl} (hx : x.OK K) (hy : y.OK K) (hl : x.like y) (h : R (.ret (.bool true)) K) : WD T 40 [.agg x.cells.toArray, .agg y.cells.toArray] K R := by
  refine WD.gc0 (WD.of follows t40 (by simp) ?_)
  obtain ⟨o1, o2, o3⟩ := hx.one
  obtain ⟨o4, o5, o6⟩ := hy.one
  obtain ⟨l1, l2, l3, l4, l5, l6, l7⟩ := hl
  simp only [Tbl.cells]
  obtain ⟨⟨sx, nx, _⟩, hx2, _, hx3⟩ := hx
  obtain ⟨⟨sy, ny, _⟩, hy2, _, hy3⟩ := hy
  obtain ⟨adx, ex⟩ := sx.sl
  obtain ⟨ady, ey⟩ := sy.sl
  rw [List.length_map] at ex ey
  rw [← l2] at ey sy
  rw [ex] at sx o1 ⊢
  rw [ey] at sy o4 ⊢
  rw [← l3] at hy2
  rw [← l6] at hy3
  unfold few at nx
  generalize x.keys = l at *
  simp (disch := omega) only [kB, kcx, kdm, kdn, kel, aop, resultsL, resultOf, Nat.reduceEqDiff, reduceCtorEq, eq1, apartOK, apart2, AObj.live, Int.reduceEq, Int.reduceLT, Int.reduceLE, Int.reduceAdd, Int.reduceSub, Int.reduceMul, Int.reduceToNat, cutCells, Nat.reduceAdd, Nat.reduceLeDiff, Nat.reduceLT, Nat.reduceMul, Nat.reduceSub, o1, o2, o3, o4, o5, o6]
  refine eqTexts_s (hx2.1.base (Base.app0 _)) hx2.2 (hy2.1.base (Base.app0 _)) ?_
  rw [decide_eq_true rfl]
  simp (disch := omega) only [kB, kcx, kdm, kdn, kel, aop, resultsL, resultOf, Nat.reduceEqDiff, reduceCtorEq, eq1, apartOK, apart2, AObj.live, Int.reduceEq, Int.reduceLT, Int.reduceLE, Int.reduceAdd, Int.reduceSub, Int.reduceMul, Int.reduceToNat, cutCells, Nat.reduceAdd, Nat.reduceLeDiff, Nat.reduceLT, Nat.reduceMul, Nat.reduceSub]
  refine eqCall_s ⟨hx3.1.base (Base.app0 _), hx3.2⟩ ⟨hy3.1.base (Base.app0 _), hy3.2⟩ l5 ?_
  rw [l1, l4, l7]
  simp (disch := omega) only [kB, kcx, kdm, kdn, kel, aop, resultsL, resultOf, Nat.reduceEqDiff, reduceCtorEq, eq1, apartOK, apart2, AObj.live, Int.reduceEq, Int.reduceLT, Int.reduceLE, Int.reduceAdd, Int.reduceSub, Int.reduceMul, Int.reduceToNat, cutCells, Nat.reduceAdd, Nat.reduceLeDiff, Nat.reduceLT, Nat.reduceMul, Nat.reduceSub, bne_self_eq_false]
  refine WLoop.inv (eqtI (K ++ [_, _]) K.length (K.length + 1) l) ?_ l.length _ _ ⟨0, Nat.zero_le _, by omega, rfl, by exact ex_env rfl⟩
  rintro z e K' ⟨i, hi, rfl, rfl, ⟨x, rfl⟩⟩
  by_cases hlt : i < l.length
  · have c1 : (i : Int) < (l.length : Int) := by omega
    obtain ⟨b, u0, w0, rfl, p1, p2, p3, p4, p5⟩ := sx.at Ky.len hlt
    obtain ⟨b2, u2, w2', rfl, q1, q2, q3, q4, q5⟩ := sy.at Ky.len hlt
    have w2 : IntKind.i64.wrap ((i : Int) + 1) = ((i + 1 : Nat) : Int) := by rw [show (i : Int) + 1 = ((i + 1 : Nat) : Int) by omega]; exact wr_i64 (by omega) (by omega)
    generalize l[i] = z at *
    simp only [Ky.cells] at p3 q3
    have heq := Ky.eqs z z
    simp (disch := omega) only [kB, kcx, kdm, kdn, kel, aop, resultsL, resultOf, Nat.reduceEqDiff, reduceCtorEq, eq1, apartOK, apart2, AObj.live, Int.reduceEq, Int.reduceLT, Int.reduceLE, Int.reduceAdd, Int.reduceSub, Int.reduceMul, Int.reduceToNat, cutCells, Nat.reduceAdd, Nat.reduceLeDiff, Nat.reduceLT, Nat.reduceMul, Nat.reduceSub, c1, p2, q2, p3, p4, q3, q4, heq, w2]
    exact ⟨l.length - (i + 1), by omega, i + 1, by omega, rfl, rfl, by exact ex_env rfl⟩
  · have c1 : ¬ (i : Int) < (l.length : Int) := by omega
    simp (disch := omega) only [kB, kcx, kdm, kdn, kel, aop, resultsL, resultOf, Nat.reduceEqDiff, reduceCtorEq, eq1, apartOK, apart2, AObj.live, Int.reduceEq, Int.reduceLT, Int.reduceLE, Int.reduceAdd, Int.reduceSub, Int.reduceMul, Int.reduceToNat, cutCells, Nat.reduceAdd, Nat.reduceLeDiff, Nat.reduceLT, Nat.reduceMul, Nat.reduceSub, c1]
    exact ⟨_, rfl, ⟨_, rfl⟩, .bool, h⟩

end Go.Proofs.YtpllhhaeclnngaaGreat.Ev

/- One question's answers (21). -/
namespace Go.Proofs.YtpllhhaeclnngaaGreat.Ev
set_option maxRecDepth 100000
set_option linter.unusedSimpArgs false
set_option linter.unusedVariables false
variable {R : FRes → Heap → Prop} {H K : Heap}

structure Ask where (name table : List UInt8) (ref : Rf) (act : List UInt8) (dv : Value) (dargs : List Bt)
def Ask.cells (q : Ask) : List Value := [.string (bs q.name), .string (bs q.table), .string (bs q.ref.head), .string (bs q.ref.name), .string (bs q.act), q.dv]
theorem Ask.len (q : Ask) : q.cells.length = 6 := rfl
theorem b_same (b : Bool) : (b == b) = true := beq_self_eq_true b
theorem b_same2 (b : Bool) : (b != b) = false := by simp

theorem Base.row {K K' : Heap} {b u : Nat} {cs : List Value} {w : Bool} (hb : Base K K') (h : hget K b = .row cs u w) : hget K' b = .row cs u w := by rw [hb.2 b (hget_lt h rfl)]; exact h

set_option maxHeartbeats 4000000 in
theorem asked_s {s : Sch} (hs : s.OK H) {q : Ask} (hq : BtL H q.dv q.dargs) (hb : Base H K) (h : R (.ret (.bool true)) K) : WD T 21 [.agg s.cells.toArray, .agg q.cells.toArray] K R := by
  refine WD.gc0 (WD.of follows t21 (by simp) ?_)
  obtain ⟨o0, o1, o2, o3, o4, o5⟩ := hs.one
  have o6 := hq.1.one
  simp only [Sch.cells, Ask.cells]
  simp (disch := omega) only [kB, kcx, kdm, kdn, kel, aop, resultsL, resultOf, Nat.reduceEqDiff, reduceCtorEq, eq1, apartOK, apart2, AObj.live, Int.reduceEq, Int.reduceLT, Int.reduceLE, Int.reduceAdd, Int.reduceSub, Int.reduceMul, Int.reduceToNat, cutCells, Nat.reduceAdd, Nat.reduceLeDiff, Nat.reduceLT, Nat.reduceMul, Nat.reduceSub, o0, o1, o2, o3, o4, o5, o6]
  refine header_s (t := q.name) hs (hb.app _) ?_
  intro x1 K1 b1 k1 lk1
  have lk0 := hb.1
  have hS1 : hget K1 K.length = .row [s.hv, s.mv, s.sv, s.av, s.tv, s.cv] 0 true := b1.row (by rw [hget_base0]; rfl)
  have hQ1 : hget K1 (K.length + 1) = .row q.cells 0 true := b1.row (by rw [hget_base]; rfl)
  have bb1 : Base K K1 := (Base.app0 _).trans b1
  have ll1 := hget_lt hQ1 rfl
  have p1 := k1.one
  simp only [Hdr.cells, Ask.cells] at hQ1 ⊢
  simp (disch := omega) only [kB, kcx, kdm, kdn, kel, aop, resultsL, resultOf, Nat.reduceEqDiff, reduceCtorEq, eq1, apartOK, apart2, AObj.live, Int.reduceEq, Int.reduceLT, Int.reduceLE, Int.reduceAdd, Int.reduceSub, Int.reduceMul, Int.reduceToNat, cutCells, Nat.reduceAdd, Nat.reduceLeDiff, Nat.reduceLT, Nat.reduceMul, Nat.reduceSub, hS1, hQ1, p1, o0, o1, o2, o3, o4, o5]
  refine rheader_s (t := q.name) hs ((hb.trans bb1).app _) ?_
  intro x2 K2 b2 k2 lk2
  have h52 : hget K2 K1.length = .row x1.cells 0 true := b2.row (by rw [hget_last]; rfl)
  have b12 : Base K1 K2 := (Base.app0 _).trans b2
  have hS2 := b12.row hS1
  have hQ2 := b12.row hQ1
  have ll2 := hget_lt h52 rfl
  have bb2 := bb1.trans b12
  have k1' := k1.base b12
  have p2 := k2.one
  clear b1 b2 k1
  simp only [Hdr.cells] at h52 ⊢
  simp (disch := omega) only [kB, kcx, kdm, kdn, kel, aop, resultsL, resultOf, Nat.reduceEqDiff, reduceCtorEq, eq1, apartOK, apart2, AObj.live, Int.reduceEq, Int.reduceLT, Int.reduceLE, Int.reduceAdd, Int.reduceSub, Int.reduceMul, Int.reduceToNat, cutCells, Nat.reduceAdd, Nat.reduceLeDiff, Nat.reduceLT, Nat.reduceMul, Nat.reduceSub, hS2, hQ2, p2]
  refine action_s (t := q.name) hs ((hb.trans bb2).app _) ?_
  intro y1 K3 b3 k3 lk3
  have h73 : hget K3 K2.length = .row x2.cells 0 true := b3.row (by rw [hget_last]; rfl)
  have b23 : Base K2 K3 := (Base.app0 _).trans b3
  have hS3 := b23.row hS2
  have hQ3 := b23.row hQ2
  have h53 := b23.row h52
  have ll3 := hget_lt h73 rfl
  have bb3 := bb2.trans b23
  have k1'' := k1'.base b23
  have k2'' := k2.base b23
  obtain ⟨p3, p3'⟩ := k3.one
  clear b3 k1' k2 hS1 hS2 hQ1 hQ2 h52
  simp only [Hdr.cells, Act.cells] at h73 ⊢
  simp (disch := omega) only [kB, kcx, kdm, kdn, kel, aop, resultsL, resultOf, Nat.reduceEqDiff, reduceCtorEq, eq1, apartOK, apart2, AObj.live, Int.reduceEq, Int.reduceLT, Int.reduceLE, Int.reduceAdd, Int.reduceSub, Int.reduceMul, Int.reduceToNat, cutCells, Nat.reduceAdd, Nat.reduceLeDiff, Nat.reduceLT, Nat.reduceMul, Nat.reduceSub, hS3, hQ3, p3, p3']
  refine raction_s (t := q.name) hs ((hb.trans bb3).app _) ?_
  intro y2 K4 b4 k4 lk4
  have h94 : hget K4 K3.length = .row y1.cells 0 true := b4.row (by rw [hget_last]; rfl)
  have b34 : Base K3 K4 := (Base.app0 _).trans b4
  have hS4 := b34.row hS3
  have hQ4 := b34.row hQ3
  have h54 := b34.row h53
  have h74 := b34.row h73
  have ll4 := hget_lt h94 rfl
  have bb4 := bb3.trans b34
  have x14 := k1''.base b34
  have x24 := k2''.base b34
  have y14 := k3.base b34
  obtain ⟨p4, p4'⟩ := k4.one
  clear b4 k1'' k2'' k3 hS3 hQ3 h53 h73
  simp only [Act.cells] at h94 ⊢
  simp (disch := omega) only [kB, kcx, kdm, kdn, kel, aop, resultsL, resultOf, Nat.reduceEqDiff, reduceCtorEq, eq1, apartOK, apart2, AObj.live, Int.reduceEq, Int.reduceLT, Int.reduceLE, Int.reduceAdd, Int.reduceSub, Int.reduceMul, Int.reduceToNat, cutCells, Nat.reduceAdd, Nat.reduceLeDiff, Nat.reduceLT, Nat.reduceMul, Nat.reduceSub, hS4, hQ4, p4, p4']
  refine table_s (t := q.table) hs ((hb.trans bb4).app _) ?_
  intro t1 K5 b5 k5 lk5
  have h115 : hget K5 K4.length = .row y2.cells 0 true := b5.row (by rw [hget_last]; rfl)
  have b45 : Base K4 K5 := (Base.app0 _).trans b5
  have hS5 := b45.row hS4
  have hQ5 := b45.row hQ4
  have h55 := b45.row h54
  have h75 := b45.row h74
  have h95 := b45.row h94
  have ll5 := hget_lt h115 rfl
  have bb5 := bb4.trans b45
  have x15 := x14.base b45
  have x25 := x24.base b45
  have y15 := y14.base b45
  have y25 := k4.base b45
  obtain ⟨p5, p5', p5''⟩ := k5.one
  clear b5 x14 x24 y14 k4 hS4 hQ4 h54 h74 h94
  simp only [Act.cells, Tbl.cells] at h115 ⊢
  simp (disch := omega) only [kB, kcx, kdm, kdn, kel, aop, resultsL, resultOf, Nat.reduceEqDiff, reduceCtorEq, eq1, apartOK, apart2, AObj.live, Int.reduceEq, Int.reduceLT, Int.reduceLE, Int.reduceAdd, Int.reduceSub, Int.reduceMul, Int.reduceToNat, cutCells, Nat.reduceAdd, Nat.reduceLeDiff, Nat.reduceLT, Nat.reduceMul, Nat.reduceSub, hS5, hQ5, p5, p5', p5'']
  refine rtable_s (t := q.table) hs ((hb.trans bb5).app _) ?_
  intro t2 K6 b6 k6 lk6
  have h136 : hget K6 K5.length = .row t1.cells 0 true := b6.row (by rw [hget_last]; rfl)
  have b56 : Base K5 K6 := (Base.app0 _).trans b6
  have hS6 := b56.row hS5
  have hQ6 := b56.row hQ5
  have h56 := b56.row h55
  have h76 := b56.row h75
  have h96 := b56.row h95
  have h116 := b56.row h115
  have ll6 := hget_lt h136 rfl
  have bb6 := bb5.trans b56
  have x16 := x15.base b56
  have x26 := x25.base b56
  have y16 := y15.base b56
  have y26 := y25.base b56
  have t16 := k5.base b56
  obtain ⟨p6, p6', p6''⟩ := k6.one
  clear b6 x15 x25 y15 y25 k5 hS5 hQ5 h55 h75 h95 h115
  simp only [Tbl.cells] at h136 ⊢
  simp (disch := omega) only [kB, kcx, kdm, kdn, kel, aop, resultsL, resultOf, Nat.reduceEqDiff, reduceCtorEq, eq1, apartOK, apart2, AObj.live, Int.reduceEq, Int.reduceLT, Int.reduceLE, Int.reduceAdd, Int.reduceSub, Int.reduceMul, Int.reduceToNat, cutCells, Nat.reduceAdd, Nat.reduceLeDiff, Nat.reduceLT, Nat.reduceMul, Nat.reduceSub, hS6, hQ6, h56, h76, h96, h116, h136, p6, p6', p6'', b_same, b_same2]
  obtain ⟨K7, hK7⟩ : ∃ K7, K7 = K6 ++ [AObj.row t2.cells 0 true] := ⟨_, rfl⟩
  have b67 : Base K6 K7 := by rw [hK7]; exact Base.app0 _
  have h167 : hget K7 K6.length = .row t2.cells 0 true := by rw [hK7, hget_last]
  have hK7' := hK7.symm
  simp only [Tbl.cells] at hK7' h167
  rw [hK7']
  clear hK7 hK7'
  have hS7 := b67.row hS6
  have hQ7 := b67.row hQ6
  have h57 := b67.row h56
  have h77 := b67.row h76
  have h97 := b67.row h96
  have h117 := b67.row h116
  have h137 := b67.row h136
  have ll7 := hget_lt h167 rfl
  have bb7 := bb6.trans b67
  have x17 := x16.base b67
  have x27 := x26.base b67
  have y17 := y16.base b67
  have y27 := y26.base b67
  have ht1 := t16
  have t17 := t16.base b67
  have t27 := k6.base b67
  clear x16 x26 y16 y26 t16 k6 hS6 hQ6 h56 h76 h96 h116 h136
  have lx : x1.like x2 := ⟨lk1.1.trans lk2.1.symm, lk1.2.trans lk2.2.symm⟩
  have ly : y1.like y2 := ⟨lk3.1.trans lk4.1.symm, lk3.2.1.trans lk4.2.1.symm, lk3.2.2.trans lk4.2.2.symm⟩
  have lt : t1.like t2 := ⟨lk5.1.trans lk6.1.symm, lk5.2.1.trans lk6.2.1.symm, lk5.2.2.1.trans lk6.2.2.1.symm, lk5.2.2.2.1.trans lk6.2.2.2.1.symm, lk5.2.2.2.2.1.trans lk6.2.2.2.2.1.symm, lk5.2.2.2.2.2.1.trans lk6.2.2.2.2.2.1.symm, lk5.2.2.2.2.2.2.trans lk6.2.2.2.2.2.2.symm⟩
  refine eqHeader_s x17 x27 lx ?_
  simp (disch := omega) only [kB, kcx, kdm, kdn, kel, aop, resultsL, resultOf, Nat.reduceEqDiff, reduceCtorEq, eq1, apartOK, apart2, AObj.live, Int.reduceEq, Int.reduceLT, Int.reduceLE, Int.reduceAdd, Int.reduceSub, Int.reduceMul, Int.reduceToNat, cutCells, Nat.reduceAdd, Nat.reduceLeDiff, Nat.reduceLT, Nat.reduceMul, Nat.reduceSub, h97, h117]
  refine eqAction_s y17 y27 ly ?_
  simp (disch := omega) only [kB, kcx, kdm, kdn, kel, aop, resultsL, resultOf, Nat.reduceEqDiff, reduceCtorEq, eq1, apartOK, apart2, AObj.live, Int.reduceEq, Int.reduceLT, Int.reduceLE, Int.reduceAdd, Int.reduceSub, Int.reduceMul, Int.reduceToNat, cutCells, Nat.reduceAdd, Nat.reduceLeDiff, Nat.reduceLT, Nat.reduceMul, Nat.reduceSub, h137, h167]
  refine eqTable_s t17 t27 lt ?_
  simp (disch := omega) only [kB, kcx, kdm, kdn, kel, aop, resultsL, resultOf, Nat.reduceEqDiff, reduceCtorEq, eq1, apartOK, apart2, AObj.live, Int.reduceEq, Int.reduceLT, Int.reduceLE, Int.reduceAdd, Int.reduceSub, Int.reduceMul, Int.reduceToNat, cutCells, Nat.reduceAdd, Nat.reduceLeDiff, Nat.reduceLT, Nat.reduceMul, Nat.reduceSub, hS7, hQ7]
  refine widths_s (t := q.table) hs (hb.trans bb7) ?_
  intro v1 K8 b78 r1 f1
  have hS8 := b78.row hS7
  have hQ8 := b78.row hQ7
  have h138 := b78.row h137
  have h168 := b78.row h167
  have bb8 := bb7.trans b78
  simp (disch := omega) only [kB, kcx, kdm, kdn, kel, aop, resultsL, resultOf, Nat.reduceEqDiff, reduceCtorEq, eq1, apartOK, apart2, AObj.live, Int.reduceEq, Int.reduceLT, Int.reduceLE, Int.reduceAdd, Int.reduceSub, Int.reduceMul, Int.reduceToNat, cutCells, Nat.reduceAdd, Nat.reduceLeDiff, Nat.reduceLT, Nat.reduceMul, Nat.reduceSub, hS8, hQ8]
  refine rwidths_s (t := q.table) hs (hb.trans bb8) ?_
  intro v2 K9 b89 r2 f2
  have hS9 := b89.row hS8
  have hQ9 := b89.row hQ8
  have h139 := b89.row h138
  have h169 := b89.row h168
  have bb9 := bb8.trans b89
  have b79 := b78.trans b89
  clear hS8 hQ8 h138 h168 hS7 hQ7 h57 h77 h97 h117 h137 h167
  simp (disch := omega) only [kB, kcx, kdm, kdn, kel, aop, resultsL, resultOf, Nat.reduceEqDiff, reduceCtorEq, eq1, apartOK, apart2, AObj.live, Int.reduceEq, Int.reduceLT, Int.reduceLE, Int.reduceAdd, Int.reduceSub, Int.reduceMul, Int.reduceToNat, cutCells, Nat.reduceAdd, Nat.reduceLeDiff, Nat.reduceLT, Nat.reduceMul, Nat.reduceSub]
  refine eqInts_s (r1.base b89) f1 r2 ?_
  rw [decide_eq_true rfl]
  simp (disch := omega) only [kB, kcx, kdm, kdn, kel, aop, resultsL, resultOf, Nat.reduceEqDiff, reduceCtorEq, eq1, apartOK, apart2, AObj.live, Int.reduceEq, Int.reduceLT, Int.reduceLE, Int.reduceAdd, Int.reduceSub, Int.reduceMul, Int.reduceToNat, cutCells, Nat.reduceAdd, Nat.reduceLeDiff, Nat.reduceLT, Nat.reduceMul, Nat.reduceSub, hS9, hQ9]
  have lk9 := bb9.1
  have l69 := (b67.trans b79).1
  refine WV.of (fun c hc => ?_) ?_
  · simp only [List.mem_cons, List.not_mem_nil, or_false] at hc
    rcases hc with rfl | rfl
    · rw [hS9]; rfl
    · rw [hQ9]; rfl
  refine width_s (r := q.ref) hs ((hb.trans bb9).frz (fun c hc => by simp only [List.mem_cons, List.not_mem_nil, or_false] at hc; rcases hc with rfl | rfl <;> omega)) ?_
  rw [thaw_frz0]
  simp (disch := omega) only [kB, kcx, kdm, kdn, kel, aop, resultsL, resultOf, Nat.reduceEqDiff, reduceCtorEq, eq1, apartOK, apart2, AObj.live, Int.reduceEq, Int.reduceLT, Int.reduceLE, Int.reduceAdd, Int.reduceSub, Int.reduceMul, Int.reduceToNat, cutCells, Nat.reduceAdd, Nat.reduceLeDiff, Nat.reduceLT, Nat.reduceMul, Nat.reduceSub]
  refine rwidth_s (r := q.ref) hs (hb.trans bb9) ?_
  simp (disch := omega) only [kB, kcx, kdm, kdn, kel, aop, resultsL, resultOf, Nat.reduceEqDiff, reduceCtorEq, eq1, apartOK, apart2, AObj.live, Int.reduceEq, Int.reduceLT, Int.reduceLE, Int.reduceAdd, Int.reduceSub, Int.reduceMul, Int.reduceToNat, cutCells, Nat.reduceAdd, Nat.reduceLeDiff, Nat.reduceLT, Nat.reduceMul, Nat.reduceSub, h139, h169]
  refine WV.of (fun c hc => ?_) ?_
  · simp only [List.mem_cons, List.not_mem_nil, or_false] at hc
    subst hc
    rw [h169]; rfl
  refine kind_s ht1 (((b67.trans b79)).frz (fun c hc => by simp only [List.mem_cons, List.not_mem_nil, or_false] at hc; subst hc; omega)) ?_
  rw [thaw_frz0]
  simp (disch := omega) only [kB, kcx, kdm, kdn, kel, aop, resultsL, resultOf, Nat.reduceEqDiff, reduceCtorEq, eq1, apartOK, apart2, AObj.live, Int.reduceEq, Int.reduceLT, Int.reduceLE, Int.reduceAdd, Int.reduceSub, Int.reduceMul, Int.reduceToNat, cutCells, Nat.reduceAdd, Nat.reduceLeDiff, Nat.reduceLT, Nat.reduceMul, Nat.reduceSub]
  refine rkind_s (t27.base b79) Base.refl ?_
  rw [lt.2.1]
  simp (disch := omega) only [kB, kcx, kdm, kdn, kel, aop, resultsL, resultOf, Nat.reduceEqDiff, reduceCtorEq, eq1, apartOK, apart2, AObj.live, Int.reduceEq, Int.reduceLT, Int.reduceLE, Int.reduceAdd, Int.reduceSub, Int.reduceMul, Int.reduceToNat, cutCells, Nat.reduceAdd, Nat.reduceLeDiff, Nat.reduceLT, Nat.reduceMul, Nat.reduceSub, hS9, hQ9]
  refine WV.of (fun c hc => ?_) ?_
  · simp only [List.mem_cons, List.not_mem_nil, or_false] at hc
    rcases hc with rfl | rfl | rfl
    · rw [hS9]; rfl
    · rw [hQ9]; rfl
    · rw [hQ9]; rfl
  refine call_s hs ((hb.trans bb9).frz (fun c hc => by simp only [List.mem_cons, List.not_mem_nil, or_false] at hc; rcases hc with rfl | rfl | rfl <;> omega)) hq ?_
  rw [thaw_frz0]
  simp (disch := omega) only [kB, kcx, kdm, kdn, kel, aop, resultsL, resultOf, Nat.reduceEqDiff, reduceCtorEq, eq1, apartOK, apart2, AObj.live, Int.reduceEq, Int.reduceLT, Int.reduceLE, Int.reduceAdd, Int.reduceSub, Int.reduceMul, Int.reduceToNat, cutCells, Nat.reduceAdd, Nat.reduceLeDiff, Nat.reduceLT, Nat.reduceMul, Nat.reduceSub]
  refine rcall_s hs (hb.trans bb9) hq ?_
  simp (disch := omega) only [kB, kcx, kdm, kdn, kel, aop, resultsL, resultOf, Nat.reduceEqDiff, reduceCtorEq, eq1, apartOK, apart2, AObj.live, Int.reduceEq, Int.reduceLT, Int.reduceLE, Int.reduceAdd, Int.reduceSub, Int.reduceMul, Int.reduceToNat, cutCells, Nat.reduceAdd, Nat.reduceLeDiff, Nat.reduceLT, Nat.reduceMul, Nat.reduceSub, decide_true]
  exact ⟨_, rfl, bb9.ext, .bool, h⟩

end Go.Proofs.YtpllhhaeclnngaaGreat.Ev

/- The law SchemaFinds. -/
namespace Go.Proofs.YtpllhhaeclnngaaGreat.Ev
set_option maxRecDepth 100000
set_option linter.unusedSimpArgs false
set_option linter.unusedVariables false
variable {R : FRes → Heap → Prop} {H K : Heap}

theorem Base.frzR (hb : Base H K) (hro : ∀ o ∈ H, o.wrt = false) (bs : List Nat) : Base H (Ev.frz K bs) := by
  refine ⟨by rw [frz_length]; exact hb.1, fun c hc => ?_⟩
  rcases hget_frz bs K c with q | ⟨cs, u, q, _⟩
  · rw [q, hb.2 c hc]
  · exfalso
    rw [hb.2 c hc] at q
    have hm : hget H c ∈ H := by
      simp only [hget, List.getElem?_eq_getElem hc, Option.getD_some]
      exact List.getElem_mem hc
    have := hro _ hm
    rw [q] at this
    cases this

def fn1I (K0 : Heap) (bx : Nat) (v : Value) (l : List Ask) : Nat → Env → Heap → Prop := fun z e K' =>
  ∃ i : Nat, i ≤ l.length ∧ z = l.length - i ∧ K' = K0 ∧ (∃ x : Nat → Value, e = [x 0, v, .pointer (some ⟨bx, 0, none⟩), x 3, x 4, .int .i64 (i : Int), x 6, x 7, x 8, x 9, x 10, x 11, x 12, x 13, x 14, x 15, x 16, x 17, x 18, x 19, x 20, x 21, x 22, x 23, x 24, x 25, x 26, x 27, x 28, x 29, x 30, x 31, x 32, x 33, x 34, x 35, x 36, x 37, x 38, x 39, x 40, x 41, x 42, x 43])
def fn2I (K0 : Heap) (bx : Nat) (l : List Tbl) : Nat → Env → Heap → Prop := fun z e K' =>
  ∃ i : Nat, i ≤ l.length ∧ z = l.length - i ∧ K' = K0 ∧ (∃ x : Nat → Value, e = [x 0, x 1, .pointer (some ⟨bx, 0, none⟩), x 3, x 4, x 5, x 6, .int .i64 (i : Int), x 8, x 9, x 10, x 11, x 12, x 13, x 14, x 15, x 16, x 17, x 18, x 19, x 20, x 21, x 22, x 23, x 24, x 25, x 26, x 27, x 28, x 29, x 30, x 31, x 32, x 33, x 34, x 35, x 36, x 37, x 38, x 39, x 40, x 41, x 42, x 43])

set_option maxHeartbeats 2000000 in
theorem finds_w (shown_s : ∀ {R : FRes → Heap → Prop} {H : Heap}, R (.ret (.bool true)) H → WD T 9 [] H R) {s : Sch} (hs : s.OK H) {v : Value} {l : List Ask} (hr : RoSl H v (l.map Ask.cells)) (hn : few 104 l.length) (hok : ∀ q ∈ l, BtL H q.dv q.dargs) (hro : ∀ o ∈ H, o.wrt = false) :
    WD T 6 [.agg s.cells.toArray, v] H (fun r _ => r = .ret (.bool true)) := by
  unfold few at hn
  refine WD.of follows t6 (by simp) ?_
  obtain ⟨o0, o1, o2, o3, o4, o5⟩ := hs.one
  obtain ⟨ad, rfl⟩ := hr.sl
  rw [List.length_map] at hr ⊢
  simp only [Sch.cells]
  simp (disch := omega) only [kB, kcx, kdm, kdn, kel, aop, resultsL, resultOf, Nat.reduceEqDiff, reduceCtorEq, eq1, apartOK, apart2, AObj.live, Int.reduceEq, Int.reduceLT, Int.reduceLE, Int.reduceAdd, Int.reduceSub, Int.reduceMul, Int.reduceToNat, cutCells, Nat.reduceAdd, Nat.reduceLeDiff, Nat.reduceLT, Nat.reduceMul, Nat.reduceSub, o0, o1, o2, o3, o4, o5]
  refine shown_s ?_
  simp (disch := omega) only [kB, kcx, kdm, kdn, kel, aop, resultsL, resultOf, Nat.reduceEqDiff, reduceCtorEq, eq1, apartOK, apart2, AObj.live, Int.reduceEq, Int.reduceLT, Int.reduceLE, Int.reduceAdd, Int.reduceSub, Int.reduceMul, Int.reduceToNat, cutCells, Nat.reduceAdd, Nat.reduceLeDiff, Nat.reduceLT, Nat.reduceMul, Nat.reduceSub]
  obtain ⟨K0, hK0⟩ : ∃ K0, K0 = H ++ [AObj.row [s.hv, s.mv, s.sv, s.av, s.tv, s.cv] 0 true] := ⟨_, rfl⟩
  have hb0 : Base H K0 := by rw [hK0]; exact Base.app0 _
  have hS : hget K0 H.length = .row [s.hv, s.mv, s.sv, s.av, s.tv, s.cv] 0 true := by rw [hK0, hget_last]
  have hK0' := hK0.symm
  rw [hK0']
  clear hK0 hK0'
  refine WLoop.inv (fn1I K0 H.length (.slice ad l.length l.length) l) ?_ l.length _ _ ⟨0, Nat.zero_le _, by omega, rfl, by exact ex_env rfl⟩
  rintro z e K' ⟨i, hi, rfl, rfl, ⟨x, rfl⟩⟩
  have lS := hget_lt hS rfl
  by_cases hlt : i < l.length
  · have c1 : (i : Int) < (l.length : Int) := by omega
    obtain ⟨b, u0, w0, rfl, p1, p2, p3, p4, p5⟩ := hr.at Ask.len hlt
    have prow : hget K' b = .row (l.map Ask.cells).flatten u0 w0 := by rw [hb0.2 b p1]; exact p2
    have w2 : IntKind.i64.wrap ((i : Int) + 1) = ((i + 1 : Nat) : Int) := by rw [show (i : Int) + 1 = ((i + 1 : Nat) : Int) by omega]; exact wr_i64 (by omega) (by omega)
    have hq := hok _ (List.getElem_mem hlt)
    generalize l[i] = q at *
    simp (disch := omega) only [kB, kcx, kdm, kdn, kel, aop, resultsL, resultOf, Nat.reduceEqDiff, reduceCtorEq, eq1, apartOK, apart2, AObj.live, Int.reduceEq, Int.reduceLT, Int.reduceLE, Int.reduceAdd, Int.reduceSub, Int.reduceMul, Int.reduceToNat, cutCells, Nat.reduceAdd, Nat.reduceLeDiff, Nat.reduceLT, Nat.reduceMul, Nat.reduceSub, c1, prow, p3, p4, hS]
    refine asked_s hs hq hb0 ?_
    simp (disch := omega) only [kB, kcx, kdm, kdn, kel, aop, resultsL, resultOf, Nat.reduceEqDiff, reduceCtorEq, eq1, apartOK, apart2, AObj.live, Int.reduceEq, Int.reduceLT, Int.reduceLE, Int.reduceAdd, Int.reduceSub, Int.reduceMul, Int.reduceToNat, cutCells, Nat.reduceAdd, Nat.reduceLeDiff, Nat.reduceLT, Nat.reduceMul, Nat.reduceSub, w2]
    exact ⟨l.length - (i + 1), by omega, i + 1, by omega, rfl, rfl, by exact ex_env rfl⟩
  · have c1 : ¬ (i : Int) < (l.length : Int) := by omega
    obtain ⟨tr, tn, tok⟩ := hs.ts
    unfold few at tn
    obtain ⟨ad2, hv⟩ := tr.sl
    rw [hv] at tr
    rw [List.length_map] at hv tr
    have hS2 := hS
    rw [hv] at hS2
    generalize s.tables = m at *
    simp (disch := omega) only [kB, kcx, kdm, kdn, kel, aop, resultsL, resultOf, Nat.reduceEqDiff, reduceCtorEq, eq1, apartOK, apart2, AObj.live, Int.reduceEq, Int.reduceLT, Int.reduceLE, Int.reduceAdd, Int.reduceSub, Int.reduceMul, Int.reduceToNat, cutCells, Nat.reduceAdd, Nat.reduceLeDiff, Nat.reduceLT, Nat.reduceMul, Nat.reduceSub, c1]
    refine WLoop.inv (fn2I K' H.length m) ?_ m.length _ _ ⟨0, Nat.zero_le _, by omega, rfl, by exact ex_env rfl⟩
    rintro z e K2 ⟨j, hj, rfl, rfl, ⟨x, rfl⟩⟩
    by_cases hlt2 : j < m.length
    · have d1 : (j : Int) < (m.length : Int) := by omega
      obtain ⟨b, u0, w0, rfl, p1, p2, p3, p4, p5⟩ := tr.at Tbl.len hlt2
      have prow : hget K2 b = .row (m.map Tbl.cells).flatten u0 w0 := by rw [hb0.2 b p1]; exact p2
      have w2 : IntKind.i64.wrap ((j : Int) + 1) = ((j + 1 : Nat) : Int) := by rw [show (j : Int) + 1 = ((j + 1 : Nat) : Int) by omega]; exact wr_i64 (by omega) (by omega)
      have ht := tok _ (List.getElem_mem hlt2)
      generalize m[j] = t at *
      have lb := Nat.lt_of_lt_of_le p1 hb0.1
      simp (disch := omega) only [kB, kcx, kdm, kdn, kel, aop, resultsL, resultOf, Nat.reduceEqDiff, reduceCtorEq, eq1, apartOK, apart2, AObj.live, Int.reduceEq, Int.reduceLT, Int.reduceLE, Int.reduceAdd, Int.reduceSub, Int.reduceMul, Int.reduceToNat, cutCells, Nat.reduceAdd, Nat.reduceLeDiff, Nat.reduceLT, Nat.reduceMul, Nat.reduceSub, d1, prow, p3, p4, hS2]
      refine WV.of (fun c hc => ?_) ?_
      · simp only [List.mem_cons, List.not_mem_nil, or_false] at hc
        rcases hc with rfl | rfl
        · rw [hS2]; rfl
        · rw [prow]; rfl
      refine kind_s ht (hb0.frzR hro _) ?_
      rw [thaw_frz0]
      simp (disch := omega) only [kB, kcx, kdm, kdn, kel, aop, resultsL, resultOf, Nat.reduceEqDiff, reduceCtorEq, eq1, apartOK, apart2, AObj.live, Int.reduceEq, Int.reduceLT, Int.reduceLE, Int.reduceAdd, Int.reduceSub, Int.reduceMul, Int.reduceToNat, cutCells, Nat.reduceAdd, Nat.reduceLeDiff, Nat.reduceLT, Nat.reduceMul, Nat.reduceSub]
      refine rkind_s ht hb0 ?_
      simp (disch := omega) only [kB, kcx, kdm, kdn, kel, aop, resultsL, resultOf, Nat.reduceEqDiff, reduceCtorEq, eq1, apartOK, apart2, AObj.live, Int.reduceEq, Int.reduceLT, Int.reduceLE, Int.reduceAdd, Int.reduceSub, Int.reduceMul, Int.reduceToNat, cutCells, Nat.reduceAdd, Nat.reduceLeDiff, Nat.reduceLT, Nat.reduceMul, Nat.reduceSub, w2]
      exact ⟨m.length - (j + 1), by omega, j + 1, by omega, rfl, rfl, by exact ex_env rfl⟩
    · have d1 : ¬ (j : Int) < (m.length : Int) := by omega
      simp (disch := omega) only [kB, kcx, kdm, kdn, kel, aop, resultsL, resultOf, Nat.reduceEqDiff, reduceCtorEq, eq1, apartOK, apart2, AObj.live, Int.reduceEq, Int.reduceLT, Int.reduceLE, Int.reduceAdd, Int.reduceSub, Int.reduceMul, Int.reduceToNat, cutCells, Nat.reduceAdd, Nat.reduceLeDiff, Nat.reduceLT, Nat.reduceMul, Nat.reduceSub, d1, hS2]

end Go.Proofs.YtpllhhaeclnngaaGreat.Ev

/- Which texts are names: the program's IsName. -/
namespace Go.Proofs.YtpllhhaeclnngaaGreat.Ev
set_option maxRecDepth 100000
set_option linter.unusedSimpArgs false
set_option linter.unusedVariables false
variable {R : FRes → Heap → Prop} {H : Heap}

/-- Does a text stand in another one? -/
def hasSub (p s : List UInt8) : Bool := (List.range (s.length + 1 - p.length)).any fun i => decide ((s.drop i).take p.length = p)

theorem hasSub_true {p s : List UInt8} : hasSub p s = true ↔ ∃ i, i + p.length ≤ s.length ∧ (s.drop i).take p.length = p := by
  unfold hasSub
  rw [List.any_eq_true]
  constructor
  · rintro ⟨i, hi, h⟩
    rw [List.mem_range] at hi
    exact ⟨i, by omega, of_decide_eq_true h⟩
  · rintro ⟨i, hi, h⟩
    exact ⟨i, by rw [List.mem_range]; omega, decide_eq_true h⟩

def ctI (s p : List UInt8) (H : Heap) : Nat → Env → Heap → Prop := fun z e K =>
  ∃ i : Nat, i ≤ s.length + 1 ∧ z = s.length + 1 - i ∧ K = H ∧ (∀ j, j < i → (s.drop j).take p.length ≠ p) ∧ (∃ x : Nat → Value, e = [.string (bs s), .string (bs p), x 2, x 3, x 4, .int .i64 (i : Int), x 6, x 7, x 8, x 9, x 10, x 11, x 12, x 13, x 14, x 15, x 16, x 17, x 18, x 19, x 20, x 21, x 22, x 23])

theorem contains_s {s p : List UInt8} (hs : s.length ≤ 1000000) (hp : p.length ≤ 1000000) (h : R (.ret (.bool (hasSub p s))) H) : WD T 125 [.string (bs s), .string (bs p)] H R := by
  refine WD.of follows t125 (by simp) ?_
  simp (disch := omega) only [kB, kcx, kdm, kdn, kel, aop, resultsL, resultOf, Nat.reduceEqDiff, reduceCtorEq, eq1, apartOK, apart2, AObj.live, Int.reduceEq, Int.reduceLT, Int.reduceLE, Int.reduceAdd, Int.reduceSub, Int.reduceMul, Int.reduceToNat, cutCells, Nat.reduceAdd, Nat.reduceLeDiff, Nat.reduceLT, Nat.reduceMul, Nat.reduceSub]
  refine WLoop.inv (ctI s p H) ?_ (s.length + 1) _ _ ⟨0, by omega, by omega, rfl, fun j hj => by omega, by exact ex_env rfl⟩
  rintro z e K ⟨i, hi, rfl, rfl, hno, ⟨x, rfl⟩⟩
  have w1 : IntKind.i64.wrap ((i : Int) + (p.length : Int)) = ((i + p.length : Nat) : Int) := by rw [← Int.natCast_add]; exact wr_i64 (by omega) (by omega)
  have w2 : IntKind.i64.wrap ((i : Int) + 1) = ((i + 1 : Nat) : Int) := by rw [show (i : Int) + 1 = ((i + 1 : Nat) : Int) by omega]; exact wr_i64 (by omega) (by omega)
  by_cases hle : i + p.length ≤ s.length
  · have c0 : ((i + p.length : Nat) : Int) ≤ (s.length : Int) := by omega
    have c1 : (i : Int) ≤ ((i + p.length : Nat) : Int) := by omega
    have hcut : (s.take (i + p.length)).drop i = (s.drop i).take p.length := by rw [List.drop_take]; congr 1; omega
    by_cases hq : (s.drop i).take p.length = p
    · rw [hasSub_true.2 ⟨i, hle, hq⟩] at h
      simp (disch := omega) only [kB, kcx, kdm, kdn, kel, aop, resultsL, resultOf, Nat.reduceEqDiff, reduceCtorEq, eq1, apartOK, apart2, AObj.live, Int.reduceEq, Int.reduceLT, Int.reduceLE, Int.reduceAdd, Int.reduceSub, Int.reduceMul, Int.reduceToNat, cutCells, Nat.reduceAdd, Nat.reduceLeDiff, Nat.reduceLT, Nat.reduceMul, Nat.reduceSub, w1, c0, c1, hcut, hq]
      exact h
    · simp (disch := omega) only [kB, kcx, kdm, kdn, kel, aop, resultsL, resultOf, Nat.reduceEqDiff, reduceCtorEq, eq1, apartOK, apart2, AObj.live, Int.reduceEq, Int.reduceLT, Int.reduceLE, Int.reduceAdd, Int.reduceSub, Int.reduceMul, Int.reduceToNat, cutCells, Nat.reduceAdd, Nat.reduceLeDiff, Nat.reduceLT, Nat.reduceMul, Nat.reduceSub, w1, c0, c1, hcut, hq, w2]
      refine ⟨s.length + 1 - (i + 1), by omega, i + 1, by omega, rfl, rfl, fun j hj => ?_, by exact ex_env rfl⟩
      by_cases hji : j = i
      · rw [hji]; exact hq
      · exact hno j (by omega)
  · have c0 : ¬ ((i + p.length : Nat) : Int) ≤ (s.length : Int) := by omega
    have : hasSub p s = false := by
      cases hb : hasSub p s with
      | false => rfl
      | true =>
        obtain ⟨j, hj1, hj2⟩ := hasSub_true.1 hb
        exact absurd hj2 (hno j (by omega))
    rw [this] at h
    simp (disch := omega) only [kB, kcx, kdm, kdn, kel, aop, resultsL, resultOf, Nat.reduceEqDiff, reduceCtorEq, eq1, apartOK, apart2, AObj.live, Int.reduceEq, Int.reduceLT, Int.reduceLE, Int.reduceAdd, Int.reduceSub, Int.reduceMul, Int.reduceToNat, cutCells, Nat.reduceAdd, Nat.reduceLeDiff, Nat.reduceLT, Nat.reduceMul, Nat.reduceSub, w1, c0]
    exact h

/-- The words that are no names. -/
def wordsL : List (List UInt8) := [[97, 99, 99, 101, 112, 116], [97, 99, 116, 105, 111, 110], [97, 100, 100], [97, 103, 97, 105, 110], [97, 112, 112, 108, 121], [99, 97, 110], [99, 111, 110, 116, 114, 111, 108], [100, 101, 102, 97, 117, 108, 116], [100, 114, 111, 112], [101, 108, 115, 101], [101, 120, 97, 99, 116], [101, 120, 105, 116], [102, 105, 120, 101, 100], [104, 101, 97, 100, 101, 114], [105, 102], [107, 101, 121], [109, 101, 116, 97], [111, 110], [112, 114, 101, 102, 105, 120], [114, 97, 110, 103, 101], [114, 101, 106, 101, 99, 116], [114, 101, 109, 111, 118, 101], [115, 105, 122, 101], [115, 116, 97, 116, 101], [115, 117, 109], [116, 97, 98, 108, 101], [116, 97, 107, 101], [116, 101, 114, 110, 97, 114, 121], [118, 97, 108, 105, 100]]
def resT : List UInt8 := 32 :: wordsL.flatMap (fun w => w ++ [32])

theorem sub_word {t : List UInt8} (h0 : t ≠ []) (h : ∀ c ∈ t, c ≠ 32) : hasSub (32 :: (t ++ [32])) resT = wordsL.contains t := by
  have key : ∀ i ∈ List.range resT.length, resT[i]? = some 32 → ((resT.drop (i + 1)).takeWhile fun c => decide (c ≠ 32)) = [] ∨ ((resT.drop (i + 1)).takeWhile fun c => decide (c ≠ 32)) ∈ wordsL := by decide +kernel
  have key2 : ∀ w ∈ wordsL, hasSub (32 :: (w ++ [32])) resT = true := by decide +kernel
  rw [Bool.eq_iff_iff, List.contains_iff_mem]
  constructor
  · intro hs
    obtain ⟨i, h1, h2⟩ := hasSub_true.1 hs
    have hlt : i < resT.length := by simp at h1; omega
    have hd : resT.drop i = 32 :: (t ++ [32]) ++ (resT.drop i).drop (32 :: (t ++ [32])).length := by
      have := List.take_append_drop (32 :: (t ++ [32])).length (resT.drop i)
      rw [h2] at this
      exact this.symm
    have h3 : resT[i]? = some 32 := by
      have := congrArg (·[0]?) hd
      simpa using this
    have h4 : resT.drop (i + 1) = t ++ 32 :: (resT.drop i).drop (32 :: (t ++ [32])).length := by
      rw [← List.drop_drop, hd]
      simp
    have h5 : (resT.drop (i + 1)).takeWhile (fun c => decide (c ≠ 32)) = t := by
      rw [h4, List.takeWhile_append_of_pos (fun c hc => decide_eq_true (h c hc))]
      simp
    rcases key i (List.mem_range.2 hlt) h3 with q | q
    · rw [h5] at q; exact absurd q h0
    · rwa [h5] at q
  · exact key2 t

end Go.Proofs.YtpllhhaeclnngaaGreat.Ev

/- The program's IsName. -/
namespace Go.Proofs.YtpllhhaeclnngaaGreat.Ev
set_option maxRecDepth 100000
set_option linter.unusedSimpArgs false
set_option linter.unusedVariables false
variable {R : FRes → Heap → Prop} {H : Heap}

def smallC (b : Nat) : Bool := decide (97 ≤ b ∧ b ≤ 122)
/-- May such a letter stand there in a name? -/
def okC (i b : Nat) : Bool := smallC b || (decide (i ≠ 0) && (decide (b = 95) || decide (48 ≤ b ∧ b ≤ 57)))
def okFrom : Nat → List UInt8 → Bool
  | _, [] => true
  | i, c :: l => okC i c.toNat && okFrom (i + 1) l
theorem okFrom_iff : ∀ (l : List UInt8) (k : Nat), okFrom k l = true ↔ ∀ (j : Nat) (c : UInt8), l[j]? = some c → okC (k + j) c.toNat = true
  | [], k => by simp [okFrom]
  | c :: l, k => by
    rw [okFrom, Bool.and_eq_true, okFrom_iff l (k + 1)]
    constructor
    · rintro ⟨h1, h2⟩ j d hj
      cases j with
      | zero => simp at hj; rw [← hj]; exact h1
      | succ j => simp at hj; rw [show k + (j + 1) = k + 1 + j by omega]; exact h2 j d hj
    · intro h
      exact ⟨h 0 c rfl, fun j d hj => by rw [show k + 1 + j = k + (j + 1) by omega]; exact h (j + 1) d (by simpa using hj)⟩

/-- Is it a name? -/
def isNm (l : List UInt8) : Bool := decide (l ≠ [] ∧ l.length ≤ 32) && okFrom 0 l && !wordsL.contains l

theorem ok_no32 {l : List UInt8} (h : okFrom 0 l = true) : ∀ c ∈ l, c ≠ 32 := by
  rintro c hc rfl
  obtain ⟨j, hj, he⟩ := List.getElem_of_mem hc
  have := (okFrom_iff l 0).1 h j 32 (by simp [← he])
  simp [okC, smallC] at this

theorem res_eq : ([32, 97, 99, 99, 101, 112, 116, 32, 97, 99, 116, 105, 111, 110, 32, 97, 100, 100, 32, 97, 103, 97, 105, 110, 32, 97, 112, 112, 108, 121, 32, 99, 97, 110, 32, 99, 111, 110, 116, 114, 111, 108, 32, 100, 101, 102, 97, 117, 108, 116, 32, 100, 114, 111, 112, 32, 101, 108, 115, 101, 32, 101, 120, 97, 99, 116, 32, 101, 120, 105, 116, 32, 102, 105, 120, 101, 100, 32, 104, 101, 97, 100, 101, 114, 32, 105, 102, 32, 107, 101, 121, 32, 109, 101, 116, 97, 32, 111, 110, 32, 112, 114, 101, 102, 105, 120, 32, 114, 97, 110, 103, 101, 32, 114, 101, 106, 101, 99, 116, 32, 114, 101, 109, 111, 118, 101, 32, 115, 105, 122, 101, 32, 115, 116, 97, 116, 101, 32, 115, 117, 109, 32, 116, 97, 98, 108, 101, 32, 116, 97, 107, 101, 32, 116, 101, 114, 110, 97, 114, 121, 32, 118, 97, 108, 105, 100, 32] : List UInt8) = resT := by decide +kernel

def nmI (l : List UInt8) (H : Heap) : Nat → Env → Heap → Prop := fun z e K =>
  ∃ i : Nat, i ≤ l.length ∧ z = l.length - i ∧ K = H ++ [.row (l.map fun c => .int .u8 (c.toNat : Int)) 1 true] ∧ (∀ (j : Nat) (c : UInt8), j < i → l[j]? = some c → okC j c.toNat = true) ∧
    (∃ x : Nat → Value, e = [.string (bs l), x 1, x 2, x 3, x 4, x 5, x 6, x 7, x 8, x 9, x 10, x 11, x 12, x 13, .slice (some ⟨H.length, 0, none⟩) l.length l.length, .int .i64 (l.length : Int), .int .i64 (i : Int), x 17, x 18, x 19, x 20, x 21, x 22, x 23, x 24, x 25, x 26, x 27, x 28, x 29, x 30, x 31, x 32, x 33, x 34, x 35, x 36, x 37, x 38, x 39, x 40, x 41, x 42, x 43, x 44, x 45, x 46, x 47, x 48, x 49, x 50])

set_option maxHeartbeats 4000000 in
theorem isName_s {l : List UInt8} (h : R (.ret (.bool (isNm l))) H) : WD T 48 [.string (bs l)] H R := by
  refine WD.gc0 (WD.of follows t48 (by simp) ?_)
  have fin : ∀ b : Bool, isNm l = b → ∃ v, FRes.ret (.bool b) = .ret v ∧ (∃ g, H = H ++ g) ∧ Scoped H.length v ∧ R (.ret v) H := fun b hb => by
    rw [hb] at h
    exact ⟨_, rfl, ⟨[], by simp⟩, .closed rfl, h⟩
  by_cases h0 : l = []
  · have hf : isNm l = false := by subst h0; rfl
    rw [hf] at h
    subst h0
    simp (disch := omega) only [kB, kcx, kdm, kdn, kel, aop, resultsL, resultOf, Nat.reduceEqDiff, reduceCtorEq, eq1, apartOK, apart2, AObj.live, Int.reduceEq, Int.reduceLT, Int.reduceLE, Int.reduceAdd, Int.reduceSub, Int.reduceMul, Int.reduceToNat, cutCells, Nat.reduceAdd, Nat.reduceLeDiff, Nat.reduceLT, Nat.reduceMul, Nat.reduceSub]
    exact ⟨_, rfl, ⟨[], by simp⟩, .closed rfl, h⟩
  by_cases h32 : 32 < l.length
  · have hf : isNm l = false := by unfold isNm; rw [decide_eq_false (fun q => by omega)]; rfl
    rw [hf] at h
    have c1 : (32 : Int) < (l.length : Int) := by omega
    simp (disch := omega) only [kB, kcx, kdm, kdn, kel, aop, resultsL, resultOf, Nat.reduceEqDiff, reduceCtorEq, eq1, apartOK, apart2, AObj.live, Int.reduceEq, Int.reduceLT, Int.reduceLE, Int.reduceAdd, Int.reduceSub, Int.reduceMul, Int.reduceToNat, cutCells, Nat.reduceAdd, Nat.reduceLeDiff, Nat.reduceLT, Nat.reduceMul, Nat.reduceSub, h0, c1]
    exact ⟨_, rfl, ⟨[], by simp⟩, .closed rfl, h⟩
  have c1 : ¬ (32 : Int) < (l.length : Int) := by omega
  have hlen : decide (l ≠ [] ∧ l.length ≤ 32) = true := decide_eq_true ⟨h0, by omega⟩
  simp (disch := omega) only [kB, kcx, kdm, kdn, kel, aop, resultsL, resultOf, Nat.reduceEqDiff, reduceCtorEq, eq1, apartOK, apart2, AObj.live, Int.reduceEq, Int.reduceLT, Int.reduceLE, Int.reduceAdd, Int.reduceSub, Int.reduceMul, Int.reduceToNat, cutCells, Nat.reduceAdd, Nat.reduceLeDiff, Nat.reduceLT, Nat.reduceMul, Nat.reduceSub, h0, c1]
  refine WLoop.inv (nmI l H) ?_ l.length _ _ ⟨0, Nat.zero_le _, by omega, rfl, fun j c hj => by omega, by exact ex_env rfl⟩
  rintro z e K ⟨i, hi, rfl, rfl, hok, ⟨x, rfl⟩⟩
  by_cases hlt : i < l.length
  · have c0 : (i : Int) < (l.length : Int) := by omega
    have hg : l[i]? = some l[i] := List.getElem?_eq_getElem hlt
    have hgm : (l.map fun c => Value.int .u8 (c.toNat : Int))[i]? = some (.int .u8 ((l[i].toNat : Nat) : Int)) := by rw [List.getElem?_map, hg]; rfl
    have w2 : IntKind.i64.wrap ((i : Int) + 1) = ((i + 1 : Nat) : Int) := by rw [show (i : Int) + 1 = ((i + 1 : Nat) : Int) by omega]; exact wr_i64 (by omega) (by omega)
    have next : okC i (l[i]).toNat = true → ∀ e : Env, (∃ x : Nat → Value, e = [.string (bs l), x 1, x 2, x 3, x 4, x 5, x 6, x 7, x 8, x 9, x 10, x 11, x 12, x 13, .slice (some ⟨H.length, 0, none⟩) l.length l.length, .int .i64 (l.length : Int), .int .i64 ((i + 1 : Nat) : Int), x 17, x 18, x 19, x 20, x 21, x 22, x 23, x 24, x 25, x 26, x 27, x 28, x 29, x 30, x 31, x 32, x 33, x 34, x 35, x 36, x 37, x 38, x 39, x 40, x 41, x 42, x 43, x 44, x 45, x 46, x 47, x 48, x 49, x 50]) → ∃ m, m < l.length - i ∧ nmI l H m e (H ++ [.row (l.map fun c => .int .u8 (c.toNat : Int)) 1 true]) := fun ho e he => by
      refine ⟨l.length - (i + 1), by omega, i + 1, by omega, rfl, rfl, fun j c hj hc => ?_, he⟩
      by_cases hji : j = i
      · subst hji; rw [hg] at hc; cases hc; exact ho
      · exact hok j c (by omega) hc
    have bad : okC i (l[i]).toNat = false → ∃ v, FRes.ret (.bool false) = .ret v ∧ (∃ g, H ++ [.row (l.map fun c => .int .u8 (c.toNat : Int)) 1 true] = H ++ g) ∧ Scoped H.length v ∧ R (.ret v) H := fun ho => by
      have hf : isNm l = false := by
        have : okFrom 0 l = false := by
          cases hq : okFrom 0 l with
          | false => rfl
          | true =>
            have := (okFrom_iff l 0).1 hq i l[i] hg
            rw [Nat.zero_add, ho] at this
            cases this
        unfold isNm
        rw [this, Bool.and_false, Bool.false_and]
      rw [hf] at h
      exact ⟨_, rfl, ⟨_, rfl⟩, .closed rfl, h⟩
    by_cases a1 : 97 ≤ l[i].toNat
    · have x1 : (97 : Int) ≤ ((l[i].toNat : Nat) : Int) := by omega
      by_cases a2 : l[i].toNat ≤ 122
      · have x2 : ((l[i].toNat : Nat) : Int) ≤ 122 := by omega
        simp (disch := omega) only [kB, kcx, kdm, kdn, kel, aop, resultsL, resultOf, Nat.reduceEqDiff, reduceCtorEq, eq1, apartOK, apart2, AObj.live, Int.reduceEq, Int.reduceLT, Int.reduceLE, Int.reduceAdd, Int.reduceSub, Int.reduceMul, Int.reduceToNat, cutCells, Nat.reduceAdd, Nat.reduceLeDiff, Nat.reduceLT, Nat.reduceMul, Nat.reduceSub, c0, hgm, x1, x2, w2]
        exact next (by unfold okC smallC; simp [a1, a2]) _ (by exact ex_env rfl)
      · have x2 : ¬ ((l[i].toNat : Nat) : Int) ≤ 122 := by omega
        by_cases i0 : i = 0
        · have z0 : ((i : Int) = 0) = True := eq_true (by omega)
          simp (disch := omega) only [kB, kcx, kdm, kdn, kel, aop, resultsL, resultOf, Nat.reduceEqDiff, reduceCtorEq, eq1, apartOK, apart2, AObj.live, Int.reduceEq, Int.reduceLT, Int.reduceLE, Int.reduceAdd, Int.reduceSub, Int.reduceMul, Int.reduceToNat, cutCells, Nat.reduceAdd, Nat.reduceLeDiff, Nat.reduceLT, Nat.reduceMul, Nat.reduceSub, c0, hgm, x1, x2, z0]
          exact bad (by unfold okC; rw [show smallC l[i].toNat = false from decide_eq_false (by omega), decide_eq_false (show ¬ i ≠ 0 from fun q => q i0)]; rfl)
        have z0 : ((i : Int) = 0) = False := eq_false (by omega)
        have d1 : ¬ l[i].toNat = 95 := by omega
        have y1 : (((l[i].toNat : Nat) : Int) = 95) = False := eq_false (by omega)
        have y2 : ¬ ((l[i].toNat : Nat) : Int) < 48 := by omega
        have y3 : (57 : Int) < ((l[i].toNat : Nat) : Int) := by omega
        simp (disch := omega) only [kB, kcx, kdm, kdn, kel, aop, resultsL, resultOf, Nat.reduceEqDiff, reduceCtorEq, eq1, apartOK, apart2, AObj.live, Int.reduceEq, Int.reduceLT, Int.reduceLE, Int.reduceAdd, Int.reduceSub, Int.reduceMul, Int.reduceToNat, cutCells, Nat.reduceAdd, Nat.reduceLeDiff, Nat.reduceLT, Nat.reduceMul, Nat.reduceSub, c0, hgm, x1, x2, z0, y1, y2, y3]
        exact bad (by unfold okC; rw [show smallC l[i].toNat = false from decide_eq_false (by omega), decide_eq_false d1, decide_eq_false (show ¬ (48 ≤ l[i].toNat ∧ l[i].toNat ≤ 57) by omega)]; simp)
    · have x1 : ¬ (97 : Int) ≤ ((l[i].toNat : Nat) : Int) := by omega
      by_cases i0 : i = 0
      · have z0 : ((i : Int) = 0) = True := eq_true (by omega)
        simp (disch := omega) only [kB, kcx, kdm, kdn, kel, aop, resultsL, resultOf, Nat.reduceEqDiff, reduceCtorEq, eq1, apartOK, apart2, AObj.live, Int.reduceEq, Int.reduceLT, Int.reduceLE, Int.reduceAdd, Int.reduceSub, Int.reduceMul, Int.reduceToNat, cutCells, Nat.reduceAdd, Nat.reduceLeDiff, Nat.reduceLT, Nat.reduceMul, Nat.reduceSub, c0, hgm, x1, z0]
        exact bad (by unfold okC; rw [show smallC l[i].toNat = false from decide_eq_false (by omega), decide_eq_false (show ¬ i ≠ 0 from fun q => q i0)]; rfl)
      have z0 : ((i : Int) = 0) = False := eq_false (by omega)
      by_cases d1 : l[i].toNat = 95
      · have y1 : (((l[i].toNat : Nat) : Int) = 95) = True := eq_true (by omega)
        simp (disch := omega) only [kB, kcx, kdm, kdn, kel, aop, resultsL, resultOf, Nat.reduceEqDiff, reduceCtorEq, eq1, apartOK, apart2, AObj.live, Int.reduceEq, Int.reduceLT, Int.reduceLE, Int.reduceAdd, Int.reduceSub, Int.reduceMul, Int.reduceToNat, cutCells, Nat.reduceAdd, Nat.reduceLeDiff, Nat.reduceLT, Nat.reduceMul, Nat.reduceSub, c0, hgm, x1, z0, y1, w2]
        exact next (by unfold okC; rw [decide_eq_true (show i ≠ 0 from i0), decide_eq_true d1]; simp) _ (by exact ex_env rfl)
      have y1 : (((l[i].toNat : Nat) : Int) = 95) = False := eq_false (by omega)
      by_cases d2 : l[i].toNat < 48
      · have y2 : ((l[i].toNat : Nat) : Int) < 48 := by omega
        simp (disch := omega) only [kB, kcx, kdm, kdn, kel, aop, resultsL, resultOf, Nat.reduceEqDiff, reduceCtorEq, eq1, apartOK, apart2, AObj.live, Int.reduceEq, Int.reduceLT, Int.reduceLE, Int.reduceAdd, Int.reduceSub, Int.reduceMul, Int.reduceToNat, cutCells, Nat.reduceAdd, Nat.reduceLeDiff, Nat.reduceLT, Nat.reduceMul, Nat.reduceSub, c0, hgm, x1, z0, y1, y2]
        exact bad (by unfold okC; rw [show smallC l[i].toNat = false from decide_eq_false (by omega), decide_eq_false d1, decide_eq_false (show ¬ (48 ≤ l[i].toNat ∧ l[i].toNat ≤ 57) by omega)]; simp)
      have y2 : ¬ ((l[i].toNat : Nat) : Int) < 48 := by omega
      by_cases d3 : 57 < l[i].toNat
      · have y3 : (57 : Int) < ((l[i].toNat : Nat) : Int) := by omega
        simp (disch := omega) only [kB, kcx, kdm, kdn, kel, aop, resultsL, resultOf, Nat.reduceEqDiff, reduceCtorEq, eq1, apartOK, apart2, AObj.live, Int.reduceEq, Int.reduceLT, Int.reduceLE, Int.reduceAdd, Int.reduceSub, Int.reduceMul, Int.reduceToNat, cutCells, Nat.reduceAdd, Nat.reduceLeDiff, Nat.reduceLT, Nat.reduceMul, Nat.reduceSub, c0, hgm, x1, z0, y1, y2, y3]
        exact bad (by unfold okC; rw [show smallC l[i].toNat = false from decide_eq_false (by omega), decide_eq_false d1, decide_eq_false (show ¬ (48 ≤ l[i].toNat ∧ l[i].toNat ≤ 57) by omega)]; simp)
      have y3 : ¬ (57 : Int) < ((l[i].toNat : Nat) : Int) := by omega
      simp (disch := omega) only [kB, kcx, kdm, kdn, kel, aop, resultsL, resultOf, Nat.reduceEqDiff, reduceCtorEq, eq1, apartOK, apart2, AObj.live, Int.reduceEq, Int.reduceLT, Int.reduceLE, Int.reduceAdd, Int.reduceSub, Int.reduceMul, Int.reduceToNat, cutCells, Nat.reduceAdd, Nat.reduceLeDiff, Nat.reduceLT, Nat.reduceMul, Nat.reduceSub, c0, hgm, x1, z0, y1, y2, y3, w2]
      exact next (by unfold okC; rw [decide_eq_true (show i ≠ 0 from i0), decide_eq_true (show 48 ≤ l[i].toNat ∧ l[i].toNat ≤ 57 by omega)]; simp) _ (by exact ex_env rfl)
  · have c0 : ¬ (i : Int) < (l.length : Int) := by omega
    have hall : okFrom 0 l = true := (okFrom_iff l 0).2 fun j c hc => by
      rw [Nat.zero_add]
      have := (List.getElem?_eq_some_iff.1 hc).1
      exact hok j c (by omega) hc
    have hc : isNm l = !hasSub (32 :: (l ++ [32])) resT := by
      unfold isNm
      rw [hlen, hall, sub_word h0 (ok_no32 hall)]
      rfl
    have hadd1 : binV .add (.string (bs [32])) (.string (bs l)) = some (.string (bs ([32] ++ l))) := bin_str_add (by simp; omega)
    have hadd2 : binV .add (.string (bs (32 :: l))) (.string (bs [32])) = some (.string (bs (32 :: (l ++ [32])))) := bin_str_add (by simp; omega)
    simp (disch := omega) only [kB, kcx, kdm, kdn, kel, aop, resultsL, resultOf, Nat.reduceEqDiff, reduceCtorEq, eq1, apartOK, apart2, AObj.live, Int.reduceEq, Int.reduceLT, Int.reduceLE, Int.reduceAdd, Int.reduceSub, Int.reduceMul, Int.reduceToNat, cutCells, Nat.reduceAdd, Nat.reduceLeDiff, Nat.reduceLT, Nat.reduceMul, Nat.reduceSub, c0, hadd1, hadd2]
    refine contains_s (by decide) (by simp; omega) ?_
    rw [res_eq]
    simp (disch := omega) only [kB, kcx, kdm, kdn, kel, aop, resultsL, resultOf, Nat.reduceEqDiff, reduceCtorEq, eq1, apartOK, apart2, AObj.live, Int.reduceEq, Int.reduceLT, Int.reduceLE, Int.reduceAdd, Int.reduceSub, Int.reduceMul, Int.reduceToNat, cutCells, Nat.reduceAdd, Nat.reduceLeDiff, Nat.reduceLT, Nat.reduceMul, Nat.reduceSub]
    obtain ⟨v, h1, h2, h3, h4⟩ := fin (!hasSub (32 :: (l ++ [32])) resT) hc
    exact ⟨_, rfl, ⟨_, rfl⟩, .closed rfl, by cases h1; exact h4⟩

end Go.Proofs.YtpllhhaeclnngaaGreat.Ev

/- The call that shows that the packages are awake; the law SchemaNumbers. -/
namespace Go.Proofs.YtpllhhaeclnngaaGreat.Ev
set_option maxRecDepth 100000
set_option linter.unusedSimpArgs false
set_option linter.unusedVariables false
variable {R : FRes → Heap → Prop} {H : Heap}

/-- IsName, known by what it answers. -/
def isNmL (args : List Value) (_ : Heap) : Option Value :=
  match args with
  | [.string s] => some (.bool (isNm s.data.toList))
  | _ => none
def lf (n : Nat) (a : AFunc) : Table := fun f => cond (Nat.beq f n) (some a) none
def nd (k : Nat) (l r : Table) : Table := fun f => cond (Nat.ble f k) (l f) (r f)
/-- One entry of a table is right. -/
def AtOK (P : Program) (G : Nat) (f : FuncId) (af : AFunc) : Prop :=
  match af with
  | .code _ _ _ => ∃ fn, P.funcs[f]? = some fn ∧ prepFn P G fn = some af
  | .dfr _ _ _ => ∃ fn, P.funcs[f]? = some fn ∧ prepFn P G fn = some af
  | .rcv _ _ _ _ => ∃ fn, P.funcs[f]? = some fn ∧ prepFn P G fn = some af
  | .ext g => ∀ (args : List Value) (v : Value), g args = some v → closedV v = true ∧ ∀ (n : Nat) (ρ : Nat → Place) (args' : Array Value), VL n ρ args args'.toList → ∀ w, (callFunc f args').run P w = .ok (.value v) w
  | .lib g => ∀ (args : List Value) (H : Heap) (v : Value), g args H = some v → closedV v = true ∧ (∀ (args' : Array Value) (w : World), (callFunc f args').run P w = .ok (.enter f args') w) ∧
      ∀ (ρ : Nat → Place) (w : World) (args' : Array Value), Rel G ρ H w → VL H.length ρ args args'.toList → Calls P f args' w (fun e w' => e = .returned v ∧ RowKit.Below w.heap.size w w')
theorem lf_ok {P : Program} {G n : Nat} {a : AFunc} (h : AtOK P G n a) : TableOK P G (lf n a) := by
  intro f af hf
  unfold lf at hf
  cases hb : Nat.beq f n with
  | false => rw [hb] at hf; cases hf
  | true =>
    rw [hb] at hf
    cases hf
    obtain rfl : f = n := Nat.eq_of_beq_eq_true hb
    exact h
def isFn : AFunc → Bool
  | .code _ _ _ => true
  | .dfr _ _ _ => true
  | .rcv _ _ _ _ => true
  | _ => false
theorem lf_laid {n : Nat} {a : AFunc} (h : Laid T n a) (hc : isFn a = true) : TableOK T.P T.G (lf n a) := by
  refine lf_ok ?_
  cases a with
  | code _ _ _ => exact h
  | dfr _ _ _ => exact h
  | rcv _ _ _ _ => exact h
  | ext _ => cases hc
  | lib _ => cases hc
theorem nd_ok {P : Program} {G k : Nat} {l r : Table} (hl : TableOK P G l) (hr : TableOK P G r) : TableOK P G (nd k l r) := by
  intro f af hf
  unfold nd at hf
  cases hb : Nat.ble f k with
  | false => rw [hb] at hf; exact hr f af hf
  | true => rw [hb] at hf; exact hl f af hf
/-- The functions that the call reaches; IsName known by what it answers. -/
def Tab2 : Table := (nd 99 (nd 60 (nd 49 (nd 19 (nd 10 (nd 9 (lf 9 g9) (lf 10 g10)) (nd 13 (lf 13 g13) (nd 15 (lf 15 g15) (lf 19 g19)))) (nd 27 (nd 20 (lf 20 g20) (nd 22 (lf 22 g22) (lf 27 g27))) (nd 28 (lf 28 g28) (nd 48 (lf 48 (.lib isNmL)) (lf 49 g49))))) (nd 54 (nd 51 (nd 50 (lf 50 g50) (lf 51 g51)) (nd 52 (lf 52 g52) (nd 53 (lf 53 g53) (lf 54 g54)))) (nd 57 (nd 55 (lf 55 g55) (nd 56 (lf 56 g56) (lf 57 g57))) (nd 58 (lf 58 g58) (nd 59 (lf 59 g59) (lf 60 g60)))))) (nd 83 (nd 74 (nd 71 (nd 61 (lf 61 g61) (lf 71 g71)) (nd 72 (lf 72 g72) (nd 73 (lf 73 g73) (lf 74 g74)))) (nd 77 (nd 75 (lf 75 g75) (nd 76 (lf 76 g76) (lf 77 g77))) (nd 78 (lf 78 g78) (nd 79 (lf 79 g79) (lf 83 g83))))) (nd 89 (nd 86 (nd 84 (lf 84 g84) (nd 85 (lf 85 g85) (lf 86 g86))) (nd 87 (lf 87 g87) (nd 88 (lf 88 g88) (lf 89 g89)))) (nd 92 (nd 90 (lf 90 g90) (nd 91 (lf 91 g91) (lf 92 g92))) (nd 93 (lf 93 g93) (nd 94 (lf 94 g94) (lf 99 g99))))))) (nd 149 (nd 127 (nd 106 (nd 101 (nd 100 (lf 100 g100) (lf 101 g101)) (nd 103 (lf 103 g103) (nd 105 (lf 105 g105) (lf 106 g106)))) (nd 112 (nd 107 (lf 107 g107) (nd 111 (lf 111 g111) (lf 112 g112))) (nd 113 (lf 113 g113) (nd 126 (lf 126 g126) (lf 127 g127))))) (nd 132 (nd 129 (nd 128 (lf 128 g128) (lf 129 g129)) (nd 130 (lf 130 g130) (nd 131 (lf 131 g131) (lf 132 g132)))) (nd 146 (nd 144 (lf 144 g144) (nd 145 (lf 145 g145) (lf 146 g146))) (nd 147 (lf 147 g147) (nd 148 (lf 148 g148) (lf 149 g149)))))) (nd 162 (nd 154 (nd 151 (nd 150 (lf 150 g150) (lf 151 g151)) (nd 152 (lf 152 g152) (nd 153 (lf 153 g153) (lf 154 g154)))) (nd 159 (nd 157 (lf 157 g157) (nd 158 (lf 158 g158) (lf 159 g159))) (nd 160 (lf 160 g160) (nd 161 (lf 161 g161) (lf 162 g162))))) (nd 185 (nd 168 (nd 163 (lf 163 g163) (nd 167 (lf 167 g167) (lf 168 g168))) (nd 169 (lf 169 g169) (nd 184 (lf 184 g184) (lf 185 g185)))) (nd 189 (nd 186 (lf 186 g186) (nd 188 (lf 188 g188) (lf 189 g189))) (nd 190 (lf 190 g190) (nd 191 (lf 191 g191) (lf 195 g195))))))))

theorem rel_nil {ρ : Nat → Place} {w : World} : Rel T.G ρ [] w :=
  ⟨fun b o h => (by simp at h), fun b c o u h => (by simp at h), fun g hg => (by have : T.G = 0 := (by unfold T; kernel_rfl); omega), (by have : T.G = 0 := (by unfold T; kernel_rfl); omega)⟩

theorem lib48 : AtOK T.P T.G 48 (.lib isNmL) := by
  intro args H v hv
  unfold isNmL at hv
  split at hv
  case h_2 => cases hv
  rename_i s
  cases hv
  refine ⟨rfl, fun args' w => ?_, fun ρ w args' hr ha => ?_⟩
  · obtain ⟨_, _, hc, _⟩ := prepFn_inv t48
    exact hc.enter _ _
  · have hw : WD T 48 [.string s] [] (fun r _ => r = .ret (.bool (isNm s.data.toList))) := by
      have hs : Value.string s = .string (bs s.data.toList) := by simp [bs]
      rw [hs]
      exact isName_s rfl
    refine wd_true t48 hw rel_nil (args' := args') ⟨ha.1, fun i x y hx hy => (ha.2 i x y hx hy).narrow (.closed ?_)⟩ (by simp)
    have : x ∈ ([.string s] : List Value) := List.mem_of_getElem? hx
    simp at this
    subst this
    rfl

theorem table_okS : TableOK T.P T.G Tab2 := (nd_ok (nd_ok (nd_ok (nd_ok (nd_ok (nd_ok (lf_laid t9 rfl) (lf_laid t10 rfl)) (nd_ok (lf_laid t13 rfl) (nd_ok (lf_laid t15 rfl) (lf_laid t19 rfl)))) (nd_ok (nd_ok (lf_laid t20 rfl) (nd_ok (lf_laid t22 rfl) (lf_laid t27 rfl))) (nd_ok (lf_laid t28 rfl) (nd_ok (lf_ok lib48) (lf_laid t49 rfl))))) (nd_ok (nd_ok (nd_ok (lf_laid t50 rfl) (lf_laid t51 rfl)) (nd_ok (lf_laid t52 rfl) (nd_ok (lf_laid t53 rfl) (lf_laid t54 rfl)))) (nd_ok (nd_ok (lf_laid t55 rfl) (nd_ok (lf_laid t56 rfl) (lf_laid t57 rfl))) (nd_ok (lf_laid t58 rfl) (nd_ok (lf_laid t59 rfl) (lf_laid t60 rfl)))))) (nd_ok (nd_ok (nd_ok (nd_ok (lf_laid t61 rfl) (lf_laid t71 rfl)) (nd_ok (lf_laid t72 rfl) (nd_ok (lf_laid t73 rfl) (lf_laid t74 rfl)))) (nd_ok (nd_ok (lf_laid t75 rfl) (nd_ok (lf_laid t76 rfl) (lf_laid t77 rfl))) (nd_ok (lf_laid t78 rfl) (nd_ok (lf_laid t79 rfl) (lf_laid t83 rfl))))) (nd_ok (nd_ok (nd_ok (lf_laid t84 rfl) (nd_ok (lf_laid t85 rfl) (lf_laid t86 rfl))) (nd_ok (lf_laid t87 rfl) (nd_ok (lf_laid t88 rfl) (lf_laid t89 rfl)))) (nd_ok (nd_ok (lf_laid t90 rfl) (nd_ok (lf_laid t91 rfl) (lf_laid t92 rfl))) (nd_ok (lf_laid t93 rfl) (nd_ok (lf_laid t94 rfl) (lf_laid t99 rfl))))))) (nd_ok (nd_ok (nd_ok (nd_ok (nd_ok (lf_laid t100 rfl) (lf_laid t101 rfl)) (nd_ok (lf_laid t103 rfl) (nd_ok (lf_laid t105 rfl) (lf_laid t106 rfl)))) (nd_ok (nd_ok (lf_laid t107 rfl) (nd_ok (lf_laid t111 rfl) (lf_laid t112 rfl))) (nd_ok (lf_laid t113 rfl) (nd_ok (lf_laid t126 rfl) (lf_laid t127 rfl))))) (nd_ok (nd_ok (nd_ok (lf_laid t128 rfl) (lf_laid t129 rfl)) (nd_ok (lf_laid t130 rfl) (nd_ok (lf_laid t131 rfl) (lf_laid t132 rfl)))) (nd_ok (nd_ok (lf_laid t144 rfl) (nd_ok (lf_laid t145 rfl) (lf_laid t146 rfl))) (nd_ok (lf_laid t147 rfl) (nd_ok (lf_laid t148 rfl) (lf_laid t149 rfl)))))) (nd_ok (nd_ok (nd_ok (nd_ok (lf_laid t150 rfl) (lf_laid t151 rfl)) (nd_ok (lf_laid t152 rfl) (nd_ok (lf_laid t153 rfl) (lf_laid t154 rfl)))) (nd_ok (nd_ok (lf_laid t157 rfl) (nd_ok (lf_laid t158 rfl) (lf_laid t159 rfl))) (nd_ok (lf_laid t160 rfl) (nd_ok (lf_laid t161 rfl) (lf_laid t162 rfl))))) (nd_ok (nd_ok (nd_ok (lf_laid t163 rfl) (nd_ok (lf_laid t167 rfl) (lf_laid t168 rfl))) (nd_ok (lf_laid t169 rfl) (nd_ok (lf_laid t184 rfl) (lf_laid t185 rfl)))) (nd_ok (nd_ok (lf_laid t186 rfl) (nd_ok (lf_laid t188 rfl) (lf_laid t189 rfl))) (nd_ok (lf_laid t190 rfl) (nd_ok (lf_laid t191 rfl) (lf_laid t195 rfl))))))))

theorem shown_ev : isTrue (evalFn Tab2 100 9 [] []) = true := by kernel_rfl

theorem shown_s (h : R (.ret (.bool true)) H) : WD T 9 [] H R := by
  obtain ⟨H1, he⟩ := of_isTrue shown_ev
  exact WD.frameD (H0 := H0) ⟨H, rfl⟩ globs (fun o ho => by simp [H0] at ho) (by simp) .bool (WD.ev follows table_okS he rfl) h

end Go.Proofs.YtpllhhaeclnngaaGreat.Ev

/- A law's arguments as its row reads them: rows of cells that nothing writes, and what stands in them. Conditions: none. -/
namespace Go.Proofs.YtpllhhaeclnngaaGreat.Ev
open Go.RowKit Go.ChangeShapes Go.WideShapes

/-- What data stands in some cells. -/
inductive Rep (P : Program) (H : Heap) {X : Type} : TypeId → DataW X → List Value → Prop where
  | bool {t : TypeId} (b : Bool) (hu : P.underlying t = some .bool) : Rep P H t (.lit (.bool b)) [.bool b]
  | int {t : TypeId} (k : IntKind) (n : Int) (hu : P.underlying t = some (.int k)) (hw : (Lit.int k n).wf = true) : Rep P H t (.lit (.int k n)) [.int k n]
  | str {t : TypeId} (l : List UInt8) (hu : P.underlying t = some .string) (hl : l.length ≤ maxLen) : Rep P H t (.lit (.string l)) [.string (bs l)]
  | struct {t : TypeId} {fs : Array Field} {ds : List (DataW X)} {ass : List (List Value)} (hu : P.underlying t = some (.struct fs)) (h1 : ds.length = fs.size) (h2 : ass.length = fs.size)
      (h : ∀ (i : Nat) (f : Field) (d : DataW X) (cz : List Value), fs[i]? = some f → ds[i]? = some d → ass[i]? = some cz → Rep P H f.type d cz)
      (hl : ∀ (i : Nat) (f : Field) (cz : List Value), fs[i]? = some f → ass[i]? = some cz → cz.length = P.cellsOf f.type) : Rep P H t (.agg ds) ass.flatten
  | nilS {t e : TypeId} (hu : P.underlying t = some (.slice e)) : Rep P H t .nil [.slice none 0 0]
  | empty {t e : TypeId} {sp : List (DataW X)} (hu : P.underlying t = some (.slice e)) : Rep P H t (.slice [] sp) [.slice (some ⟨0, 0, some 0⟩) 0 0]
  | slice {t e : TypeId} {b : Nat} {ds sp : List (DataW X)} {ass : List (List Value)} (hu : P.underlying t = some (.slice e)) (hne : ds ≠ []) (hb : hget H b = .row ass.flatten 0 false) (h2 : ass.length = ds.length)
      (h : ∀ (i : Nat) (d : DataW X) (cz : List Value), ds[i]? = some d → ass[i]? = some cz → Rep P H e d cz)
      (hl : ∀ (i : Nat) (cz : List Value), ass[i]? = some cz → cz.length = P.cellsOf e) : Rep P H t (.slice ds sp) [.slice (some ⟨b, 0, none⟩) ds.length ds.length]

theorem Rep.mono {P : Program} {H g : Heap} {X : Type} {t : TypeId} {d : DataW X} {cz : List Value} (h : Rep P H t d cz) : Rep P (H ++ g) t d cz := by
  induction h with
  | bool b hu => exact .bool b hu
  | int k n hu hw => exact .int k n hu hw
  | str l hu hl => exact .str l hu hl
  | struct hu h1 h2 h hl ih => exact .struct hu h1 h2 ih hl
  | nilS hu => exact .nilS hu
  | empty hu => exact .empty hu
  | slice hu hne hb h2 h hl ih => exact .slice hu hne (by rw [hget_old (hget_lt hb rfl)]; exact hb) h2 ih hl

/-- A set of types of plain data: numbers, texts, structs and lists of them. -/
def plainSet (P : Program) (L : List TypeId) : Bool := L.all fun t => decide (t < P.types.size) && match P.underlying t with
  | some .bool | some (.int _) | some .string => true
  | some (.struct fs) => fs.toList.all fun f => L.contains f.type
  | some (.slice e) => L.contains e && decide (0 < P.cellsOf e)
  | _ => false

def chunks : List Nat → List Value → List (List Value)
  | [], _ => []
  | n :: ns, cs => cs.take n :: chunks ns (cs.drop n)

theorem chunks_flat : ∀ (ns : List Nat) (cs : List Value), cs.length = ns.sum → (chunks ns cs).flatten = cs
  | [], cs, h => by simp at h; simp [chunks, h]
  | n :: ns, cs, h => by
    rw [chunks, List.flatten_cons, chunks_flat ns _ (by simp at h ⊢; omega), List.take_append_drop]

theorem chunks_len : ∀ (ns : List Nat) (cs : List Value), (chunks ns cs).length = ns.length
  | [], _ => rfl
  | n :: ns, cs => by rw [chunks, List.length_cons, List.length_cons, chunks_len ns]

theorem chunks_get : ∀ (ns : List Nat) (cs : List Value) (j n : Nat), ns[j]? = some n → (chunks ns cs)[j]? = some ((cs.drop (ns.take j).sum).take n)
  | [], _, j, n, h => by simp at h
  | m :: ns, cs, 0, n, h => by simp at h; simp [chunks, h]
  | m :: ns, cs, j + 1, n, h => by
    have h' : ns[j]? = some n := by simpa using h
    have := chunks_get ns (cs.drop m) j n h'
    simp only [chunks, List.getElem?_cons_succ, List.take_succ_cons, List.sum_cons]
    rw [this, List.drop_drop]

theorem VL.flat {n : Nat} {ρ : Nat → Place} : ∀ (xss yss : List (List Value)), xss.length = yss.length → (∀ (i : Nat) (xs ys : List Value), xss[i]? = some xs → yss[i]? = some ys → VL n ρ xs ys) → VL n ρ xss.flatten yss.flatten
  | [], [], _, _ => VL.nil
  | [], _ :: _, h, _ => by simp at h
  | _ :: _, [], h, _ => by simp at h
  | xs :: xss, ys :: yss, h, hh => by
    rw [List.flatten_cons, List.flatten_cons]
    exact (hh 0 xs ys rfl rfl).append (VL.flat xss yss (by simpa using h) fun i a b ha hb => hh (i + 1) a b (by simpa using ha) (by simpa using hb))

section
variable {X : Type} {enc : TypeId × Value → X} {P : Program} {G : Nat} {W : World} {base : Nat} {sp : Nat → Bool} {held : Bool} {L : List TypeId}

/-- Some cells can be told in a heap of the evaluator's. -/
def Opens (P : Program) (G : Nat) (W : World) (t : TypeId) (cs : List Value) (d : DataW X) : Prop :=
  ∀ (H : Heap) (ρ : Nat → Place), (∀ o ∈ H, o.wrt = false) → Rel G ρ H W → ∃ (g : Heap) (ρ' : Nat → Place) (cz : List Value), Rel G ρ' (H ++ g) W ∧ (∀ b, b < H.length → ρ' b = ρ b) ∧ (∀ o ∈ g, ∃ c, o = .row c 0 false) ∧ VL (H ++ g).length ρ' cz cs ∧ Rep P (H ++ g) t d cz

theorem ro_app {H g : Heap} (h : ∀ o ∈ H, o.wrt = false) (hg : ∀ o ∈ g, ∃ c, o = .row c 0 false) : ∀ o ∈ H ++ g, o.wrt = false := fun o ho => by
  rcases List.mem_append.1 ho with ho | ho
  · exact h o ho
  · obtain ⟨c, rfl⟩ := hg o ho; rfl

theorem opens_list : ∀ (l : List (TypeId × List Value × DataW X)), (∀ q ∈ l, Opens P G W q.1 q.2.1 q.2.2) → ∀ (H : Heap) (ρ : Nat → Place), (∀ o ∈ H, o.wrt = false) → Rel G ρ H W →
    ∃ (g : Heap) (ρ' : Nat → Place) (ass : List (List Value)), Rel G ρ' (H ++ g) W ∧ (∀ b, b < H.length → ρ' b = ρ b) ∧ (∀ o ∈ g, ∃ c, o = .row c 0 false) ∧ ass.length = l.length ∧
      ∀ (i : Nat) (q : TypeId × List Value × DataW X) (cz : List Value), l[i]? = some q → ass[i]? = some cz → VL (H ++ g).length ρ' cz q.2.1 ∧ Rep P (H ++ g) q.1 q.2.2 cz
  | [], _, H, ρ, _, hr => ⟨[], ρ, [], by simpa using hr, fun _ _ => rfl, fun o ho => (by cases ho), rfl, fun i q cz h => by simp at h⟩
  | q :: l, h, H, ρ, hro, hr => by
    obtain ⟨g, ρ1, cz, hr1, hs1, hg1, hv1, hp1⟩ := h q (by simp) H ρ hro hr
    obtain ⟨g2, ρ2, ass, hr2, hs2, hg2, hl2, hh⟩ := opens_list l (fun q hq => h q (by simp [hq])) (H ++ g) ρ1 (ro_app hro hg1) hr1
    rw [List.append_assoc] at hr2 hh
    refine ⟨g ++ g2, ρ2, cz :: ass, hr2, fun b hb => (hs2 b (by simp; omega)).trans (hs1 b hb), fun o ho => ?_, by simp [hl2], fun i q' cz' hq has => ?_⟩
    · rcases List.mem_append.1 ho with ho | ho
      · exact hg1 o ho
      · exact hg2 o ho
    · cases i with
      | zero =>
        simp at hq has
        subst hq; subst has
        refine ⟨hv1.mono (by simp) hs2, ?_⟩
        rw [← List.append_assoc]
        exact hp1.mono
      | succ i => exact hh i q' cz' (by simpa using hq) (by simpa using has)

theorem mem_plain (hP : plainSet P L = true) {t : TypeId} (ht : L.contains t = true) : (decide (t < P.types.size) && (match P.underlying t with
    | some .bool | some (.int _) | some .string => true
    | some (.struct fs) => fs.toList.all fun f => L.contains f.type
    | some (.slice e) => L.contains e && decide (0 < P.cellsOf e)
    | _ => false)) = true := by
  unfold plainSet at hP
  exact List.all_eq_true.1 hP t (List.contains_iff_mem.1 ht)

theorem flat_get {c : Nat} (hc : 0 < c) : ∀ (css : List (List Value)) (k j : Nat) (cs : List Value), (∀ (i : Nat) (cz : List Value), css[i]? = some cz → cz.length = c) → css[k]? = some cs → j < c → css.flatten[k * c + j]? = cs[j]?
  | [], k, j, cs, _, h, _ => by simp at h
  | a :: css, 0, j, cs, hl, h, hj => by
    have h1 := hl 0 a rfl
    simp at h
    subst h
    rw [List.flatten_cons, Nat.zero_mul, Nat.zero_add, List.getElem?_append_left (by omega)]
  | a :: css, k + 1, j, cs, hl, h, hj => by
    have h1 := hl 0 a rfl
    have := flat_get hc css k j cs (fun i cz hi => hl (i + 1) cz (by simpa using hi)) (by simpa using h) hj
    rw [List.flatten_cons, List.getElem?_append_right (by rw [h1, Nat.add_mul]; omega), h1, show (k + 1) * c + j - c = k * c + j by rw [Nat.add_mul]; omega]
    exact this

theorem flat_len {c : Nat} : ∀ (css : List (List Value)), (∀ (i : Nat) (cz : List Value), css[i]? = some cz → cz.length = c) → css.flatten.length = css.length * c
  | [], _ => by simp
  | a :: css, hl => by
    rw [List.flatten_cons, List.length_append, hl 0 a rfl, flat_len css (fun i cz hi => hl (i + 1) cz (by simpa using hi)), List.length_cons, Nat.add_mul]
    omega

/-- A row that nothing writes, new in the evaluator's heap. -/
theorem rel_row {H : Heap} {ρ : Nat → Place} (hro : ∀ o ∈ H, o.wrt = false) (hr : Rel G ρ H W) {a : Addr} {cs : List Value} {cells : Array Value} {t : TypeId} {fr : Nat × Nat} {ext0 : Nat} (hh : W.heap[a.block]? = some (.cells cells t fr))
    (hc : ∀ (i : Nat) (v : Value), cs[i]? = some v → ∃ v', cells[a.off + i]? = some v' ∧ VR H.length ρ v v') : Rel G (ext ρ H.length ⟨a.block, a.off, ext0⟩) (H ++ [.row cs 0 false]) W := by
  have cases_ : ∀ b u, (H ++ [AObj.row cs 0 false])[b]? = some u → (b < H.length ∧ H[b]? = some u) ∨ (b = H.length ∧ u = .row cs 0 false) := fun b u h => by
    by_cases hb : b < H.length
    · rw [List.getElem?_append_left hb] at h; exact .inl ⟨hb, h⟩
    · rw [List.getElem?_append_right (by omega)] at h
      obtain ⟨h1, h2⟩ := List.getElem?_eq_some_iff.1 h
      simp at h1
      have : b = H.length := by omega
      subst this
      simp at h2
      exact .inr ⟨rfl, h2.symm⟩
  have hlen : (H ++ [AObj.row cs 0 false]).length = H.length + 1 := by simp
  refine ⟨fun b u hu => ?_, fun b c u v hu hv hne hw hl => ?_, fun g hg => ?_, by rw [hlen]; have := hr.many; omega⟩
  · rcases cases_ b u hu with ⟨hb, hu⟩ | ⟨rfl, rfl⟩
    · exact (hr.obj b u hu).mono (by omega) (ext_lt hb) (fun c hc => ext_lt hc) (fun _ => rfl)
    · rw [OR, ext_same]
      refine ⟨cells, t, fr, hh, fun i v hi => ?_, fun h => by cases h⟩
      obtain ⟨v', h1, h2⟩ := hc i v hi
      exact ⟨v', h1, h2.mono (by omega) fun b hb => ext_lt hb⟩
  · rcases cases_ b u hu with ⟨hb, hu2⟩ | ⟨rfl, rfl⟩
    · rw [hro u (List.mem_of_getElem? hu2)] at hw
      cases hw
    · cases hw
  · rw [ext_lt (Nat.lt_of_lt_of_le hg hr.many)]; exact hr.glob g hg

theorem opens_trod (hl : laidOutB P = true) (hm : mapsRowed P = true) (hP : plainSet P L = true) : ∀ (n : Nat) (t : TypeId) (cs : List Value) (x : DataW X × List MemPlace), L.contains t = true →
    DataW.trod enc P W base (fun _ => true) held n t cs = some x → Opens P G W t cs x.1 := by
  intro n
  induction n with
  | zero => intro t cs x _ h; simp [DataW.trod] at h
  | succ n ih =>
    intro t cs x ht h
    have hk := mem_plain hP ht
    simp only [Bool.and_eq_true, decide_eq_true_eq] at hk
    obtain ⟨htp, hk⟩ := hk
    have K := kids_rows hl hm
    intro H ρ hro hr
    split at hk
    · rename_i hu
      obtain ⟨b, rfl, rfl⟩ := DataW.trod_bool hu h
      exact ⟨[], ρ, [.bool b], by simpa using hr, fun _ _ => rfl, fun o ho => (by cases ho), VL.cons (.bool b) VL.nil, .bool b hu⟩
    · rename_i k hu
      obtain ⟨m, rfl, rfl, hw⟩ := DataW.trod_int hu h
      exact ⟨[], ρ, [.int k m], by simpa using hr, fun _ _ => rfl, fun o ho => (by cases ho), VL.cons (.int k m) VL.nil, .int k m hu hw⟩
    · rename_i hu
      obtain ⟨s, rfl, rfl, hs⟩ := DataW.trod_string hu h
      exact ⟨[], ρ, [.string s], by simpa using hr, fun _ _ => rfl, fun o ho => (by cases ho), VL.cons (.string s) VL.nil, .str s.data.toList hu (by simpa using hs)⟩
    · rename_i fs hu
      obtain ⟨xs, m, hm1, rfl, hlen, hxl, hf⟩ := DataW.trod_struct hu h
      cases hm1
      obtain ⟨_, hsum, hoff⟩ := K.struct htp hu
      -- the fields, one by one
      have hget : ∀ (i : Nat) (f : Field) (y : DataW X × List MemPlace), fs[i]? = some f → xs[i]? = some y → DataW.trod enc P W base (fun _ => true) held n f.type ((cs.drop f.offset).take (P.cellsOf f.type)) = some y := fun i f y hfi hy => by
        rw [hf i f hfi, hy]
      let l : List (TypeId × List Value × DataW X) := (List.range fs.size).map fun i => ((fs[i]?.map (·.type)).getD 0, ((chunks (fs.toList.map fun f => P.cellsOf f.type) cs)[i]?).getD [], (xs[i]?.map (·.1)).getD .nil)
      have hl1 : ∀ i, i < fs.size → ∃ f y, fs[i]? = some f ∧ xs[i]? = some y ∧ l[i]? = some (f.type, (cs.drop f.offset).take (P.cellsOf f.type), y.1) := fun i hi => by
        have e1 : fs[i]? = some fs[i] := Array.getElem?_eq_getElem hi
        have e2 : xs[i]? = some (xs[i]'(by omega)) := List.getElem?_eq_getElem (by omega)
        refine ⟨_, _, e1, e2, ?_⟩
        have e3 : fs.toList[i]? = some fs[i] := by rw [Array.getElem?_toList]; exact e1
        have e4 := chunks_get (fs.toList.map fun f => P.cellsOf f.type) cs i (P.cellsOf fs[i].type) (by simp [hi])
        have e5 := hoff i _ e3
        rw [List.map_take] at e5
        rw [← e5] at e4
        simp only [l, List.getElem?_map, List.getElem?_range hi, Option.map_some, e1, e2, e4, Option.getD_some]
      have hlL : l.length = fs.size := by simp [l]
      obtain ⟨g, ρ', ass, hr', hs', hg', hal, hh⟩ := opens_list l (fun q hq => by
        obtain ⟨i, hi⟩ := List.getElem?_of_mem hq
        have hi2 : i < fs.size := by rw [← hlL]; exact (List.getElem?_eq_some_iff.1 hi).1
        obtain ⟨f, y, h1, h2, h3⟩ := hl1 i hi2
        rw [hi] at h3
        cases h3
        refine ih f.type _ y ?_ (hget i f y h1 h2)
        have hmem : f ∈ fs.toList := by
          have : fs.toList[i]? = some f := by simpa using h1
          exact List.mem_of_getElem? this
        exact List.all_eq_true.1 hk f hmem) H ρ hro hr
      refine ⟨g, ρ', ass.flatten, hr', hs', hg', ?_, ?_⟩
      · have hflat := chunks_flat (fs.toList.map fun f => P.cellsOf f.type) cs (by rw [hlen, hsum])
        rw [← hflat]
        refine VL.flat _ _ (by rw [hal, hlL, chunks_len]; simp) fun i a b ha hb => ?_
        have hi : i < fs.size := by rw [← hlL, ← hal]; exact (List.getElem?_eq_some_iff.1 ha).1
        obtain ⟨f, y, h1, h2, h3⟩ := hl1 i hi
        have e4 := chunks_get (fs.toList.map fun f => P.cellsOf f.type) cs i (P.cellsOf f.type) (by
          have : fs.toList[i]? = some f := by simpa using h1
          simp [this])
        have e5 := hoff i f (by simpa using h1)
        rw [List.map_take] at e5
        rw [← e5] at e4
        rw [hb] at e4
        cases e4
        exact (hh i _ a h3 ha).1
      · refine .struct hu (by simpa using hxl) (by rw [hal, hlL]) (fun i f d cz hfi hd ha => ?_) (fun i f cz hfi ha => ?_)
        · have hi : i < fs.size := (Array.getElem?_eq_some_iff.1 hfi).1
          obtain ⟨f', y, h1, h2, h3⟩ := hl1 i hi
          rw [hfi] at h1
          cases h1
          rw [List.getElem?_map, h2] at hd
          cases hd
          exact (hh i _ cz h3 ha).2
        · have hi : i < fs.size := (Array.getElem?_eq_some_iff.1 hfi).1
          obtain ⟨f', y, h1, h2, h3⟩ := hl1 i hi
          rw [hfi] at h1
          cases h1
          have := (hh i _ cz h3 ha).1.1
          rw [this]
          have e5 := hoff i f (by simpa using hfi)
          have hle : f.offset + P.cellsOf f.type ≤ cs.length := by
            rw [hlen, hsum, e5]
            have : fs.toList[i]? = some f := by simpa using hfi
            obtain ⟨h7, h8⟩ := List.getElem?_eq_some_iff.1 this
            have e6 : fs.toList = fs.toList.take i ++ f :: fs.toList.drop (i + 1) := by
              rw [← h8, ← List.drop_eq_getElem_cons h7, List.take_append_drop]
            conv => rhs; rw [e6]
            rw [List.map_append, List.sum_append, List.map_cons, List.sum_cons]
            omega
          rw [List.length_take, List.length_drop]
          omega
    · rename_i e hu
      simp only [Bool.and_eq_true, decide_eq_true_eq] at hk
      rcases DataW.trod_slice hu h with ⟨rfl, rfl⟩ | ⟨a, len, cap, elems, rest, m, hm1, rfl, rfl, hbase, hlc, hcm, hel, hge, _, _⟩
      · exact ⟨[], ρ, [.slice none 0 0], by simpa using hr, fun _ _ => rfl, fun o ho => (by cases ho), VL.cons .slNil VL.nil, .nilS hu⟩
      cases hm1
      by_cases h0 : elems = []
      · subst h0
        obtain rfl : len = 0 := by simpa using hel.symm
        exact ⟨[], ρ, [.slice (some ⟨0, 0, some 0⟩) 0 0], by simpa using hr, fun _ _ => rfl, fun o ho => (by cases ho), VL.cons (.slE 0 0 0 a cap) VL.nil, .empty hu⟩
      have hlen0 : 0 < len := by rw [← hel]; exact List.length_pos_iff.2 h0
      have hcell : ∀ i, i < len → ∃ csi y, W.cells? base (a.add (i * P.cellsOf e)) (P.cellsOf e) = some csi ∧ elems[i]? = some y ∧ DataW.trod enc P W base (fun _ => true) held n e csi = some y := fun i hi => by
        have h1 := hge i hi
        have h2 : elems[i]? = some (elems[i]'(by omega)) := List.getElem?_eq_getElem (by omega)
        rw [h2] at h1
        obtain ⟨csi, h3, h4⟩ := Option.bind_eq_some_iff.1 h1
        exact ⟨csi, _, h3, h2, h4⟩
      let css : List (List Value) := (List.range len).map fun i => (W.cells? base (a.add (i * P.cellsOf e)) (P.cellsOf e)).getD []
      have hcss : ∀ i, i < len → ∃ csi y, css[i]? = some csi ∧ W.cells? base (a.add (i * P.cellsOf e)) (P.cellsOf e) = some csi ∧ elems[i]? = some y ∧ DataW.trod enc P W base (fun _ => true) held n e csi = some y := fun i hi => by
        obtain ⟨csi, y, h1, h2, h3⟩ := hcell i hi
        exact ⟨csi, y, by simp [css, hi, h1], h1, h2, h3⟩
      have hcssL : css.length = len := by simp [css]
      let l : List (TypeId × List Value × DataW X) := (List.range len).map fun i => (e, (css[i]?).getD [], (elems[i]?.map (·.1)).getD .nil)
      have hl1 : ∀ i, i < len → ∃ csi y, css[i]? = some csi ∧ W.cells? base (a.add (i * P.cellsOf e)) (P.cellsOf e) = some csi ∧ elems[i]? = some y ∧ DataW.trod enc P W base (fun _ => true) held n e csi = some y ∧ l[i]? = some (e, csi, y.1) := fun i hi => by
        obtain ⟨csi, y, h1, h2, h3, h4⟩ := hcss i hi
        exact ⟨csi, y, h1, h2, h3, h4, by simp [l, hi, h1, h3]⟩
      have hlL : l.length = len := by simp [l]
      obtain ⟨g, ρ', ass, hr', hs', hg', hal, hh⟩ := opens_list l (fun q hq => by
        obtain ⟨i, hi⟩ := List.getElem?_of_mem hq
        have hi2 : i < len := by rw [← hlL]; exact (List.getElem?_eq_some_iff.1 hi).1
        obtain ⟨csi, y, h1, h2, h3, h4, h5⟩ := hl1 i hi2
        rw [hi] at h5
        cases h5
        exact ih e _ y hk.1 h4) H ρ hro hr
      have hasl : ∀ (i : Nat) (cz : List Value), ass[i]? = some cz → cz.length = P.cellsOf e := fun i cz ha => by
        have hi : i < len := by rw [← hlL, ← hal]; exact (List.getElem?_eq_some_iff.1 ha).1
        obtain ⟨csi, y, h1, h2, h3, h4, h5⟩ := hl1 i hi
        rw [(hh i _ cz h5 ha).1.1]
        exact (World.cells?_some h2).2.1
      -- the block itself
      obtain ⟨cs0, y0, g1, g2, _⟩ := hcell 0 hlen0
      obtain ⟨_, gl, gc⟩ := World.cells?_some g1
      have gc0 := gc 0 hk.2
      rw [Nat.zero_mul] at gc0
      have hadd : ∀ (k j : Nat), ((a.add k).add j) = if k + j = 0 then a else ⟨a.block, a.off + (k + j), none⟩ := fun k j => by
        unfold Addr.add
        by_cases hk0 : k = 0
        · subst hk0
          by_cases hj0 : j = 0
          · subst hj0; rfl
          · simp [hj0]
        · by_cases hj0 : j = 0
          · subst hj0; simp [hk0]
          · simp only [if_neg hk0, if_neg hj0, if_neg (show ¬ k + j = 0 by omega), Nat.add_assoc]
      have hblk : ∃ cells ty fr, W.heap[a.block]? = some (.cells cells ty fr) ∧ a.spot = none := by
        have h7 : W.cell? a = cs0[0]? := by simpa [hadd] using gc0
        have h8 : cs0[0]? = some (cs0[0]'(by omega)) := List.getElem?_eq_getElem (by omega)
        rw [h8] at h7
        unfold World.cell? at h7
        split at h7
        · rename_i c ty fr hc
          split at h7
          · cases h7
          · rename_i hsp
            exact ⟨c, ty, fr, hc, by simpa using hsp⟩
        · cases h7
      obtain ⟨cells, ty, fr, hh0, hsp⟩ := hblk
      have hcellat : ∀ (i : Nat) (v : Value), ass.flatten[i]? = some v → ∃ v', cells[a.off + i]? = some v' ∧ VR (H ++ g).length ρ' v v' := fun i v hv => by
        have hi : i < ass.flatten.length := (List.getElem?_eq_some_iff.1 hv).1
        rw [flat_len ass hasl, hal, hlL] at hi
        have hq : i / P.cellsOf e < len := (Nat.div_lt_iff_lt_mul hk.2).2 hi
        have hm2 : i % P.cellsOf e < P.cellsOf e := Nat.mod_lt _ hk.2
        have hid : i / P.cellsOf e * P.cellsOf e + i % P.cellsOf e = i := Nat.div_add_mod' i (P.cellsOf e)
        obtain ⟨csi, y, h1, h2, h3, h4, h5⟩ := hl1 _ hq
        have ha : ass[i / P.cellsOf e]? = some (ass[i / P.cellsOf e]'(by rw [hal, hlL]; exact hq)) := List.getElem?_eq_getElem _
        obtain ⟨hv1, _⟩ := hh _ _ _ h5 ha
        have hfg := flat_get hk.2 ass _ _ _ hasl ha hm2
        rw [hid, hv] at hfg
        obtain ⟨v', hv', hvr⟩ := hv1.get hfg.symm
        refine ⟨v', ?_, hvr⟩
        have h9 := (World.cells?_some h2).2.2 _ hm2
        rw [hadd, hid, hv'] at h9
        by_cases hi0 : i = 0
        · subst hi0
          simp only [if_true] at h9
          unfold World.cell? at h9
          rw [hh0, hsp] at h9
          simpa using h9
        · rw [if_neg hi0] at h9
          unfold World.cell? at h9
          simpa [hh0] using h9
      have hr2 := rel_row (a := a) (cs := ass.flatten) (ext0 := cap - len) (ro_app hro hg') hr' hh0 hcellat
      refine ⟨g ++ [.row ass.flatten 0 false], ext ρ' (H ++ g).length ⟨a.block, a.off, cap - len⟩, [.slice (some ⟨(H ++ g).length, 0, none⟩) len len], by rw [← List.append_assoc]; exact hr2, fun b hb => ?_, fun o ho => ?_, ?_, ?_⟩
      · rw [ext_lt (by rw [List.length_append]; omega)]; exact hs' b hb
      · rcases List.mem_append.1 ho with ho | ho
        · exact hg' o ho
        · rw [List.mem_singleton.1 ho]; exact ⟨_, rfl⟩
      · have := VR.sl (n := (H ++ (g ++ [AObj.row ass.flatten 0 false])).length) (ρ := ext ρ' (H ++ g).length ⟨a.block, a.off, cap - len⟩) (H ++ g).length 0 len len cap (by simp only [List.length_append, List.length_cons, List.length_nil]; omega) (Nat.le_refl _) hlc (by rw [ext_same]; show cap ≤ len + (cap - len); omega)
        rw [ext_same, Nat.add_zero] at this
        have ha2 : (⟨a.block, a.off, none⟩ : Addr) = a := by rw [← hsp]
        rw [ha2] at this
        exact VL.cons this VL.nil
      · have := Rep.slice (P := P) (H := H ++ (g ++ [AObj.row ass.flatten 0 false])) (t := t) (e := e) (b := (H ++ g).length) (ds := elems.map (·.1)) (sp := rest.map (·.1)) (ass := ass) hu (by simpa using h0) (by rw [← List.append_assoc]; exact hget_last _ _) (by rw [hal, hlL, List.length_map, hel])
          (fun i d cz hd ha => by
            have hi : i < len := by rw [← hlL, ← hal]; exact (List.getElem?_eq_some_iff.1 ha).1
            obtain ⟨csi, y, h1, h2, h3, h4, h5⟩ := hl1 i hi
            rw [List.getElem?_map, h3] at hd
            cases hd
            have := (hh i _ cz h5 ha).2
            rw [← List.append_assoc]
            exact this.mono) hasl
        rw [List.length_map, hel] at this
        exact this
    · cases hk

/-! ### The call's end -/

def slicesPos (P : Program) : Bool := (List.range P.types.size).all fun t => match P.underlying t with
  | some (.slice e) => decide (0 < P.cellsOf e)
  | _ => true

theorem args_stay {W' : World} (hl : laidOutB P = true) (hm : mapsRowed P = true) (hp : slicesPos P = true) (bel : Below W.heap.size W W') :
    ∀ {ts : List TypeId} {vs : List Value} {ds : List (DataW X)} {ps : List MemPlace}, (∀ t ∈ ts, t < P.types.size) → DataW.TrodAll enc P W 0 (fun _ => true) true ts vs ds ps →
      DataW.TrodAll enc P W' 0 (fun b => decide (b < W.heap.size)) true ts vs ds ps
  | [], vs, ds, ps, _, h => by
    obtain ⟨rfl, rfl, rfl⟩ := trodAll_nil h
    rfl
  | t :: ts, vs, ds, ps, ht, h => by
    obtain ⟨v, vs1, d, ds1, p, q, rfl, rfl, rfl, ⟨fuel, h1⟩, h2⟩ := trodAll_cons h
    have hlt := DataW.trod_lt fuel t v.cells.toList _ h1
    refine ⟨p, q, ⟨fuel, DataW.trod_stays (kids_rows hl hm) (fun {t e} htt hu => ?_) (fun h => by cases h) (ht t (by simp)) h1 (fun x hx => bel.same (hlt x hx)) (fun x hx => by simpa using hlt x hx)⟩, args_stay hl hm hp bel (fun u hu => ht u (by simp [hu])) h2, rfl⟩
    have := List.all_eq_true.1 hp t (List.mem_range.2 htt)
    simpa [hu] using this

/-! ### The call's arguments -/

/-- An argument tells some data. -/
def ArgRep (P : Program) (H : Heap) (t : TypeId) (d : DataW X) (a : Value) : Prop := ∃ cz, Rep P H t d cz ∧ (((∃ fs, P.underlying t = some (.struct fs)) ∧ a = .agg cz.toArray) ∨ cz = [a])

theorem ArgRep.mono {H g : Heap} {t : TypeId} {d : DataW X} {a : Value} (h : ArgRep P H t d a) : ArgRep P (H ++ g) t d a := by
  obtain ⟨cz, h1, h2⟩ := h
  exact ⟨cz, h1.mono, h2⟩

theorem vr_single {n : Nat} {ρ : Nat → Place} {a : Value} {v : Value} (h : VL n ρ [a] v.cells.toList) (hv : ∀ cs, v ≠ .agg cs) : VR n ρ a v := by
  have : v.cells.toList = [v] := by
    cases v <;> first | rfl | exact absurd rfl (hv _)
  rw [this] at h
  exact h.head

theorem open_args (hl : laidOutB P = true) (hm : mapsRowed P = true) (hP : plainSet P L = true) {r : Reach} {b0 : Nat} : ∀ {ts : List TypeId} {vs : List Value} {ds : List (DataW X)} {ps : List MemPlace},
    (∀ t ∈ ts, L.contains t = true) → DataW.TrodAll enc P W base (fun _ => true) held ts vs ds ps → (∀ (j : Nat) t v, ts[j]? = some t → vs[j]? = some v → Value.okWide P W r b0 t v) →
    ∀ (H : Heap) (ρ : Nat → Place), (∀ o ∈ H, o.wrt = false) → Rel G ρ H W → ∃ (g : Heap) (ρ' : Nat → Place) (avs : List Value), Rel G ρ' (H ++ g) W ∧ (∀ b, b < H.length → ρ' b = ρ b) ∧ (∀ o ∈ g, ∃ c, o = .row c 0 false) ∧
      VL (H ++ g).length ρ' avs vs ∧ avs.length = ts.length ∧ ∀ (j : Nat) t d a, ts[j]? = some t → ds[j]? = some d → avs[j]? = some a → ArgRep P (H ++ g) t d a
  | [], vs, ds, ps, _, h, _, H, ρ, hro, hr => by
    obtain ⟨rfl, rfl, rfl⟩ := trodAll_nil h
    exact ⟨[], ρ, [], by simpa using hr, fun _ _ => rfl, fun o ho => (by cases ho), VL.nil, rfl, fun j t d a h => by simp at h⟩
  | t :: ts, vs, ds, ps, hts, h, hok, H, ρ, hro, hr => by
    obtain ⟨v, vs1, d, ds1, p, q, rfl, rfl, rfl, ⟨fuel, h1⟩, h2⟩ := trodAll_cons h
    have htc := hts t (by simp)
    obtain ⟨g, ρ1, cz, hr1, hs1, hg1, hv1, hp1⟩ := opens_trod (G := G) hl hm hP fuel t _ _ htc h1 H ρ hro hr
    obtain ⟨g2, ρ2, avs, hr2, hs2, hg2, hv2, hl2, hh⟩ := open_args hl hm hP (fun u hu => hts u (by simp [hu])) h2 (fun j t v hj hv => hok (j + 1) t v (by simpa using hj) (by simpa using hv)) (H ++ g) ρ1 (ro_app hro hg1) hr1
    rw [List.append_assoc] at hr2 hh hv2
    have hval := hok 0 t v rfl rfl
    have hk := mem_plain hP htc
    simp only [Bool.and_eq_true, decide_eq_true_eq] at hk
    obtain ⟨_, hk⟩ := hk
    have single : (∀ cs, v ≠ .agg cs) → (∃ a, cz = [a]) → ∃ a, VR (H ++ g).length ρ1 a v ∧ ArgRep P (H ++ g) t d a := fun hna ⟨a, ha⟩ => by
      subst ha
      exact ⟨a, vr_single hv1 hna, [a], hp1, .inr rfl⟩
    have one : (∀ cs, v ≠ .agg cs) → ∃ a, cz = [a] := fun hna => by
      have : v.cells.toList = [v] := by
        cases v <;> first | rfl | exact absurd rfl (hna _)
      have h3 := hv1.1
      rw [this] at h3
      match cz, h3 with
      | [a], _ => exact ⟨a, rfl⟩
    have hex : ∃ a, VR (H ++ g).length ρ1 a v ∧ ArgRep P (H ++ g) t d a := by
      split at hk
      · rename_i hu
        obtain ⟨b, rfl⟩ := okWide_bool hu hval
        exact single (fun _ h => by cases h) (one fun _ h => by cases h)
      · rename_i k hu
        obtain ⟨b, rfl⟩ := okWide_int hu hval
        exact single (fun _ h => by cases h) (one fun _ h => by cases h)
      · rename_i hu
        obtain ⟨b, rfl⟩ := okWide_string hu hval
        exact single (fun _ h => by cases h) (one fun _ h => by cases h)
      · rename_i fs hu
        obtain ⟨cs, rfl, _⟩ := okWide_struct hu hval
        refine ⟨.agg cz.toArray, ?_, cz, hp1, .inl ⟨⟨fs, hu⟩, rfl⟩⟩
        have := hv1.agg
        simpa [Value.cells] using this
      · rename_i e hu
        obtain ⟨a, l, c, rfl⟩ := okWide_slice hu hval
        exact single (fun _ h => by cases h) (one fun _ h => by cases h)
      · cases hk
    obtain ⟨a, ha1, ha2⟩ := hex
    refine ⟨g ++ g2, ρ2, a :: avs, hr2, fun b hb => (hs2 b (by simp; omega)).trans (hs1 b hb), fun o ho => ?_, VL.cons (ha1.mono (by simp) hs2) hv2, by simp [hl2], fun j t' d' a' hj hd ha => ?_⟩
    · rcases List.mem_append.1 ho with ho | ho
      · exact hg1 o ho
      · exact hg2 o ho
    · cases j with
      | zero =>
        simp at hj hd ha
        subst hj; subst hd; subst ha
        rw [← List.append_assoc]
        exact ha2.mono
      | succ j => exact hh j t' d' a' (by simpa using hj) (by simpa using hd) (by simpa using ha)

/-! ### What an argument is -/

theorem Rep.inv_int {H : Heap} {t : TypeId} {k : IntKind} {d : DataW X} {cz : List Value} (hu : P.underlying t = some (.int k)) (h : Rep P H t d cz) : ∃ n, d = .lit (.int k n) ∧ cz = [.int k n] ∧ (Lit.int k n).wf = true := by
  cases h with
  | int k' n hu' hw => rw [hu] at hu'; cases hu'; exact ⟨n, rfl, rfl, hw⟩
  | bool b hu' => rw [hu] at hu'; cases hu'
  | str l hu' hl => rw [hu] at hu'; cases hu'
  | struct hu' => rw [hu] at hu'; cases hu'
  | nilS hu' => rw [hu] at hu'; cases hu'
  | empty hu' => rw [hu] at hu'; cases hu'
  | slice hu' => rw [hu] at hu'; cases hu'

theorem Rep.inv_bool {H : Heap} {t : TypeId} {d : DataW X} {cz : List Value} (hu : P.underlying t = some .bool) (h : Rep P H t d cz) : ∃ b, d = .lit (.bool b) ∧ cz = [.bool b] := by
  cases h with
  | int k' n hu' hw => rw [hu] at hu'; cases hu'
  | bool b hu' => exact ⟨b, rfl, rfl⟩
  | str l hu' hl => rw [hu] at hu'; cases hu'
  | struct hu' => rw [hu] at hu'; cases hu'
  | nilS hu' => rw [hu] at hu'; cases hu'
  | empty hu' => rw [hu] at hu'; cases hu'
  | slice hu' => rw [hu] at hu'; cases hu'

theorem Rep.inv_str {H : Heap} {t : TypeId} {d : DataW X} {cz : List Value} (hu : P.underlying t = some .string) (h : Rep P H t d cz) : ∃ l, d = .lit (.string l) ∧ cz = [.string (bs l)] ∧ l.length ≤ maxLen := by
  cases h with
  | int k' n hu' hw => rw [hu] at hu'; cases hu'
  | bool b hu' => rw [hu] at hu'; cases hu'
  | str l hu' hl => exact ⟨l, rfl, rfl, hl⟩
  | struct hu' => rw [hu] at hu'; cases hu'
  | nilS hu' => rw [hu] at hu'; cases hu'
  | empty hu' => rw [hu] at hu'; cases hu'
  | slice hu' => rw [hu] at hu'; cases hu'

theorem Rep.inv_struct {H : Heap} {t : TypeId} {fs : Array Field} {d : DataW X} {cz : List Value} (hu : P.underlying t = some (.struct fs)) (h : Rep P H t d cz) : ∃ (ds : List (DataW X)) (ass : List (List Value)), d = .agg ds ∧ cz = ass.flatten ∧ ds.length = fs.size ∧ ass.length = fs.size ∧
    ∀ (i : Nat) (f : Field) (d : DataW X) (cz : List Value), fs[i]? = some f → ds[i]? = some d → ass[i]? = some cz → Rep P H f.type d cz := by
  cases h with
  | int k' n hu' hw => rw [hu] at hu'; cases hu'
  | bool b hu' => rw [hu] at hu'; cases hu'
  | str l hu' hl => rw [hu] at hu'; cases hu'
  | struct hu' h1 h2 h3 h4 => rw [hu] at hu'; cases hu'; exact ⟨_, _, rfl, rfl, h1, h2, h3⟩
  | nilS hu' => rw [hu] at hu'; cases hu'
  | empty hu' => rw [hu] at hu'; cases hu'
  | slice hu' => rw [hu] at hu'; cases hu'

theorem Rep.inv_slice {H : Heap} {t e : TypeId} {d : DataW X} {cz : List Value} (hu : P.underlying t = some (.slice e)) (h : Rep P H t d cz) : (d = .nil ∧ cz = [.slice none 0 0]) ∨ (∃ sp, d = .slice [] sp ∧ cz = [.slice (some ⟨0, 0, some 0⟩) 0 0]) ∨
    ∃ (b : Nat) (ds sp : List (DataW X)) (ass : List (List Value)), d = .slice ds sp ∧ ds ≠ [] ∧ cz = [.slice (some ⟨b, 0, none⟩) ds.length ds.length] ∧ hget H b = .row ass.flatten 0 false ∧ ass.length = ds.length ∧
      (∀ (i : Nat) (d : DataW X) (cz : List Value), ds[i]? = some d → ass[i]? = some cz → Rep P H e d cz) ∧ (∀ (i : Nat) (cz : List Value), ass[i]? = some cz → cz.length = P.cellsOf e) := by
  cases h with
  | int k' n hu' hw => rw [hu] at hu'; cases hu'
  | bool b hu' => rw [hu] at hu'; cases hu'
  | str l hu' hl => rw [hu] at hu'; cases hu'
  | struct hu' => rw [hu] at hu'; cases hu'
  | nilS hu' => exact .inl ⟨rfl, rfl⟩
  | empty hu' => exact .inr (.inl ⟨_, rfl, rfl⟩)
  | slice hu' hne hb h2 h3 h4 => rw [hu] at hu'; cases hu'; exact .inr (.inr ⟨_, _, _, _, rfl, hne, rfl, hb, h2, h3, h4⟩)

/-- A struct of two fields. -/
theorem Rep.inv_two {H : Heap} {t : TypeId} {f0 f1 : Field} {d : DataW X} {cz : List Value} (hu : P.underlying t = some (.struct #[f0, f1])) (h : Rep P H t d cz) : ∃ d0 d1 a0 a1, d = .agg [d0, d1] ∧ cz = a0 ++ a1 ∧ Rep P H f0.type d0 a0 ∧ Rep P H f1.type d1 a1 := by
  obtain ⟨ds, ass, rfl, rfl, h1, h2, h3⟩ := h.inv_struct hu
  match ds, ass, h1, h2, h3 with
  | [d0, d1], [a0, a1], _, _, h3 => exact ⟨d0, d1, a0, a1, rfl, by simp, h3 0 f0 d0 a0 rfl rfl rfl, h3 1 f1 d1 a1 rfl rfl rfl⟩

/-- An unsigned number of 64 bits. -/
theorem Rep.inv_u64 {H : Heap} {t : TypeId} {d : DataW X} {cz : List Value} (hu : P.underlying t = some (.int .u64)) (h : Rep P H t d cz) : ∃ n : Nat, d = .lit (.int .u64 n) ∧ cz = [.int .u64 (n : Int)] ∧ n < 18446744073709551616 := by
  obtain ⟨n, rfl, rfl, hw⟩ := h.inv_int hu
  have hw : (0 : Int) ≤ n ∧ n ≤ 18446744073709551615 := by
    simpa [Lit.wf, IntKind.min, IntKind.max, IntKind.signed, IntKind.bits] using hw
  refine ⟨n.toNat, ?_, ?_, by omega⟩ <;> rw [Int.toNat_of_nonneg hw.1]

/-- A number of 64 bits. -/
theorem Rep.inv_i64 {H : Heap} {t : TypeId} {d : DataW X} {cz : List Value} (hu : P.underlying t = some (.int .i64)) (h : Rep P H t d cz) : ∃ n : Int, d = .lit (.int .i64 n) ∧ cz = [.int .i64 n] ∧ -9223372036854775808 ≤ n ∧ n < 9223372036854775808 := by
  obtain ⟨n, rfl, rfl, hw⟩ := h.inv_int hu
  have hw : (-9223372036854775808 : Int) ≤ n ∧ n ≤ 9223372036854775807 := by
    simpa [Lit.wf, IntKind.min, IntKind.max, IntKind.signed, IntKind.bits] using hw
  exact ⟨n, rfl, rfl, hw.1, by omega⟩

end

end Go.Proofs.YtpllhhaeclnngaaGreat.Ev

/- A schema that comes in, in memory. -/
namespace Go.Proofs.YtpllhhaeclnngaaGreat.Ev
open Go.ChangeShapes Go.WideShapes Go.ChangeAt Go.RowKit
set_option maxRecDepth 100000
set_option linter.unusedVariables false

section
variable {X : Type} {H : Heap}

/-- All its weights have room. -/
def Room (t : TypeId) (d : DataW X) : Prop := ∀ w ∈ d.weights Tryz.prog t, w ≤ reachBytes

theorem rep_structL {t : TypeId} {fs : Array Field} {d : DataW X} {cz : List Value} (hu : Tryz.prog.underlying t = some (.struct fs)) (h : Rep Tryz.prog H t d cz) (hw : Room t d) : ∃ (ds : List (DataW X)) (ass : List (List Value)), d = .agg ds ∧ cz = ass.flatten ∧ ds.length = fs.size ∧ ass.length = fs.size ∧
    (∀ (i : Nat) (f : Field) (d : DataW X) (cz : List Value), fs[i]? = some f → ds[i]? = some d → ass[i]? = some cz → Rep Tryz.prog H f.type d cz ∧ Room f.type d) := by
  cases h with
  | int k' n hu' hw => rw [hu] at hu'; cases hu'
  | bool b hu' => rw [hu] at hu'; cases hu'
  | str l hu' hl => rw [hu] at hu'; cases hu'
  | struct hu' h1 h2 h3 h4 =>
    rw [hu] at hu'; cases hu'
    refine ⟨_, _, rfl, rfl, h1, h2, fun i f d cz hf hd hc => ⟨h3 i f d cz hf hd hc, fun w hh => hw w ?_⟩⟩
    simp only [DataW.weights, hu]
    refine DataW.weights_mem_each (j := i) (t := f.type) ?_ hd w hh
    rw [List.getElem?_map, Array.getElem?_toList, hf]; rfl
  | nilS hu' => rw [hu] at hu'; cases hu'
  | empty hu' => rw [hu] at hu'; cases hu'
  | slice hu' => rw [hu] at hu'; cases hu'

theorem weights_all {P : Program} {e : TypeId} : ∀ {ds : List (DataW X)} {d : DataW X}, d ∈ ds → ∀ n ∈ d.weights P e, n ∈ DataW.weightsAll P e ds
  | [], d, h, _, _ => by cases h
  | d0 :: ds, d, h, n, hn => by
    simp only [DataW.weightsAll, List.mem_append]
    rcases List.mem_cons.1 h with rfl | h
    · exact .inl hn
    · exact .inr (weights_all h n hn)

theorem list_rep {α : Type} {e : TypeId} {f : α → List Value} {ok : α → Prop} (S : DataW X → Prop) (hone : ∀ (d : DataW X) cz, S d → Rep Tryz.prog H e d cz → Room e d → ∃ x, cz = f x ∧ ok x) :
    ∀ (ds : List (DataW X)) (ass : List (List Value)), ass.length = ds.length → (∀ d ∈ ds, S d) → (∀ d ∈ ds, Room e d) → (∀ (i : Nat) (d : DataW X) (cz : List Value), ds[i]? = some d → ass[i]? = some cz → Rep Tryz.prog H e d cz) →
      ∃ l : List α, ass = l.map f ∧ ∀ x ∈ l, ok x
  | [], [], _, _, _, _ => ⟨[], rfl, fun x hx => by cases hx⟩
  | [], _ :: _, h, _, _, _ => by simp at h
  | _ :: _, [], h, _, _, _ => by simp at h
  | d :: ds, cz :: ass, h, hS, hw, hr => by
    obtain ⟨l, e1, e2⟩ := list_rep S hone ds ass (by simpa using h) (fun q hq => hS q (by simp [hq])) (fun q hq => hw q (by simp [hq])) fun i d' cz' hd hc => hr (i + 1) d' cz' (by simpa using hd) (by simpa using hc)
    obtain ⟨x, e3, e4⟩ := hone d cz (hS d (by simp)) (hr 0 d cz rfl rfl) (hw d (by simp))
    refine ⟨x :: l, by rw [e1, e3]; rfl, fun y hy => ?_⟩
    rcases List.mem_cons.1 hy with rfl | hy
    · exact e4
    · exact e2 y hy

theorem slice_rep {α : Type} {t e : TypeId} {f : α → List Value} {ok : α → Prop} (hone : ∀ (d : DataW X) cz, Rep Tryz.prog H e d cz → Room e d → ∃ x, cz = f x ∧ ok x) (hu : Tryz.prog.underlying t = some (.slice e)) {d : DataW X} {cz : List Value} (h : Rep Tryz.prog H t d cz) (hw : Room t d) :
    ∃ (v : Value) (l : List α), cz = [v] ∧ RoSl H v (l.map f) ∧ l.length * Tryz.prog.bytesOf e ≤ 140737488355328 ∧ ∀ x ∈ l, ok x := by
  rcases h.inv_slice hu with ⟨rfl, e⟩ | ⟨sp, rfl, e⟩ | ⟨b, ds, sp, ass, rfl, hds, e, hb, h2, h3, h4⟩
  · exact ⟨_, [], e, .inl ⟨rfl, .inl rfl⟩, by simp, fun x hx => by cases hx⟩
  · exact ⟨_, [], e, .inl ⟨rfl, .inr ⟨_, _, _, rfl⟩⟩, by simp, fun x hx => by cases hx⟩
  · simp only [Room, DataW.weights, hu] at hw
    obtain ⟨l, e1, e2⟩ := list_rep (fun _ => True) (fun d cz _ => hone d cz) ds ass h2 (fun _ _ => trivial) (fun q hq w hh => hw w (by simp only [List.mem_cons, List.mem_append]; exact .inr (.inl (weights_all hq w hh)))) h3
    have hln : l.length = ds.length := by rw [← h2, e1, List.length_map]
    have hlen := hw _ (List.mem_cons_self ..)
    have hlt := reachBytes_lt
    refine ⟨_, l, e, .inr ⟨b, by rw [List.length_map, hln], hget_lt hb rfl, 0, false, by rw [hb, e1]⟩, ?_, e2⟩
    rw [hln]
    refine Nat.le_trans (Nat.mul_le_mul_right _ (Nat.le_add_right ds.length sp.length)) ?_
    have : reachBytes < 140737488355328 := by simpa using hlt
    omega

theorem fld_rep (d : DataW X) (cz : List Value) (h : Rep Tryz.prog H 80 d cz) (hw : Room 80 d) : ∃ x : Fld, cz = x.cells ∧ x.OK := by
  obtain ⟨ds, ass, rfl, rfl, p1, p2, p3⟩ := rep_structL Tryz.underlying80 h hw
  match ds, ass, p1, p2, p3 with
  | [d0, d1], [a0, a1], _, _, p3 =>
    obtain ⟨t, _, rfl, _⟩ := (p3 0 _ d0 a0 rfl rfl rfl).1.inv_str Tryz.underlying9
    obtain ⟨k, _, rfl, k1, k2⟩ := (p3 1 _ d1 a1 rfl rfl rfl).1.inv_i64 Tryz.underlying3
    exact ⟨⟨t, k⟩, rfl, k1, k2⟩
theorem rf_rep (d : DataW X) (cz : List Value) (h : Rep Tryz.prog H 45 d cz) (hw : Room 45 d) : ∃ x : Rf, cz = x.cells := by
  obtain ⟨ds, ass, rfl, rfl, p1, p2, p3⟩ := rep_structL Tryz.underlying45 h hw
  match ds, ass, p1, p2, p3 with
  | [d0, d1], [a0, a1], _, _, p3 =>
    obtain ⟨t, _, rfl, _⟩ := (p3 0 _ d0 a0 rfl rfl rfl).1.inv_str Tryz.underlying9
    obtain ⟨k, _, rfl, _⟩ := (p3 1 _ d1 a1 rfl rfl rfl).1.inv_str Tryz.underlying9
    exact ⟨⟨t, k⟩, rfl⟩
theorem bt_rep (d : DataW X) (cz : List Value) (h : Rep Tryz.prog H 102 d cz) (hw : Room 102 d) : ∃ x : Bt, cz = x.cells ∧ x.OK := by
  obtain ⟨ds, ass, rfl, rfl, p1, p2, p3⟩ := rep_structL Tryz.underlying102 h hw
  match ds, ass, p1, p2, p3 with
  | [d0, d1], [a0, a1], _, _, p3 =>
    obtain ⟨t, _, rfl, t1⟩ := (p3 0 _ d0 a0 rfl rfl rfl).1.inv_u64 Tryz.underlying100
    obtain ⟨k, _, rfl, k1⟩ := (p3 1 _ d1 a1 rfl rfl rfl).1.inv_u64 Tryz.underlying100
    exact ⟨⟨t, k⟩, rfl, t1, k1⟩
theorem opd_rep (d : DataW X) (cz : List Value) (h : Rep Tryz.prog H 104 d cz) (hw : Room 104 d) : ∃ x : Opd, cz = x.cells ∧ x.OK := by
  obtain ⟨ds, ass, rfl, rfl, p1, p2, p3⟩ := rep_structL Tryz.underlying104 h hw
  match ds, ass, p1, p2, p3 with
  | [d0, d1], [a0, a1], _, _, p3 =>
    obtain ⟨r, rfl⟩ := rf_rep d0 a0 (p3 0 _ d0 a0 rfl rfl rfl).1 (p3 0 _ d0 a0 rfl rfl rfl).2
    obtain ⟨b, rfl, hb⟩ := bt_rep d1 a1 (p3 1 _ d1 a1 rfl rfl rfl).1 (p3 1 _ d1 a1 rfl rfl rfl).2
    exact ⟨⟨r, b⟩, rfl, hb⟩
theorem tst_rep (d : DataW X) (cz : List Value) (h : Rep Tryz.prog H 106 d cz) (hw : Room 106 d) : ∃ x : Tst, cz = x.cells ∧ (I64 x.kind ∧ x.a.OK ∧ x.b.OK) := by
  obtain ⟨ds, ass, rfl, rfl, p1, p2, p3⟩ := rep_structL Tryz.underlying106 h hw
  match ds, ass, p1, p2, p3 with
  | [d0, d1, d2], [a0, a1, a2], _, _, p3 =>
    obtain ⟨k, _, rfl, k1, k2⟩ := (p3 0 _ d0 a0 rfl rfl rfl).1.inv_i64 Tryz.underlying3
    obtain ⟨a, rfl, ha⟩ := opd_rep d1 a1 (p3 1 _ d1 a1 rfl rfl rfl).1 (p3 1 _ d1 a1 rfl rfl rfl).2
    obtain ⟨b, rfl, hb⟩ := opd_rep d2 a2 (p3 2 _ d2 a2 rfl rfl rfl).1 (p3 2 _ d2 a2 rfl rfl rfl).2
    exact ⟨⟨k, a, b⟩, rfl, ⟨k1, k2⟩, ha, hb⟩
theorem cas_rep (d : DataW X) (cz : List Value) (h : Rep Tryz.prog H 122 d cz) (hw : Room 122 d) : ∃ x : Cas, cz = x.cells ∧ x.OK := by
  obtain ⟨ds, ass, rfl, rfl, p1, p2, p3⟩ := rep_structL Tryz.underlying122 h hw
  match ds, ass, p1, p2, p3 with
  | [d0, d1, d2], [a0, a1, a2], _, _, p3 =>
    obtain ⟨a, rfl, ha⟩ := bt_rep d0 a0 (p3 0 _ d0 a0 rfl rfl rfl).1 (p3 0 _ d0 a0 rfl rfl rfl).2
    obtain ⟨b, rfl, hb⟩ := bt_rep d1 a1 (p3 1 _ d1 a1 rfl rfl rfl).1 (p3 1 _ d1 a1 rfl rfl rfl).2
    obtain ⟨t, _, rfl, _⟩ := (p3 2 _ d2 a2 rfl rfl rfl).1.inv_str Tryz.underlying9
    exact ⟨⟨a, b, t⟩, rfl, ha, hb⟩
theorem ky_rep (d : DataW X) (cz : List Value) (h : Rep Tryz.prog H 143 d cz) (hw : Room 143 d) : ∃ x : Ky, cz = x.cells ∧ x.OK := by
  obtain ⟨ds, ass, rfl, rfl, p1, p2, p3⟩ := rep_structL Tryz.underlying143 h hw
  match ds, ass, p1, p2, p3 with
  | [d0, d1], [a0, a1], _, _, p3 =>
    obtain ⟨r, rfl⟩ := rf_rep d0 a0 (p3 0 _ d0 a0 rfl rfl rfl).1 (p3 0 _ d0 a0 rfl rfl rfl).2
    obtain ⟨k, _, rfl, k1, k2⟩ := (p3 1 _ d1 a1 rfl rfl rfl).1.inv_i64 Tryz.underlying3
    exact ⟨⟨r, k⟩, rfl, k1, k2⟩
theorem stp_rep (d : DataW X) (cz : List Value) (h : Rep Tryz.prog H 137 d cz) (hw : Room 137 d) : ∃ x : Stp, cz = x.cells ∧ x.OK := by
  obtain ⟨ds, ass, rfl, rfl, p1, p2, p3⟩ := rep_structL Tryz.underlying137 h hw
  match ds, ass, p1, p2, p3 with
  | [d0, d1, d2, d3, d4], [a0, a1, a2, a3, a4], _, _, p3 =>
    obtain ⟨k, _, rfl, k1, k2⟩ := (p3 0 _ d0 a0 rfl rfl rfl).1.inv_i64 Tryz.underlying3
    obtain ⟨r, rfl⟩ := rf_rep d1 a1 (p3 1 _ d1 a1 rfl rfl rfl).1 (p3 1 _ d1 a1 rfl rfl rfl).2
    obtain ⟨o, _, rfl, q1, q2⟩ := (p3 2 _ d2 a2 rfl rfl rfl).1.inv_i64 Tryz.underlying3
    obtain ⟨a, rfl, ha⟩ := opd_rep d3 a3 (p3 3 _ d3 a3 rfl rfl rfl).1 (p3 3 _ d3 a3 rfl rfl rfl).2
    obtain ⟨b, rfl, hb⟩ := opd_rep d4 a4 (p3 4 _ d4 a4 rfl rfl rfl).1 (p3 4 _ d4 a4 rfl rfl rfl).2
    exact ⟨⟨k, r, o, a, b⟩, rfl, ⟨k1, k2⟩, ⟨q1, q2⟩, ha, hb⟩
theorem tx_rep (d : DataW X) (cz : List Value) (h : Rep Tryz.prog H 9 d cz) (hw : Room 9 d) : ∃ x : List UInt8, cz = txC x ∧ True := by
  obtain ⟨t, _, rfl, _⟩ := h.inv_str Tryz.underlying9
  exact ⟨t, rfl, trivial⟩

theorem fldL_rep {d : DataW X} {cz : List Value} (h : Rep Tryz.prog H 28 d cz) (hw : Room 28 d) : ∃ v l, cz = [v] ∧ FldL H v l := by
  obtain ⟨v, l, e, h1, h2, h3⟩ := slice_rep fld_rep Tryz.underlying28 h hw
  exact ⟨v, l, e, h1, (by have hb : Tryz.prog.bytesOf 80 = 24 := by kernel_rfl
                          rw [hb] at h2; exact h2), h3⟩
theorem btL_rep {d : DataW X} {cz : List Value} (h : Rep Tryz.prog H 46 d cz) (hw : Room 46 d) : ∃ v l, cz = [v] ∧ BtL H v l := by
  obtain ⟨v, l, e, h1, h2, h3⟩ := slice_rep bt_rep Tryz.underlying46 h hw
  exact ⟨v, l, e, h1, (by have hb : Tryz.prog.bytesOf 102 = 16 := by kernel_rfl
                          rw [hb] at h2; exact h2), h3⟩
theorem txL_rep {d : DataW X} {cz : List Value} (h : Rep Tryz.prog H 39 d cz) (hw : Room 39 d) : ∃ v l, cz = [v] ∧ TxL H v l := by
  obtain ⟨v, l, e, h1, h2, h3⟩ := slice_rep tx_rep Tryz.underlying39 h hw
  exact ⟨v, l, e, h1, (by have hb : Tryz.prog.bytesOf 9 = 16 := by kernel_rfl
                          rw [hb] at h2; exact h2)⟩
theorem hdr_rep (d : DataW X) (cz : List Value) (h : Rep Tryz.prog H 57 d cz) (hw : Room 57 d) : ∃ x : Hdr, cz = x.cells ∧ x.OK H := by
  obtain ⟨ds, ass, rfl, rfl, p1, p2, p3⟩ := rep_structL Tryz.underlying57 h hw
  match ds, ass, p1, p2, p3 with
  | [d0, d1], [a0, a1], _, _, p3 =>
    obtain ⟨t, _, rfl, _⟩ := (p3 0 _ d0 a0 rfl rfl rfl).1.inv_str Tryz.underlying9
    obtain ⟨v, l, rfl, hl⟩ := fldL_rep (p3 1 _ d1 a1 rfl rfl rfl).1 (p3 1 _ d1 a1 rfl rfl rfl).2
    exact ⟨⟨t, v, l⟩, rfl, hl⟩
theorem sta_rep (d : DataW X) (cz : List Value) (h : Rep Tryz.prog H 119 d cz) (hw : Room 119 d) : ∃ x : Sta, cz = x.cells ∧ x.OK H := by
  obtain ⟨ds, ass, rfl, rfl, p1, p2, p3⟩ := rep_structL Tryz.underlying119 h hw
  match ds, ass, p1, p2, p3 with
  | [d0, d1, d2, d3, d4], [a0, a1, a2, a3, a4], _, _, p3 =>
    obtain ⟨t, _, rfl, _⟩ := (p3 0 _ d0 a0 rfl rfl rfl).1.inv_str Tryz.underlying9
    obtain ⟨t1, _, rfl, _⟩ := (p3 1 _ d1 a1 rfl rfl rfl).1.inv_str Tryz.underlying9
    obtain ⟨r, rfl⟩ := rf_rep d2 a2 (p3 2 _ d2 a2 rfl rfl rfl).1 (p3 2 _ d2 a2 rfl rfl rfl).2
    obtain ⟨v, l, rfl, h1, h2, h3⟩ := slice_rep cas_rep Tryz.underlying117 (p3 3 _ d3 a3 rfl rfl rfl).1 (p3 3 _ d3 a3 rfl rfl rfl).2
    obtain ⟨t4, _, rfl, _⟩ := (p3 4 _ d4 a4 rfl rfl rfl).1.inv_str Tryz.underlying9
    have hb : Tryz.prog.bytesOf 122 = 48 := by kernel_rfl
    rw [hb] at h2
    exact ⟨⟨t, t1, r, v, l, t4⟩, rfl, h1, h2, h3⟩
theorem act_rep (d : DataW X) (cz : List Value) (h : Rep Tryz.prog H 62 d cz) (hw : Room 62 d) : ∃ x : Act, cz = x.cells ∧ x.OK H := by
  obtain ⟨ds, ass, rfl, rfl, p1, p2, p3⟩ := rep_structL Tryz.underlying62 h hw
  match ds, ass, p1, p2, p3 with
  | [d0, d1, d2], [a0, a1, a2], _, _, p3 =>
    obtain ⟨t, _, rfl, _⟩ := (p3 0 _ d0 a0 rfl rfl rfl).1.inv_str Tryz.underlying9
    obtain ⟨v, l, rfl, hl⟩ := fldL_rep (p3 1 _ d1 a1 rfl rfl rfl).1 (p3 1 _ d1 a1 rfl rfl rfl).2
    obtain ⟨v2, l2, rfl, h1, h2, h3⟩ := slice_rep stp_rep Tryz.underlying60 (p3 2 _ d2 a2 rfl rfl rfl).1 (p3 2 _ d2 a2 rfl rfl rfl).2
    have hb : Tryz.prog.bytesOf 137 = 144 := by kernel_rfl
    rw [hb] at h2
    exact ⟨⟨t, v, l, v2, l2⟩, rfl, hl, h1, h2, h3⟩
theorem call_rep (d : DataW X) (cz : List Value) (h : Rep Tryz.prog H 48 d cz) (hw : Room 48 d) : ∃ (t : List UInt8) (v : Value) (l : List Bt), cz = [.string (bs t), v] ∧ BtL H v l := by
  obtain ⟨ds, ass, rfl, rfl, p1, p2, p3⟩ := rep_structL Tryz.underlying48 h hw
  match ds, ass, p1, p2, p3 with
  | [d0, d1], [a0, a1], _, _, p3 =>
    obtain ⟨t, _, rfl, _⟩ := (p3 0 _ d0 a0 rfl rfl rfl).1.inv_str Tryz.underlying9
    obtain ⟨v, l, rfl, hl⟩ := btL_rep (p3 1 _ d1 a1 rfl rfl rfl).1 (p3 1 _ d1 a1 rfl rfl rfl).2
    exact ⟨t, v, l, rfl, hl⟩
theorem tbl_rep (d : DataW X) (cz : List Value) (h : Rep Tryz.prog H 54 d cz) (hw : Room 54 d) : ∃ x : Tbl, cz = x.cells ∧ x.OK H := by
  obtain ⟨ds, ass, rfl, rfl, p1, p2, p3⟩ := rep_structL Tryz.underlying54 h hw
  match ds, ass, p1, p2, p3 with
  | [d0, d1, d2, d3, d4, d5], [a0, a1, a2, a3, a4, a5], _, _, p3 =>
    obtain ⟨t, _, rfl, _⟩ := (p3 0 _ d0 a0 rfl rfl rfl).1.inv_str Tryz.underlying9
    obtain ⟨v, l, rfl, h1, h2, h3⟩ := slice_rep ky_rep Tryz.underlying52 (p3 1 _ d1 a1 rfl rfl rfl).1 (p3 1 _ d1 a1 rfl rfl rfl).2
    obtain ⟨v2, l2, rfl, hl2⟩ := txL_rep (p3 2 _ d2 a2 rfl rfl rfl).1 (p3 2 _ d2 a2 rfl rfl rfl).2
    obtain ⟨k, _, rfl, k1, k2⟩ := (p3 3 _ d3 a3 rfl rfl rfl).1.inv_i64 Tryz.underlying3
    obtain ⟨t4, v4, l4, rfl, hl4⟩ := call_rep d4 a4 (p3 4 _ d4 a4 rfl rfl rfl).1 (p3 4 _ d4 a4 rfl rfl rfl).2
    obtain ⟨b, _, rfl⟩ := (p3 5 _ d5 a5 rfl rfl rfl).1.inv_bool Tryz.underlying4
    have hb : Tryz.prog.bytesOf 143 = 40 := by kernel_rfl
    rw [hb] at h2
    exact ⟨⟨t, v, l, v2, l2, k, t4, v4, l4, b⟩, rfl, ⟨h1, h2, h3⟩, hl2, ⟨k1, k2⟩, hl4⟩

theorem stages_rep : ∀ (N : Nat) (d : DataW X) (cz : List Value), SizeOf.sizeOf d ≤ N → Rep Tryz.prog H 32 d cz → Room 32 d → ∃ v l, cz = [v] ∧ StSl H l v := by
  intro N
  induction N with
  | zero =>
    intro d cz hN
    exfalso
    cases d <;> simp at hN
  | succ N ih =>
    intro d cz hN h hw
    rcases h.inv_slice Tryz.underlying32 with ⟨rfl, e⟩ | ⟨sp, rfl, e⟩ | ⟨b, ds, sp, ass, rfl, hds, e, hb, h2, h3, h4⟩
    · exact ⟨_, [], e, _, rfl⟩
    · exact ⟨_, [], e, _, rfl⟩
    · simp only [DataW.slice.sizeOf_spec] at hN
      simp only [Room, DataW.weights, Tryz.underlying32] at hw
      obtain ⟨l, e1, e2⟩ := list_rep (f := St.cells) (ok := StOK H) (fun d : DataW X => SizeOf.sizeOf d ≤ N) (fun d cz hS hr hwd => by
        obtain ⟨ps, az, rfl, rfl, p1, p2, p3⟩ := rep_structL Tryz.underlying108 hr hwd
        match ps, az, p1, p2, p3, hS with
        | [d0, d1, d2, d3, d4], [a0, a1, a2, a3, a4], _, _, p3, hS =>
          have hsz : ∀ q ∈ [d0, d1, d2, d3, d4], SizeOf.sizeOf q ≤ N := fun q hq => by
            have := List.sizeOf_lt_of_mem hq
            simp only [DataW.agg.sizeOf_spec] at hS
            omega
          obtain ⟨k, _, rfl, k1, k2⟩ := (p3 0 _ d0 a0 rfl rfl rfl).1.inv_i64 Tryz.underlying3
          obtain ⟨t, _, rfl, _⟩ := (p3 1 _ d1 a1 rfl rfl rfl).1.inv_str Tryz.underlying9
          obtain ⟨c, rfl, hc⟩ := tst_rep d2 a2 (p3 2 _ d2 a2 rfl rfl rfl).1 (p3 2 _ d2 a2 rfl rfl rfl).2
          obtain ⟨va, la, rfl, sa⟩ := ih d3 a3 (hsz _ (by simp)) (p3 3 _ d3 a3 rfl rfl rfl).1 (p3 3 _ d3 a3 rfl rfl rfl).2
          obtain ⟨vb, lb, rfl, sb⟩ := ih d4 a4 (hsz _ (by simp)) (p3 4 _ d4 a4 rfl rfl rfl).1 (p3 4 _ d4 a4 rfl rfl rfl).2
          exact ⟨.mk k t c va vb la lb, by simp [St.cells], by simp only [StOK]; exact ⟨⟨⟨k1, k2⟩, hc⟩, sa, sb⟩⟩) ds ass h2 (fun q hq => by have := List.sizeOf_lt_of_mem hq; omega)
        (fun q hq w hh => hw w (by simp only [List.mem_cons, List.mem_append]; exact .inr (.inl (weights_all hq w hh)))) h3
      have hln : l.length = ds.length := by rw [← h2, e1, List.length_map]
      have hlen := hw _ (List.mem_cons_self ..)
      have hb2 : Tryz.prog.bytesOf 108 = 176 := by kernel_rfl
      have hlt : reachBytes < 140737488355328 := by simpa using reachBytes_lt
      rw [hb2] at hlen
      have hfew : few 176 l.length := by unfold few; rw [hln]; omega
      have hall : StOKs H l := by
        clear e1 hln hlen hb h2 h3 h4 e hw hN hfew
        induction l with
        | nil => trivial
        | cons x l ihl => simp only [StOKs]; exact ⟨e2 x (by simp), ihl fun y hy => e2 y (by simp [hy])⟩
      refine ⟨_, l, e, ?_⟩
      cases l with
      | nil => simp at hln; exact absurd (List.length_eq_zero_iff.1 hln.symm) hds
      | cons s l =>
        simp only [StSl]
        simp only [StOKs] at hall
        exact ⟨⟨b, by rw [← hln]; rfl, hget_lt hb rfl, 0, false, by rw [hb, e1]⟩, hfew, hall.1, hall.2⟩

/-- A schema. -/
theorem sch_rep (d : DataW X) (cz : List Value) (h : Rep Tryz.prog H 34 d cz) (hw : Room 34 d) : ∃ s : Sch, cz = s.cells ∧ s.OK H := by
  obtain ⟨ds, ass, rfl, rfl, p1, p2, p3⟩ := rep_structL Tryz.underlying34 h hw
  match ds, ass, p1, p2, p3 with
  | [d0, d1, d2, d3, d4, d5], [a0, a1, a2, a3, a4, a5], _, _, p3 =>
    obtain ⟨hv, hs, rfl, h1, h2, h3⟩ := slice_rep hdr_rep Tryz.underlying27 (p3 0 _ d0 a0 rfl rfl rfl).1 (p3 0 _ d0 a0 rfl rfl rfl).2
    obtain ⟨mv, ms, rfl, m1⟩ := fldL_rep (p3 1 _ d1 a1 rfl rfl rfl).1 (p3 1 _ d1 a1 rfl rfl rfl).2
    obtain ⟨sv, ss, rfl, s1, s2, s3⟩ := slice_rep sta_rep Tryz.underlying29 (p3 2 _ d2 a2 rfl rfl rfl).1 (p3 2 _ d2 a2 rfl rfl rfl).2
    obtain ⟨av, acs, rfl, a1, a2, a3⟩ := slice_rep act_rep Tryz.underlying30 (p3 3 _ d3 a3 rfl rfl rfl).1 (p3 3 _ d3 a3 rfl rfl rfl).2
    obtain ⟨tv, ts, rfl, t1, t2, t3⟩ := slice_rep tbl_rep Tryz.underlying31 (p3 4 _ d4 a4 rfl rfl rfl).1 (p3 4 _ d4 a4 rfl rfl rfl).2
    obtain ⟨cv, cs, rfl, c1⟩ := stages_rep _ d5 a5 (Nat.le_refl _) (p3 5 _ d5 a5 rfl rfl rfl).1 (p3 5 _ d5 a5 rfl rfl rfl).2
    have b1 : Tryz.prog.bytesOf 57 = 40 := by kernel_rfl
    have b2 : Tryz.prog.bytesOf 119 = 104 := by kernel_rfl
    have b3 : Tryz.prog.bytesOf 62 = 64 := by kernel_rfl
    have b4 : Tryz.prog.bytesOf 54 = 120 := by kernel_rfl
    rw [b1] at h2
    rw [b2] at s2
    rw [b3] at a2
    rw [b4] at t2
    exact ⟨⟨hv, mv, sv, av, tv, cv, hs, ms, ss, acs, ts, cs⟩, rfl, ⟨h1, h2, h3⟩, m1, ⟨s1, s2, s3⟩, ⟨a1, a2, a3⟩, ⟨t1, t2, t3⟩, c1⟩

/-- An argument that is a struct. -/
theorem struct_arg {t : TypeId} {fs : Array Field} (hu : Tryz.prog.underlying t = some (.struct fs)) {d : DataW X} {a : Value} {n : Nat} (hn : n ≠ 1) (hl : ∀ cz, Rep Tryz.prog H t d cz → cz.length = n) (h : ArgRep Tryz.prog H t d a) : ∃ cz, Rep Tryz.prog H t d cz ∧ a = .agg cz.toArray := by
  obtain ⟨cz, hr, ⟨_, e⟩ | e⟩ := h
  · exact ⟨cz, hr, e⟩
  · have := hl cz hr
    rw [e] at this
    simp at this
    exact absurd this.symm hn
theorem slice_arg {t e : TypeId} (hu : Tryz.prog.underlying t = some (.slice e)) {d : DataW X} {a : Value} (h : ArgRep Tryz.prog H t d a) : Rep Tryz.prog H t d [a] := by
  obtain ⟨cz, hr, ⟨⟨fs, hf⟩, _⟩ | e⟩ := h
  · rw [hu] at hf; cases hf
  · rw [← e]; exact hr
end

end Go.Proofs.YtpllhhaeclnngaaGreat.Ev

/- SchemaFinds: what is found in any schema, sound or not, by the program and by the document: whatever the schema and the questions, the law answers true. Conditions: none. -/
namespace Go.Proofs.YtpllhhaeclnngaaGreat.Ev
open Go.ChangeShapes Go.WideShapes Go.ChangeAt Go.RowKit

theorem own : ownKnob Tryz.prog.godebug = none := by kernel_rfl

theorem VL.narrow {n m : Nat} {ρ ρ' : Nat → Place} {xs ys : List Value} (h : VL m ρ' xs ys) (hs : ∀ x ∈ xs, Scoped n x) (he : ∀ b, b < n → ρ' b = ρ b) : VL n ρ xs ys :=
  ⟨h.1, fun i x y hx hy => ((h.2 i x y hx hy).narrow (hs x (List.mem_of_getElem? hx))).mono (Nat.le_refl _) fun b hb => (he b hb).symm⟩

abbrev ρ0 : Nat → Place := fun b => ⟨b, 0, 0⟩
theorem H0_ro : ∀ o ∈ H0, o.wrt = false := fun o ho => by simp [H0] at ho

set_option maxRecDepth 100000 in
theorem ask_rep {X : Type} {H : Heap} (d : DataW X) (cz : List Value) (h : Rep Tryz.prog H 50 d cz) (hw : Room 50 d) : ∃ x : Ask, cz = x.cells ∧ BtL H x.dv x.dargs := by
  obtain ⟨ds, ass, rfl, rfl, p1, p2, p3⟩ := rep_structL Tryz.underlying50 h hw
  match ds, ass, p1, p2, p3 with
  | [d0, d1, d2, d3], [a0, a1, a2, a3], _, _, p3 =>
    obtain ⟨t, _, rfl, _⟩ := (p3 0 _ d0 a0 rfl rfl rfl).1.inv_str Tryz.underlying9
    obtain ⟨t1, _, rfl, _⟩ := (p3 1 _ d1 a1 rfl rfl rfl).1.inv_str Tryz.underlying9
    obtain ⟨r, rfl⟩ := rf_rep d2 a2 (p3 2 _ d2 a2 rfl rfl rfl).1 (p3 2 _ d2 a2 rfl rfl rfl).2
    obtain ⟨t3, v3, l3, rfl, hl3⟩ := call_rep d3 a3 (p3 3 _ d3 a3 rfl rfl rfl).1 (p3 3 _ d3 a3 rfl rfl rfl).2
    exact ⟨⟨t, t1, r, t3, v3, l3⟩, rfl, hl3⟩

set_option maxRecDepth 100000 in
theorem schemaFinds_lifted (os : Os) (started : os.Started) (H : Type) (enc : TypeId × Value → H) :
    ReturnsInHanded {} Tryz.checked os 6 .any (Rows.schemaFindsSpec.pre6 enc Tryz.prog Tryz.f6 [] false)
      (Rows.schemaFindsSpec.post enc Tryz.prog Tryz.f6 false true false false) := by
  refine returnsInHanded_of_change_sized (C := Tryz.checked) own started (by kernel_rfl) Tryz.func6
    (ChangeSpec.witness6 (enc := enc) (C := Tryz.checked) (os := os) false ⟨#[], #[.agg #[.slice none 0 0, .slice none 0 0, .slice none 0 0, .slice none 0 0, .slice none 0 0, .slice none 0 0], .slice none 0 0], []⟩ 8 (by kernel_rfl) (by kernel_rfl) (by kernel_rfl) (by kernel_rfl)) ?_
  intro W base args ds gs before hval0 hW _ hsz _
  have hval : ∀ (j : Nat) t v, Tryz.f6.params[j]? = some t → args[j]? = some v → Value.okWide Tryz.prog W .any base t v := hval0
  have hW' := hW
  obtain ⟨p, q, hA0, hV, rfl, hfz, hnd⟩ := hW
  have hA : DataW.TrodAll enc Tryz.prog W 0 (fun _ => true) true Tryz.f6.params.toList args.toList ds p := hA0
  have hsz' : (DataW.weightsEach Tryz.prog (Tryz.f6.params.toList ++ Rows.schemaFindsSpec.plain.varTypes Tryz.prog) (ds ++ gs)).all (· ≤ reachBytes) = true := hsz
  rw [Tryz.params6] at hA hval hsz'
  obtain ⟨rfl, rfl⟩ := trodVars_none hV
  obtain ⟨g, ρ', avs, hr, hs, hg, hvl, hlen, hrep⟩ := open_args (G := 0) (L := [34, 27, 28, 29, 30, 31, 32, 57, 80, 119, 45, 117, 122, 102, 62, 60, 137, 104, 54, 52, 143, 39, 48, 46, 108, 106, 42, 50, 3, 4, 9, 100]) (by kernel_rfl) (by kernel_rfl) (by kernel_rfl) (by decide) hA (fun j t v h1 h2 => hval j t v (by simpa using h1) (by simpa using h2)) [] (fun _ => ⟨0, 0, 0⟩) (fun o ho => by cases ho) (by have := rel_nil (ρ := fun _ => ⟨0, 0, 0⟩) (w := W); rwa [show T.G = 0 from by unfold T; kernel_rfl] at this)
  have hA1 := hA
  obtain ⟨v0, vs0, d0, ds0, p0, q0, hargs, rfl, rfl, h0, r0⟩ := trodAll_cons hA1
  obtain ⟨v1, vs1, d1, ds1, p1, q1, hargs1, rfl, rfl, h1, r1⟩ := trodAll_cons r0
  obtain ⟨rfl, rfl, rfl⟩ := trodAll_nil r1
  obtain rfl : args = #[v0, v1] := by cases args; simp_all
  match avs, hlen with
  | [a0, a1], _ =>
  have hroom : ∀ (j : Nat) t d, [34, 42][j]? = some t → [d0, d1][j]? = some d → Room t d := fun j t d ht hd w hh => by
    have := List.all_eq_true.1 hsz' w (DataW.weights_mem_each (ts := #[34, 42].toList ++ _) (ds := [d0, d1] ++ _) (j := j) (by
      rw [List.getElem?_append_left (by have := (List.getElem?_eq_some_iff.1 ht).1; simpa using this)]; exact ht) (by
      rw [List.getElem?_append_left (by have := (List.getElem?_eq_some_iff.1 hd).1; simpa using this)]; exact hd) w hh)
    simpa using this
  obtain ⟨cz, hrz, hcz⟩ := hrep 0 34 d0 a0 rfl rfl rfl
  obtain ⟨s, rfl, hs⟩ := sch_rep d0 cz hrz (hroom 0 34 d0 rfl rfl)
  obtain rfl : a0 = .agg s.cells.toArray := by
    rcases hcz with ⟨_, e⟩ | e
    · exact e
    · simp [Sch.cells] at e
  obtain ⟨v, l, e, hq1, hq2, hq3⟩ := slice_rep ask_rep Tryz.underlying42 (slice_arg Tryz.underlying42 (hrep 1 42 d1 a1 rfl rfl rfl)) (hroom 1 42 d1 rfl rfl)
  obtain rfl : a1 = v := by simpa using e
  have hb : Tryz.prog.bytesOf 50 = 104 := by kernel_rfl
  rw [hb] at hq2
  have hG : T.G = 0 := by unfold T; kernel_rfl
  simp only [List.nil_append] at hr hvl hs hq1 hq3
  refine (wd_true t6 (H := g) (finds_w (fun h => shown_s h) hs hq1 hq2 hq3 (fun o ho => by obtain ⟨c, rfl⟩ := hg o ho; rfl)) (by rw [hG]; exact hr) (args' := #[v0, v1]) hvl (fun o ho => by obtain ⟨c, rfl⟩ := hg o ho; rfl)).mono fun e W' ⟨he, bel⟩ => ?_
  subst he
  exact ⟨_, rfl, _, _, _, [], _, [], hW', trodAll_mk1 (shut_bool Tryz.underlying4 _), args_stay (by kernel_rfl) (by kernel_rfl) (by kernel_rfl) bel (by decide) hA, rfl, bel.frame _, fun h => by cases h⟩

theorem schemaFinds_holds : Rows.SchemaFindsSaid :=
  OpenClaim.holds_of_wide 6 Tryz.f6 rfl rfl rfl rfl rfl rfl rfl ⟨rfl, rfl, rfl, rfl, rfl⟩ rfl rfl rfl rfl rfl (by kernel_rfl) Tryz.func6 (by kernel_rfl)
    (of_decide_eq_true (by kernel_rfl)) (by unfold Func.isWrapper; first | (rw [if_pos (by decide +kernel)]; kernel_rfl) | (rw [if_neg (by decide +kernel)]; exact ⟨rfl, rfl⟩))
    (fun os started H enc _ => schemaFinds_lifted os started H enc)

#print axioms schemaFinds_holds
end Go.Proofs.YtpllhhaeclnngaaGreat.Ev
