/- Parts of the proof: Y10, Y8, C3, Y11, Y12a, Y9, Y12, Y13a, Y13, A1, C4a, C4, C5, C6, C7, C8, D1, D2, D3, D4, D5, S3, S4, E2, E3, E4, E5, E6, E7, E8, E9, G1, H1, H2. Conditions: none. -/
import Derived.Test.YtpllhhaeclnngaaEnd2
namespace Go.Proofs.Ytpllhhaeclnngaa.Ev
set_option maxRecDepth 100000
set_option linter.unusedSimpArgs false
set_option linter.unusedVariables false
open Go.Proofs.Ytpllhhaeclnngaa.Ev renaming resultsL → Za, resultOf → Zb, eq1 → Zd, apartOK → Ze, apart2 → Zf, cutCells → Zo
open Go.Proofs.Ytpllhhaeclnngaa.Ev.AObj renaming live → Zg
open Nat renaming reduceEqDiff → Zc, reduceAdd → Zp, reduceLeDiff → Zq, reduceLT → Zr, reduceMul → Zs, reduceSub → Zt
open Int renaming reduceEq → Zh, reduceLT → Zi, reduceLE → Zj, reduceAdd → Zk, reduceSub → Zl, reduceMul → Zm, reduceToNat → Zn
section
variable {R : FRes → Heap → Prop} {H K : Heap}
theorem hget_frz_nin {c : Nat} : ∀ {bs : List Nat} {H : Heap}, c ∉ bs → hget (frz H bs) c = hget H c
 | [], H, _ => rfl
 | b :: bs, H, h => by
  simp only [List.mem_cons, not_or] at h
  rw [frz, hget_frz_nin h.2]
  simp only [frz1]
  split
  ·rw [hget_ne (Ne.symm h.1)]
  ·rfl
theorem Base.frz {bs : List Nat} (hb : Base H K) (h : ∀ b ∈ bs, H.length ≤ b) : Base H (Ev.frz K bs) :=
 ⟨by rw [frz_length]; exact hb.1, fun c hc => by rw [hget_frz_nin fun q => by have := h c q; omega]; exact hb.2 c hc⟩
theorem eqL_nn (H : Heap) (a b c d : Nat) : eqP H 1 (.slice none a b) (.slice none c d) = some true := rfl
theorem eqL_sn (H : Heap) (x : Addr) (a b c d : Nat) : eqP H 1 (.slice (some x) a b) (.slice none c d) = some false := rfl
theorem RoSl.src {u : Nat} {v : Value} {css : List (List Value)} (h : RoSl K v css) (hu : ∀ cs ∈ css, cs.length = u) : lenV v = some css.length ∧ srcCells K u css.length v = some css.flatten := by
 rcases h with ⟨rfl, rfl | ⟨b, o, k, rfl⟩⟩ | ⟨b, rfl, h3, u0, w0, h4⟩
 ·exact ⟨rfl, rfl⟩
 ·exact ⟨rfl, rfl⟩
 ·refine ⟨rfl, ?_⟩
  have e := flat_len_u hu
  simp only [srcCells, h4]
  rw [if_pos (by omega), List.drop_zero, ← e, List.take_length]
def blk : Value → Option Nat
 | .slice (some ⟨b, _, none⟩) _ _ => some b
 | _ => none
theorem RoSl.same {v : Value} {css : List (List Value)} (h : RoSl H v css) (hs : ∀ c, blk v = some c → c < K.length ∧ hget K c = hget H c) : RoSl K v css := by
 rcases h with q | ⟨b, rfl, h1, u, w, h2⟩
 ·exact .inl q
 ·obtain ⟨e1, e2⟩ := hs b rfl
  exact .inr ⟨b, rfl, e1, u, w, e2.trans h2⟩
theorem RoSl.lt {v : Value} {css : List (List Value)} (h : RoSl H v css) {c : Nat} (hc : blk v = some c) : c < H.length := by
 rcases h with ⟨_, rfl | ⟨b, o, k, rfl⟩⟩ | ⟨b, rfl, h1, _⟩
 ·cases hc
 ·cases hc
 ·cases hc; exact h1
/-- A list in a block that was not there. -/
def New (n : Nat) (v : Value) : Prop := ∀ c, blk v = some c → n ≤ c
/-- A list is put behind an empty one. -/
theorem app_new {u bys : Nat} {v : Value} {css : List (List Value)} (hr : RoSl K v css) (hu : ∀ cs ∈ css, cs.length = u) (hone : ∀ cs ∈ css, cs.all oneCell = true) (hroom : css.length * bys ≤ 140737488355328 ∧ css.length ≤ 140737488355328) :
  ∃ v' K', appendV (K ++ [.row [] u true]) u bys (.slice (some ⟨K.length, 0, none⟩) 0 0) v = .val v' K' ∧ Base K K' ∧ RoSl K' v' css ∧ New K.length v' := by
 obtain ⟨s1, s2⟩ := (hr.base (Base.app0 [.row [] u true])).src hu
 by_cases h0 : css = []
 ·subst h0
  refine ⟨_, _, ?_, Base.app0 [.row [] u true], .inr ⟨K.length, rfl, by simp, u, true, by rw [hget_last]; rfl⟩, fun c hc => by cases hc; exact Nat.le_refl _⟩
  simp only [List.length_nil] at s1 s2
  simp only [appendV, s1, s2, if_true, List.length_nil]
 ·have hp : 0 < css.length := List.length_pos_iff.2 h0
  have hf := flat_len_u hu
  have hall : css.flatten.all oneCell = true := List.all_eq_true.2 fun x hx => by
   obtain ⟨cs, h1, h2⟩ := List.mem_flatten.1 hx
   exact List.all_eq_true.1 (hone cs h1) x h2
  refine ⟨.slice (some ⟨K.length + 1, 0, none⟩) css.length css.length, (K ++ [AObj.row [] u true]).set K.length .dead ++ [.row css.flatten u true], ?_, ⟨by simp, fun c hc => ?_⟩, .inr ⟨K.length + 1, rfl, by simp, u, true, ?_⟩, fun c hc => by cases hc; omega⟩
  ·simp only [appendV, s1, s2, hget_last, Nat.zero_add, Nat.zero_mul, List.length_nil]
   rw [if_neg (by omega), if_pos ⟨trivial, Nat.le_refl _, Nat.le_refl _, hf⟩, if_neg (by omega), if_pos ⟨by simp only [roomMax]; omega, by simp only [roomMax]; omega, hall⟩]
   simp
  ·rw [hget_old (by simp; omega), hget_ne (by omega), hget_old hc]
  ·have e : ((K ++ [AObj.row [] u true]).set K.length .dead).length = K.length + 1 := by simp
   rw [← e, hget_last]
theorem cloneF_s {v : Value} {l : List (Fld)} (hr0 : RoSl H v (l.map Fld.cells)) (hn : few 24 l.length) (hb : Base H K) (h : ∀ v' K', Base K K' → RoSl K' v' (l.map Fld.cells) → New K.length v' → R (.ret v') K') : WD T 43 [v] K R := by
 unfold few at hn
 have hr := hr0.base hb
 obtain ⟨ad, rfl⟩ := hr.sl
 refine WD.of follows t43 (by simp) ?_
 obtain ⟨v', K', e1, e2, e3, e4⟩ := app_new (u := 2) (bys := 24) hr (fun cs hc => by obtain ⟨x, _, rfl⟩ := List.mem_map.1 hc; exact Fld.len x) (fun cs hc => by obtain ⟨x, _, rfl⟩ := List.mem_map.1 hc; rfl) (by rw [List.length_map]; omega)
 match ad with
 | none =>
  have hh := h (.slice none 0 0) K Base.refl (by
   rcases hr with q | ⟨b, q2, _⟩
   ·exact .inl ⟨q.1, .inl rfl⟩
   ·cases q2) (fun c hc => by cases hc)
  simp (disch := omega) only [kB, kcx, kdm, kdn, kel, aop, Za, Zb, Zc, reduceCtorEq, Zd, Ze, Zf, Zg, Zh, Zi, Zj, Zk, Zl, Zm, Zn, Zo, Zp, Zq, Zr, Zs, Zt, eqL_sn, eqL_nn]
  exact hh
 | some a =>
  have hh := h v' K' e2 e3 e4
  simp (disch := omega) only [kB, kcx, kdm, kdn, kel, aop, Za, Zb, Zc, reduceCtorEq, Zd, Ze, Zf, Zg, Zh, Zi, Zj, Zk, Zl, Zm, Zn, Zo, Zp, Zq, Zr, Zs, Zt, eqL_sn, eqL_nn, e1]
  exact hh
end
section
variable {R : FRes → Heap → Prop} {H K : Heap}
/-- What is wrong with a call. -/
def callE (s : Sch) (tab act : List UInt8) (args : List Bt) : Int :=
 match named Tbl.name s.tables tab with
 | none => 110
 | some t => match named Act.name s.actions act with
  | none => 113
  | some a => if ¬ act ∈ t.actions then 113 else if a.params.length ≠ args.length then 76 else if (List.zip a.params args).all (fun x => fitsV x.2 x.1.width) = true then 0 else 76
theorem zip_take {α β : Type} {a : List α} {b : List β} (h : a.length = b.length) {i : Nat} (hi : i < a.length) : (a.zip b).take (i + 1) = (a.zip b).take i ++ [(a[i], b[i])] := by
 rw [List.take_add_one, List.getElem?_eq_getElem (by simp; omega), List.getElem_zip]
 rfl
def clI (K0 : Heap) (bx : Nat) (a : List Fld) (args : List Bt) (va : Value) : Nat → Env → Heap → Prop := fun z e K' =>
 ∃ i : Nat, i ≤ a.length ∧ z = a.length - i ∧ Base K0 K' ∧ ((a.zip args).take i).all (fun x => fitsV x.2 x.1.width) = true ∧
  (∃ x : Nat → Value, e = [x 0, x 1, x 2, x 3, x 4, .pointer (some ⟨bx, 0, none⟩), x 6, x 7, x 8, x 9, x 10, x 11, x 12, x 13, x 14, x 15, x 16, x 17, x 18, x 19, x 20, x 21, x 22, x 23, x 24, x 25, x 26, x 27, x 28, x 29, x 30, x 31, x 32, x 33, x 34, x 35, x 36, x 37, x 38, x 39, x 40, x 41, x 42, x 43, x 44, x 45, x 46, x 47, x 48, x 49, x 50, x 51, x 52, va, .int .i64 (args.length : Int), .int .i64 (i : Int), x 56, x 57, x 58, x 59, x 60, x 61, x 62, x 63, x 64, x 65, x 66, x 67, x 68, x 69])
set_option maxHeartbeats 2000000 in
theorem call_s {s : Sch} (hs : s.OK H) (hb : Base H K) {tab act : List UInt8} {dv : Value} {args : List Bt} (hd : BtL H dv args) (h : R (.ret (.int .i64 (callE s tab act args))) K) : WD T 91 [.agg s.cells.toArray, .string (bs tab), .agg #[.string (bs act), dv]] K R := by
 refine WD.gc0 (WD.of follows t91 (by simp) ?_)
 obtain ⟨o0, o1, o2, o3, o4, o5⟩ := hs.one
 have hd1 := hd.1.one
 simp only [Sch.cells]
 simp (disch := omega) only [kB, kcx, kdm, kdn, kel, aop, Za, Zb, Zc, reduceCtorEq, Zd, Ze, Zf, Zg, Zh, Zi, Zj, Zk, Zl, Zm, Zn, Zo, Zp, Zq, Zr, Zs, Zt, o0, o1, o2, o3, o4, o5, hd1]
 refine WV.of (fun c hc => ?_) ?_
 ·simp only [List.mem_cons, List.not_mem_nil, or_false] at hc
  rcases hc with rfl | rfl
  ·rw [hget_base0]; rfl
  ·rw [hget_base]; rfl
 have hk1 := hb.1
 refine tableAt_s hs ((hb.app _).frz (fun c hc => by simp only [List.mem_cons, List.not_mem_nil, or_false] at hc; rcases hc with rfl | rfl <;> omega)) ?_
 rw [thaw_frz0]
 rcases named_cases Tbl.name s.tables tab with ⟨e1, e2⟩ | ⟨k, hk, e1, e2, _⟩
 ·rw [callE, e2] at h
  rw [e1]
  simp (disch := omega) only [kB, kcx, kdm, kdn, kel, aop, Za, Zb, Zc, reduceCtorEq, Zd, Ze, Zf, Zg, Zh, Zi, Zj, Zk, Zl, Zm, Zn, Zo, Zp, Zq, Zr, Zs, Zt]
  refine actionAt_s hs (hb.app _) ?_
  simp (disch := omega) only [kB, kcx, kdm, kdn, kel, aop, Za, Zb, Zc, reduceCtorEq, Zd, Ze, Zf, Zg, Zh, Zi, Zj, Zk, Zl, Zm, Zn, Zo, Zp, Zq, Zr, Zs, Zt]
  exact ⟨_, rfl, ⟨_, rfl⟩, .int, h⟩
 ·rw [callE, e2] at h
  simp only at h
  rw [e1]
  simp (disch := omega) only [kB, kcx, kdm, kdn, kel, aop, Za, Zb, Zc, reduceCtorEq, Zd, Ze, Zf, Zg, Zh, Zi, Zj, Zk, Zl, Zm, Zn, Zo, Zp, Zq, Zr, Zs, Zt]
  refine actionAt_s hs (hb.app _) ?_
  have hok := hs.ts.2.2 _ (List.getElem_mem hk)
  obtain ⟨hr, hn, _⟩ := hs.ts
  obtain ⟨ad, hv⟩ := hr.sl
  rw [hv] at hr
  obtain ⟨b, u0, w0, rfl, hbl, hrow0, hcut, hle, hat⟩ := hr.at Tbl.len hk
  have hrow : hget K b = .row (s.tables.map Tbl.cells).flatten u0 w0 := by rw [hb.2 b hbl]; exact hrow0
  have hbl2 : b < K.length := Nat.lt_of_lt_of_le hbl hb.1
  have c3 : (0 : Int) ≤ (k : Int) := by omega
  have c4 : ¬ (k : Int) < 0 := by omega
  have c5 : (k : Int) < (s.tables.length : Int) := by omega
  have h2 := hat 2 (by decide)
  simp only [Tbl.cells, List.getElem?_cons_succ, List.getElem?_cons_zero] at h2
  rw [List.length_map] at hv
  generalize s.tables[k] = t at *
  rcases named_cases Act.name s.actions act with ⟨f1, f2⟩ | ⟨j, hj, f1, f2, _⟩
  ·rw [f2] at h
   rw [f1]
   simp (disch := omega) only [kB, kcx, kdm, kdn, kel, aop, Za, Zb, Zc, reduceCtorEq, Zd, Ze, Zf, Zg, Zh, Zi, Zj, Zk, Zl, Zm, Zn, Zo, Zp, Zq, Zr, Zs, Zt, c4]
   exact ⟨_, rfl, ⟨_, rfl⟩, .int, h⟩
  ·rw [f2] at h
   simp only at h
   rw [f1]
   have d4 : ¬ (j : Int) < 0 := by omega
   simp (disch := omega) only [kB, kcx, kdm, kdn, kel, aop, Za, Zb, Zc, reduceCtorEq, Zd, Ze, Zf, Zg, Zh, Zi, Zj, Zk, Zl, Zm, Zn, Zo, Zp, Zq, Zr, Zs, Zt, c3, c4, c5, d4, hv, hrow, h2]
   refine ctn_s hok.2.1 (hb.app _) ?_
   by_cases g1 : act ∈ t.actions
   ·rw [if_neg (by simpa using g1)] at h
    have aok := hs.acs.2.2 _ (List.getElem_mem hj)
    obtain ⟨ar, an, _⟩ := hs.acs
    obtain ⟨ad2, av⟩ := ar.sl
    rw [av] at ar
    obtain ⟨b2, u2, w2', rfl, hbl3, hrow2, _, hle2, hat2⟩ := ar.at Act.len hj
    have hrow3 : hget K b2 = .row (s.actions.map Act.cells).flatten u2 w2' := by rw [hb.2 b2 hbl3]; exact hrow2
    have hbl4 : b2 < K.length := Nat.lt_of_lt_of_le hbl3 hb.1
    have d3 : (0 : Int) ≤ (j : Int) := by omega
    have d5 : (j : Int) < (s.actions.length : Int) := by omega
    have h3 := hat2 1 (by decide)
    simp only [Act.cells, List.getElem?_cons_succ, List.getElem?_cons_zero] at h3
    rw [List.length_map] at av
    generalize s.actions[j] = a at *
    obtain ⟨pr, pn, pok⟩ := aok.1
    obtain ⟨dr, dn, dok⟩ := hd
    obtain ⟨ad3, pv⟩ := pr.sl
    obtain ⟨ad4, dv'⟩ := dr.sl
    subst dv'
    rw [pv] at pr h3
    rw [List.length_map] at pv pr h3 dr ⊢
    rw [decide_eq_true g1]
    unfold few at pn dn
    by_cases g2 : a.params.length = args.length
    ·rw [if_neg (by simpa using g2)] at h
     have g3 : (a.params.length : Int) = (args.length : Int) := by omega
     simp (disch := omega) only [kB, kcx, kdm, kdn, kel, aop, Za, Zb, Zc, reduceCtorEq, Zd, Ze, Zf, Zg, Zh, Zi, Zj, Zk, Zl, Zm, Zn, Zo, Zp, Zq, Zr, Zs, Zt, c4, d3, d4, d5, av, hrow3, h3, g3]
     obtain ⟨K2, hK2⟩ : ∃ K2, K2 = K ++ [AObj.row [s.hv, s.mv, s.sv, s.av, s.tv, s.cv] 0 true, AObj.row [.string (bs act), .slice ad4 args.length args.length] 0 true] := ⟨_, rfl⟩
     have hK2' := hK2.symm
     simp only [hv, av] at hK2'
     rw [hK2']
     have bK : Base K K2 := by rw [hK2]; exact Base.app0 _
     have hbox : hget K2 (K.length + 1) = .row [.string (bs act), .slice ad4 args.length args.length] 0 true := by rw [hK2, hget_base]; rfl
     have lK2 : K2.length = K.length + 2 := by rw [hK2]; simp
     clear hK2 hK2'
     refine WLoop.inv (clI K2 (K.length + 1) a.params args (.slice ad3 a.params.length a.params.length)) ?_ a.params.length _ _ ⟨0, Nat.zero_le _, by omega, Base.refl, rfl, by exact ex_env rfl⟩
     rintro z e K' ⟨i, hi, rfl, bK2, hall, ⟨x, rfl⟩⟩
     by_cases hlt : i < a.params.length
     ·have q0 : (i : Int) < (a.params.length : Int) := by omega
      have q1 : (i : Int) < (args.length : Int) := by omega
      have q2 : i < args.length := by omega
      obtain ⟨b5, u5, w5, rfl, p1, p2, p3, p4, p5⟩ := pr.at Fld.len hlt
      obtain ⟨b6, u6, w6, rfl, r1, r2, r3, r4, r5⟩ := dr.at Bt.len q2
      have bA := (hb.trans bK).trans bK2
      have prow : hget K' b5 = .row (a.params.map Fld.cells).flatten u5 w5 := by rw [bA.2 b5 p1]; exact p2
      have rrow : hget K' b6 = .row (args.map Bt.cells).flatten u6 w6 := by rw [bA.2 b6 r1]; exact r2
      have lp : b5 < K'.length := Nat.lt_of_lt_of_le p1 bA.1
      have lr : b6 < K'.length := Nat.lt_of_lt_of_le r1 bA.1
      have hbox2 : hget K' (K.length + 1) = .row [.string (bs act), .slice (some ⟨b6, 0, none⟩) args.length args.length] 0 true := by rw [bK2.2 _ (by omega)]; exact hbox
      have lb : K.length + 1 < K'.length := by have := bK2.1; omega
      have w2 : IntKind.i64.wrap ((i : Int) + 1) = ((i + 1 : Nat) : Int) := wI (by omega)
      have hf := pok _ (List.getElem_mem hlt)
      have hba := dok _ (List.getElem_mem q2)
      have hz := zip_take g2 hlt
      have hin : (a.params[i], args[i]) ∈ a.params.zip args := List.mem_of_getElem? (i := i) (by rw [List.getElem?_eq_getElem (by simp; omega), List.getElem_zip])
      generalize a.params[i] = y at *
      generalize args[i] = c at *
      simp only [Fld.cells] at p3
      have r3' : List.take 2 (List.drop (i * 2) (args.map Bt.cells).flatten) = c.cells := r3
      simp (disch := omega) only [kB, kcx, kdm, kdn, kel, aop, Za, Zb, Zc, reduceCtorEq, Zd, Ze, Zf, Zg, Zh, Zi, Zj, Zk, Zl, Zm, Zn, Zo, Zp, Zq, Zr, Zs, Zt, q0, q1, prow, p3, p4, rrow, r3', r4, hbox2]
      refine fits_s hba hf ?_
      by_cases v : fitsV c y.width = true
      ·rw [v]
       simp (disch := omega) only [kB, kcx, kdm, kdn, kel, aop, Za, Zb, Zc, reduceCtorEq, Zd, Ze, Zf, Zg, Zh, Zi, Zj, Zk, Zl, Zm, Zn, Zo, Zp, Zq, Zr, Zs, Zt, w2]
       refine ⟨a.params.length - (i + 1), by omega, i + 1, by omega, rfl, bK2.app _, ?_, by exact ex_env rfl⟩
       rw [hz, List.all_append, hall]
       simpa using v
      ·have hnot : ¬ (a.params.zip args).all (fun x => fitsV x.2 x.1.width) = true := fun q => v (List.all_eq_true.1 q _ hin)
       rw [if_neg hnot] at h
       rw [Bool.not_eq_true] at v
       rw [v]
       simp (disch := omega) only [kB, kcx, kdm, kdn, kel, aop, Za, Zb, Zc, reduceCtorEq, Zd, Ze, Zf, Zg, Zh, Zi, Zj, Zk, Zl, Zm, Zn, Zo, Zp, Zq, Zr, Zs, Zt]
       exact ⟨_, rfl, ((bK.trans bK2).app _).ext, .int, h⟩
     ·have q0 : ¬ (i : Int) < (args.length : Int) := by omega
      have hil : (a.params.zip args).take i = a.params.zip args := List.take_of_length_le (by simp; omega)
      rw [hil] at hall
      rw [if_pos hall] at h
      simp (disch := omega) only [kB, kcx, kdm, kdn, kel, aop, Za, Zb, Zc, reduceCtorEq, Zd, Ze, Zf, Zg, Zh, Zi, Zj, Zk, Zl, Zm, Zn, Zo, Zp, Zq, Zr, Zs, Zt, q0]
      exact ⟨_, rfl, (bK.trans bK2).ext, .int, h⟩
    ·rw [if_pos (by simpa using g2)] at h
     have g3 : ¬ (a.params.length : Int) = (args.length : Int) := by omega
     simp (disch := omega) only [kB, kcx, kdm, kdn, kel, aop, Za, Zb, Zc, reduceCtorEq, Zd, Ze, Zf, Zg, Zh, Zi, Zj, Zk, Zl, Zm, Zn, Zo, Zp, Zq, Zr, Zs, Zt, c4, d3, d4, d5, av, hrow3, h3, g3]
     exact ⟨_, rfl, ⟨_, rfl⟩, .int, h⟩
   ·rw [if_pos g1] at h
    rw [decide_eq_false g1]
    simp (disch := omega) only [kB, kcx, kdm, kdn, kel, aop, Za, Zb, Zc, reduceCtorEq, Zd, Ze, Zf, Zg, Zh, Zi, Zj, Zk, Zl, Zm, Zn, Zo, Zp, Zq, Zr, Zs, Zt, c4, d4]
    exact ⟨_, rfl, ⟨_, rfl⟩, .int, h⟩
end
section
variable {R : FRes → Heap → Prop} {H K : Heap}
/-- Is there such a name? -/
theorem ixT_mem (t : List UInt8) (l : List (List UInt8)) : (0 ≤ ixT t l 0) ↔ t ∈ l := by
 rcases ixT_get t l 0 with ⟨e, h⟩ | ⟨j, hj, e, h⟩
 ·rw [e]
  exact ⟨fun q => by omega, fun q => absurd q h⟩
 ·rw [e]
  exact ⟨fun _ => h ▸ List.getElem_mem hj, fun _ => by omega⟩
def nmV : Option Fld → List UInt8
 | some f => f.name
 | none => []
theorem fldV_eq (o : Option Fld) : fldV o = .agg #[.string (bs (nmV o)), .int .i64 (rwV o)] := by cases o <;> rfl
theorem rwV_i64 {s : Sch} (hs : s.OK H) (r : Rf) : I64 (rwV (fldOf s r)) := by
 cases h : fldOf s r with
 | none => exact ⟨by decide, by decide⟩
 | some f => exact fld_mem hs h
/-- The words that one goes on to, beside the states. -/
def ends : List (List UInt8) := [[97, 99, 99, 101, 112, 116], [114, 101, 106, 101, 99, 116]]
def leads (s : Sch) (t : List UInt8) : Prop := t ∈ ends ∨ t ∈ s.states.map Sta.name
instance (s : Sch) (t : List UInt8) : Decidable (leads s t) := by unfold leads; infer_instance
def inMask (c : Cas) : Prop := c.value.hi ||| c.mask.hi = c.mask.hi ∧ c.value.lo ||| c.mask.lo = c.mask.lo
instance (c : Cas) : Decidable (inMask c) := by unfold inMask; infer_instance
def casE (s : Sch) (w : Int) (had : List (Bt × Bt)) (c : Cas) : Option Int :=
 if fitsV c.mask w = true ∧ inMask c then (if (c.value, c.mask) ∈ had then some 71 else if leads s c.next then none else some 72) else some 73
def Cas.key (c : Cas) : Bt × Bt := (c.value, c.mask)
def casesE (s : Sch) (w : Int) : List (Bt × Bt) → List Cas → Option Int
 | _, [] => none
 | had, c :: l => match casE s w had c with
  | some e => some e
  | none => casesE s w (had ++ [c.key]) l
/-- What is wrong with one state, its name apart. -/
def staE (s : Sch) (x : Sta) : Option Int :=
 if x.header ∈ s.headers.map Hdr.name then
  if x.on = Rf.zero ∨ (fldOf s x.on).isSome = true then
   if x.cases.length ≤ 32 then
    if x.on ≠ Rf.zero ∨ x.cases.length = 0 then
     match casesE s (rwV (fldOf s x.on)) [] x.cases with
     | some e => some e
     | none => if leads s x.next then none else some 72
    else some 75
   else some 74
  else some 72
 else some 72
def stasE (s : Sch) : List (List UInt8) → List Sta → Option (Int × List UInt8)
 | _, [] => none
 | met, x :: l => match nameE met x.name with
  | some e => some (e, [115, 116, 97, 116, 101, 32] ++ x.name)
  | none => match staE s x with
   | some e => some (e, [115, 116, 97, 116, 101, 32] ++ x.name)
   | none => stasE s (met ++ [x.name]) l
/-- Does one come from one state to another at once? -/
def Edge (s : Sch) (i k : Nat) : Prop := ∃ x y, s.states[i]? = some x ∧ s.states[k]? = some y ∧ (x.next = y.name ∨ y.name ∈ x.cases.map Cas.next)
open Classical in
/-- The first of the states from there on that comes round. -/
noncomputable def rndE (s : Sch) : Nat → List Sta → Option (Int × List UInt8)
 | _, [] => none
 | i, x :: l => if Relation.TransGen (Edge s) i i then some (78, [115, 116, 97, 116, 101, 32] ++ x.name) else rndE s (i + 1) l
noncomputable def roundsE (s : Sch) : Option (Int × List UInt8) := rndE s 0 s.states
noncomputable def statesE (s : Sch) : Option (Int × List UInt8) :=
 if s.states.length ≤ 32 then (match stasE s [] s.states with
  | some e => some e
  | none => roundsE s) else some (74, [115, 116, 97, 116, 101])
/-- Where no state is wrong. -/
theorem nameE_none {met : List (List UInt8)} {n : List UInt8} (h : nameE met n = none) : ¬ n ∈ met ∧ isNm n = true := by
 unfold nameE at h
 split at h
 ·cases h
 ·rename_i h1
  split at h
  ·cases h
  ·rename_i h2
   exact ⟨h2, by simpa using h1⟩
theorem stasE_ok {s : Sch} : ∀ {l : List Sta} {met : List (List UInt8)}, met.Nodup → stasE s met l = none → (met ++ l.map Sta.name).Nodup ∧ ∀ x ∈ l, staE s x = none
 | [], met, hm, _ => ⟨by simpa using hm, fun x hx => by cases hx⟩
 | x :: l, met, hm, h => by
  rw [stasE] at h
  split at h
  ·cases h
  ·rename_i hn
   split at h
   ·cases h
   ·rename_i hs
    have h1 := (nameE_none hn).1
    have := stasE_ok (l := l) (met := met ++ [x.name]) (by rw [List.nodup_append]; exact ⟨hm, by simp, fun a ha b hb => by simp at hb; rw [hb]; exact fun e => h1 (e ▸ ha)⟩) h
    refine ⟨by simpa using this.1, fun y hy => ?_⟩
    rcases List.mem_cons.1 hy with rfl | hy
    ·exact hs
    ·exact this.2 y hy
theorem staE_cases {s : Sch} {x : Sta} (h : staE s x = none) : x.cases.length ≤ 32 := by
 unfold staE at h
 split at h
 ·split at h
  ·split at h
   ·assumption
   ·cases h
  ·cases h
 ·cases h
end
section
variable {R : FRes → Heap → Prop} {H K : Heap}
end
section
variable {R : FRes → Heap → Prop} {H K : Heap}
/-- The same header elsewhere, and so on. -/
def Hdr.like (x y : Hdr) : Prop := x.name = y.name ∧ x.fields = y.fields
def Act.like (x y : Act) : Prop := x.name = y.name ∧ x.params = y.params ∧ x.steps = y.steps
def Tbl.like (x y : Tbl) : Prop := x.name = y.name ∧ x.keys = y.keys ∧ x.actions = y.actions ∧ x.size = y.size ∧ x.dact = y.dact ∧ x.dargs = y.dargs ∧ x.fixed = y.fixed
def Hdr.New (n : Nat) (x : Hdr) : Prop := Ev.New n x.fv
def Act.New (n : Nat) (x : Act) : Prop := Ev.New n x.pv ∧ Ev.New n x.sv
def Tbl.New (n : Nat) (x : Tbl) : Prop := Ev.New n x.kv ∧ Ev.New n x.av ∧ Ev.New n x.dv
def hdrZ : Hdr := ⟨[], .slice none 0 0, []⟩
theorem RoSl.nil {H : Heap} : RoSl H (.slice none 0 0) [] := .inl ⟨rfl, .inl rfl⟩
theorem hdrZ_ok {H : Heap} : hdrZ.OK H := ⟨RoSl.nil, by simp [few, hdrZ], fun x h => by cases h⟩
theorem Hdr.OK.base {x : Hdr} (h : x.OK H) (hb : Base H K) : x.OK K := ⟨h.1.base hb, h.2⟩
theorem Act.OK.base {x : Act} (h : x.OK H) (hb : Base H K) : x.OK K := ⟨⟨h.1.1.base hb, h.1.2⟩, h.2.1.base hb, h.2.2⟩
theorem Tbl.OK.base {x : Tbl} (h : x.OK H) (hb : Base H K) : x.OK K := ⟨⟨h.1.1.base hb, h.1.2⟩, ⟨h.2.1.1.base hb, h.2.1.2⟩, h.2.2.1, ⟨h.2.2.2.1.base hb, h.2.2.2.2⟩⟩
theorem Act.OK.same {x : Act} {n : Nat} (h : x.OK H) (hn : x.New n) (hl : H.length ≤ K.length) (hk : ∀ c, c < H.length → n ≤ c → hget K c = hget H c) : x.OK K := by
 obtain ⟨⟨a1, a2⟩, b1, b2⟩ := h
 exact ⟨⟨a1.same fun c hc => ⟨Nat.lt_of_lt_of_le (a1.lt hc) hl, hk c (a1.lt hc) (hn.1 c hc)⟩, a2⟩, b1.same fun c hc => ⟨Nat.lt_of_lt_of_le (b1.lt hc) hl, hk c (b1.lt hc) (hn.2 c hc)⟩, b2⟩
theorem Tbl.OK.same {x : Tbl} {n : Nat} (h : x.OK H) (hn : x.New n) (hl : H.length ≤ K.length) (hk : ∀ c, c < H.length → n ≤ c → hget K c = hget H c) : x.OK K := by
 obtain ⟨⟨a1, a2⟩, ⟨b1, b2⟩, c1, d1, d2⟩ := h
 exact ⟨⟨a1.same fun c hc => ⟨Nat.lt_of_lt_of_le (a1.lt hc) hl, hk c (a1.lt hc) (hn.1 c hc)⟩, a2⟩, ⟨b1.same fun c hc => ⟨Nat.lt_of_lt_of_le (b1.lt hc) hl, hk c (b1.lt hc) (hn.2.1 c hc)⟩, b2⟩, c1, d1.same fun c hc => ⟨Nat.lt_of_lt_of_le (d1.lt hc) hl, hk c (d1.lt hc) (hn.2.2 c hc)⟩, d2⟩
end
section
variable {R : FRes → Heap → Prop} {H K : Heap}
end
section
variable {R : FRes → Heap → Prop} {H K : Heap}
def hdrOf (s : Sch) (t : List UInt8) : Hdr := (named Hdr.name s.headers t).getD hdrZ
set_option maxHeartbeats 1000000 in
theorem header_s {s : Sch} (hs : s.OK H) (hb : Base H K) {t : List UInt8}
  (h : ∀ (x : Hdr) K', Base K K' → x.OK K' → x.like (hdrOf s t) → R (.ret (.tuple #[.agg x.cells.toArray, .bool (named Hdr.name s.headers t).isSome])) K') : WD T 21 [.agg s.cells.toArray, .string (bs t)] K R := by
 refine WD.of follows t21 (by simp) ?_
 obtain ⟨o0, o1, o2, o3, o4, o5⟩ := hs.one
 simp only [Sch.cells]
 simp (disch := omega) only [kB, kcx, kdm, kdn, kel, aop, Za, Zb, Zc, reduceCtorEq, Zd, Ze, Zf, Zg, Zh, Zi, Zj, Zk, Zl, Zm, Zn, Zo, Zp, Zq, Zr, Zs, Zt, o0, o1, o2, o3, o4, o5]
 refine headerAt_s hs (hb.app _) ?_
 rcases named_cases Hdr.name s.headers t with ⟨e1, e2⟩ | ⟨j, hj, e1, e2, _⟩
 ·rw [e1]
  have hh := h hdrZ
  rw [hdrOf, e2] at hh
  simp only [hdrZ, Hdr.cells] at hh
  simp (disch := omega) only [kB, kcx, kdm, kdn, kel, aop, Za, Zb, Zc, reduceCtorEq, Zd, Ze, Zf, Zg, Zh, Zi, Zj, Zk, Zl, Zm, Zn, Zo, Zp, Zq, Zr, Zs, Zt]
  exact hh _ (Base.app0 _) hdrZ_ok ⟨rfl, rfl⟩
 ·rw [e1]
  rw [hdrOf, e2] at h
  have hok := hs.hs.2.2 _ (List.getElem_mem hj)
  obtain ⟨hr, hn, _⟩ := hs.hs
  obtain ⟨ad, hv⟩ := hr.sl
  rw [hv] at hr
  obtain ⟨b, u0, w0, rfl, hbl, hrow0, hcut, hle, hat⟩ := hr.at Hdr.len hj
  have hrow : hget K b = .row (s.headers.map Hdr.cells).flatten u0 w0 := by rw [hb.2 b hbl]; exact hrow0
  have hbl2 : b < K.length := Nat.lt_of_lt_of_le hbl hb.1
  have c3 : (0 : Int) ≤ (j : Int) := by omega
  have c5 : (j : Int) < (s.headers.length : Int) := by omega
  rw [List.length_map] at hv
  generalize s.headers[j] = x at *
  simp only [Hdr.cells] at hcut
  have o6 := hok.one
  simp (disch := omega) only [kB, kcx, kdm, kdn, kel, aop, Za, Zb, Zc, reduceCtorEq, Zd, Ze, Zf, Zg, Zh, Zi, Zj, Zk, Zl, Zm, Zn, Zo, Zp, Zq, Zr, Zs, Zt, c3, c5, hv, hrow, hcut, hle, o6]
  refine cloneF_s hok.1 hok.2.1 (hb.app _) ?_
  intro v' K2 b2 hv' hnew
  obtain ⟨ad2, rfl⟩ := hv'.sl
  rw [List.length_map] at hv' hnew ⊢
  clear hcut
  have hb4 : hget K2 (K.length + 1) = .row [.string (bs []), .slice none 0 0] 0 true := by rw [b2.2 _ (by simp), hget_base]; rfl
  have hb7 : hget K2 (K.length + 2) = .row [.string (bs x.name), x.fv] 0 true := by rw [b2.2 _ (by simp), hget_base]; rfl
  have hl2 := b2.1
  simp only [List.length_append, List.length_cons, List.length_nil, Nat.zero_add, Nat.reduceAdd] at hl2
  have hbK : Base K K2 := (Base.app0 _).trans b2
  have hh := h ⟨x.name, .slice ad2 x.fields.length x.fields.length, x.fields⟩
  simp only [Hdr.cells] at hh
  simp (disch := omega) only [kB, kcx, kdm, kdn, kel, aop, Za, Zb, Zc, reduceCtorEq, Zd, Ze, Zf, Zg, Zh, Zi, Zj, Zk, Zl, Zm, Zn, Zo, Zp, Zq, Zr, Zs, Zt, hb4, hb7, hget_ne (show K.length + 2 ≠ K.length + 1 by omega)]
  refine hh _ ((hbK.set (b := K.length + 2) (by omega)).set (b := K.length + 1) (by omega)) ⟨hv'.same fun c hc => ⟨by have := hv'.lt hc; simpa using this, ?_⟩, hok.2⟩ ⟨rfl, rfl⟩
  have := hnew c hc
  simp at this
  rw [hget_ne (by omega), hget_ne (by omega)]
end
section
variable {R : FRes → Heap → Prop} {H K : Heap}
end
section
variable {R : FRes → Heap → Prop} {H K : Heap}
end
section
variable {R : FRes → Heap → Prop} {H : Heap}
theorem append_one {K : Heap} {b bx l unit bytes u2 : Nat} {cells xs : List Value} {w2 : Bool} (hb : hget K b = .row cells unit true) (hl : cells.length = l * unit) (hx : hget K bx = .row xs u2 w2) (hxl : xs.length = unit) (hall : xs.all oneCell = true)
  (hr : (l + 1) * bytes ≤ roomMax ∧ l + 1 ≤ roomMax) :
  appendV K unit bytes (.slice (some ⟨b, 0, none⟩) l l) (.slice (some ⟨bx, 0, none⟩) 1 1) = .val (.slice (some ⟨K.length, 0, none⟩) (l + 1) (l + 1)) (K.set b .dead ++ [.row (cells ++ xs) unit true]) := by
 simp only [appendV, lenV, srcCells, hx, hb]
 rw [if_pos (by omega)]
 have e1 : List.take (1 * unit) (List.drop 0 xs) = xs := by rw [List.drop_zero, Nat.one_mul, ← hxl, List.take_length]
 have e2 : List.take (l * unit) (List.drop 0 cells) = cells := by rw [List.drop_zero, ← hl, List.take_length]
 simp only [e1]
 rw [if_neg (by omega)]
 simp only [hb, e2]
 rw [if_pos ⟨trivial, by omega, by omega, by omega⟩, if_neg (by omega), if_pos ⟨hr.1, hr.2, hall⟩]
theorem append_nil {K : Heap} {bx unit bytes u2 : Nat} {xs : List Value} {w2 : Bool} (hx : hget K bx = .row xs u2 w2) (hxl : xs.length = unit) (hr : 1 * bytes ≤ roomMax) :
  appendV K unit bytes (.slice none 0 0) (.slice (some ⟨bx, 0, none⟩) 1 1) = .val (.slice (some ⟨K.length, 0, none⟩) 1 1) (K ++ [.row xs unit true]) := by
 simp only [appendV, lenV, srcCells, hx]
 rw [if_pos (by omega)]
 have e1 : List.take (1 * unit) (List.drop 0 xs) = xs := by rw [List.drop_zero, Nat.one_mul, ← hxl, List.take_length]
 simp only [e1]
 rw [if_neg (by omega), if_pos ⟨hr, by decide⟩]
/-! ### Slices that grow -/
/-- A slice of elements of so many cells, in a block of its own. -/
def SLs (u n0 : Nat) (H : Heap) (sv : Value) (css : List (List Value)) : Prop :=
 (css = [] ∧ sv = .slice none 0 0) ∨ (css ≠ [] ∧ ∃ k, n0 ≤ k ∧ sv = .slice (some ⟨k, 0, none⟩) css.length css.length ∧ hget H k = .row css.flatten u true ∧ ∀ cs ∈ css, cs.length = u)
theorem SLs.same {u n0 : Nat} {H K : Heap} {sv : Value} {css : List (List Value)} (h : SLs u n0 H sv css) (hs : ∀ c, blk sv = some c → hget K c = hget H c) : SLs u n0 K sv css := by
 rcases h with h | ⟨h1, k, k0, rfl, k2, k3⟩
 ·exact .inl h
 ·exact .inr ⟨h1, k, k0, rfl, by rw [hs k rfl]; exact k2, k3⟩
theorem SLs.lt {u n0 : Nat} {H : Heap} {sv : Value} {css : List (List Value)} (h : SLs u n0 H sv css) {c : Nat} (hc : blk sv = some c) : c < H.length ∧ n0 ≤ c := by
 rcases h with ⟨_, rfl⟩ | ⟨h1, k, k0, rfl, k2, k3⟩
 ·cases hc
 ·cases hc; exact ⟨hget_lt k2 rfl, k0⟩
theorem SLs.app {u n0 : Nat} {H G : Heap} {sv : Value} {css : List (List Value)} (h : SLs u n0 H sv css) : SLs u n0 (H ++ G) sv css := h.same fun c hc => hget_old (h.lt hc).1
theorem SLs.len {u n0 : Nat} {H : Heap} {sv : Value} {css : List (List Value)} (h : SLs u n0 H sv css) : ∃ ad, sv = .slice ad css.length css.length := by
 rcases h with ⟨rfl, rfl⟩ | ⟨h1, k, k0, rfl, k2, k3⟩
 ·exact ⟨_, rfl⟩
 ·exact ⟨_, rfl⟩
theorem app_sl {u n0 bytes bx u2 : Nat} {K : Heap} {sv : Value} {css : List (List Value)} {xs : List Value} {w2 : Bool} (h : SLs u n0 K sv css) (hn : n0 ≤ K.length) (hx : hget K bx = .row xs u2 w2) (hl : xs.length = u) (hall : xs.all oneCell = true)
  (hr : (css.length + 1) * bytes ≤ roomMax ∧ css.length + 1 ≤ roomMax) : ∃ sv' K', appendV K u bytes sv (.slice (some ⟨bx, 0, none⟩) 1 1) = .val sv' K' ∧ SLs u n0 K' sv' (css ++ [xs]) ∧ K'.length = K.length + 1 ∧ blk sv' = some K.length ∧
   ∀ c, c < K.length → blk sv ≠ some c → hget K' c = hget K c := by
 rcases h with ⟨rfl, rfl⟩ | ⟨h1, k, k0, rfl, k2, k3⟩
 ·refine ⟨_, _, append_nil hx hl (by simpa using hr.1), .inr ⟨by simp, K.length, hn, rfl, by simp [hget_last], by simpa using hl⟩, by simp, rfl, fun c hc _ => hget_old hc⟩
 ·have lk := hget_lt k2 rfl
  refine ⟨_, _, append_one k2 (flat_len_u k3) hx hl hall hr, .inr ⟨by simp, K.length, hn, by simp, ?_, ?_⟩, by simp, rfl, fun c hc hb => ?_⟩
  ·have e : (K.set k AObj.dead).length = K.length := List.length_set ..
   rw [← e, hget_last]
   simp
  ·intro cs hcs
   rcases List.mem_append.1 hcs with q | q
   ·exact k3 cs q
   ·simp at q; rw [q]; exact hl
  ·rw [hget_oldS hc, hget_ne (fun q => hb (by rw [q]; rfl))]
theorem SLs.ro {u n0 : Nat} {K : Heap} {sv : Value} {css : List (List Value)} (h : SLs u n0 K sv css) : RoSl K sv css := by
 rcases h with ⟨rfl, rfl⟩ | ⟨h1, k, k0, rfl, k2, k3⟩
 ·exact .inl ⟨rfl, .inl rfl⟩
 ·exact .inr ⟨k, rfl, hget_lt k2 rfl, u, true, k2⟩
end
section
variable {R : FRes → Heap → Prop} {H K : Heap}
/-! ### The search -/
theorem falses_set : ∀ (l : List Bool) (k : Nat), l[k]? = some false → (l.set k true).count false + 1 = l.count false
 | [], k, h => by simp at h
 | b :: l, 0, h => by simp at h; subst h; simp
 | b :: l, k + 1, h => by
  have := falses_set l k (by simpa using h)
  cases b <;> simp <;> omega
/-- What a search from i knows; y: the one whose ways on are being looked at. -/
structure Dfs (E : Nat → Nat → Prop) (n i : Nat) (met : List Bool) (opn : List Nat) (y : Option Nat) : Prop where
 len : met.length = n
 got : ∀ k : Nat, met[k]? = some true → Relation.TransGen E i k
 lt : ∀ k ∈ opn, k < n
 opd : ∀ k ∈ opn, k = i ∨ met[k]? = some true
 shut : ∀ k : Nat, (k = i ∨ met[k]? = some true) → k ∈ opn ∨ y = some k ∨ ∀ j, E k j → j ≠ i ∧ met[j]? = some true
theorem Dfs.start {E : Nat → Nat → Prop} {n i : Nat} (hi : i < n) : Dfs E n i (List.replicate n false) [i] none where
 len := by simp
 got := fun k h => by simp [List.getElem?_replicate] at h
 lt := fun k h => by simp at h; omega
 opd := fun k h => by simp at h; exact .inl h
 shut := fun k h => by
  rcases h with rfl | h
  ·exact .inl (by simp)
  ·simp [List.getElem?_replicate] at h
theorem Dfs.from {E : Nat → Nat → Prop} {n i k j : Nat} {met : List Bool} {opn : List Nat} {y : Option Nat} (h : Dfs E n i met opn y) (hk : k = i ∨ met[k]? = some true) (e : E k j) : Relation.TransGen E i j := by
 rcases hk with rfl | hk
 ·exact .single e
 ·exact .tail (h.got k hk) e
theorem Dfs.pop {E : Nat → Nat → Prop} {n i y : Nat} {met : List Bool} {l : List Nat} (h : Dfs E n i met (l ++ [y]) none) : Dfs E n i met l (some y) ∧ y < n ∧ (y = i ∨ met[y]? = some true) where
 left := ⟨h.len, h.got, fun k hk => h.lt k (by simp [hk]), fun k hk => h.opd k (by simp [hk]), fun k hk => by
  rcases h.shut k hk with q | q | q
  ·rcases List.mem_append.1 q with q | q
   ·exact .inl q
   ·simp at q; exact .inr (.inl (by rw [q]))
  ·cases q
  ·exact .inr (.inr q)⟩
 right := ⟨h.lt y (by simp), h.opd y (by simp)⟩
theorem Dfs.push {E : Nat → Nat → Prop} {n i y k : Nat} {met : List Bool} {l : List Nat} (h : Dfs E n i met l (some y)) (hy : y = i ∨ met[y]? = some true) (e : E y k) (hk : met[k]? = some false) : Dfs E n i (met.set k true) (l ++ [k]) (some y) := by
 have hlt : k < met.length := (List.getElem?_eq_some_iff.1 hk).1
 have keep : ∀ j : Nat, met[j]? = some true → (met.set k true)[j]? = some true := fun j q => by
  by_cases hj : k = j
  ·subst hj; simp [hlt]
  ·rw [List.getElem?_set_ne hj]; exact q
 refine ⟨by simp [h.len], fun j q => ?_, fun j q => ?_, fun j q => ?_, fun j q => ?_⟩
 ·by_cases hj : k = j
  ·subst hj; exact h.from hy e
  ·rw [List.getElem?_set_ne hj] at q; exact h.got j q
 ·rcases List.mem_append.1 q with q | q
  ·exact h.lt j q
  ·simp at q; rw [q, ← h.len]; exact hlt
 ·rcases List.mem_append.1 q with q | q
  ·exact (h.opd j q).imp id (keep j)
  ·simp at q; exact .inr (by rw [q]; simp [hlt])
 ·by_cases hj : k = j
  ·exact .inl (by simp [hj])
  ·rw [List.getElem?_set_ne hj] at q
   rcases h.shut j q with r | r | r
   ·exact .inl (by simp [r])
   ·exact .inr (.inl r)
   ·exact .inr (.inr fun m em => ⟨(r m em).1, keep m (r m em).2⟩)
theorem Dfs.done {E : Nat → Nat → Prop} {n i y : Nat} {met : List Bool} {l : List Nat} (h : Dfs E n i met l (some y)) (hy : ∀ j, E y j → j ≠ i ∧ met[j]? = some true) : Dfs E n i met l none :=
 ⟨h.len, h.got, h.lt, h.opd, fun k hk => by
  rcases h.shut k hk with q | q | q
  ·exact .inl q
  ·cases q; exact .inr (.inr hy)
  ·exact .inr (.inr q)⟩
theorem Dfs.last {E : Nat → Nat → Prop} {n i : Nat} {met : List Bool} (h : Dfs E n i met [] none) : ¬ Relation.TransGen E i i := by
 have key : ∀ k, Relation.TransGen E i k → k ≠ i ∧ met[k]? = some true := by
  intro k hk
  induction hk with
  | single e =>
   rcases h.shut i (.inl rfl) with q | q | q
   ·simp at q
   ·cases q
   ·exact q _ e
  | tail _ e ih =>
   rcases h.shut _ (.inr ih.2) with q | q | q
   ·simp at q
   ·cases q
   ·exact q _ e
 exact fun q => (key i q).1 rfl
/-! ### Ways between states -/
def Sta.outs (x : Sta) : List (List UInt8) := x.next :: x.cases.map Cas.next
theorem edge_outs {s : Sch} {i k : Nat} (hi : i < s.states.length) (hk : k < s.states.length) : Edge s i k ↔ s.states[k].name ∈ s.states[i].outs := by
 unfold Edge Sta.outs
 constructor
 ·rintro ⟨x, y, h1, h2, h3⟩
  rw [List.getElem?_eq_getElem hi] at h1
  rw [List.getElem?_eq_getElem hk] at h2
  cases h1; cases h2
  rcases h3 with h3 | h3
  ·rw [← h3]; exact List.mem_cons_self
  ·exact List.mem_cons_of_mem _ h3
 ·intro h
  refine ⟨_, _, List.getElem?_eq_getElem hi, List.getElem?_eq_getElem hk, ?_⟩
  rcases List.mem_cons.1 h with h | h
  ·exact .inl h.symm
  ·exact .inr h
theorem edge_lt {s : Sch} {i k : Nat} (h : Edge s i k) : i < s.states.length ∧ k < s.states.length := by
 obtain ⟨x, y, h1, h2, _⟩ := h
 exact ⟨(List.getElem?_eq_some_iff.1 h1).1, (List.getElem?_eq_some_iff.1 h2).1⟩
/-! ### Numbers of names in a map -/
def plE : Nat → List Sta → List (Value × Value)
 | _, [] => []
 | i, x :: l => (.string (bs x.name), .int .i64 ((i + 1 : Nat) : Int)) :: plE (i + 1) l
theorem plE_append : ∀ (l m : List Sta) (i : Nat), plE i (l ++ m) = plE i l ++ plE (i + l.length) m
 | [], m, i => by simp [plE]
 | x :: l, m, i => by simp only [List.cons_append, plE, plE_append l m, List.length_cons]; rw [show i + 1 + l.length = i + (l.length + 1) by omega]
theorem plE_take {l : List Sta} {i : Nat} (h : i < l.length) : plE 0 (l.take (i + 1)) = plE 0 (l.take i) ++ [(.string (bs l[i].name), .int .i64 ((i + 1 : Nat) : Int))] := by
 rw [List.take_add_one, List.getElem?_eq_getElem h, plE_append]
 simp [plE, Nat.min_eq_left (Nat.le_of_lt h)]
theorem find_pl (n : List UInt8) : ∀ (l : List Sta) (i p : Nat), (¬ n ∈ l.map Sta.name ∧ findK (.prim 2) (.string (bs n)) (plE i l) p = some none) ∨ ∃ j, ∃ h : j < l.length, l[j].name = n ∧ findK (.prim 2) (.string (bs n)) (plE i l) p = some (some (p + j, .int .i64 ((i + j + 1 : Nat) : Int)))
 | [], i, p => .inl ⟨by simp, rfl⟩
 | x :: l, i, p => by
  have e : keyEq (.prim 2) (.string (bs n)) (.string (bs x.name)) = some (decide (n = x.name)) := by
   simp only [keyEq, eqT1, bs]
   congr 1
   rw [Bool.eq_iff_iff]
   simp
  simp only [plE, findK, e]
  by_cases h : n = x.name
  ·rw [decide_eq_true h]
   exact .inr ⟨0, by simp, h.symm, rfl⟩
  ·rw [decide_eq_false h]
   rcases find_pl n l (i + 1) (p + 1) with ⟨h1, h2⟩ | ⟨j, hj, h1, h2⟩
   ·exact .inl ⟨by simp at h1 ⊢; exact ⟨h, h1⟩, h2⟩
   ·exact .inr ⟨j + 1, by simpa using hj, by simpa using h1, by simp only [h2]; rw [show p + 1 + j = p + (j + 1) by omega, show i + 1 + j + 1 = i + (j + 1) + 1 by omega]⟩
/-! ### A stack of numbers -/
def nmV1 (k : Nat) : Value := .int .i64 (k : Int)
def Stk (n0 : Nat) (H : Heap) (sv : Value) (l : List Nat) : Prop :=
 ∃ (b c : Nat) (cs : List Value), sv = .slice (some ⟨b, 0, none⟩) l.length c ∧ n0 ≤ b ∧ l.length ≤ c ∧ hget H b = .row cs 1 true ∧ c ≤ cs.length ∧ cs.take l.length = l.map nmV1
theorem Stk.same {n0 : Nat} {sv : Value} {l : List Nat} (h : Stk n0 H sv l) (hs : ∀ c, n0 ≤ c → c < H.length → hget K c = hget H c) : Stk n0 K sv l := by
 obtain ⟨b, c, cs, h1, h2, h3, h4, h5, h6⟩ := h
 exact ⟨b, c, cs, h1, h2, h3, by rw [hs b h2 (hget_lt h4 rfl)]; exact h4, h5, h6⟩
theorem Stk.base {n0 : Nat} {sv : Value} {l : List Nat} (h : Stk n0 H sv l) (hb : Base H K) : Stk n0 K sv l := h.same fun c _ hc => hb.2 c hc
theorem Stk.one {b : Nat} {k : Nat} {n0 : Nat} (h : hget H b = .row [nmV1 k] 1 true) (hn : n0 ≤ b) : Stk n0 H (.slice (some ⟨b, 0, none⟩) 1 1) [k] := ⟨b, 1, _, rfl, hn, Nat.le_refl _, h, Nat.le_refl _, rfl⟩
theorem Stk.bk {n0 : Nat} {sv : Value} {l : List Nat} (h : Stk n0 H sv l) : ∃ b, blk sv = some b ∧ n0 ≤ b ∧ b < H.length := by
 obtain ⟨b, c, cs, rfl, h2, h3, h4, _⟩ := h
 exact ⟨b, rfl, h2, hget_lt h4 rfl⟩
theorem Stk.but {n0 : Nat} {sv : Value} {l : List Nat} (h : Stk n0 H sv l) {m : Nat} {o : AObj} (hm : m < n0) : Stk n0 (H.set m o) sv l := h.same fun c h1 _ => hget_ne (by omega)
theorem Stk.push {n0 bytes bx k : Nat} {sv : Value} {l : List Nat} (h : Stk n0 K sv l) (hn : n0 ≤ K.length) (hx : hget K bx = .row [nmV1 k] 1 true) (hr : (l.length + 1) * bytes ≤ roomMax ∧ l.length + 1 ≤ roomMax) :
  ∃ sv' K', appendV K 1 bytes sv (.slice (some ⟨bx, 0, none⟩) 1 1) = .val sv' K' ∧ Stk n0 K' sv' (l ++ [k]) ∧ K.length ≤ K'.length ∧ (∀ c, c < K.length → blk sv ≠ some c → hget K' c = hget K c) ∧ ∀ c, blk sv' = some c → blk sv = some c ∨ K.length ≤ c := by
 obtain ⟨b, c, cs, rfl, h2, h3, h4, h5, h6⟩ := h
 have lb := hget_lt h4 rfl
 have ho : [nmV1 k].all oneCell = true := rfl
 simp only [appendV, lenV, srcCells, hx, Nat.zero_add, Nat.one_mul, List.length_cons, List.length_nil, Nat.le_refl, if_true, List.drop_zero, List.take_succ_cons, List.take_zero, Nat.succ_ne_zero, if_false, h4, Nat.mul_one]
 by_cases hc : l.length + 1 ≤ c
 ·rw [if_pos ⟨trivial, h3, h5, trivial⟩, if_pos hc, if_pos ho]
  refine ⟨_, _, rfl, ⟨b, c, setL cs l.length [nmV1 k], by simp, h2, by simpa using hc, hget_set' lb, ?_, ?_⟩, by simp, fun c _ hc => hget_ne (fun q => hc (by rw [q]; rfl)), fun c q => .inl q⟩
  ·simpa [setL] using h5
  ·simp only [setL, List.length_append, List.length_cons, List.length_nil, Nat.zero_add, List.map_append, List.map_cons, List.map_nil]
   rw [List.take_add_one, List.take_set_of_le (Nat.le_refl _), h6, List.getElem?_set_self (by omega)]
   rfl
 ·rw [if_pos ⟨trivial, h3, h5, trivial⟩, if_neg hc, if_pos ⟨hr.1, hr.2, ho⟩]
  have el : (K.set b AObj.dead).length = K.length := List.length_set ..
  refine ⟨_, _, rfl, ⟨K.length, l.length + 1, (cs.take l.length) ++ [nmV1 k], by simp, hn, by simp, ?_, ?_, ?_⟩, by simp, fun c h7 h8 => ?_, fun c q => .inr (by cases q; exact Nat.le_refl _)⟩
  ·rw [← el, hget_last]
  ·simp; omega
  ·rw [h6]
   simp only [List.length_append, List.length_cons, List.length_nil, Nat.zero_add, List.map_append, List.map_cons, List.map_nil]
   rw [List.take_of_length_le (by simp)]
  ·rw [hget_oldS (by omega), hget_ne (fun q => h8 (by rw [q]; rfl))]
/-- The last one is taken off. -/
theorem Stk.pop {n0 y : Nat} {sv : Value} {l : List Nat} (h : Stk n0 K sv (l ++ [y])) : ∃ (b c : Nat) (cs : List Value), sv = .slice (some ⟨b, 0, none⟩) (l ++ [y]).length c ∧ (l ++ [y]).length ≤ c ∧ hget K b = .row cs 1 true ∧ cs[l.length]? = some (.int .i64 (y : Int)) ∧
  n0 ≤ b ∧ Stk n0 K (.slice (some ⟨b, 0, none⟩) l.length c) l := by
 obtain ⟨b, c, cs, rfl, h2, h3, h4, h5, h6⟩ := h
 have e : cs[l.length]? = some (nmV1 y) := by
  have := congrArg (fun q : List Value => q[l.length]?) h6
  simp only [List.map_append, List.map_cons, List.map_nil] at this
  rw [List.getElem?_take_of_lt (by simp), List.getElem?_append_right (by simp)] at this
  simpa using this
 refine ⟨b, c, cs, rfl, h3, h4, e, h2, b, c, cs, rfl, h2, ?_, h4, h5, ?_⟩
 ·simp at h3; omega
 ·have := congrArg (fun q : List Value => q.take l.length) h6
  simp only [List.take_take, List.map_append, List.map_cons, List.map_nil] at this
  rw [Nat.min_eq_left (by simp)] at this
  rw [this, List.take_append_of_le_length (by simp), List.take_of_length_le (by simp)]
end
section
variable {R : FRes → Heap → Prop} {H K : Heap}
def rdA (K : Heap) (cb : Nat) (s : Sch) (v : Value) : Nat → Env → Heap → Prop := fun z e K' =>
 ∃ (i : Nat), i ≤ s.states.length ∧ z = s.states.length - i ∧ Base K K' ∧ hget K' K.length = .map (plE 0 (s.states.take i)) ∧
  (∃ x : Nat → Value, e = [.pointer (some ⟨cb, 0, none⟩), x 1, .map (some K.length), x 3, x 4, x 5, x 6, x 7, x 8, x 9, x 10, x 11, x 12, x 13, x 14, x 15, x 16, x 17, x 18, x 19, x 20, v, .int .i64 (s.states.length : Int), .int .i64 (i : Int), x 24, x 25, x 26, x 27, x 28, x 29, x 30, x 31, x 32, x 33, x 34, x 35, x 36, x 37, x 38, x 39, x 40, x 41, x 42, x 43, x 44, x 45, x 46, x 47, x 48, x 49, x 50, x 51, x 52, x 53, x 54, x 55, x 56, x 57, x 58, x 59, x 60, x 61, x 62, x 63, x 64, x 65, x 66, x 67, x 68, x 69, x 70, x 71, x 72, x 73, x 74, x 75, x 76, x 77, x 78, x 79, x 80, x 81, x 82, x 83, x 84, x 85, x 86, x 87, x 88, x 89, x 90, x 91, x 92, x 93, x 94, x 95, x 96, x 97, x 98, x 99, x 100, x 101, x 102, x 103, x 104, x 105, x 106, x 107, x 108, x 109, x 110, x 111, x 112, x 113, x 114, x 115, x 116, x 117, x 118, x 119, x 120, x 121, x 122, x 123, x 124, x 125, x 126, x 127, x 128, x 129])
def rdI (K : Heap) (cb mb : Nat) (s : Sch) (v : Value) : Nat → Env → Heap → Prop := fun z e K' =>
 ∃ (i : Nat) (th : List UInt8), i ≤ s.states.length ∧ z = s.states.length - i ∧ But cb K K' ∧ Chk K' cb s th ∧ hget K' mb = .map (plE 0 s.states) ∧ rndE s 0 s.states = rndE s i (s.states.drop i) ∧
  (∃ x : Nat → Value, e = [.pointer (some ⟨cb, 0, none⟩), x 1, .map (some mb), x 3, x 4, x 5, x 6, x 7, x 8, x 9, x 10, x 11, x 12, x 13, x 14, x 15, x 16, x 17, x 18, x 19, x 20, x 21, x 22, x 23, x 24, x 25, x 26, x 27, x 28, x 29, x 30, x 31, x 32, x 33, x 34, x 35, x 36, x 37, v, .int .i64 (s.states.length : Int), .int .i64 (i : Int), x 41, x 42, x 43, x 44, x 45, x 46, x 47, x 48, x 49, x 50, x 51, x 52, x 53, x 54, x 55, x 56, x 57, x 58, x 59, x 60, x 61, x 62, x 63, x 64, x 65, x 66, x 67, x 68, x 69, x 70, x 71, x 72, x 73, x 74, x 75, x 76, x 77, x 78, x 79, x 80, x 81, x 82, x 83, x 84, x 85, x 86, x 87, x 88, x 89, x 90, x 91, x 92, x 93, x 94, x 95, x 96, x 97, x 98, x 99, x 100, x 101, x 102, x 103, x 104, x 105, x 106, x 107, x 108, x 109, x 110, x 111, x 112, x 113, x 114, x 115, x 116, x 117, x 118, x 119, x 120, x 121, x 122, x 123, x 124, x 125, x 126, x 127, x 128, x 129])
/-- The search's loop: Kr is memory as it was ahead of the two lists. -/
def rdW (Kr : Heap) (cb mb : Nat) (s : Sch) (v : Value) (i : Nat) : Nat → Env → Heap → Prop := fun z e K' =>
 ∃ (met : List Bool) (opn : List Nat) (sv : Value), z = opn.length + met.count false ∧ z ≤ s.states.length + 1 ∧ Dfs (Edge s) s.states.length i met opn none ∧ Base Kr K' ∧ hget K' Kr.length = .row (met.map .bool) 1 true ∧ Stk (Kr.length + 1) K' sv opn ∧
  (∃ x : Nat → Value, e = [.pointer (some ⟨cb, 0, none⟩), x 1, .map (some mb), x 3, x 4, .int .i64 (i : Int), x 6, .slice (some ⟨Kr.length, 0, none⟩) s.states.length s.states.length, sv, x 9, x 10, x 11, x 12, x 13, x 14, x 15, x 16, x 17, x 18, x 19, x 20, x 21, x 22, x 23, x 24, x 25, x 26, x 27, x 28, x 29, x 30, x 31, x 32, x 33, x 34, x 35, x 36, x 37, v, .int .i64 (s.states.length : Int), .int .i64 (i : Int), x 41, x 42, x 43, x 44, x 45, x 46, x 47, x 48, x 49, x 50, x 51, x 52, x 53, x 54, x 55, x 56, x 57, x 58, x 59, x 60, x 61, x 62, x 63, x 64, x 65, x 66, x 67, x 68, x 69, x 70, x 71, x 72, x 73, x 74, x 75, x 76, x 77, x 78, x 79, x 80, x 81, x 82, x 83, x 84, x 85, x 86, x 87, x 88, x 89, x 90, x 91, x 92, x 93, x 94, x 95, x 96, x 97, x 98, x 99, x 100, x 101, x 102, x 103, x 104, x 105, x 106, x 107, x 108, x 109, x 110, x 111, x 112, x 113, x 114, x 115, x 116, x 117, x 118, x 119, x 120, x 121, x 122, x 123, x 124, x 125, x 126, x 127, x 128, x 129])
def rdC (Kr Kc : Heap) (cb mb : Nat) (s : Sch) (v sv w : Value) (i : Nat) (y : Sta) : Nat → Env → Heap → Prop := fun z e K' =>
 ∃ (k : Nat) (sl : Value), k ≤ y.cases.length ∧ z = y.cases.length - k ∧ Base Kc K' ∧ SLs 1 Kc.length K' sl ((y.next :: (y.cases.take k).map Cas.next).map txC) ∧
  (∃ x : Nat → Value, e = [.pointer (some ⟨cb, 0, none⟩), x 1, .map (some mb), x 3, x 4, .int .i64 (i : Int), x 6, .slice (some ⟨Kr.length, 0, none⟩) s.states.length s.states.length, sv, x 9, sl, x 11, x 12, x 13, x 14, x 15, x 16, x 17, x 18, x 19, x 20, x 21, x 22, x 23, x 24, x 25, x 26, x 27, x 28, x 29, x 30, x 31, x 32, x 33, x 34, x 35, x 36, x 37, v, .int .i64 (s.states.length : Int), .int .i64 (i : Int), x 41, x 42, x 43, x 44, x 45, x 46, x 47, x 48, x 49, x 50, x 51, x 52, x 53, x 54, x 55, x 56, x 57, x 58, x 59, x 60, x 61, x 62, x 63, x 64, x 65, x 66, x 67, x 68, x 69, x 70, x 71, x 72, x 73, x 74, x 75, x 76, x 77, x 78, x 79, x 80, x 81, x 82, x 83, x 84, w, .int .i64 (y.cases.length : Int), .int .i64 (k : Int), x 88, x 89, x 90, x 91, x 92, x 93, x 94, x 95, x 96, x 97, x 98, x 99, x 100, x 101, x 102, x 103, x 104, x 105, x 106, x 107, x 108, x 109, x 110, x 111, x 112, x 113, x 114, x 115, x 116, x 117, x 118, x 119, x 120, x 121, x 122, x 123, x 124, x 125, x 126, x 127, x 128, x 129])
def rdN (Kr : Heap) (cb mb nb : Nat) (s : Sch) (v : Value) (i y M : Nat) (L : List (List UInt8)) : Nat → Env → Heap → Prop := fun z e K' =>
 ∃ (m : Nat) (met : List Bool) (opn : List Nat) (sv : Value), m ≤ L.length ∧ z = L.length - m ∧ opn.length + met.count false = M ∧ Dfs (Edge s) s.states.length i met opn (some y) ∧ (y = i ∨ met[y]? = some true) ∧
  (∀ t ∈ L.take m, ∀ j (h : j < s.states.length), s.states[j].name = t → j ≠ i ∧ met[j]? = some true) ∧ Base Kr K' ∧ hget K' Kr.length = .row (met.map .bool) 1 true ∧ Stk (Kr.length + 1) K' sv opn ∧
  Kr.length < nb ∧ hget K' nb = .row (L.map txC).flatten 1 true ∧ blk sv ≠ some nb ∧
  (∃ x : Nat → Value, e = [.pointer (some ⟨cb, 0, none⟩), x 1, .map (some mb), x 3, x 4, .int .i64 (i : Int), x 6, .slice (some ⟨Kr.length, 0, none⟩) s.states.length s.states.length, sv, x 9, x 10, x 11, x 12, x 13, x 14, x 15, x 16, x 17, x 18, x 19, x 20, x 21, x 22, x 23, x 24, x 25, x 26, x 27, x 28, x 29, x 30, x 31, x 32, x 33, x 34, x 35, x 36, x 37, v, .int .i64 (s.states.length : Int), .int .i64 (i : Int), x 41, x 42, x 43, x 44, x 45, x 46, x 47, x 48, x 49, x 50, x 51, x 52, x 53, x 54, x 55, x 56, x 57, x 58, x 59, x 60, x 61, x 62, x 63, x 64, x 65, x 66, x 67, x 68, x 69, x 70, x 71, x 72, x 73, x 74, x 75, x 76, x 77, x 78, x 79, x 80, x 81, x 82, x 83, x 84, x 85, x 86, x 87, x 88, x 89, x 90, x 91, x 92, x 93, x 94, x 95, x 96, .slice (some ⟨nb, 0, none⟩) L.length L.length, .int .i64 (L.length : Int), .int .i64 (m : Int), x 100, x 101, x 102, x 103, x 104, x 105, x 106, x 107, x 108, x 109, x 110, x 111, x 112, x 113, x 114, x 115, x 116, x 117, x 118, x 119, x 120, x 121, x 122, x 123, x 124, x 125, x 126, x 127, x 128, x 129])
theorem rep_flat : ∀ n : Nat, (List.replicate n [Value.bool false]).flatten = (List.replicate n false).map Value.bool
 | 0 => rfl
 | n + 1 => by simp only [List.replicate_succ, List.flatten_cons, List.map_cons, rep_flat n]; rfl
theorem mem_take_succ {α : Type} {l : List α} {i : Nat} (h : i < l.length) {t : α} (ht : t ∈ l.take (i + 1)) : t ∈ l.take i ∨ t = l[i] := by
 rw [List.take_add_one, List.getElem?_eq_getElem h] at ht
 rcases List.mem_append.1 ht with q | q
 ·exact .inl q
 ·exact .inr (by simpa using q)
set_option maxHeartbeats 4000000 in
theorem rounds_s {cb : Nat} {s : Sch} {th : List UInt8} (hs : s.OK H) (hn0 : ∀ x ∈ s.states, short x.name) (hb : Base H K) (hcb : H.length ≤ cb) (hc : Chk K cb s th) (hnd : (s.states.map Sta.name).Nodup) (hlen : s.states.length ≤ 32) (hcas : ∀ x ∈ s.states, x.cases.length ≤ 32)
  (h : roundsE s = none → ∀ K' th', But cb K K' → Chk K' cb s th' → R (.ret (.tuple #[])) K')
  (hp : ∀ e t, roundsE s = some (e, t) → ∀ K', But cb K K' → R (.pan (wrongV e t)) K') : WD T 88 [.pointer (some ⟨cb, 0, none⟩)] K R := by
 unfold roundsE at h hp
 obtain ⟨hr, hn, hok⟩ := hs.ss
 unfold few at hn
 obtain ⟨ad, hv⟩ := hr.sl
 rw [List.length_map] at hv
 have lc := hc.lt
 have hc0 := hc
 unfold Chk at hc0
 have k0 : ∀ (t : List UInt8), keyOk (.prim 2) (.string (bs t)) = true := fun _ => rfl
 have nat1 : ∀ i : Nat, i < 64 → IntKind.i64.wrap ((i : Int) + 1) = ((i + 1 : Nat) : Int) := fun i hi => by rw [show (i : Int) + 1 = ((i + 1 : Nat) : Int) by omega]; exact wr_i64 (by omega) (by omega)
 have inj : ∀ i j (hi : i < s.states.length) (hj : j < s.states.length), s.states[i].name = s.states[j].name → i = j := fun i j hi hj e => by
  have := List.pairwise_iff_getElem.1 hnd
  rcases Nat.lt_trichotomy i j with q | q | q
  ·exact absurd (by rw [List.getElem_map, List.getElem_map]; exact e) (this i j (by simpa using hi) (by simpa using hj) q)
  ·exact q
  ·exact absurd (by rw [List.getElem_map, List.getElem_map]; exact e.symm) (this j i (by simpa using hj) (by simpa using hi) q)
 refine WD.of follows t88 (by simp) ?_
 simp (disch := omega) only [kB, kcx, kdm, kdn, kel, aop, Za, Zb, Zc, reduceCtorEq, Zd, Ze, Zf, Zg, Zh, Zi, Zj, Zk, Zl, Zm, Zn, Zo, Zp, Zq, Zr, Zs, Zt, hc0, hv]
 obtain ⟨K1, hK1⟩ : ∃ K1, K1 = K ++ [AObj.map []] := ⟨_, rfl⟩
 rw [← hK1]
 have b1 : Base K K1 := by rw [hK1]; exact Base.app0 _
 have hm1 : hget K1 K.length = .map (plE 0 (s.states.take 0)) := by rw [hK1, hget_last]; rfl
 clear hK1
 refine WLoop.inv (rdA K cb s (.slice ad s.states.length s.states.length)) ?_ s.states.length _ _ ⟨0, Nat.zero_le _, by omega, b1, hm1, by exact ex_env rfl⟩
 rintro z e K' ⟨i, hi, rfl, bK, hm, ⟨x, rfl⟩⟩
 by_cases hlt : i < s.states.length
 ·have c1 : (i : Int) < (s.states.length : Int) := by omega
  obtain ⟨b, u0, w0, rfl, p1, p2, p3, p4, p5⟩ := (hv ▸ hr).at Sta.len hlt
  have prow := bK.rowc (hb.rowc p2)
  have w2 := nat1 i (by omega)
  have o := (hok _ (List.getElem_mem hlt)).one
  have htk := plE_take hlt
  have lm : K.length < K'.length := hget_lt hm rfl
  have hfr : findK (.prim 2) (.string (bs s.states[i].name)) (plE 0 (s.states.take i)) 0 = some none := by
   rcases find_pl s.states[i].name (s.states.take i) 0 0 with ⟨_, q⟩ | ⟨j, hj, q, _⟩
   ·exact q
   ·have hj2 : j < i := by simpa using Nat.lt_of_lt_of_le hj (List.length_take_le ..)
    rw [List.getElem_take] at q
    exact absurd (inj j i (by omega) hlt q) (by omega)
  generalize s.states[i] = y at *
  simp only [Sta.cells] at p3
  simp (disch := omega) only [kB, kcx, kdm, kdn, kel, aop, Za, Zb, Zc, reduceCtorEq, Zd, Ze, Zf, Zg, Zh, Zi, Zj, Zk, Zl, Zm, Zn, Zo, Zp, Zq, Zr, Zs, Zt, c1, prow, p3, p4, o, hm, k0, hfr, w2]
  exact ⟨s.states.length - (i + 1), by omega, i + 1, by omega, rfl, (bK.set (Nat.le_refl _)).app _, by rw [htk, hget_old (by simpa using lm), hget_set' lm], by exact ex_env rfl⟩
 ·have c1 : ¬ (i : Int) < (s.states.length : Int) := by omega
  obtain rfl : i = s.states.length := by omega
  rw [List.take_length] at hm
  have hcK := hc.base bK
  have hcK' := hcK
  unfold Chk at hcK'
  have lcK := hcK.lt
  simp (disch := omega) only [kB, kcx, kdm, kdn, kel, aop, Za, Zb, Zc, reduceCtorEq, Zd, Ze, Zf, Zg, Zh, Zi, Zj, Zk, Zl, Zm, Zn, Zo, Zp, Zq, Zr, Zs, Zt, c1, hcK', hv]
  have lmb : K.length < K'.length := hget_lt hm rfl
  have hmcb : K.length ≠ cb := by omega
  generalize hmbE : K.length = mb at hm lmb hmcb ⊢
  refine WLoop.inv (rdI K cb mb s (.slice ad s.states.length s.states.length)) ?_ s.states.length _ _ ⟨0, th, Nat.zero_le _, by omega, But.refl.add bK, hcK, hm, rfl, by exact ex_env rfl⟩
  clear bK hm hcK hcK' lcK lmb K'
  rintro z e K' ⟨i, th', hi, rfl, bK, hcK, hm, hx, ⟨x, rfl⟩⟩
  by_cases hlt : i < s.states.length
  ·have c1 : (i : Int) < (s.states.length : Int) := by omega
   obtain ⟨b, u0, w0, rfl, p1, p2, p3, p4, p5⟩ := (hv ▸ hr).at Sta.len hlt
   have prow := (bK.base hb hcb).rowc p2
   have w2 := nat1 i (by omega)
   have o := (hok _ (List.getElem_mem hlt)).one
   have hys := hn0 _ (List.getElem_mem hlt)
   have lm := hget_lt hm rfl
   have lcK := hcK.lt
   rw [List.drop_eq_getElem_cons hlt, rndE] at hx
   generalize s.states[i] = y at *
   simp only [Sta.cells] at p3
   unfold short at hys
   have hcK' := hcK
   unfold Chk at hcK'
   have hadd : binV .add (.string (bs [115, 116, 97, 116, 101, 32])) (.string (bs y.name)) = some (.string (bs ([115, 116, 97, 116, 101, 32] ++ y.name))) := bin_str_add (by simp; omega)
   have hmk : s.states.length ≤ roomMax := by unfold roomMax; omega
   simp (disch := omega) only [kB, kcx, kdm, kdn, kel, aop, Za, Zb, Zc, reduceCtorEq, Zd, Ze, Zf, Zg, Zh, Zi, Zj, Zk, Zl, Zm, Zn, Zo, Zp, Zq, Zr, Zs, Zt, c1, prow, p3, p4, o, hadd, hcK', hv, hmk, Int.le_refl]
   obtain ⟨Kr, hKr⟩ : ∃ Kr, Kr = K'.set cb (AObj.row [s.hv, s.mv, .slice (some ⟨b, 0, none⟩) s.states.length s.states.length, s.av, s.tv, s.cv, .string (bs (115 :: 116 :: 97 :: 116 :: 101 :: 32 :: y.name))] 0 true) ++
    [AObj.row [.string (bs y.name), .string (bs y.header), .string (bs y.on.head), .string (bs y.on.name), y.cv, .string (bs y.next)] 0 true] := ⟨_, rfl⟩
   have lKr : Kr.length = K'.length + 1 := by rw [hKr]; simp
   obtain ⟨K4, hK4⟩ : ∃ K4, K4 = K'.set cb (AObj.row [s.hv, s.mv, .slice (some ⟨b, 0, none⟩) s.states.length s.states.length, s.av, s.tv, s.cv, .string (bs (115 :: 116 :: 97 :: 116 :: 101 :: 32 :: y.name))] 0 true) ++
    [AObj.row [.string (bs y.name), .string (bs y.header), .string (bs y.on.head), .string (bs y.on.name), y.cv, .string (bs y.next)] 0 true, AObj.row (List.replicate s.states.length [Value.bool false]).flatten 1 true, AObj.row [.int .i64 (i : Int)] 1 true] := ⟨_, rfl⟩
   rw [← hK4]
   have e1 : K'.length + 1 = Kr.length := lKr.symm
   have e2 : K'.length + 2 = Kr.length + 1 := by omega
   rw [e1, e2]
   have hK4' : K4 = Kr ++ [AObj.row ((List.replicate s.states.length false).map Value.bool) 1 true, AObj.row [.int .i64 (i : Int)] 1 true] := by rw [hK4, hKr, List.append_assoc, rep_flat]; rfl
   have bKr : But cb K' Kr := by rw [hKr]; exact But.refl.set.app _
   have hcr : Chk Kr cb s ([115, 116, 97, 116, 101, 32] ++ y.name) := by rw [hKr]; unfold Chk; rw [hget_old (by simpa using lcK), hget_set' lcK, hv]; rfl
   have hmr := bKr.obj hm rfl hmcb
   have bK4 : Base Kr K4 := by rw [hK4']; exact Base.app0 _
   have hmet4 : hget K4 Kr.length = .row ((List.replicate s.states.length false).map Value.bool) 1 true := by rw [hK4', hget_base0]; rfl
   have hop4 : hget K4 (Kr.length + 1) = .row [nmV1 i] 1 true := by rw [hK4', hget_base]; rfl
   have bKK := bK.trans bKr
   have hbr := bKK.base hb hcb
   clear hK4 hK4' hKr prow hcK' hm hcK e1 e2
   have lmr := hget_lt hmr rfl
   have lcr := hcr.lt
   refine WLoop.inv (rdW Kr cb mb s (.slice (some ⟨b, 0, none⟩) s.states.length s.states.length) i) ?_ ([i].length + (List.replicate s.states.length false).count false) _ _ ⟨List.replicate s.states.length false, [i], _, rfl, by simp; omega, Dfs.start hlt, bK4, hmet4, Stk.one hop4 (Nat.le_refl _), by exact ex_env rfl⟩
   clear bK4 hmet4 hop4
   rintro z e K5 ⟨met, opn, sv, rfl, hz, hd, b5, hmet, hstk, ⟨x, rfl⟩⟩
   have hc5 := hcr.base b5
   have hm5 := b5.obj hmr rfl
   rcases List.eq_nil_or_concat opn with rfl | ⟨l, yi, rfl⟩
   ·obtain ⟨ob, oc, ocs, rfl, _⟩ := hstk
    have c0 : ¬ (0 : Int) < ((0 : Nat) : Int) := by decide
    rw [if_neg hd.last] at hx
    simp (disch := omega) only [kB, kcx, kdm, kdn, kel, aop, Za, Zb, Zc, reduceCtorEq, Zd, Ze, Zf, Zg, Zh, Zi, Zj, Zk, Zl, Zm, Zn, Zo, Zp, Zq, Zr, Zs, Zt, c0, w2]
    exact ⟨s.states.length - (i + 1), by omega, i + 1, _, by omega, rfl, bKK.add b5, hc5, hm5, hx, by exact ex_env rfl⟩
   ·rw [List.concat_eq_append] at hz hd hstk ⊢
    obtain ⟨hd2, hyl, hyo⟩ := hd.pop
    obtain ⟨ob, oc, ocs, rfl, hoc, hob, hcell, hon, hstk2⟩ := hstk.pop
    obtain ⟨b2, u2, w3, e2, q1, q2, q3, q4, q5⟩ := (hv ▸ hr).at Sta.len hyl
    cases e2
    have hb5 := hbr.trans b5
    have prow5 := hb5.rowc p2
    have hyo' := hok _ (List.getElem_mem hyl)
    have o2 := hyo'.one
    obtain ⟨fr, fn, fk⟩ := hyo'
    obtain ⟨fa, fv⟩ := fr.sl
    rw [List.length_map] at fv
    have hcl := hcas _ (List.getElem_mem hyl)
    have hout := fun j hj => (edge_outs (s := s) (k := j) hyl hj)
    generalize hyy : s.states[yi] = y2 at *
    simp only [Sta.cells] at q3
    have hc5' := hc5
    unfold Chk at hc5'
    have lob := hget_lt hob rfl
    have lc5 := hc5.lt
    rw [List.length_append, List.length_singleton] at hz hoc
    have w1 : IntKind.i64.wrap (((l ++ [yi]).length : Int) - 1) = (l.length : Int) := by rw [List.length_append, List.length_singleton, show ((l.length + 1 : Nat) : Int) - 1 = (l.length : Int) by omega]; exact wr_i64 (by omega) (by omega)
    have hL1 : (l ++ [yi]).length = l.length + 1 := by rw [List.length_append, List.length_singleton]
    have c0 : (0 : Int) < ((l ++ [yi]).length : Int) := by omega
    have ci : (l.length : Int) < ((l ++ [yi]).length : Int) := by omega
    generalize (l ++ [yi]).length = L1 at c0 ci w1 hL1 ⊢
    have cy : (yi : Int) < (s.states.length : Int) := by omega
    simp (disch := omega) only [kB, kcx, kdm, kdn, kel, aop, Za, Zb, Zc, reduceCtorEq, Zd, Ze, Zf, Zg, Zh, Zi, Zj, Zk, Zl, Zm, Zn, Zo, Zp, Zq, Zr, Zs, Zt, c0, w1, ci, hc5', hob, hcell, hv, cy, prow5, q3, q4, o2, fv, and_false, Nat.zero_mul, Nat.sub_zero]
    obtain ⟨Kc, hKc⟩ : ∃ Kc, Kc = K5 ++ [AObj.row [.string (bs y2.name), .string (bs y2.header), .string (bs y2.on.head), .string (bs y2.on.name), .slice fa y2.cases.length y2.cases.length, .string (bs y2.next)] 0 true] := ⟨_, rfl⟩
    have lKc : Kc.length = K5.length + 1 := by rw [hKc]; simp
    obtain ⟨K6, hK6⟩ : ∃ K6, K6 = K5 ++ [AObj.row [.string (bs y2.name), .string (bs y2.header), .string (bs y2.on.head), .string (bs y2.on.name), .slice fa y2.cases.length y2.cases.length, .string (bs y2.next)] 0 true, AObj.row [.string (bs y2.next)] 1 true] := ⟨_, rfl⟩
    rw [← hK6, lKc.symm]
    have hK6' : K6 = Kc ++ [AObj.row [.string (bs y2.next)] 1 true] := by rw [hK6, hKc, List.append_assoc]; rfl
    have b5c : Base K5 Kc := by rw [hKc]; exact Base.app0 _
    have b6 : Base Kc K6 := by rw [hK6']; exact Base.app0 _
    have hs6 : SLs 1 Kc.length K6 (.slice (some ⟨Kc.length, 0, none⟩) 1 1) ((y2.next :: (y2.cases.take 0).map Cas.next).map txC) := .inr ⟨by simp, Kc.length, Nat.le_refl _, rfl, by rw [hK6', hget_base0]; rfl, by intro cs hcs; simp at hcs; rw [hcs]; rfl⟩
    clear hK6 hK6' hKc
    refine WLoop.inv (rdC Kr Kc cb mb s (.slice (some ⟨b, 0, none⟩) s.states.length s.states.length) (.slice (some ⟨ob, 0, none⟩) l.length oc) (.slice fa y2.cases.length y2.cases.length) i y2) ?_ y2.cases.length _ _ ⟨0, _, Nat.zero_le _, by omega, b6, hs6, by exact ex_env rfl⟩
    clear b6 hs6
    rintro z e K7 ⟨k, sl, hk, rfl, b7, hsl, ⟨x, rfl⟩⟩
    by_cases hkl : k < y2.cases.length
    ·have c3 : (k : Int) < (y2.cases.length : Int) := by omega
     obtain ⟨b', u1, w1', rfl, q1', q2', q3', q4', q5'⟩ := (fv ▸ fr).at Cas.len hkl
     have qrow := ((hb5.trans b5c).trans b7).rowc q2'
     have w3 := nat1 k (by omega)
     have htk := take_map Cas.next hkl
     generalize y2.cases[k] = c at *
     simp only [Cas.cells] at q3'
     have b7l := b7.1
     obtain ⟨sv', K8, e1, e2, e3, e4, e5⟩ := app_sl (bytes := 16) (K := K7 ++ [AObj.row [.int .u64 (c.value.hi : Int), .int .u64 (c.value.lo : Int), .int .u64 (c.mask.hi : Int), .int .u64 (c.mask.lo : Int), .string (bs c.next)] 0 true, AObj.row [.string (bs c.next)] 1 true])
      (bx := K7.length + 1) (xs := txC c.next) (u2 := 1) (w2 := true) hsl.app (by simp; omega) (by rw [hget_base]; rfl) rfl rfl (by simp only [List.length_map, List.length_cons, List.length_take, roomMax]; omega)
     simp (disch := omega) only [kB, kcx, kdm, kdn, kel, aop, Za, Zb, Zc, reduceCtorEq, Zd, Ze, Zf, Zg, Zh, Zi, Zj, Zk, Zl, Zm, Zn, Zo, Zp, Zq, Zr, Zs, Zt, c3, qrow, q3', q4', e1, w3]
     refine ⟨y2.cases.length - (k + 1), by omega, k + 1, sv', by omega, rfl, ⟨by rw [e3]; simp; omega, fun d hd => ?_⟩, ?_, by exact ex_env rfl⟩
     ·rw [e5 d (by simp; omega) (fun q => by have := (hsl.lt q).2; omega), hget_old (by omega)]
      exact b7.2 d hd
     ·rw [htk]
      simpa using e2
    ·have c3 : ¬ (k : Int) < (y2.cases.length : Int) := by omega
     have hts : (y2.next :: (y2.cases.take k).map Cas.next) = y2.outs := by rw [List.take_of_length_le (by omega)]; rfl
     rw [hts] at hsl
     have hol : y2.outs.length ≤ 33 := by simp [Sta.outs]; omega
     have b7r := (b5.trans b5c).trans b7
     rcases hsl with ⟨h0, _⟩ | ⟨_, nb, hnb0, rfl, hnb, _⟩
     ·simp [Sta.outs] at h0
     ·simp (disch := omega) only [kB, kcx, kdm, kdn, kel, aop, Za, Zb, Zc, reduceCtorEq, Zd, Ze, Zf, Zg, Zh, Zi, Zj, Zk, Zl, Zm, Zn, Zo, Zp, Zq, Zr, Zs, Zt, c3, List.length_map]
      have l5r := b5.1
      have lrm := hget_lt hmet rfl
      refine WLoop.inv (rdN Kr cb mb nb s (.slice (some ⟨b, 0, none⟩) s.states.length s.states.length) i yi (l.length + met.count false) y2.outs) ?_ y2.outs.length _ _
       ⟨0, met, l, _, Nat.zero_le _, by omega, rfl, hd2, hyo, by simp, b7r, (b5c.trans b7).rowc hmet, hstk2.base (b5c.trans b7), by omega, hnb, by intro q; injection q with q; omega, by exact ex_env rfl⟩
      clear hmet hstk2 hnb b7 b5c b7r hd2 hyo
      rintro z e K8 ⟨m, met2, opn, sv, hm2, rfl, hM, hd3, hyo3, hdone, b8, hmet8, hstk8, hnbr, hnb8, hblk8, ⟨x, rfl⟩⟩
      have hc8 := hcr.base b8
      have hm8 := b8.obj hmr rfl
      by_cases hml : m < y2.outs.length
      ·have c4 : (m : Int) < (y2.outs.length : Int) := by omega
       have w4 := nat1 m (by omega)
       have lnb := hget_lt hnb8 rfl
       have hro : RoSl K8 (.slice (some ⟨nb, 0, none⟩) y2.outs.length y2.outs.length) (y2.outs.map txC) := .inr ⟨nb, by simp, lnb, 1, true, hnb8⟩
       obtain ⟨b9, u9, w9, e9, r1, r2, r3, r4, r5⟩ := hro.at txC_len hml
       have r6 : ((y2.outs.map txC).flatten)[m]? = some (.string (bs y2.outs[m])) := by have := r5 0 (by omega); rw [Nat.mul_one, Nat.add_zero] at this; exact this
       have hlast := fun t => mem_take_succ (t := t) hml
       have hmem : y2.outs[m] ∈ y2.outs := List.getElem_mem hml
       clear r5 r3 r2 e9
       rcases find_pl y2.outs[m] s.states 0 0 with ⟨f1, f2⟩ | ⟨j, hj, f1, f2⟩
       ·have wz : IntKind.i64.wrap ((0 : Int) - 1) = -1 := by decide
        have wz2 : IntKind.i64.wrap (-1 : Int) = -1 := by decide
        have hne : ¬ ((-1 : Int) = (i : Int)) := by omega
        have hge : ¬ ((0 : Int) ≤ -1) := by omega
        have hdone2 : ∀ t ∈ y2.outs.take (m + 1), ∀ j (h : j < s.states.length), s.states[j].name = t → j ≠ i ∧ met2[j]? = some true := fun t ht j hj ej => by
         rcases hlast t ht with q | q
         ·exact hdone t q j hj ej
         ·exact absurd (by rw [← q, ← ej]; exact List.mem_map.2 ⟨_, List.getElem_mem hj, rfl⟩) f1
        generalize y2.outs[m] = t at *
        simp (disch := omega) only [kB, kcx, kdm, kdn, kel, aop, Za, Zb, Zc, reduceCtorEq, Zd, Ze, Zf, Zg, Zh, Zi, Zj, Zk, Zl, Zm, Zn, Zo, Zp, Zq, Zr, Zs, Zt, c4, hnb8, r6, hm8, k0, f2, wz, wz2, hne]
        refine need_s hc8 (fun _ => ?_) (fun q => by cases q)
        simp (disch := omega) only [kB, kcx, kdm, kdn, kel, aop, Za, Zb, Zc, reduceCtorEq, Zd, Ze, Zf, Zg, Zh, Zi, Zj, Zk, Zl, Zm, Zn, Zo, Zp, Zq, Zr, Zs, Zt, hge, w4]
        exact ⟨y2.outs.length - (m + 1), by omega, m + 1, met2, opn, sv, by omega, rfl, hM, hd3, hyo3, hdone2, b8, hmet8, hstk8, hnbr, hnb8, hblk8, by exact ex_env rfl⟩
       ·simp only [Nat.zero_add] at f2
        have wj : IntKind.i64.wrap (((j + 1 : Nat) : Int) - 1) = (j : Int) := by rw [show ((j + 1 : Nat) : Int) - 1 = (j : Int) by omega]; exact wr_i64 (by omega) (by omega)
        have hedge : Edge s yi j := (hout j hj).2 (f1 ▸ hmem)
        by_cases hji : j = i
        ·rw [if_pos (hji ▸ hd3.from hyo3 hedge)] at hx
         have hij : (j : Int) = (i : Int) := by omega
         generalize y2.outs[m] = t at *
         simp (disch := omega) only [kB, kcx, kdm, kdn, kel, aop, Za, Zb, Zc, reduceCtorEq, Zd, Ze, Zf, Zg, Zh, Zi, Zj, Zk, Zl, Zm, Zn, Zo, Zp, Zq, Zr, Zs, Zt, c4, hnb8, r6, hm8, k0, f2, wj, hij]
         refine need_s hc8 (fun q => by cases q) (fun _ => ?_)
         exact hp _ _ hx _ (bKK.add b8)
        ·have hne : ¬ ((j : Int) = (i : Int)) := by omega
         have hjm : j < met2.length := by rw [hd3.len]; exact hj
         have cj : (j : Int) < (s.states.length : Int) := by omega
         cases hbb : met2[j] with
         | true =>
          have cell : (met2.map Value.bool)[j]? = some (.bool true) := by rw [List.getElem?_map, List.getElem?_eq_getElem hjm, hbb]; rfl
          have hmj : met2[j]? = some true := by rw [List.getElem?_eq_getElem hjm, hbb]
          have hdone2 : ∀ t ∈ y2.outs.take (m + 1), ∀ j (h : j < s.states.length), s.states[j].name = t → j ≠ i ∧ met2[j]? = some true := fun t ht j2 hj2 ej => by
           rcases hlast t ht with q | q
           ·exact hdone t q j2 hj2 ej
           ·obtain rfl := inj j2 j hj2 hj (by rw [ej, q, f1])
            exact ⟨hji, hmj⟩
          generalize y2.outs[m] = t at *
          simp (disch := omega) only [kB, kcx, kdm, kdn, kel, aop, Za, Zb, Zc, reduceCtorEq, Zd, Ze, Zf, Zg, Zh, Zi, Zj, Zk, Zl, Zm, Zn, Zo, Zp, Zq, Zr, Zs, Zt, c4, hnb8, r6, hm8, k0, f2, wj, hne]
          refine need_s hc8 (fun _ => ?_) (fun q => by cases q)
          simp (disch := omega) only [kB, kcx, kdm, kdn, kel, aop, Za, Zb, Zc, reduceCtorEq, Zd, Ze, Zf, Zg, Zh, Zi, Zj, Zk, Zl, Zm, Zn, Zo, Zp, Zq, Zr, Zs, Zt, hmet8, cj, cell, w4]
          exact ⟨y2.outs.length - (m + 1), by omega, m + 1, met2, opn, sv, by omega, rfl, hM, hd3, hyo3, hdone2, b8, hmet8, hstk8, hnbr, hnb8, hblk8, by exact ex_env rfl⟩
         | false =>
          have cell : (met2.map Value.bool)[j]? = some (.bool false) := by rw [List.getElem?_map, List.getElem?_eq_getElem hjm, hbb]; rfl
          have hmj : met2[j]? = some false := by rw [List.getElem?_eq_getElem hjm, hbb]
          have hset : (met2.map Value.bool).set j (.bool true) = (met2.set j true).map Value.bool := (List.map_set ..).symm
          have hlj : j + 1 ≤ (met2.map Value.bool).length := by rw [List.length_map]; omega
          have hfs := falses_set met2 j hmj
          have lrm8 := hget_lt hmet8 rfl
          have hd4 := hd3.push hyo3 hedge hmj
          have hpu := Stk.push (bytes := 8) (k := j) (K := K8.set Kr.length (.row ((met2.set j true).map Value.bool) 1 true) ++ [AObj.row [.int .i64 (j : Int)] 1 true]) (bx := K8.length) ((hstk8.but (Nat.lt_succ_self _)).base (Base.app0 _)) (by simp; omega)
           (by have := hget_last (K8.set Kr.length (.row ((met2.set j true).map Value.bool) 1 true)) (AObj.row [.int .i64 (j : Int)] 1 true); rw [List.length_set] at this; exact this) (by unfold roomMax; omega)
          obtain ⟨sv', K10, g1, g2, g3, g4, g5⟩ := hpu
          rw [List.length_append, List.length_set, List.length_singleton] at g3 g4 g5
          obtain ⟨sb, hsb1, hsb2, hsb3⟩ := hstk8.bk
          have old : ∀ c, c < K8.length → c ≠ Kr.length → blk sv ≠ some c → hget K10 c = hget K8 c := fun c h1 h2 h3 => by rw [g4 c (by omega) h3, hget_old (by simpa using h1), hget_ne (Ne.symm h2)]
          have hmet10 : hget K10 Kr.length = .row ((met2.set j true).map Value.bool) 1 true := by rw [g4 _ (by omega) (by rw [hsb1]; intro q; cases q; omega), hget_old (by simpa using lrm8), hget_set' lrm8]
          have hnb10 : hget K10 nb = .row (y2.outs.map txC).flatten 1 true := by rw [old nb lnb (by omega) hblk8]; exact hnb8
          have b10 : Base Kr K10 := ⟨by have := b8.1; omega, fun c hc => by have := b8.1; rw [old c (by omega) (by omega) (by rw [hsb1]; intro q; cases q; omega)]; exact b8.2 c hc⟩
          have hdone2 : ∀ t ∈ y2.outs.take (m + 1), ∀ j' (h : j' < s.states.length), s.states[j'].name = t → j' ≠ i ∧ (met2.set j true)[j']? = some true := fun t ht j2 hj2 ej => by
           by_cases hjj : j = j2
           ·subst hjj; exact ⟨hji, by simp [hjm]⟩
           ·rw [List.getElem?_set_ne hjj]
            rcases hlast t ht with q | q
            ·exact hdone t q j2 hj2 ej
            ·exact absurd (inj j j2 hj hj2 (by rw [ej, q, f1])) hjj
          have hyo4 : yi = i ∨ (met2.set j true)[yi]? = some true := hyo3.imp id fun q => by
           by_cases hjy : j = yi
           ·subst hjy; simp [hjm]
           ·rw [List.getElem?_set_ne hjy]; exact q
          generalize y2.outs[m] = t at *
          simp (disch := omega) only [kB, kcx, kdm, kdn, kel, aop, Za, Zb, Zc, reduceCtorEq, Zd, Ze, Zf, Zg, Zh, Zi, Zj, Zk, Zl, Zm, Zn, Zo, Zp, Zq, Zr, Zs, Zt, c4, hnb8, r6, hm8, k0, f2, wj, hne]
          refine need_s hc8 (fun _ => ?_) (fun q => by cases q)
          simp (disch := omega) only [kB, kcx, kdm, kdn, kel, aop, Za, Zb, Zc, reduceCtorEq, Zd, Ze, Zf, Zg, Zh, Zi, Zj, Zk, Zl, Zm, Zn, Zo, Zp, Zq, Zr, Zs, Zt, hmet8, cj, cell, hset, hlj, g1, w4]
          exact ⟨y2.outs.length - (m + 1), by omega, m + 1, met2.set j true, opn ++ [j], sv', by omega, rfl, by simp; omega, hd4, hyo4, hdone2, b10, hmet10, g2, hnbr, hnb10, fun q => (g5 nb q).elim hblk8 (fun q => by omega), by exact ex_env rfl⟩
      ·have c4 : ¬ (m : Int) < (y2.outs.length : Int) := by omega
       rw [List.take_of_length_le (by omega)] at hdone
       have hd4 := hd3.done (fun j hj => hdone _ ((hout j (edge_lt hj).2).1 hj) j (edge_lt hj).2 rfl)
       simp (disch := omega) only [kB, kcx, kdm, kdn, kel, aop, Za, Zb, Zc, reduceCtorEq, Zd, Ze, Zf, Zg, Zh, Zi, Zj, Zk, Zl, Zm, Zn, Zo, Zp, Zq, Zr, Zs, Zt, c4]
       exact ⟨opn.length + met2.count false, by omega, met2, opn, sv, rfl, by omega, hd4, b8, hmet8, hstk8, by exact ex_env rfl⟩
  ·have c1 : ¬ (i : Int) < (s.states.length : Int) := by omega
   rw [List.drop_eq_nil_of_le (by omega), rndE] at hx
   simp (disch := omega) only [kB, kcx, kdm, kdn, kel, aop, Za, Zb, Zc, reduceCtorEq, Zd, Ze, Zf, Zg, Zh, Zi, Zj, Zk, Zl, Zm, Zn, Zo, Zp, Zq, Zr, Zs, Zt, c1]
   exact h hx _ _ bK hcK
end
section
variable {R : FRes → Heap → Prop} {H K : Heap}
/-- Cases that are met, as a map in memory. -/
def btK (p : Bt × Bt) : Value := .agg #[.int .u64 (p.1.hi : Int), .int .u64 (p.1.lo : Int), .int .u64 (p.2.hi : Int), .int .u64 (p.2.lo : Int)]
def btE (p : Bt × Bt) : Value × Value := (btK p, .int .i64 1)
def Hads (K : Heap) (mb : Nat) (l : List (Bt × Bt)) : Prop := hget K mb = .map (l.map btE)
abbrev k4 : KeyT := .flat 4 [(0, 1), (1, 1), (2, 1), (3, 1)]
theorem find_bts (n : Bt × Bt) : ∀ (l : List (Bt × Bt)) (i : Nat), (n ∈ l ∧ ∃ j, findK k4 (btK n) (l.map btE) i = some (some (j, .int .i64 1))) ∨ (¬ n ∈ l ∧ findK k4 (btK n) (l.map btE) i = some none)
 | [], i => .inr ⟨by simp, rfl⟩
 | x :: l, i => by
  have e : keyEq k4 (btK n) (btE x).1 = some (decide (n = x)) := by
   show eqL [(1, .int .u64 (n.1.hi : Int), .int .u64 (x.1.hi : Int)), (1, .int .u64 (n.1.lo : Int), .int .u64 (x.1.lo : Int)), (1, .int .u64 (n.2.hi : Int), .int .u64 (x.2.hi : Int)), (1, .int .u64 (n.2.lo : Int), .int .u64 (x.2.lo : Int))] = _
   rw [eqL_c _ _ _ _ _ (eqT_i _ _ _) _ (eqL_c _ _ _ _ _ (eqT_i _ _ _) _ (eqL_c _ _ _ _ _ (eqT_i _ _ _) _ (eqL_c _ _ _ _ _ (eqT_i _ _ _) _ eqL_n))), Bool.and_true, nat_dec, nat_dec, nat_dec, nat_dec]
   congr 1
   obtain ⟨⟨a, b⟩, ⟨c, d⟩⟩ := n
   obtain ⟨⟨a2, b2⟩, ⟨c2, d2⟩⟩ := x
   rw [Bool.eq_iff_iff]
   simp [and_assoc]
  simp only [List.map_cons, findK, e]
  by_cases h : n = x
  ·rw [decide_eq_true h]
   exact .inl ⟨by simp [h], i, rfl⟩
  ·rw [decide_eq_false h]
   rcases find_bts n l (i + 1) with ⟨h1, h2⟩ | ⟨h1, h2⟩
   ·exact .inl ⟨by simp [h1], h2⟩
   ·exact .inr ⟨by simp [h1]; exact h, h2⟩
theorem names_ends {K : Heap} {mb : Nat} (h : hget K mb = .map [(.string (bs [97, 99, 99, 101, 112, 116]), .int .i64 1), (.string (bs [114, 101, 106, 101, 99, 116]), .int .i64 1)]) : NameSet K mb (fun t => t ∈ ends ∨ t ∈ ([] : List (List UInt8))) := ⟨ends, h, fun t => by simp⟩
theorem NameSet.congr {mb : Nat} {P Q : List UInt8 → Prop} (h : NameSet K mb P) (e : ∀ t, P t ↔ Q t) : NameSet K mb Q := let ⟨l, a, b⟩ := h; ⟨l, a, fun t => (b t).trans (e t)⟩
theorem NameSet.add {mb : Nat} {P : List UInt8 → Prop} (n : List UInt8) (h : NameSet K mb P) : ∃ es es', hget K mb = .map es ∧ NameSet (K.set mb (.map es')) mb (fun t => P t ∨ t = n) ∧
  ((∃ j, findK (.prim 2) (.string (bs n)) es 0 = some (some (j, .int .i64 1)) ∧ es.set j (.string (bs n), .int .i64 1) = es' ∧ P n) ∨ (findK (.prim 2) (.string (bs n)) es 0 = some none ∧ es ++ [(.string (bs n), .int .i64 1)] = es' ∧ ¬ P n)) := by
 obtain ⟨l, h1, h2⟩ := h
 rcases find_names n l 0 with ⟨a, j, b, c⟩ | ⟨a, b⟩
 ·refine ⟨_, _, h1, ⟨l, hget_set' h1.lt, fun t => ?_⟩, .inl ⟨j, by simpa using b, c, (h2 n).1 a⟩⟩
  rw [h2]
  exact ⟨.inl, fun q => q.elim id fun e => e ▸ (h2 n).1 a⟩
 ·refine ⟨_, _, h1, ⟨l ++ [n], ?_, fun t => by simp [h2]⟩, .inr ⟨b, rfl, fun q => a ((h2 n).2 q)⟩⟩
  rw [Names, hget_set' h1.lt, List.map_append]
  rfl
/-- What is found. -/
theorem NameSet.find {mb : Nat} {P : List UInt8 → Prop} (n : List UInt8) (h : NameSet K mb P) : ∃ es, hget K mb = .map es ∧ ((∃ j, findK (.prim 2) (.string (bs n)) es 0 = some (some (j, .int .i64 1)) ∧ P n) ∨ (findK (.prim 2) (.string (bs n)) es 0 = some none ∧ ¬ P n)) := by
 obtain ⟨es, _, h1, _, h2⟩ := h.add n
 exact ⟨es, h1, h2.imp (fun ⟨j, a, _, b⟩ => ⟨j, a, b⟩) fun ⟨a, _, b⟩ => ⟨a, b⟩⟩
/-- Names of the states, into the map. -/
def stA (K : Heap) (cb mb : Nat) (s : Sch) (v : Value) : Nat → Env → Heap → Prop := fun z e K' =>
 ∃ (i : Nat), i ≤ s.states.length ∧ z = s.states.length - i ∧ But cb K K' ∧ Chk K' cb s [115, 116, 97, 116, 101] ∧ NameSet K' mb (fun t => t ∈ ends ∨ t ∈ (s.states.take i).map Sta.name) ∧
  (∃ x : Nat → Value, e = [.pointer (some ⟨cb, 0, none⟩), x 1, .map (some mb), x 3, x 4, x 5, x 6, x 7, x 8, x 9, x 10, x 11, x 12, x 13, x 14, x 15, x 16, x 17, x 18, x 19, x 20, x 21, x 22, x 23, x 24, x 25, x 26, x 27, x 28, x 29, x 30, x 31, x 32, v, .int .i64 (s.states.length : Int), .int .i64 (i : Int), x 36, x 37, x 38, x 39, x 40, x 41, x 42, x 43, x 44, x 45, x 46, x 47, x 48, x 49, x 50, x 51, x 52, x 53, x 54, x 55, x 56, x 57, x 58, x 59, x 60, x 61, x 62, x 63, x 64, x 65, x 66, x 67, x 68, x 69, x 70, x 71, x 72, x 73, x 74, x 75, x 76, x 77, x 78, x 79, x 80, x 81, x 82, x 83, x 84, x 85, x 86, x 87, x 88, x 89, x 90, x 91, x 92, x 93, x 94, x 95, x 96, x 97, x 98, x 99, x 100, x 101, x 102, x 103, x 104, x 105, x 106, x 107, x 108, x 109, x 110, x 111, x 112, x 113, x 114, x 115, x 116, x 117, x 118, x 119, x 120, x 121, x 122, x 123, x 124, x 125, x 126, x 127, x 128, x 129, x 130, x 131, x 132, x 133, x 134, x 135, x 136, x 137, x 138, x 139, x 140, x 141, x 142, x 143, x 144, x 145, x 146, x 147, x 148, x 149, x 150, x 151, x 152, x 153, x 154, x 155, x 156, x 157, x 158, x 159, x 160, x 161, x 162, x 163, x 164, x 165, x 166, x 167, x 168, x 169, x 170, x 171, x 172, x 173, x 174, x 175, x 176, x 177, x 178, x 179, x 180, x 181, x 182, x 183, x 184, x 185, x 186, x 187, x 188, x 189, x 190])
def stI (K : Heap) (cb nb mb : Nat) (s : Sch) (v : Value) : Nat → Env → Heap → Prop := fun z e K' =>
 ∃ (i : Nat) (th : List UInt8), i ≤ s.states.length ∧ z = s.states.length - i ∧ But cb K K' ∧ Chk K' cb s th ∧ NameSet K' nb (leads s) ∧ Names K' mb ((s.states.take i).map Sta.name) ∧
  stasE s [] s.states = stasE s ((s.states.take i).map Sta.name) (s.states.drop i) ∧
  (∃ x : Nat → Value, e = [.pointer (some ⟨cb, 0, none⟩), x 1, .map (some nb), x 3, x 4, .map (some mb), x 6, x 7, x 8, x 9, x 10, x 11, x 12, x 13, x 14, x 15, x 16, x 17, x 18, x 19, x 20, x 21, x 22, x 23, x 24, x 25, x 26, x 27, x 28, x 29, x 30, x 31, x 32, x 33, x 34, x 35, x 36, x 37, x 38, x 39, x 40, x 41, x 42, x 43, x 44, x 45, x 46, x 47, v, .int .i64 (s.states.length : Int), .int .i64 (i : Int), x 51, x 52, x 53, x 54, x 55, x 56, x 57, x 58, x 59, x 60, x 61, x 62, x 63, x 64, x 65, x 66, x 67, x 68, x 69, x 70, x 71, x 72, x 73, x 74, x 75, x 76, x 77, x 78, x 79, x 80, x 81, x 82, x 83, x 84, x 85, x 86, x 87, x 88, x 89, x 90, x 91, x 92, x 93, x 94, x 95, x 96, x 97, x 98, x 99, x 100, x 101, x 102, x 103, x 104, x 105, x 106, x 107, x 108, x 109, x 110, x 111, x 112, x 113, x 114, x 115, x 116, x 117, x 118, x 119, x 120, x 121, x 122, x 123, x 124, x 125, x 126, x 127, x 128, x 129, x 130, x 131, x 132, x 133, x 134, x 135, x 136, x 137, x 138, x 139, x 140, x 141, x 142, x 143, x 144, x 145, x 146, x 147, x 148, x 149, x 150, x 151, x 152, x 153, x 154, x 155, x 156, x 157, x 158, x 159, x 160, x 161, x 162, x 163, x 164, x 165, x 166, x 167, x 168, x 169, x 170, x 171, x 172, x 173, x 174, x 175, x 176, x 177, x 178, x 179, x 180, x 181, x 182, x 183, x 184, x 185, x 186, x 187, x 188, x 189, x 190])
def stJ (K : Heap) (cb nb mb xb fb hb : Nat) (s : Sch) (v : Value) (i : Nat) (w : Value) (W : Int) (l : List Cas) : Nat → Env → Heap → Prop := fun z e K' =>
 ∃ (k : Nat), k ≤ l.length ∧ z = l.length - k ∧ Base K K' ∧ Hads K' hb ((l.take k).map Cas.key) ∧ casesE s W [] l = casesE s W ((l.take k).map Cas.key) (l.drop k) ∧
  (∃ x : Nat → Value, e = [.pointer (some ⟨cb, 0, none⟩), x 1, .map (some nb), x 3, x 4, .map (some mb), x 6, .pointer (some ⟨xb, 0, none⟩), .pointer (some ⟨fb, 0, none⟩), x 9, x 10, .map (some hb), x 12, x 13, x 14, x 15, x 16, x 17, x 18, x 19, x 20, x 21, x 22, x 23, x 24, x 25, x 26, x 27, x 28, x 29, x 30, x 31, x 32, x 33, x 34, x 35, x 36, x 37, x 38, x 39, x 40, x 41, x 42, x 43, x 44, x 45, x 46, x 47, v, .int .i64 (s.states.length : Int), .int .i64 (i : Int), x 51, x 52, x 53, x 54, x 55, x 56, x 57, x 58, x 59, x 60, x 61, x 62, x 63, x 64, x 65, x 66, x 67, x 68, x 69, x 70, x 71, x 72, x 73, x 74, x 75, x 76, x 77, x 78, x 79, x 80, x 81, x 82, x 83, x 84, x 85, x 86, x 87, x 88, x 89, x 90, x 91, x 92, x 93, x 94, x 95, x 96, x 97, x 98, x 99, x 100, x 101, x 102, x 103, x 104, x 105, x 106, x 107, x 108, x 109, x 110, x 111, x 112, w, .int .i64 (l.length : Int), .int .i64 (k : Int), x 116, x 117, x 118, x 119, x 120, x 121, x 122, x 123, x 124, x 125, x 126, x 127, x 128, x 129, x 130, x 131, x 132, x 133, x 134, x 135, x 136, x 137, x 138, x 139, x 140, x 141, x 142, x 143, x 144, x 145, x 146, x 147, x 148, x 149, x 150, x 151, x 152, x 153, x 154, x 155, x 156, x 157, x 158, x 159, x 160, x 161, x 162, x 163, x 164, x 165, x 166, x 167, x 168, x 169, x 170, x 171, x 172, x 173, x 174, x 175, x 176, x 177, x 178, x 179, x 180, x 181, x 182, x 183, x 184, x 185, x 186, x 187, x 188, x 189, x 190])
set_option maxHeartbeats 4000000 in
theorem states_s {cb : Nat} {s : Sch} {th : List UInt8} (hs : s.OK H) (hn0 : ∀ x ∈ s.states, short x.name) (hb : Base H K) (hcb : H.length ≤ cb) (hc : Chk K cb s th)
  (h : statesE s = none → ∀ K' th', But cb K K' → Chk K' cb s th' → R (.ret (.tuple #[])) K')
  (hp : ∀ e t, statesE s = some (e, t) → ∀ K', But cb K K' → R (.pan (wrongV e t)) K') : WD T 48 [.pointer (some ⟨cb, 0, none⟩)] K R := by
 obtain ⟨hr, hn, hok⟩ := hs.ss
 unfold few at hn
 obtain ⟨ad, hv⟩ := hr.sl
 rw [List.length_map] at hv
 have lc := hc.lt
 have hc0 := hc
 unfold Chk at hc0
 refine WD.of follows t48 (by simp) ?_
 simp (disch := omega) only [kB, kcx, kdm, kdn, kel, aop, Za, Zb, Zc, reduceCtorEq, Zd, Ze, Zf, Zg, Zh, Zi, Zj, Zk, Zl, Zm, Zn, Zo, Zp, Zq, Zr, Zs, Zt, hc0, hv]
 obtain ⟨K1, hK1⟩ : ∃ K1, K1 = K.set cb (AObj.row [s.hv, s.mv, .slice ad s.states.length s.states.length, s.av, s.tv, s.cv, .string (bs [115, 116, 97, 116, 101])] 0 true) := ⟨_, rfl⟩
 rw [← hK1]
 have hc1 : Chk K1 cb s [115, 116, 97, 116, 101] := by rw [hK1]; unfold Chk; rw [hget_set' hc.lt, hv]
 have b1 : But cb K K1 := by rw [hK1]; exact But.refl.set
 clear hK1
 have l1 := b1.1
 have hcm : cb ≠ K1.length := by have := hc1.lt; omega
 refine need_s hc1 (fun g => ?_) (fun g => ?_)
 ·have g' : s.states.length ≤ 32 := by have := of_decide_eq_true g; omega
  have hE1 : stasE s [] s.states = none → statesE s = roundsE s := fun q => by rw [statesE, if_pos g', q]
  have hE2 : ∀ e, stasE s [] s.states = some e → statesE s = some e := fun e q => by rw [statesE, if_pos g', q]
  have hc1' := hc1
  unfold Chk at hc1'
  have k0 : ∀ (t : List UInt8), keyOk (.prim 2) (.string (bs t)) = true := fun _ => rfl
  have k1 : keyEq (.prim 2) (.string (bs [114, 101, 106, 101, 99, 116])) (.string (bs [97, 99, 99, 101, 112, 116])) = some false := rfl
  have k2 : (KeyT.prim 2).isPrim = true := rfl
  simp (disch := omega) only [kB, kcx, kdm, kdn, kel, aop, Za, Zb, Zc, reduceCtorEq, Zd, Ze, Zf, Zg, Zh, Zi, Zj, Zk, Zl, Zm, Zn, Zo, Zp, Zq, Zr, Zs, Zt, hc1', hv, k0, findK, k1]
  obtain ⟨K2, hK2⟩ : ∃ K2, K2 = K1 ++ [AObj.map [(Value.string (bs [97, 99, 99, 101, 112, 116]), Value.int IntKind.i64 1), (Value.string (bs [114, 101, 106, 101, 99, 116]), Value.int IntKind.i64 1)]] := ⟨_, rfl⟩
  rw [← hK2]
  have b2 : Base K1 K2 := by rw [hK2]; exact Base.app0 _
  have hm2 : NameSet K2 K1.length (fun t => t ∈ ends ∨ t ∈ (s.states.take 0).map Sta.name) := by rw [hK2]; exact names_ends (by rw [hget_last])
  clear hK2
  have hc2 := hc1.base b2
  refine WLoop.inv (stA K cb K1.length s (.slice ad s.states.length s.states.length)) ?_ s.states.length _ _ ⟨0, Nat.zero_le _, by omega, b1.add b2, hc2, hm2, by exact ex_env rfl⟩
  rintro z e K' ⟨i, hi, rfl, bK, hcK, hm, ⟨x, rfl⟩⟩
  by_cases hlt : i < s.states.length
  ·have c1 : (i : Int) < (s.states.length : Int) := by omega
   obtain ⟨b, u0, w0, rfl, p1, p2, p3, p4, p5⟩ := (hv ▸ hr).at Sta.len hlt
   have prow := (bK.base hb hcb).rowc p2
   have w2 : IntKind.i64.wrap ((i : Int) + 1) = ((i + 1 : Nat) : Int) := wI (by omega)
   have htk := take_map Sta.name hlt
   have o := (hok _ (List.getElem_mem hlt)).one
   have lm := hm.lt
   obtain ⟨es, es', hes, hm', hcase⟩ := hm.add s.states[i].name
   have bK' : But cb K (K'.set K1.length (.map es')) := bK.new (But.refl.set (o := .map es')) l1
   have hcK' : Chk (K'.set K1.length (.map es')) cb s [115, 116, 97, 116, 101] := hcK.but (But.refl.set (o := .map es')) hcm
   have hm2 : ∀ g, NameSet (K'.set K1.length (.map es') ++ g) K1.length (fun t => t ∈ ends ∨ t ∈ (s.states.take (i + 1)).map Sta.name) := fun g => (hm'.base (Base.app0 g)).congr fun t => by rw [htk]; simp [or_assoc]
   clear hm'
   generalize s.states[i] = y at *
   simp only [Sta.cells] at p3
   rcases hcase with ⟨j, f1, f2, f3⟩ | ⟨f1, f2, f3⟩
   ·simp (disch := omega) only [kB, kcx, kdm, kdn, kel, aop, Za, Zb, Zc, reduceCtorEq, Zd, Ze, Zf, Zg, Zh, Zi, Zj, Zk, Zl, Zm, Zn, Zo, Zp, Zq, Zr, Zs, Zt, c1, prow, p3, p4, o, hes, k0, k2, f1, f2, w2]
    exact ⟨s.states.length - (i + 1), by omega, i + 1, by omega, rfl, bK'.app _, hcK'.app _, hm2 _, by exact ex_env rfl⟩
   ·simp (disch := omega) only [kB, kcx, kdm, kdn, kel, aop, Za, Zb, Zc, reduceCtorEq, Zd, Ze, Zf, Zg, Zh, Zi, Zj, Zk, Zl, Zm, Zn, Zo, Zp, Zq, Zr, Zs, Zt, c1, prow, p3, p4, o, hes, k0, f1, f2, w2]
    exact ⟨s.states.length - (i + 1), by omega, i + 1, by omega, rfl, bK'.app _, hcK'.app _, hm2 _, by exact ex_env rfl⟩
  ·have c1 : ¬ (i : Int) < (s.states.length : Int) := by omega
   obtain rfl : i = s.states.length := by omega
   rw [List.take_length] at hm
   have hcK' := hcK
   unfold Chk at hcK'
   have lcK := hcK.lt
   simp (disch := omega) only [kB, kcx, kdm, kdn, kel, aop, Za, Zb, Zc, reduceCtorEq, Zd, Ze, Zf, Zg, Zh, Zi, Zj, Zk, Zl, Zm, Zn, Zo, Zp, Zq, Zr, Zs, Zt, c1, hcK', hv]
   obtain ⟨K3, hK3⟩ : ∃ K3, K3 = K' ++ [AObj.map []] := ⟨_, rfl⟩
   rw [← hK3]
   have b3 : Base K' K3 := by rw [hK3]; exact Base.app0 _
   have hm3 : Names K3 K'.length [] := by rw [hK3, Names, hget_last]; rfl
   clear hK3
   have hns := hm.base b3
   have hc3 := hcK.base b3
   have bK3 := bK.add b3
   have hcm2 : cb ≠ K'.length := by omega
   have hnm : K1.length ≠ K'.length := by have := hm.lt; omega
   have lnb := hm.lt
   have l2 : K.length ≤ K'.length := bK.1
   generalize hnbE : K1.length = nb at *
   generalize hmbE : K'.length = mb at *
   clear hm hcK hcK' hm2 hc2 b2 K2 bK b3
   refine WLoop.inv (stI K cb nb mb s (.slice ad s.states.length s.states.length)) ?_ s.states.length _ _ ⟨0, _, Nat.zero_le _, by omega, bK3, hc3, hns, hm3, rfl, by exact ex_env rfl⟩
   rintro z e K' ⟨i, th', hi, rfl, bK, hcK, hns, hm, hx, ⟨x, rfl⟩⟩
   by_cases hlt : i < s.states.length
   ·have c1 : (i : Int) < (s.states.length : Int) := by omega
    obtain ⟨b, u0, w0, rfl, p1, p2, p3, p4, p5⟩ := (hv ▸ hr).at Sta.len hlt
    have prow := (bK.base hb hcb).rowc p2
    have w2 : IntKind.i64.wrap ((i : Int) + 1) = ((i + 1 : Nat) : Int) := wI (by omega)
    have htk := take_map Sta.name hlt
    have hyo := hok _ (List.getElem_mem hlt)
    have hys := hn0 _ (List.getElem_mem hlt)
    rw [List.drop_eq_getElem_cons hlt, stasE] at hx
    generalize s.states[i] = y at *
    simp only [Sta.cells] at p3
    have o := hyo.one
    obtain ⟨fr, fn, fk⟩ := hyo
    obtain ⟨fa, fv⟩ := fr.sl
    rw [List.length_map] at fv
    unfold few at fn
    have lm := hm.lt
    have lns := hns.lt
    have lcK := hcK.lt
    have lK := bK.1
    have hcK' := hcK
    unfold Chk at hcK'
    unfold short at hys
    have hadd : binV .add (.string (bs [115, 116, 97, 116, 101, 32])) (.string (bs y.name)) = some (.string (bs ([115, 116, 97, 116, 101, 32] ++ y.name))) := bin_str_add (by simp; omega)
    simp (disch := omega) only [kB, kcx, kdm, kdn, kel, aop, Za, Zb, Zc, reduceCtorEq, Zd, Ze, Zf, Zg, Zh, Zi, Zj, Zk, Zl, Zm, Zn, Zo, Zp, Zq, Zr, Zs, Zt, c1, prow, p3, p4, o, hadd, hcK']
    obtain ⟨K4, hK4⟩ : ∃ K4, K4 = K'.set cb (AObj.row [s.hv, s.mv, s.sv, s.av, s.tv, s.cv, .string (bs (115 :: 116 :: 97 :: 116 :: 101 :: 32 :: y.name))] 0 true) ++ [AObj.row [.string (bs y.name), .string (bs y.header), .string (bs y.on.head), .string (bs y.on.name), y.cv, .string (bs y.next)] 0 true] := ⟨_, rfl⟩
    rw [← hK4]
    have b4 : But cb K' K4 := by rw [hK4]; exact But.refl.set.app _
    have hc4 : Chk K4 cb s ([115, 116, 97, 116, 101, 32] ++ y.name) := by rw [hK4]; unfold Chk; rw [hget_old (by simpa using lcK)]; exact hget_set' lcK
    have hbx4 : hget K4 K'.length = .row [.string (bs y.name), .string (bs y.header), .string (bs y.on.head), .string (bs y.on.name), y.cv, .string (bs y.next)] 0 true := by
     have := hget_last (K'.set cb (AObj.row [s.hv, s.mv, s.sv, s.av, s.tv, s.cv, .string (bs (115 :: 116 :: 97 :: 116 :: 101 :: 32 :: y.name))] 0 true)) (AObj.row [.string (bs y.name), .string (bs y.header), .string (bs y.on.head), .string (bs y.on.name), y.cv, .string (bs y.next)] 0 true)
     rw [List.length_set] at this
     rw [hK4]
     exact this
    clear hK4
    have hns4 := hns.but b4 (by omega)
    have hm4 := hm.but b4 (by omega)
    have bK4 := bK.trans b4
    refine name_s hc4 hm4 (fun g K5 b5 hm5 => ?_) (fun e g => ?_)
    ·rw [g] at hx
     simp only at hx
     have hc5 := hc4.but b5 hcm2
     have hbx5 := b5.row hbx4 (by omega)
     have hns5 := hns4.but b5 hnm
     have bK5 := bK4.new b5 l2
     have bad : ∀ e K6, Base K5 K6 → staE s y = some e → R (.pan (wrongV e ([115, 116, 97, 116, 101, 32] ++ y.name))) K6 := fun e K6 b6 q => by
      rw [q] at hx
      simp only at hx
      exact hp _ _ (hE2 _ hx) _ (bK5.add b6)
     have good : staE s y = none → stasE s [] s.states = stasE s ((s.states.take i).map Sta.name ++ [y.name]) (s.states.drop (i + 1)) := fun q => by rw [q] at hx; exact hx
     clear hx
     unfold staE at bad good
     obtain ⟨o0, o1, o2, o3, o4, o5⟩ := hs.one
     have hc5' := hc5
     unfold Chk at hc5'
     have lc5 := hc5.lt
     simp (disch := omega) only [kB, kcx, kdm, kdn, kel, aop, Za, Zb, Zc, reduceCtorEq, Zd, Ze, Zf, Zg, Zh, Zi, Zj, Zk, Zl, Zm, Zn, Zo, Zp, Zq, Zr, Zs, Zt, hbx5, hc5', o, o0, o1, o2, o3, o4, o5]
     have hb5 := bK5.base hb hcb
     refine headerAt_s hs hb5 ?_
     simp (disch := omega) only [kB, kcx, kdm, kdn, kel, aop, Za, Zb, Zc, reduceCtorEq, Zd, Ze, Zf, Zg, Zh, Zi, Zj, Zk, Zl, Zm, Zn, Zo, Zp, Zq, Zr, Zs, Zt]
     refine need_s hc5 (fun g1 => ?_) (fun g1 => ?_)
     ·have g1' := (ixT_mem _ _).1 (of_decide_eq_true g1)
      rw [if_pos g1'] at bad good
      simp (disch := omega) only [kB, kcx, kdm, kdn, kel, aop, Za, Zb, Zc, reduceCtorEq, Zd, Ze, Zf, Zg, Zh, Zi, Zj, Zk, Zl, Zm, Zn, Zo, Zp, Zq, Zr, Zs, Zt, hbx5, hc5', o, o0, o1, o2, o3, o4, o5]
      refine fieldOf_s (r := y.on) hs hb5 ?_
      rw [fldV_eq]
      have hz := Rf.eqz y.on
      have hf64 := rwV_i64 hs y.on
      have lx5 := hget_lt hbx5 rfl
      have b6 : Base K5 (K5 ++ [AObj.row [.string (bs (nmV (fldOf s y.on))), .int .i64 (rwV (fldOf s y.on))] 0 true]) := Base.app0 _
      have hfx6 : hget (K5 ++ [AObj.row [.string (bs (nmV (fldOf s y.on))), .int .i64 (rwV (fldOf s y.on))] 0 true]) K5.length = AObj.row [.string (bs (nmV (fldOf s y.on))), .int .i64 (rwV (fldOf s y.on))] 0 true := hget_last _ _
      by_cases hzz : y.on = Rf.zero
      case' pos =>
       rw [if_pos (.inl hzz)] at bad good
       simp (disch := omega) only [kB, kcx, kdm, kdn, kel, aop, Za, Zb, Zc, reduceCtorEq, Zd, Ze, Zf, Zg, Zh, Zi, Zj, Zk, Zl, Zm, Zn, Zo, Zp, Zq, Zr, Zs, Zt, hbx5, o, hz, decide_eq_true hzz]
       generalize K5 ++ [AObj.row [.string (bs (nmV (fldOf s y.on))), .int .i64 (rwV (fldOf s y.on))] 0 true] = K6 at *
       refine need_s (hc5.base b6) (fun _ => ?_) (fun q => by cases q)
       have hbx6 := b6.rowc hbx5
       simp (disch := omega) only [kB, kcx, kdm, kdn, kel, aop, Za, Zb, Zc, reduceCtorEq, Zd, Ze, Zf, Zg, Zh, Zi, Zj, Zk, Zl, Zm, Zn, Zo, Zp, Zq, Zr, Zs, Zt, hbx6, fv]
       refine need_s (hc5.base b6) (fun g2 => ?_) (fun g2 => bad _ _ b6 (if_neg (fun q => of_decide_eq_false g2 (by omega))))
       have g2' : y.cases.length ≤ 32 := by have := of_decide_eq_true g2; omega
       rw [if_pos g2'] at bad good
       simp (disch := omega) only [kB, kcx, kdm, kdn, kel, aop, Za, Zb, Zc, reduceCtorEq, Zd, Ze, Zf, Zg, Zh, Zi, Zj, Zk, Zl, Zm, Zn, Zo, Zp, Zq, Zr, Zs, Zt, hbx6, fv]
       refine need_s (hc5.base b6) (fun g3 => ?_) (fun g3 => bad _ _ b6 (if_neg (fun q => of_decide_eq_false g3 (by have := q.resolve_left (fun z => z hzz); omega))))
       have g3' : y.cases.length = 0 := by have := of_decide_eq_true g3; omega
       rw [if_pos (.inr g3')] at bad good
       clear g3 g3'
      case' neg =>
       simp (disch := omega) only [kB, kcx, kdm, kdn, kel, aop, Za, Zb, Zc, reduceCtorEq, Zd, Ze, Zf, Zg, Zh, Zi, Zj, Zk, Zl, Zm, Zn, Zo, Zp, Zq, Zr, Zs, Zt, hbx5, o, hz, decide_eq_false hzz]
       generalize K5 ++ [AObj.row [.string (bs (nmV (fldOf s y.on))), .int .i64 (rwV (fldOf s y.on))] 0 true] = K6 at *
       refine need_s (hc5.base b6) (fun g0 => ?_) (fun g0 => bad _ _ b6 (if_neg (fun q => q.elim hzz (fun z => by rw [z] at g0; cases g0))))
       rw [if_pos (.inr g0)] at bad good
       have hbx6 := b6.rowc hbx5
       simp (disch := omega) only [kB, kcx, kdm, kdn, kel, aop, Za, Zb, Zc, reduceCtorEq, Zd, Ze, Zf, Zg, Zh, Zi, Zj, Zk, Zl, Zm, Zn, Zo, Zp, Zq, Zr, Zs, Zt, hbx6, fv]
       refine need_s (hc5.base b6) (fun g2 => ?_) (fun g2 => bad _ _ b6 (if_neg (fun q => of_decide_eq_false g2 (by omega))))
       have g2' : y.cases.length ≤ 32 := by have := of_decide_eq_true g2; omega
       rw [if_pos g2'] at bad good
       simp (disch := omega) only [kB, kcx, kdm, kdn, kel, aop, Za, Zb, Zc, reduceCtorEq, Zd, Ze, Zf, Zg, Zh, Zi, Zj, Zk, Zl, Zm, Zn, Zo, Zp, Zq, Zr, Zs, Zt, hbx6, fv]
       refine need_s (hc5.base b6) (fun _ => ?_) (fun q => by cases q)
       rw [if_pos (.inl hzz)] at bad good
      all_goals (
       have lx6 := hget_lt hbx6 rfl
       have lf6 := hget_lt hfx6 rfl
       simp (disch := omega) only [kB, kcx, kdm, kdn, kel, aop, Za, Zb, Zc, reduceCtorEq, Zd, Ze, Zf, Zg, Zh, Zi, Zj, Zk, Zl, Zm, Zn, Zo, Zp, Zq, Zr, Zs, Zt, hbx6, fv]
       generalize hWW : rwV (fldOf s y.on) = W at *
       obtain ⟨K7, hK7⟩ : ∃ K7, K7 = K6 ++ [AObj.map []] := ⟨_, rfl⟩
       rw [← hK7]
       have b7 : Base K6 K7 := by rw [hK7]; exact Base.app0 _
       have hh7 : Hads K7 K6.length [] := by rw [hK7, Hads, hget_last]; rfl
       clear hK7
       refine WLoop.inv (stJ K6 cb nb mb K'.length K5.length K6.length s (.slice (some ⟨b, 0, none⟩) s.states.length s.states.length) i (.slice fa y.cases.length y.cases.length) W y.cases) ?_ y.cases.length _ _ ⟨0, Nat.zero_le _, by omega, b7, hh7, rfl, by exact ex_env rfl⟩
       clear b7 hh7
       rintro z e K8 ⟨k, hk, rfl, b8, hh8, hx, ⟨x, rfl⟩⟩
       have hb58 : Base K5 K8 := b6.trans b8
       have hc8 := hc5.base hb58
       have hns8 := hns5.base hb58
       have hfx8 := b8.rowc hfx6
       have hbx8 := b8.rowc hbx6
       have lhb := hget_lt hh8 rfl
       by_cases hkl : k < y.cases.length
       ·have c3 : (k : Int) < (y.cases.length : Int) := by omega
        obtain ⟨b', u1, w1, rfl, q1, q2, q3, q4, q5⟩ := (fv ▸ fr).at Cas.len hkl
        have qrow := (hb5.trans hb58).rowc q2
        have w3 : IntKind.i64.wrap ((k : Int) + 1) = ((k + 1 : Nat) : Int) := wI (by omega)
        have hck := fk _ (List.getElem_mem hkl)
        have htk2 := take_map Cas.key hkl
        rw [List.drop_eq_getElem_cons hkl, casesE, casE] at hx
        generalize y.cases[k] = c at *
        obtain ⟨⟨cv1, cv2⟩, cm⟩ := hck
        have cm' := cm
        obtain ⟨cm1, cm2⟩ := cm'
        unfold U64 at cv1 cv2 cm1 cm2
        simp only [Cas.cells] at q3
        have bad2 : ∀ e K', Base K5 K' → casesE s W [] y.cases = some e → R (.pan (wrongV e ([115, 116, 97, 116, 101, 32] ++ y.name))) K' := fun e K' b q => bad e K' b (by rw [q])
        simp (disch := omega) only [kB, kcx, kdm, kdn, kel, aop, Za, Zb, Zc, reduceCtorEq, Zd, Ze, Zf, Zg, Zh, Zi, Zj, Zk, Zl, Zm, Zn, Zo, Zp, Zq, Zr, Zs, Zt, c3, qrow, q3, q4, hfx8]
        obtain ⟨K9, hK9⟩ : ∃ K9, K9 = K8 ++ [AObj.row [.int .u64 (c.value.hi : Int), .int .u64 (c.value.lo : Int), .int .u64 (c.mask.hi : Int), .int .u64 (c.mask.lo : Int), .string (bs c.next)] 0 true] := ⟨_, rfl⟩
        rw [← hK9]
        have b9 : Base K8 K9 := by rw [hK9]; exact Base.app0 _
        have hcx9 : hget K9 K8.length = .row [.int .u64 (c.value.hi : Int), .int .u64 (c.value.lo : Int), .int .u64 (c.mask.hi : Int), .int .u64 (c.mask.lo : Int), .string (bs c.next)] 0 true := by rw [hK9, hget_last]
        clear hK9
        have hb59 := hb58.trans b9
        have hh9 : Hads K9 K6.length ((y.cases.take k).map Cas.key) := b9.obj hh8 rfl
        have lh9 := b9.1
        refine fits_s (b := c.mask) cm hf64 ?_
        have or1 := bin_or64 cv1 cm1
        have or2 := bin_or64 cv2 cm2
        have bad73 := fun q => bad2 73 K9 hb59 (hx.trans (by rw [if_neg q]))
        by_cases g1 : fitsV c.mask W = true
        case neg =>
         rw [Bool.not_eq_true] at g1
         simp (disch := omega) only [kB, kcx, kdm, kdn, kel, aop, Za, Zb, Zc, reduceCtorEq, Zd, Ze, Zf, Zg, Zh, Zi, Zj, Zk, Zl, Zm, Zn, Zo, Zp, Zq, Zr, Zs, Zt, g1]
         refine need_s (hc8.base b9) (fun q => by cases q) (fun _ => ?_)
         exact bad73 (fun q => by rw [g1] at q; cases q.1)
        by_cases g2 : c.value.hi ||| c.mask.hi = c.mask.hi
        case neg =>
         have g2' : ¬ ((c.value.hi ||| c.mask.hi : Nat) : Int) = (c.mask.hi : Int) := by omega
         simp (disch := omega) only [kB, kcx, kdm, kdn, kel, aop, Za, Zb, Zc, reduceCtorEq, Zd, Ze, Zf, Zg, Zh, Zi, Zj, Zk, Zl, Zm, Zn, Zo, Zp, Zq, Zr, Zs, Zt, g1, hcx9, or1, g2']
         refine need_s (hc8.base b9) (fun q => by cases q) (fun _ => ?_)
         exact bad73 (fun q => g2 q.2.1)
        by_cases g3 : c.value.lo ||| c.mask.lo = c.mask.lo
        case neg =>
         have g3' : ¬ ((c.value.lo ||| c.mask.lo : Nat) : Int) = (c.mask.lo : Int) := by omega
         simp (disch := omega) only [kB, kcx, kdm, kdn, kel, aop, Za, Zb, Zc, reduceCtorEq, Zd, Ze, Zf, Zg, Zh, Zi, Zj, Zk, Zl, Zm, Zn, Zo, Zp, Zq, Zr, Zs, Zt, g1, hcx9, or1, or2, g2, g3']
         refine need_s (hc8.base b9) (fun q => by cases q) (fun _ => ?_)
         exact bad73 (fun q => g3 q.2.2)
        rw [if_pos ⟨g1, g2, g3⟩] at hx
        simp (disch := omega) only [kB, kcx, kdm, kdn, kel, aop, Za, Zb, Zc, reduceCtorEq, Zd, Ze, Zf, Zg, Zh, Zi, Zj, Zk, Zl, Zm, Zn, Zo, Zp, Zq, Zr, Zs, Zt, g1, hcx9, or1, or2, g2, g3]
        refine need_s (hc8.base b9) (fun _ => ?_) (fun q => by cases q)
        clear bad73
        have h4 : keyOk (.flat 4 [(0, 1), (1, 1), (2, 1), (3, 1)]) (.agg #[.int .u64 (c.value.hi : Int), .int .u64 (c.value.lo : Int), .int .u64 (c.mask.hi : Int), .int .u64 (c.mask.lo : Int)]) = true := rfl
        have hh9' := hh9
        unfold Hads at hh9'
        have lh9k := hget_lt hh9' rfl
        obtain ⟨es, e1, e2⟩ := (hns8.base b9).find c.next
        have hne2 : K6.length ≠ nb := by have := hns5.lt; have := b6.1; omega
        have hne3 : K6.length ≠ K8.length := by omega
        have lnb9 := hget_lt e1 rfl
        have lx9 := hget_lt hcx9 rfl
        rcases find_bts c.key ((y.cases.take k).map Cas.key) 0 with ⟨f1, j, f2⟩ | ⟨f1, f2⟩
        ·have f1' : (c.value, c.mask) ∈ (y.cases.take k).map Cas.key := f1
         have f2' : findK (.flat 4 [(0, 1), (1, 1), (2, 1), (3, 1)]) (.agg #[.int .u64 (c.value.hi : Int), .int .u64 (c.value.lo : Int), .int .u64 (c.mask.hi : Int), .int .u64 (c.mask.lo : Int)]) (((y.cases.take k).map Cas.key).map btE) 0 = some (some (j, .int .i64 1)) := f2
         rw [if_pos f1'] at hx
         simp (disch := omega) only [kB, kcx, kdm, kdn, kel, aop, Za, Zb, Zc, reduceCtorEq, Zd, Ze, Zf, Zg, Zh, Zi, Zj, Zk, Zl, Zm, Zn, Zo, Zp, Zq, Zr, Zs, Zt, hcx9, hh9', h4, f2']
         refine need_s ((hc8.base b9).app _) (fun q => by cases q) (fun _ => ?_)
         exact bad2 71 _ (hb59.app _) hx
        ·have f1' : ¬ (c.value, c.mask) ∈ (y.cases.take k).map Cas.key := f1
         have f2' : findK (.flat 4 [(0, 1), (1, 1), (2, 1), (3, 1)]) (.agg #[.int .u64 (c.value.hi : Int), .int .u64 (c.value.lo : Int), .int .u64 (c.mask.hi : Int), .int .u64 (c.mask.lo : Int)]) (((y.cases.take k).map Cas.key).map btE) 0 = some none := f2
         rw [if_neg f1'] at hx
         simp (disch := omega) only [kB, kcx, kdm, kdn, kel, aop, Za, Zb, Zc, reduceCtorEq, Zd, Ze, Zf, Zg, Zh, Zi, Zj, Zk, Zl, Zm, Zn, Zo, Zp, Zq, Zr, Zs, Zt, hcx9, hh9', h4, f2']
         refine need_s ((hc8.base b9).app _) (fun _ => ?_) (fun q => by cases q)
         have b11 : ∀ o g, But K6.length K9 (K9.set K6.length o ++ g) := fun o g => But.refl.set.app g
         have bb : ∀ o g, Base K6 (K9.set K6.length o ++ g) := fun o g => ((b8.trans b9).set (Nat.le_refl _)).app g
         have hcbh : cb ≠ K6.length := by have := b6.1; have := hc5.lt; omega
         rcases e2 with ⟨j, f3, f4⟩ | ⟨f3, f4⟩
         ·rw [if_pos f4] at hx
          simp (disch := omega) only [kB, kcx, kdm, kdn, kel, aop, Za, Zb, Zc, reduceCtorEq, Zd, Ze, Zf, Zg, Zh, Zi, Zj, Zk, Zl, Zm, Zn, Zo, Zp, Zq, Zr, Zs, Zt, hcx9, hh9', h4, f2', e1, hget_ne hne2, hget_ne hne3, k0, f3]
          refine need_s ((hc8.base b9).but (b11 _ _) hcbh) (fun _ => ?_) (fun q => by cases q)
          simp (disch := omega) only [kB, kcx, kdm, kdn, kel, aop, Za, Zb, Zc, reduceCtorEq, Zd, Ze, Zf, Zg, Zh, Zi, Zj, Zk, Zl, Zm, Zn, Zo, Zp, Zq, Zr, Zs, Zt, w3]
          exact ⟨y.cases.length - (k + 1), by omega, k + 1, by omega, rfl, bb _ _, by rw [htk2, Hads, hget_old (by simpa using lh9k), hget_set' lh9k, List.map_append]; rfl, by rw [htk2]; exact hx, by exact ex_env rfl⟩
         ·rw [if_neg f4] at hx
          simp (disch := omega) only [kB, kcx, kdm, kdn, kel, aop, Za, Zb, Zc, reduceCtorEq, Zd, Ze, Zf, Zg, Zh, Zi, Zj, Zk, Zl, Zm, Zn, Zo, Zp, Zq, Zr, Zs, Zt, hcx9, hh9', h4, f2', e1, hget_ne hne2, hget_ne hne3, k0, f3]
          refine need_s ((hc8.base b9).but (b11 _ _) hcbh) (fun q => by cases q) (fun _ => ?_)
          exact bad2 72 _ (b6.trans (bb _ _)) hx
       ·have c3 : ¬ (k : Int) < (y.cases.length : Int) := by omega
        rw [List.drop_eq_nil_of_le (by omega), casesE] at hx
        rw [hx] at bad good
        simp only at bad good
        obtain ⟨es, e1, e2⟩ := hns8.find y.next
        rcases e2 with ⟨j, f1, f2⟩ | ⟨f1, f2⟩
        ·rw [if_pos f2] at good
         simp (disch := omega) only [kB, kcx, kdm, kdn, kel, aop, Za, Zb, Zc, reduceCtorEq, Zd, Ze, Zf, Zg, Zh, Zi, Zj, Zk, Zl, Zm, Zn, Zo, Zp, Zq, Zr, Zs, Zt, c3, hbx8, e1, k0, f1]
         refine need_s hc8 (fun _ => ?_) (fun q => by cases q)
         simp (disch := omega) only [kB, kcx, kdm, kdn, kel, aop, Za, Zb, Zc, reduceCtorEq, Zd, Ze, Zf, Zg, Zh, Zi, Zj, Zk, Zl, Zm, Zn, Zo, Zp, Zq, Zr, Zs, Zt, w2]
         exact ⟨s.states.length - (i + 1), by omega, i + 1, _, by omega, rfl, bK5.add hb58, hc8, hns8, by rw [htk]; exact hm5.base hb58, by rw [htk]; exact good rfl, by exact ex_env rfl⟩
        ·rw [if_neg f2] at bad
         simp (disch := omega) only [kB, kcx, kdm, kdn, kel, aop, Za, Zb, Zc, reduceCtorEq, Zd, Ze, Zf, Zg, Zh, Zi, Zj, Zk, Zl, Zm, Zn, Zo, Zp, Zq, Zr, Zs, Zt, c3, hbx8, e1, k0, f1]
         refine need_s hc8 (fun q => by cases q) (fun _ => ?_)
         exact bad 72 _ hb58 rfl)
     ·have g1' : ¬ y.header ∈ s.headers.map Hdr.name := fun q => of_decide_eq_false g1 ((ixT_mem _ _).2 q)
      exact bad _ _ Base.refl (if_neg g1')
    ·rw [g] at hx
     exact hp _ _ (hE2 _ hx) _ bK4
   ·have c1 : ¬ (i : Int) < (s.states.length : Int) := by omega
    rw [List.drop_eq_nil_of_le (by omega), stasE] at hx
    obtain ⟨nd, ok⟩ := stasE_ok (by simp) hx
    rw [List.nil_append] at nd
    have hE := hE1 hx
    simp (disch := omega) only [kB, kcx, kdm, kdn, kel, aop, Za, Zb, Zc, reduceCtorEq, Zd, Ze, Zf, Zg, Zh, Zi, Zj, Zk, Zl, Zm, Zn, Zo, Zp, Zq, Zr, Zs, Zt, c1]
    refine rounds_s hs hn0 (bK.base hb hcb) hcb hcK nd g' (fun x hx => staE_cases (ok x hx)) (fun q K6 th6 b6 hc6 => ?_) (fun e t q K6 b6 => ?_)
    ·have hh := h (hE.trans q) _ _ (bK.trans b6) hc6
     simp (disch := omega) only [kB, kcx, kdm, kdn, kel, aop, Za, Zb, Zc, reduceCtorEq, Zd, Ze, Zf, Zg, Zh, Zi, Zj, Zk, Zl, Zm, Zn, Zo, Zp, Zq, Zr, Zs, Zt]
     exact hh
    ·exact hp _ _ (hE.trans q) _ (bK.trans b6)
 ·have g' : ¬ s.states.length ≤ 32 := by have := of_decide_eq_false g; omega
  exact hp 74 [115, 116, 97, 116, 101] (by rw [statesE, if_neg g']) _ b1
end
section
variable {R : FRes → Heap → Prop} {H K : Heap}
/-- Has an operand a constant or a reference, not both? -/
def plainO (o : Opd) : Bool := decide (o.ref = Rf.zero) || decide (o.const = Bt.zero)
theorem plain_s {o : Opd} (h : R (.ret (.bool (plainO o))) K) : WD T 104 [.agg o.cells.toArray] K R := by
 refine WD.gc0 (WD.of follows t104 (by simp) ?_)
 simp only [Opd.cells]
 have e1 := Rf.eqz o.ref
 have e2 := Bt.eqz o.const
 unfold plainO at h
 by_cases c1 : o.ref = Rf.zero
 ·rw [decide_eq_true c1, Bool.true_or] at h
  rw [decide_eq_true c1] at e1
  simp (disch := omega) only [kB, kcx, kdm, kdn, kel, aop, Za, Zb, Zc, reduceCtorEq, Zd, Ze, Zf, Zg, Zh, Zi, Zj, Zk, Zl, Zm, Zn, Zo, Zp, Zq, Zr, Zs, Zt, e1]
  exact ⟨_, rfl, ⟨_, rfl⟩, .bool, h⟩
 ·rw [decide_eq_false c1, Bool.false_or] at h
  rw [decide_eq_false c1] at e1
  simp (disch := omega) only [kB, kcx, kdm, kdn, kel, aop, Za, Zb, Zc, reduceCtorEq, Zd, Ze, Zf, Zg, Zh, Zi, Zj, Zk, Zl, Zm, Zn, Zo, Zp, Zq, Zr, Zs, Zt, e1, e2]
  exact ⟨_, rfl, ⟨_, rfl⟩, .bool, h⟩
/-- The field of an operand that is none of a constant. -/
def opdF (s : Sch) (ps : List Fld) (o : Opd) : Option Fld := if o.ref.head = [] then named Fld.name ps o.ref.name else fldOf s o.ref
def opdOK (s : Sch) (ps : List Fld) (o : Opd) : Bool := decide (o.ref = Rf.zero) || (opdF s ps o).isSome
/-- Does it fit a width? -/
def opdFit (s : Sch) (ps : List Fld) (o : Opd) (w : Int) : Bool := if o.ref = Rf.zero then fitsV o.const w else decide (rwV (opdF s ps o) = w)
/-- What an operand answers: a closure, and its block. -/
def Clo (K : Heap) (c b : Nat) (s : Sch) (ps : List Fld) (o : Opd) : Prop :=
 (c = 110 ∧ o.ref = Rf.zero ∧ hget K b = .row [.string (bs o.ref.head), .string (bs o.ref.name), .int .u64 (o.const.hi : Int), .int .u64 (o.const.lo : Int)] 0 true) ∨
 (c = 111 ∧ o.ref ≠ Rf.zero ∧ ∃ n, hget K b = .row [.string (bs n), .int .i64 (rwV (opdF s ps o))] 0 true)
theorem Clo.base {K' : Heap} {c b : Nat} {s : Sch} {ps : List Fld} {o : Opd} (h : Clo K c b s ps o) (hb : Base K K') : Clo K' c b s ps o := by
 rcases h with ⟨a, b, c⟩ | ⟨a, b, n, c⟩
 ·exact .inl ⟨a, b, hb.rowc c⟩
 ·exact .inr ⟨a, b, n, hb.rowc c⟩
theorem clo_s {c b : Nat} {s : Sch} {ps : List Fld} {o : Opd} (hO : o.OK) (hc : Clo K c b s ps o) {w : Int} (hw : I64 w) (h : R (.ret (.bool (opdFit s ps o w))) K) : WD T c [.int .i64 w, .pointer (some ⟨b, 0, none⟩)] K R := by
 rcases hc with ⟨rfl, h1, h2⟩ | ⟨rfl, h1, n, h2⟩
 ·refine WD.gc0 (WD.of follows t110 (by simp) ?_)
  rw [opdFit, if_pos h1] at h
  simp (disch := omega) only [kB, kcx, kdm, kdn, kel, aop, Za, Zb, Zc, reduceCtorEq, Zd, Ze, Zf, Zg, Zh, Zi, Zj, Zk, Zl, Zm, Zn, Zo, Zp, Zq, Zr, Zs, Zt, h2]
  refine fits_s (b := o.const) hO hw ?_
  simp (disch := omega) only [kB, kcx, kdm, kdn, kel, aop, Za, Zb, Zc, reduceCtorEq, Zd, Ze, Zf, Zg, Zh, Zi, Zj, Zk, Zl, Zm, Zn, Zo, Zp, Zq, Zr, Zs, Zt]
  exact ⟨_, rfl, ⟨[], by simp⟩, .bool, h⟩
 ·refine WD.gc0 (WD.of follows t111 (by simp) ?_)
  rw [opdFit, if_neg h1] at h
  simp (disch := omega) only [kB, kcx, kdm, kdn, kel, aop, Za, Zb, Zc, reduceCtorEq, Zd, Ze, Zf, Zg, Zh, Zi, Zj, Zk, Zl, Zm, Zn, Zo, Zp, Zq, Zr, Zs, Zt, h2]
  exact ⟨_, rfl, ⟨[], by simp⟩, .bool, h⟩
set_option maxHeartbeats 1000000 in
theorem operand_s {cb : Nat} {s : Sch} {th : List UInt8} {pv : Value} {ps : List Fld} {o : Opd} (hs : s.OK H) (hp : FldL H pv ps) (hb : Base H K) (hc : Chk K cb s th)
  (h : opdOK s ps o = true → ∀ K' c b, Base K K' → Clo K' c b s ps o → R (.ret (.func (.func c) #[] #[.pointer (some ⟨b, 0, none⟩)])) K')
  (hp' : opdOK s ps o = false → ∀ K', Base K K' → R (.pan (wrongV 72 th)) K') : WD T 105 [.pointer (some ⟨cb, 0, none⟩), pv, .agg o.cells.toArray] K R := by
 refine WD.of follows t105 (by simp) ?_
 simp only [Opd.cells]
 have e1 := Rf.eqz o.ref
 obtain ⟨o0, o1, o2, o3, o4, o5⟩ := hs.one
 by_cases c1 : o.ref = Rf.zero
 ·rw [decide_eq_true c1] at e1
  have hh := h (by rw [opdOK, decide_eq_true c1]; rfl) (K ++ [AObj.row [.string (bs o.ref.head), .string (bs o.ref.name), .int .u64 (o.const.hi : Int), .int .u64 (o.const.lo : Int)] 0 true]) 110 K.length (Base.app0 _) (.inl ⟨rfl, c1, by rw [hget_base0]; rfl⟩)
  simp (disch := omega) only [kB, kcx, kdm, kdn, kel, aop, Za, Zb, Zc, reduceCtorEq, Zd, Ze, Zf, Zg, Zh, Zi, Zj, Zk, Zl, Zm, Zn, Zo, Zp, Zq, Zr, Zs, Zt, e1]
  exact hh
 ·rw [decide_eq_false c1] at e1
  have hc' := hc
  unfold Chk at hc'
  have lc := hc.lt
  have hnz : ∀ b, (opdF s ps o).isSome = b → opdOK s ps o = b := fun b q => by rw [opdOK, decide_eq_false c1, q, Bool.false_or]
  simp (disch := omega) only [kB, kcx, kdm, kdn, kel, aop, Za, Zb, Zc, reduceCtorEq, Zd, Ze, Zf, Zg, Zh, Zi, Zj, Zk, Zl, Zm, Zn, Zo, Zp, Zq, Zr, Zs, Zt, e1, hc', o0, o1, o2, o3, o4, o5]
  refine fieldOf_s (r := o.ref) hs (hb.app _) ?_
  rw [fldV_eq]
  by_cases c2 : o.ref.head = []
  ·have hn : fldOf s o.ref = none := by rw [fldOf, if_pos c2]
   have hf : opdF s ps o = named Fld.name ps o.ref.name := by rw [opdF, if_pos c2]
   rw [hn]
   simp (disch := omega) only [kB, kcx, kdm, kdn, kel, aop, Za, Zb, Zc, reduceCtorEq, Zd, Ze, Zf, Zg, Zh, Zi, Zj, Zk, Zl, Zm, Zn, Zo, Zp, Zq, Zr, Zs, Zt, decide_eq_true c2]
   refine fieldAt_s hp (hb.app _) ?_
   rcases named_cases Fld.name ps o.ref.name with ⟨e2, e3⟩ | ⟨j, hj, e2, e3, _⟩
   ·rw [e2]
    simp (disch := omega) only [kB, kcx, kdm, kdn, kel, aop, Za, Zb, Zc, reduceCtorEq, Zd, Ze, Zf, Zg, Zh, Zi, Zj, Zk, Zl, Zm, Zn, Zo, Zp, Zq, Zr, Zs, Zt]
    refine need_s (hc.app _) (fun q => by cases q) (fun _ => ?_)
    exact hp' (hnz _ (by rw [hf, e3]; rfl)) _ (Base.app0 _)
   ·rw [e2]
    obtain ⟨ad, hv⟩ := hp.1.sl
    rw [List.length_map] at hv
    subst hv
    obtain ⟨b, u0, w0, rfl, p1, p2, p3, p4, p5⟩ := hp.1.at Fld.len hj
    have prow := hb.rowc p2
    have lb := hget_lt prow rfl
    have c5 : (j : Int) < (ps.length : Int) := by omega
    have hq : rwV (opdF s ps o) = ps[j].width := by rw [hf, e3]; rfl
    have hiS := hnz true (by rw [hf, e3]; rfl)
    generalize ps[j] = f at *
    simp only [Fld.cells] at p3
    simp (disch := omega) only [kB, kcx, kdm, kdn, kel, aop, Za, Zb, Zc, reduceCtorEq, Zd, Ze, Zf, Zg, Zh, Zi, Zj, Zk, Zl, Zm, Zn, Zo, Zp, Zq, Zr, Zs, Zt, prow, p3, p4, c5]
    refine need_s (hc.app _) (fun _ => ?_) (fun q => by cases q)
    simp (disch := omega) only [kB, kcx, kdm, kdn, kel, aop, Za, Zb, Zc, reduceCtorEq, Zd, Ze, Zf, Zg, Zh, Zi, Zj, Zk, Zl, Zm, Zn, Zo, Zp, Zq, Zr, Zs, Zt]
    exact h hiS _ 111 _ (Base.app0 _) (.inr ⟨rfl, c1, f.name, by rw [hget_base, hq]; rfl⟩)
  ·have hf : opdF s ps o = fldOf s o.ref := by rw [opdF, if_neg c2]
   simp (disch := omega) only [kB, kcx, kdm, kdn, kel, aop, Za, Zb, Zc, reduceCtorEq, Zd, Ze, Zf, Zg, Zh, Zi, Zj, Zk, Zl, Zm, Zn, Zo, Zp, Zq, Zr, Zs, Zt, decide_eq_false c2]
   refine need_s (hc.app _) (fun g => ?_) (fun g => ?_)
   ·simp (disch := omega) only [kB, kcx, kdm, kdn, kel, aop, Za, Zb, Zc, reduceCtorEq, Zd, Ze, Zf, Zg, Zh, Zi, Zj, Zk, Zl, Zm, Zn, Zo, Zp, Zq, Zr, Zs, Zt]
    exact h (hnz _ (by rw [hf]; exact g)) _ 111 _ (Base.app0 _) (.inr ⟨rfl, c1, nmV (fldOf s o.ref), by rw [hget_base, hf]; rfl⟩)
   ·exact hp' (hnz _ (by rw [hf]; exact g)) _ (Base.app0 _)
/-- Is a step well made? -/
def madeS (x : Stp) : Prop :=
 (x.kind = 1 ∧ (0 ≤ x.op ∧ x.op ≤ 5) ∧ plainO x.a = true ∧ plainO x.b = true ∧ (x.op ≠ 0 ∨ x.b = Opd.zero)) ∨ ((x.kind = 2 ∨ x.kind = 6) ∧ x = ⟨x.kind, Rf.zero, 0, Opd.zero, Opd.zero⟩) ∨
  ((x.kind = 3 ∨ x.kind = 4) ∧ x = ⟨x.kind, ⟨x.to.head, []⟩, 0, Opd.zero, Opd.zero⟩) ∨ (x.kind = 5 ∧ x = ⟨x.kind, x.to, 0, Opd.zero, Opd.zero⟩)
instance : DecidableEq Stp := inferInstance
instance (x : Stp) : Decidable (madeS x) := by unfold madeS; infer_instance
/-- What is wrong with one. -/
def stepE (s : Sch) (ps : List Fld) (x : Stp) : Option Int :=
 if madeS x then
  if x.kind = 1 then
   if (fldOf s x.to).isSome = true then
    if opdOK s ps x.a = true then
     if opdOK s ps x.b = true then
      if opdFit s ps x.a (rwV (fldOf s x.to)) = true then
       if opdFit s ps x.b (rwV (fldOf s x.to)) = true then none else some 73
      else some 73
     else some 72
    else some 72
   else some 72
  else if x.kind = 3 ∨ x.kind = 4 then (if x.to.head ∈ s.headers.map Hdr.name then none else some 72)
  else if x.kind = 5 then (if (fldOf s x.to).isSome = true ∧ x.to.head ≠ metaT then (if rwV (fldOf s x.to) = 16 then none else some 73) else some 72)
  else none
 else some 75
theorem stp_eqA (x : Stp) : eqL [(1, .int .i64 x.kind, .int .i64 x.kind), (2, .string (bs x.to.head), .string (bs [])), (2, .string (bs x.to.name), .string (bs [])), (1, .int .i64 x.op, .int .i64 0),
  (2, .string (bs x.a.ref.head), .string (bs [])), (2, .string (bs x.a.ref.name), .string (bs [])), (1, .int .u64 (x.a.const.hi : Int), .int .u64 0), (1, .int .u64 (x.a.const.lo : Int), .int .u64 0),
  (2, .string (bs x.b.ref.head), .string (bs [])), (2, .string (bs x.b.ref.name), .string (bs [])), (1, .int .u64 (x.b.const.hi : Int), .int .u64 0), (1, .int .u64 (x.b.const.lo : Int), .int .u64 0)] = some (decide (x = ⟨x.kind, Rf.zero, 0, Opd.zero, Opd.zero⟩)) := Stp.eqs x ⟨x.kind, Rf.zero, 0, Opd.zero, Opd.zero⟩
theorem stp_eqB (x : Stp) : eqL [(1, .int .i64 x.kind, .int .i64 x.kind), (2, .string (bs x.to.head), .string (bs x.to.head)), (2, .string (bs x.to.name), .string (bs [])), (1, .int .i64 x.op, .int .i64 0),
  (2, .string (bs x.a.ref.head), .string (bs [])), (2, .string (bs x.a.ref.name), .string (bs [])), (1, .int .u64 (x.a.const.hi : Int), .int .u64 0), (1, .int .u64 (x.a.const.lo : Int), .int .u64 0),
  (2, .string (bs x.b.ref.head), .string (bs [])), (2, .string (bs x.b.ref.name), .string (bs [])), (1, .int .u64 (x.b.const.hi : Int), .int .u64 0), (1, .int .u64 (x.b.const.lo : Int), .int .u64 0)] = some (decide (x = ⟨x.kind, ⟨x.to.head, []⟩, 0, Opd.zero, Opd.zero⟩)) := Stp.eqs x ⟨x.kind, ⟨x.to.head, []⟩, 0, Opd.zero, Opd.zero⟩
theorem stp_eqC (x : Stp) : eqL [(1, .int .i64 x.kind, .int .i64 x.kind), (2, .string (bs x.to.head), .string (bs x.to.head)), (2, .string (bs x.to.name), .string (bs x.to.name)), (1, .int .i64 x.op, .int .i64 0),
  (2, .string (bs x.a.ref.head), .string (bs [])), (2, .string (bs x.a.ref.name), .string (bs [])), (1, .int .u64 (x.a.const.hi : Int), .int .u64 0), (1, .int .u64 (x.a.const.lo : Int), .int .u64 0),
  (2, .string (bs x.b.ref.head), .string (bs [])), (2, .string (bs x.b.ref.name), .string (bs [])), (1, .int .u64 (x.b.const.hi : Int), .int .u64 0), (1, .int .u64 (x.b.const.lo : Int), .int .u64 0)] = some (decide (x = ⟨x.kind, x.to, 0, Opd.zero, Opd.zero⟩)) := Stp.eqs x ⟨x.kind, x.to, 0, Opd.zero, Opd.zero⟩
set_option maxHeartbeats 4000000 in
theorem step_s {cb : Nat} {s : Sch} {th : List UInt8} {pv : Value} {ps : List Fld} {x : Stp} (hs : s.OK H) (hpv : FldL H pv ps) (hx : x.OK) (hb : Base H K) (hc : Chk K cb s th)
  (h : stepE s ps x = none → ∀ K', Base K K' → R (.ret (.tuple #[])) K')
  (hp : ∀ e, stepE s ps x = some e → ∀ K', Base K K' → R (.pan (wrongV e th)) K') : WD T 89 [.pointer (some ⟨cb, 0, none⟩), pv, .agg x.cells.toArray] K R := by
 refine WD.of follows t89 (by simp) ?_
 obtain ⟨o0, o1, o2, o3, o4, o5⟩ := hs.one
 have hc' := hc
 unfold Chk at hc'
 have lc := hc.lt
 have hcb := fun g => hc.app g
 have hbb := fun g => hb.app g
 have bad75 : ¬ madeS x → ∀ K', Base K K' → R (.pan (wrongV 75 th)) K' := fun q => hp 75 (by rw [stepE, if_neg q])
 simp only [Stp.cells]
 by_cases k1 : x.kind = 1
 ·have kk : (x.kind = 1) = True := eq_true k1
  have nm : ¬ ((0 ≤ x.op ∧ x.op ≤ 5) ∧ plainO x.a = true ∧ plainO x.b = true ∧ (x.op ≠ 0 ∨ x.b = Opd.zero)) → ∀ K', Base K K' → R (.pan (wrongV 75 th)) K' := fun q => bad75 (fun z => by
   rcases z with z | z | z | z
   ·exact q z.2
   ·exact absurd z.1 (by omega)
   ·exact absurd z.1 (by omega)
   ·exact absurd z.1 (by omega))
  by_cases a1 : 0 ≤ x.op
  case neg =>
   have nm' := nm (fun q => a1 q.1.1)
   simp (disch := omega) only [kB, kcx, kdm, kdn, kel, aop, Za, Zb, Zc, reduceCtorEq, Zd, Ze, Zf, Zg, Zh, Zi, Zj, Zk, Zl, Zm, Zn, Zo, Zp, Zq, Zr, Zs, Zt, kk, a1]
   refine need_s (hcb _) (fun q => by cases q) (fun _ => nm' _ (Base.app0 _))
  by_cases a2 : x.op ≤ 5
  case neg =>
   have nm' := nm (fun q => a2 q.1.2)
   simp (disch := omega) only [kB, kcx, kdm, kdn, kel, aop, Za, Zb, Zc, reduceCtorEq, Zd, Ze, Zf, Zg, Zh, Zi, Zj, Zk, Zl, Zm, Zn, Zo, Zp, Zq, Zr, Zs, Zt, kk, a1, a2]
   refine need_s (hcb _) (fun q => by cases q) (fun _ => nm' _ (Base.app0 _))
  simp (disch := omega) only [kB, kcx, kdm, kdn, kel, aop, Za, Zb, Zc, reduceCtorEq, Zd, Ze, Zf, Zg, Zh, Zi, Zj, Zk, Zl, Zm, Zn, Zo, Zp, Zq, Zr, Zs, Zt, kk, a1, a2]
  refine plain_s (o := x.a) ?_
  by_cases a3 : plainO x.a = true
  case neg =>
   have nm' := nm (fun q => a3 q.2.1)
   rw [Bool.not_eq_true] at a3
   simp (disch := omega) only [kB, kcx, kdm, kdn, kel, aop, Za, Zb, Zc, reduceCtorEq, Zd, Ze, Zf, Zg, Zh, Zi, Zj, Zk, Zl, Zm, Zn, Zo, Zp, Zq, Zr, Zs, Zt, a3]
   refine need_s (hcb _) (fun q => by cases q) (fun _ => nm' _ (Base.app0 _))
  simp (disch := omega) only [kB, kcx, kdm, kdn, kel, aop, Za, Zb, Zc, reduceCtorEq, Zd, Ze, Zf, Zg, Zh, Zi, Zj, Zk, Zl, Zm, Zn, Zo, Zp, Zq, Zr, Zs, Zt, a3]
  refine plain_s (o := x.b) ?_
  by_cases a4 : plainO x.b = true
  case neg =>
   have nm' := nm (fun q => a4 q.2.2.1)
   rw [Bool.not_eq_true] at a4
   simp (disch := omega) only [kB, kcx, kdm, kdn, kel, aop, Za, Zb, Zc, reduceCtorEq, Zd, Ze, Zf, Zg, Zh, Zi, Zj, Zk, Zl, Zm, Zn, Zo, Zp, Zq, Zr, Zs, Zt, a4]
   refine need_s (hcb _) (fun q => by cases q) (fun _ => nm' _ (Base.app0 _))
  have ez := Opd.eqz x.b
  obtain ⟨K1, hK1⟩ : ∃ K1, K1 = K ++ [AObj.row [.int .i64 x.kind, .string (bs x.to.head), .string (bs x.to.name), .int .i64 x.op, .string (bs x.a.ref.head), .string (bs x.a.ref.name), .int .u64 (x.a.const.hi : Int), .int .u64 (x.a.const.lo : Int), .string (bs x.b.ref.head), .string (bs x.b.ref.name), .int .u64 (x.b.const.hi : Int), .int .u64 (x.b.const.lo : Int)] 0 true,
   AObj.row [.string (bs []), .string (bs []), .int .u64 0, .int .u64 0] 0 true] := ⟨_, rfl⟩
  rw [← hK1]
  have b1 : Base K K1 := by rw [hK1]; exact Base.app0 _
  have hx1 : hget K1 K.length = AObj.row [.int .i64 x.kind, .string (bs x.to.head), .string (bs x.to.name), .int .i64 x.op, .string (bs x.a.ref.head), .string (bs x.a.ref.name), .int .u64 (x.a.const.hi : Int), .int .u64 (x.a.const.lo : Int), .string (bs x.b.ref.head), .string (bs x.b.ref.name), .int .u64 (x.b.const.hi : Int), .int .u64 (x.b.const.lo : Int)] 0 true := by rw [hK1, hget_base0]; rfl
  have hz1 : hget K1 (K.length + 1) = AObj.row [.string (bs []), .string (bs []), .int .u64 0, .int .u64 0] 0 true := by rw [hK1, hget_base]; rfl
  clear hK1
  have hc1 := hc.base b1
  have hc1' := hc1
  unfold Chk at hc1'
  have hb1 := hb.trans b1
  have lc1 := hc1.lt
  by_cases a5 : x.op ≠ 0 ∨ x.b = Opd.zero
  case neg =>
   have nm' := nm (fun q => a5 q.2.2.2)
   have a6 : x.op = 0 := Classical.byContradiction fun q => a5 (.inl q)
   rw [decide_eq_false (fun q => a5 (.inr q))] at ez
   have a7 : (x.op = 0) = True := eq_true a6
   simp (disch := omega) only [kB, kcx, kdm, kdn, kel, aop, Za, Zb, Zc, reduceCtorEq, Zd, Ze, Zf, Zg, Zh, Zi, Zj, Zk, Zl, Zm, Zn, Zo, Zp, Zq, Zr, Zs, Zt, a4, hx1, hz1, a7, ez]
   refine need_s hc1 (fun q => by cases q) (fun _ => nm' _ b1)
  have hE : madeS x := .inl ⟨k1, ⟨a1, a2⟩, a3, a4, a5⟩
  rw [stepE, if_pos hE, if_pos k1] at h
  simp only [stepE, if_pos hE, if_pos k1] at hp
  clear bad75 nm
  by_cases a6 : x.op = 0
  case' pos =>
   have a7 : (x.op = 0) = True := eq_true a6
   rw [decide_eq_true (a5.resolve_left (fun q => q a6))] at ez
   simp (disch := omega) only [kB, kcx, kdm, kdn, kel, aop, Za, Zb, Zc, reduceCtorEq, Zd, Ze, Zf, Zg, Zh, Zi, Zj, Zk, Zl, Zm, Zn, Zo, Zp, Zq, Zr, Zs, Zt, a4, hx1, hz1, a7, ez]
  case' neg =>
   have a7 : (x.op = 0) = False := eq_false a6
   simp (disch := omega) only [kB, kcx, kdm, kdn, kel, aop, Za, Zb, Zc, reduceCtorEq, Zd, Ze, Zf, Zg, Zh, Zi, Zj, Zk, Zl, Zm, Zn, Zo, Zp, Zq, Zr, Zs, Zt, a4, hx1, hz1, a7]
  all_goals (
   refine need_s hc1 (fun _ => ?_) (fun q => by cases q)
   simp (disch := omega) only [kB, kcx, kdm, kdn, kel, aop, Za, Zb, Zc, reduceCtorEq, Zd, Ze, Zf, Zg, Zh, Zi, Zj, Zk, Zl, Zm, Zn, Zo, Zp, Zq, Zr, Zs, Zt, hx1, kk, hc1', o0, o1, o2, o3, o4, o5]
   refine fieldOf_s (r := x.to) hs hb1 ?_
   rw [fldV_eq]
   have w64 := rwV_i64 hs x.to
   simp (disch := omega) only [kB, kcx, kdm, kdn, kel, aop, Za, Zb, Zc, reduceCtorEq, Zd, Ze, Zf, Zg, Zh, Zi, Zj, Zk, Zl, Zm, Zn, Zo, Zp, Zq, Zr, Zs, Zt]
   obtain ⟨K2, hK2⟩ : ∃ K2, K2 = K1 ++ [AObj.row [.string (bs (nmV (fldOf s x.to))), .int .i64 (rwV (fldOf s x.to))] 0 true] := ⟨_, rfl⟩
   rw [← hK2]
   have b2 : Base K1 K2 := by rw [hK2]; exact Base.app0 _
   have hf2 : hget K2 K1.length = AObj.row [.string (bs (nmV (fldOf s x.to))), .int .i64 (rwV (fldOf s x.to))] 0 true := by rw [hK2, hget_last]
   clear hK2
   generalize rwV (fldOf s x.to) = W at *
   have hx2 := b2.rowc hx1
   have hc2 := hc1.base b2
   refine need_s hc2 (fun g1 => ?_) (fun g1 => ?_)
   ·rw [if_pos g1] at h
    simp only [if_pos g1] at hp
    simp (disch := omega) only [kB, kcx, kdm, kdn, kel, aop, Za, Zb, Zc, reduceCtorEq, Zd, Ze, Zf, Zg, Zh, Zi, Zj, Zk, Zl, Zm, Zn, Zo, Zp, Zq, Zr, Zs, Zt, hx2]
    refine operand_s (o := x.a) hs hpv (hb1.trans b2) hc2 (fun g2 K3 c3 d3 b3 hcl3 => ?_) (fun g2 K3 b3 => ?_)
    ·rw [if_pos g2] at h
     simp only [if_pos g2] at hp
     have hx3 := b3.rowc hx2
     have hc3 := hc2.base b3
     simp (disch := omega) only [kB, kcx, kdm, kdn, kel, aop, Za, Zb, Zc, reduceCtorEq, Zd, Ze, Zf, Zg, Zh, Zi, Zj, Zk, Zl, Zm, Zn, Zo, Zp, Zq, Zr, Zs, Zt, hx3]
     refine operand_s (o := x.b) hs hpv ((hb1.trans b2).trans b3) hc3 (fun g4 K4 c4 d4 b4 hcl4 => ?_) (fun g4 K4 b4 => ?_)
     ·rw [if_pos g4] at h
      simp only [if_pos g4] at hp
      have hf4 := b4.rowc (b3.rowc hf2)
      have hc4 := hc3.base b4
      have bb4 := ((b1.trans b2).trans b3).trans b4
      simp (disch := omega) only [kB, kcx, kdm, kdn, kel, aop, Za, Zb, Zc, reduceCtorEq, Zd, Ze, Zf, Zg, Zh, Zi, Zj, Zk, Zl, Zm, Zn, Zo, Zp, Zq, Zr, Zs, Zt, hf4]
      refine clo_s hx.2.2.1 (hcl3.base b4) w64 ?_
      simp (disch := omega) only [kB, kcx, kdm, kdn, kel, aop, Za, Zb, Zc, reduceCtorEq, Zd, Ze, Zf, Zg, Zh, Zi, Zj, Zk, Zl, Zm, Zn, Zo, Zp, Zq, Zr, Zs, Zt]
      refine need_s hc4 (fun g5 => ?_) (fun g5 => ?_)
      ·rw [if_pos g5] at h
       simp only [if_pos g5] at hp
       simp (disch := omega) only [kB, kcx, kdm, kdn, kel, aop, Za, Zb, Zc, reduceCtorEq, Zd, Ze, Zf, Zg, Zh, Zi, Zj, Zk, Zl, Zm, Zn, Zo, Zp, Zq, Zr, Zs, Zt, hf4]
       refine clo_s hx.2.2.2 hcl4 w64 ?_
       simp (disch := omega) only [kB, kcx, kdm, kdn, kel, aop, Za, Zb, Zc, reduceCtorEq, Zd, Ze, Zf, Zg, Zh, Zi, Zj, Zk, Zl, Zm, Zn, Zo, Zp, Zq, Zr, Zs, Zt]
       refine need_s hc4 (fun g6 => ?_) (fun g6 => ?_)
       ·rw [if_pos g6] at h
        simp (disch := omega) only [kB, kcx, kdm, kdn, kel, aop, Za, Zb, Zc, reduceCtorEq, Zd, Ze, Zf, Zg, Zh, Zi, Zj, Zk, Zl, Zm, Zn, Zo, Zp, Zq, Zr, Zs, Zt]
        exact h rfl _ bb4
       ·rw [if_neg (by rw [g6]; decide)] at hp
        exact hp _ rfl _ bb4
      ·rw [if_neg (by rw [g5]; decide)] at hp
       exact hp _ rfl _ bb4
     ·rw [if_neg (by rw [g4]; decide)] at hp
      exact hp _ rfl _ (((b1.trans b2).trans b3).trans b4)
    ·rw [if_neg (by rw [g2]; decide)] at hp
     exact hp _ rfl _ ((b1.trans b2).trans b3)
   ·rw [if_neg (by rw [g1]; decide)] at hp
    exact hp _ rfl _ (b1.trans b2))
 ·have kk : (x.kind = 1) = False := eq_false k1
  by_cases k2 : x.kind = 2 ∨ x.kind = 6
  ·have eA := stp_eqA x
   have nk3 : ¬ (x.kind = 3 ∨ x.kind = 4) := by omega
   have nk5 : ¬ x.kind = 5 := by omega
   have kk3 : (x.kind = 3) = False := eq_false (by omega)
   have kk4 : (x.kind = 4) = False := eq_false (by omega)
   have kk5 : (x.kind = 5) = False := eq_false nk5
   by_cases a1 : x = ⟨x.kind, Rf.zero, 0, Opd.zero, Opd.zero⟩
   ·rw [decide_eq_true a1] at eA
    have hE : madeS x := .inr (.inl ⟨k2, a1⟩)
    rw [stepE, if_pos hE, if_neg k1, if_neg nk3, if_neg nk5] at h
    have hh := fun K' b => h rfl K' b
    clear a1 h hp bad75
    rcases k2 with k2 | k2
    case' inl => have kk2 : (x.kind = 2) = True := eq_true k2
    case' inr =>
     have kk2 : (x.kind = 2) = False := eq_false (by omega)
     have kk6 : (x.kind = 6) = True := eq_true k2
    case' inl => simp (disch := omega) only [kB, kcx, kdm, kdn, kel, aop, Za, Zb, Zc, reduceCtorEq, Zd, Ze, Zf, Zg, Zh, Zi, Zj, Zk, Zl, Zm, Zn, Zo, Zp, Zq, Zr, Zs, Zt, kk, kk2, eA]
    case' inr => simp (disch := omega) only [kB, kcx, kdm, kdn, kel, aop, Za, Zb, Zc, reduceCtorEq, Zd, Ze, Zf, Zg, Zh, Zi, Zj, Zk, Zl, Zm, Zn, Zo, Zp, Zq, Zr, Zs, Zt, kk, kk2, kk6, eA]
    all_goals (
     refine need_s (hcb _) (fun _ => ?_) (fun q => by cases q)
     simp (disch := omega) only [kB, kcx, kdm, kdn, kel, aop, Za, Zb, Zc, reduceCtorEq, Zd, Ze, Zf, Zg, Zh, Zi, Zj, Zk, Zl, Zm, Zn, Zo, Zp, Zq, Zr, Zs, Zt, kk, kk3, kk4, kk5]
     exact hh _ (Base.app0 _))
   ·rw [decide_eq_false a1] at eA
    have nm := bad75 (fun z => by
     rcases z with z | z | z | z
     ·exact absurd z.1 k1
     ·exact a1 z.2
     ·exact absurd z.1 nk3
     ·exact absurd z.1 nk5)
    clear a1 h hp bad75
    rcases k2 with k2 | k2
    case' inl => have kk2 : (x.kind = 2) = True := eq_true k2
    case' inr =>
     have kk2 : (x.kind = 2) = False := eq_false (by omega)
     have kk6 : (x.kind = 6) = True := eq_true k2
    case' inl => simp (disch := omega) only [kB, kcx, kdm, kdn, kel, aop, Za, Zb, Zc, reduceCtorEq, Zd, Ze, Zf, Zg, Zh, Zi, Zj, Zk, Zl, Zm, Zn, Zo, Zp, Zq, Zr, Zs, Zt, kk, kk2, eA]
    case' inr => simp (disch := omega) only [kB, kcx, kdm, kdn, kel, aop, Za, Zb, Zc, reduceCtorEq, Zd, Ze, Zf, Zg, Zh, Zi, Zj, Zk, Zl, Zm, Zn, Zo, Zp, Zq, Zr, Zs, Zt, kk, kk2, kk6, eA]
    all_goals exact need_s (hcb _) (fun q => by cases q) (fun _ => nm _ (Base.app0 _))
  ·have kk2 : (x.kind = 2) = False := eq_false (by omega)
   have kk6 : (x.kind = 6) = False := eq_false (by omega)
   by_cases k3 : x.kind = 3 ∨ x.kind = 4
   ·have eB := stp_eqB x
    by_cases a1 : x = ⟨x.kind, ⟨x.to.head, []⟩, 0, Opd.zero, Opd.zero⟩
    ·rw [decide_eq_true a1] at eB
     have hE : madeS x := .inr (.inr (.inl ⟨k3, a1⟩))
     rw [stepE, if_pos hE, if_neg k1, if_pos k3] at h
     simp only [stepE, if_pos hE, if_neg k1, if_pos k3] at hp
     clear a1 bad75
     rcases k3 with k3 | k3
     case' inl => have kk3 : (x.kind = 3) = True := eq_true k3
     case' inr =>
      have kk3 : (x.kind = 3) = False := eq_false (by omega)
      have kk4 : (x.kind = 4) = True := eq_true k3
     case' inl => simp (disch := omega) only [kB, kcx, kdm, kdn, kel, aop, Za, Zb, Zc, reduceCtorEq, Zd, Ze, Zf, Zg, Zh, Zi, Zj, Zk, Zl, Zm, Zn, Zo, Zp, Zq, Zr, Zs, Zt, kk, kk2, kk6, kk3, eB]
     case' inr => simp (disch := omega) only [kB, kcx, kdm, kdn, kel, aop, Za, Zb, Zc, reduceCtorEq, Zd, Ze, Zf, Zg, Zh, Zi, Zj, Zk, Zl, Zm, Zn, Zo, Zp, Zq, Zr, Zs, Zt, kk, kk2, kk6, kk3, kk4, eB]
     case' inl =>
      refine need_s (hcb _) (fun _ => ?_) (fun q => by cases q)
      simp (disch := omega) only [kB, kcx, kdm, kdn, kel, aop, Za, Zb, Zc, reduceCtorEq, Zd, Ze, Zf, Zg, Zh, Zi, Zj, Zk, Zl, Zm, Zn, Zo, Zp, Zq, Zr, Zs, Zt, kk, kk3, hc', o0, o1, o2, o3, o4, o5]
     case' inr =>
      refine need_s (hcb _) (fun _ => ?_) (fun q => by cases q)
      simp (disch := omega) only [kB, kcx, kdm, kdn, kel, aop, Za, Zb, Zc, reduceCtorEq, Zd, Ze, Zf, Zg, Zh, Zi, Zj, Zk, Zl, Zm, Zn, Zo, Zp, Zq, Zr, Zs, Zt, kk, kk3, kk4, hc', o0, o1, o2, o3, o4, o5]
     all_goals (
      refine headerAt_s hs (hbb _) ?_
      simp (disch := omega) only [kB, kcx, kdm, kdn, kel, aop, Za, Zb, Zc, reduceCtorEq, Zd, Ze, Zf, Zg, Zh, Zi, Zj, Zk, Zl, Zm, Zn, Zo, Zp, Zq, Zr, Zs, Zt]
      refine need_s (hcb _) (fun g1 => ?_) (fun g1 => ?_)
      ·rw [if_pos ((ixT_mem _ _).1 (of_decide_eq_true g1))] at h
       simp (disch := omega) only [kB, kcx, kdm, kdn, kel, aop, Za, Zb, Zc, reduceCtorEq, Zd, Ze, Zf, Zg, Zh, Zi, Zj, Zk, Zl, Zm, Zn, Zo, Zp, Zq, Zr, Zs, Zt]
       exact h rfl _ (Base.app0 _)
      ·rw [if_neg (fun q => of_decide_eq_false g1 ((ixT_mem _ _).2 q))] at hp
       exact hp _ rfl _ (Base.app0 _))
    ·rw [decide_eq_false a1] at eB
     have nm := bad75 (fun z => by
      rcases z with z | z | z | z
      ·exact absurd z.1 k1
      ·exact absurd z.1 k2
      ·exact a1 z.2
      ·exact absurd z.1 (by omega))
     clear a1 h hp bad75
     rcases k3 with k3 | k3
     case' inl => have kk3 : (x.kind = 3) = True := eq_true k3
     case' inr =>
      have kk3 : (x.kind = 3) = False := eq_false (by omega)
      have kk4 : (x.kind = 4) = True := eq_true k3
     case' inl => simp (disch := omega) only [kB, kcx, kdm, kdn, kel, aop, Za, Zb, Zc, reduceCtorEq, Zd, Ze, Zf, Zg, Zh, Zi, Zj, Zk, Zl, Zm, Zn, Zo, Zp, Zq, Zr, Zs, Zt, kk, kk2, kk6, kk3, eB]
     case' inr => simp (disch := omega) only [kB, kcx, kdm, kdn, kel, aop, Za, Zb, Zc, reduceCtorEq, Zd, Ze, Zf, Zg, Zh, Zi, Zj, Zk, Zl, Zm, Zn, Zo, Zp, Zq, Zr, Zs, Zt, kk, kk2, kk6, kk3, kk4, eB]
     all_goals exact need_s (hcb _) (fun q => by cases q) (fun _ => nm _ (Base.app0 _))
   ·have kk3 : (x.kind = 3) = False := eq_false (by omega)
    have kk4 : (x.kind = 4) = False := eq_false (by omega)
    by_cases k5 : x.kind = 5
    ·have kk5 : (x.kind = 5) = True := eq_true k5
     have eC := stp_eqC x
     by_cases a1 : x = ⟨x.kind, x.to, 0, Opd.zero, Opd.zero⟩
     ·rw [decide_eq_true a1] at eC
      have hE : madeS x := .inr (.inr (.inr ⟨k5, a1⟩))
      rw [stepE, if_pos hE, if_neg k1, if_neg k3, if_pos k5] at h
      simp only [stepE, if_pos hE, if_neg k1, if_neg k3, if_pos k5] at hp
      clear a1 bad75
      simp (disch := omega) only [kB, kcx, kdm, kdn, kel, aop, Za, Zb, Zc, reduceCtorEq, Zd, Ze, Zf, Zg, Zh, Zi, Zj, Zk, Zl, Zm, Zn, Zo, Zp, Zq, Zr, Zs, Zt, kk, kk2, kk6, kk3, kk4, kk5, eC]
      refine need_s (hcb _) (fun _ => ?_) (fun q => by cases q)
      simp (disch := omega) only [kB, kcx, kdm, kdn, kel, aop, Za, Zb, Zc, reduceCtorEq, Zd, Ze, Zf, Zg, Zh, Zi, Zj, Zk, Zl, Zm, Zn, Zo, Zp, Zq, Zr, Zs, Zt, kk, kk3, kk4, kk5, hc', o0, o1, o2, o3, o4, o5]
      refine fieldOf_s (r := x.to) hs (hbb _) ?_
      rw [fldV_eq]
      generalize rwV (fldOf s x.to) = W at *
      have bd : ¬ ((fldOf s x.to).isSome = true ∧ x.to.head ≠ metaT) → ∀ K', Base K K' → R (.pan (wrongV 72 th)) K' := fun q => by rw [if_neg q] at hp; exact hp _ rfl
      by_cases g1 : (fldOf s x.to).isSome = true
      case neg =>
       have bd' := bd (fun q => g1 q.1)
       rw [Bool.not_eq_true] at g1
       rw [g1]
       simp (disch := omega) only [kB, kcx, kdm, kdn, kel, aop, Za, Zb, Zc, reduceCtorEq, Zd, Ze, Zf, Zg, Zh, Zi, Zj, Zk, Zl, Zm, Zn, Zo, Zp, Zq, Zr, Zs, Zt]
       refine need_s (hcb _) (fun q => by cases q) (fun _ => bd' _ (Base.app0 _))
      rw [g1]
      by_cases g2 : x.to.head = metaT
      case pos =>
       have bd' := bd (fun q => q.2 g2)
       have g3 : decide (x.to.head = [109, 101, 116, 97]) = true := decide_eq_true g2
       simp (disch := omega) only [kB, kcx, kdm, kdn, kel, aop, Za, Zb, Zc, reduceCtorEq, Zd, Ze, Zf, Zg, Zh, Zi, Zj, Zk, Zl, Zm, Zn, Zo, Zp, Zq, Zr, Zs, Zt, g3]
       refine need_s (hcb _) (fun q => by cases q) (fun _ => bd' _ (Base.app0 _))
      rw [if_pos ⟨g1, g2⟩] at h
      simp only [if_pos (And.intro g1 g2)] at hp
      have g3 : decide (x.to.head = [109, 101, 116, 97]) = false := decide_eq_false g2
      simp (disch := omega) only [kB, kcx, kdm, kdn, kel, aop, Za, Zb, Zc, reduceCtorEq, Zd, Ze, Zf, Zg, Zh, Zi, Zj, Zk, Zl, Zm, Zn, Zo, Zp, Zq, Zr, Zs, Zt, g3]
      refine need_s (hcb _) (fun _ => ?_) (fun q => by cases q)
      simp (disch := omega) only [kB, kcx, kdm, kdn, kel, aop, Za, Zb, Zc, reduceCtorEq, Zd, Ze, Zf, Zg, Zh, Zi, Zj, Zk, Zl, Zm, Zn, Zo, Zp, Zq, Zr, Zs, Zt]
      refine need_s (hcb _) (fun g4 => ?_) (fun g4 => ?_)
      ·rw [if_pos (of_decide_eq_true g4)] at h
       simp (disch := omega) only [kB, kcx, kdm, kdn, kel, aop, Za, Zb, Zc, reduceCtorEq, Zd, Ze, Zf, Zg, Zh, Zi, Zj, Zk, Zl, Zm, Zn, Zo, Zp, Zq, Zr, Zs, Zt]
       exact h rfl _ (Base.app0 _)
      ·rw [if_neg (of_decide_eq_false g4)] at hp
       exact hp _ rfl _ (Base.app0 _)
     ·rw [decide_eq_false a1] at eC
      have nm := bad75 (fun z => by
       rcases z with z | z | z | z
       ·exact absurd z.1 k1
       ·exact absurd z.1 k2
       ·exact absurd z.1 k3
       ·exact a1 z.2)
      simp (disch := omega) only [kB, kcx, kdm, kdn, kel, aop, Za, Zb, Zc, reduceCtorEq, Zd, Ze, Zf, Zg, Zh, Zi, Zj, Zk, Zl, Zm, Zn, Zo, Zp, Zq, Zr, Zs, Zt, kk, kk2, kk6, kk3, kk4, kk5, eC]
      exact need_s (hcb _) (fun q => by cases q) (fun _ => nm _ (Base.app0 _))
    ·have kk5 : (x.kind = 5) = False := eq_false k5
     have nm := bad75 (fun z => by
      rcases z with z | z | z | z
      ·exact absurd z.1 k1
      ·exact absurd z.1 k2
      ·exact absurd z.1 k3
      ·exact absurd z.1 k5)
     simp (disch := omega) only [kB, kcx, kdm, kdn, kel, aop, Za, Zb, Zc, reduceCtorEq, Zd, Ze, Zf, Zg, Zh, Zi, Zj, Zk, Zl, Zm, Zn, Zo, Zp, Zq, Zr, Zs, Zt, kk, kk2, kk6, kk3, kk4, kk5]
     exact need_s (hcb _) (fun q => by cases q) (fun _ => nm _ (Base.app0 _))
end
section
variable {R : FRes → Heap → Prop} {H K : Heap}
/-- What is wrong with steps; with an action; with actions. -/
def stepsE (s : Sch) (ps : List Fld) : List Stp → Option Int
 | [] => none
 | y :: l => match stepE s ps y with
  | some e => some e
  | none => stepsE s ps l
def actE (s : Sch) (x : Act) : Option Int :=
 if x.params.length ≤ 8 ∧ x.steps.length ≤ 32 then (match fieldsE [] x.params with
  | some e => some e
  | none => stepsE s x.params x.steps) else some 74
def actsE (s : Sch) : List (List UInt8) → List Act → Option (Int × List UInt8)
 | _, [] => none
 | met, x :: l => match nameE met x.name with
  | some e => some (e, [97, 99, 116, 105, 111, 110, 32] ++ x.name)
  | none => match actE s x with
   | some e => some (e, [97, 99, 116, 105, 111, 110, 32] ++ x.name)
   | none => actsE s (met ++ [x.name]) l
def actionsE (s : Sch) : Option (Int × List UInt8) := if s.actions.length ≤ 64 then actsE s [] s.actions else some (74, [97, 99, 116, 105, 111, 110])
def acI (K : Heap) (cb mb : Nat) (s : Sch) (v : Value) : Nat → Env → Heap → Prop := fun z e K' =>
 ∃ (i : Nat) (th : List UInt8), i ≤ s.actions.length ∧ z = s.actions.length - i ∧ But cb K K' ∧ Chk K' cb s th ∧ Names K' mb ((s.actions.take i).map Act.name) ∧
  actsE s [] s.actions = actsE s ((s.actions.take i).map Act.name) (s.actions.drop i) ∧
  (∃ x : Nat → Value, e = [.pointer (some ⟨cb, 0, none⟩), x 1, .map (some mb), x 3, x 4, x 5, x 6, x 7, x 8, x 9, x 10, x 11, x 12, x 13, x 14, x 15, x 16, x 17, x 18, x 19, x 20, x 21, x 22, x 23, v, .int .i64 (s.actions.length : Int), .int .i64 (i : Int), x 27, x 28, x 29, x 30, x 31, x 32, x 33, x 34, x 35, x 36, x 37, x 38, x 39, x 40, x 41, x 42, x 43, x 44, x 45, x 46, x 47, x 48, x 49, x 50, x 51, x 52, x 53, x 54, x 55, x 56, x 57, x 58, x 59, x 60, x 61, x 62, x 63, x 64, x 65, x 66, x 67, x 68, x 69, x 70])
def acJ (K : Heap) (cb mb xb : Nat) (s : Sch) (v : Value) (i : Nat) (w : Value) (ps : List Fld) (l : List Stp) : Nat → Env → Heap → Prop := fun z e K' =>
 ∃ (k : Nat), k ≤ l.length ∧ z = l.length - k ∧ Base K K' ∧ stepsE s ps l = stepsE s ps (l.drop k) ∧
  (∃ x : Nat → Value, e = [.pointer (some ⟨cb, 0, none⟩), x 1, .map (some mb), x 3, .pointer (some ⟨xb, 0, none⟩), x 5, x 6, x 7, x 8, x 9, x 10, x 11, x 12, x 13, x 14, x 15, x 16, x 17, x 18, x 19, x 20, x 21, x 22, x 23, v, .int .i64 (s.actions.length : Int), .int .i64 (i : Int), x 27, x 28, x 29, x 30, x 31, x 32, x 33, x 34, x 35, x 36, x 37, x 38, x 39, x 40, x 41, x 42, x 43, x 44, x 45, x 46, x 47, x 48, x 49, x 50, x 51, x 52, x 53, x 54, x 55, x 56, x 57, w, .int .i64 (l.length : Int), .int .i64 (k : Int), x 61, x 62, x 63, x 64, x 65, x 66, x 67, x 68, x 69, x 70])
set_option maxHeartbeats 2000000 in
theorem actions_s {cb : Nat} {s : Sch} {th : List UInt8} (hs : s.OK H) (hn0 : ∀ x ∈ s.actions, short x.name) (hb : Base H K) (hcb : H.length ≤ cb) (hc : Chk K cb s th)
  (h : actionsE s = none → ∀ K' th', But cb K K' → Chk K' cb s th' → R (.ret (.tuple #[])) K')
  (hp : ∀ e t, actionsE s = some (e, t) → ∀ K', But cb K K' → R (.pan (wrongV e t)) K') : WD T 49 [.pointer (some ⟨cb, 0, none⟩)] K R := by
 obtain ⟨hr, hn, hok⟩ := hs.acs
 unfold few at hn
 obtain ⟨ad, hv⟩ := hr.sl
 rw [List.length_map] at hv
 have lc := hc.lt
 have hc0 := hc
 unfold Chk at hc0
 refine WD.of follows t49 (by simp) ?_
 simp (disch := omega) only [kB, kcx, kdm, kdn, kel, aop, Za, Zb, Zc, reduceCtorEq, Zd, Ze, Zf, Zg, Zh, Zi, Zj, Zk, Zl, Zm, Zn, Zo, Zp, Zq, Zr, Zs, Zt, hc0, hv]
 obtain ⟨K1, hK1⟩ : ∃ K1, K1 = K.set cb (AObj.row [s.hv, s.mv, s.sv, .slice ad s.actions.length s.actions.length, s.tv, s.cv, .string (bs [97, 99, 116, 105, 111, 110])] 0 true) := ⟨_, rfl⟩
 rw [← hK1]
 have hc1 : Chk K1 cb s [97, 99, 116, 105, 111, 110] := by rw [hK1]; unfold Chk; rw [hget_set' hc.lt, hv]
 have b1 : But cb K K1 := by rw [hK1]; exact But.refl.set
 clear hK1
 refine need_s hc1 (fun g => ?_) (fun g => ?_)
 ·have g' : s.actions.length ≤ 64 := by have := of_decide_eq_true g; omega
  have hE : actionsE s = actsE s [] s.actions := by rw [actionsE, if_pos g']
  have hc1' := hc1
  unfold Chk at hc1'
  simp (disch := omega) only [kB, kcx, kdm, kdn, kel, aop, Za, Zb, Zc, reduceCtorEq, Zd, Ze, Zf, Zg, Zh, Zi, Zj, Zk, Zl, Zm, Zn, Zo, Zp, Zq, Zr, Zs, Zt, hc1', hv]
  obtain ⟨K2, hK2⟩ : ∃ K2, K2 = K1 ++ [AObj.map []] := ⟨_, rfl⟩
  rw [← hK2]
  have b2 : Base K1 K2 := by rw [hK2]; exact Base.app0 _
  have hm2 : Names K2 K1.length [] := by rw [hK2, Names, hget_last]; rfl
  clear hK2
  have hc2 := hc1.base b2
  have l1 := b1.1
  have hcm : cb ≠ K1.length := by have := hc1.lt; omega
  have hc2' := hc2
  unfold Chk at hc2'
  simp (disch := omega) only [kB, kcx, kdm, kdn, kel, aop, Za, Zb, Zc, reduceCtorEq, Zd, Ze, Zf, Zg, Zh, Zi, Zj, Zk, Zl, Zm, Zn, Zo, Zp, Zq, Zr, Zs, Zt, hc2', hv]
  refine WLoop.inv (acI K cb K1.length s (.slice ad s.actions.length s.actions.length)) ?_ s.actions.length _ _ ⟨0, _, Nat.zero_le _, by omega, b1.add b2, hc2, hm2, rfl, by exact ex_env rfl⟩
  rintro z e K' ⟨i, th', hi, rfl, bK, hcK, hm, hx, ⟨x, rfl⟩⟩
  by_cases hlt : i < s.actions.length
  ·have c1 : (i : Int) < (s.actions.length : Int) := by omega
   obtain ⟨b, u0, w0, rfl, p1, p2, p3, p4, p5⟩ := (hv ▸ hr).at Act.len hlt
   have prow := (bK.base hb hcb).rowc p2
   have w2 : IntKind.i64.wrap ((i : Int) + 1) = ((i + 1 : Nat) : Int) := wI (by omega)
   have htk := take_map Act.name hlt
   have hxo := hok _ (List.getElem_mem hlt)
   have hxs := hn0 _ (List.getElem_mem hlt)
   rw [List.drop_eq_getElem_cons hlt, actsE] at hx
   generalize s.actions[i] = y at *
   simp only [Act.cells] at p3
   obtain ⟨op, os⟩ := hxo.one
   obtain ⟨hpv, sr, sn, sk⟩ := hxo
   obtain ⟨pa, pv⟩ := hpv.1.sl
   rw [List.length_map] at pv
   obtain ⟨sa, sv⟩ := sr.sl
   rw [List.length_map] at sv
   unfold few at sn
   have pn := hpv.2.1
   unfold few at pn
   have lm := hm.lt
   have lcK := hcK.lt
   have lK := bK.1
   have hcK' := hcK
   unfold Chk at hcK'
   unfold short at hxs
   have hadd : binV .add (.string (bs [97, 99, 116, 105, 111, 110, 32])) (.string (bs y.name)) = some (.string (bs ([97, 99, 116, 105, 111, 110, 32] ++ y.name))) := bin_str_add (by simp; omega)
   simp (disch := omega) only [kB, kcx, kdm, kdn, kel, aop, Za, Zb, Zc, reduceCtorEq, Zd, Ze, Zf, Zg, Zh, Zi, Zj, Zk, Zl, Zm, Zn, Zo, Zp, Zq, Zr, Zs, Zt, c1, prow, p3, p4, op, os, hadd, hcK']
   obtain ⟨K4, hK4⟩ : ∃ K4, K4 = K'.set cb (AObj.row [s.hv, s.mv, s.sv, s.av, s.tv, s.cv, .string (bs (97 :: 99 :: 116 :: 105 :: 111 :: 110 :: 32 :: y.name))] 0 true) ++ [AObj.row [.string (bs y.name), y.pv, y.sv] 0 true] := ⟨_, rfl⟩
   rw [← hK4]
   have b4 : But cb K' K4 := by rw [hK4]; exact But.refl.set.app _
   have hc4 : Chk K4 cb s ([97, 99, 116, 105, 111, 110, 32] ++ y.name) := by rw [hK4]; unfold Chk; rw [hget_old (by simpa using lcK)]; exact hget_set' lcK
   have hbx4 : hget K4 K'.length = .row [.string (bs y.name), y.pv, y.sv] 0 true := by
    have := hget_last (K'.set cb (AObj.row [s.hv, s.mv, s.sv, s.av, s.tv, s.cv, .string (bs (97 :: 99 :: 116 :: 105 :: 111 :: 110 :: 32 :: y.name))] 0 true)) (AObj.row [.string (bs y.name), y.pv, y.sv] 0 true)
    rw [List.length_set] at this
    rw [hK4]
    exact this
   clear hK4
   have hm4 := hm.but b4 (Ne.symm hcm)
   have bK4 := bK.trans b4
   refine name_s hc4 hm4 (fun g K5 b5 hm5 => ?_) (fun e g => ?_)
   ·rw [g] at hx
    simp only at hx
    have hc5 := hc4.but b5 hcm
    have hbx5 := b5.row hbx4 (by omega)
    have bK5 := bK4.new b5 l1
    have bad : ∀ e K6, Base K5 K6 → actE s y = some e → R (.pan (wrongV e ([97, 99, 116, 105, 111, 110, 32] ++ y.name))) K6 := fun e K6 b6 q => by
     rw [q] at hx
     exact hp _ _ (hE.trans hx) _ (bK5.add b6)
    have good : actE s y = none → actsE s [] s.actions = actsE s ((s.actions.take i).map Act.name ++ [y.name]) (s.actions.drop (i + 1)) := fun q => by rw [q] at hx; exact hx
    clear hx
    unfold actE at bad good
    have hb5 := bK5.base hb hcb
    by_cases g1 : (y.params.length : Int) ≤ 8
    case neg =>
     have bd := bad 74 K5 Base.refl (if_neg (fun q => g1 (by omega)))
     simp (disch := omega) only [kB, kcx, kdm, kdn, kel, aop, Za, Zb, Zc, reduceCtorEq, Zd, Ze, Zf, Zg, Zh, Zi, Zj, Zk, Zl, Zm, Zn, Zo, Zp, Zq, Zr, Zs, Zt, hbx5, pv, sv, g1]
     refine need_s hc5 (fun q => by cases q) (fun _ => bd)
    by_cases g2 : (y.steps.length : Int) ≤ 32
    case neg =>
     have bd := bad 74 K5 Base.refl (if_neg (fun q => g2 (by omega)))
     simp (disch := omega) only [kB, kcx, kdm, kdn, kel, aop, Za, Zb, Zc, reduceCtorEq, Zd, Ze, Zf, Zg, Zh, Zi, Zj, Zk, Zl, Zm, Zn, Zo, Zp, Zq, Zr, Zs, Zt, hbx5, pv, sv, g1, g2]
     refine need_s hc5 (fun q => by cases q) (fun _ => bd)
    rw [if_pos ⟨by omega, by omega⟩] at bad good
    simp (disch := omega) only [kB, kcx, kdm, kdn, kel, aop, Za, Zb, Zc, reduceCtorEq, Zd, Ze, Zf, Zg, Zh, Zi, Zj, Zk, Zl, Zm, Zn, Zo, Zp, Zq, Zr, Zs, Zt, hbx5, pv, sv, g1, g2]
    refine need_s hc5 (fun _ => ?_) (fun q => by cases q)
    simp (disch := omega) only [kB, kcx, kdm, kdn, kel, aop, Za, Zb, Zc, reduceCtorEq, Zd, Ze, Zf, Zg, Zh, Zi, Zj, Zk, Zl, Zm, Zn, Zo, Zp, Zq, Zr, Zs, Zt, hbx5]
    have hpv' := hpv
    rw [pv] at hpv'
    refine fields_s hc5 hpv hb5 (fun q K6 b6 => ?_) (fun e q K6 b6 => bad e K6 b6 (by rw [q]))
    rw [q] at bad good
    simp only at bad good
    have hc6 := hc5.base b6
    have hbx6 := b6.rowc hbx5
    simp (disch := omega) only [kB, kcx, kdm, kdn, kel, aop, Za, Zb, Zc, reduceCtorEq, Zd, Ze, Zf, Zg, Zh, Zi, Zj, Zk, Zl, Zm, Zn, Zo, Zp, Zq, Zr, Zs, Zt, hbx6, sv]
    refine WLoop.inv (acJ K6 cb K1.length K'.length s (.slice (some ⟨b, 0, none⟩) s.actions.length s.actions.length) i (.slice sa y.steps.length y.steps.length) y.params y.steps) ?_ y.steps.length _ _ ⟨0, Nat.zero_le _, by omega, Base.refl, rfl, by exact ex_env rfl⟩
    rintro z e K7 ⟨k, hk, rfl, b7, hx, ⟨x, rfl⟩⟩
    have hc7 := hc6.base b7
    have hbx7 := b7.rowc hbx6
    have hb7 := (hb5.trans b6).trans b7
    have hlx7 := hget_lt hbx7 rfl
    by_cases hkl : k < y.steps.length
    ·have c3 : (k : Int) < (y.steps.length : Int) := by omega
     obtain ⟨b', u1, w1, rfl, q1, q2, q3, q4, q5⟩ := (sv ▸ sr).at Stp.len hkl
     have qrow := hb7.rowc q2
     have w3 : IntKind.i64.wrap ((k : Int) + 1) = ((k + 1 : Nat) : Int) := wI (by omega)
     have hyo := sk _ (List.getElem_mem hkl)
     rw [List.drop_eq_getElem_cons hkl, stepsE] at hx
     generalize y.steps[k] = t at *
     simp only [Stp.cells] at q3
     simp (disch := omega) only [kB, kcx, kdm, kdn, kel, aop, Za, Zb, Zc, reduceCtorEq, Zd, Ze, Zf, Zg, Zh, Zi, Zj, Zk, Zl, Zm, Zn, Zo, Zp, Zq, Zr, Zs, Zt, c3, qrow, q3, q4, hbx7]
     refine step_s (x := t) hs hpv hyo (hb7.app _) (hc7.app _) (fun q K8 b8 => ?_) (fun e q K8 b8 => ?_)
     ·rw [q] at hx
      simp (disch := omega) only [kB, kcx, kdm, kdn, kel, aop, Za, Zb, Zc, reduceCtorEq, Zd, Ze, Zf, Zg, Zh, Zi, Zj, Zk, Zl, Zm, Zn, Zo, Zp, Zq, Zr, Zs, Zt, w3]
      exact ⟨y.steps.length - (k + 1), by omega, k + 1, by omega, rfl, b7.trans ((Base.app0 _).trans b8), hx, by exact ex_env rfl⟩
     ·rw [q] at hx
      exact bad e _ ((b6.trans b7).trans ((Base.app0 _).trans b8)) hx
    ·have c3 : ¬ (k : Int) < (y.steps.length : Int) := by omega
     rw [List.drop_eq_nil_of_le (by omega), stepsE] at hx
     have gd := good hx
     simp (disch := omega) only [kB, kcx, kdm, kdn, kel, aop, Za, Zb, Zc, reduceCtorEq, Zd, Ze, Zf, Zg, Zh, Zi, Zj, Zk, Zl, Zm, Zn, Zo, Zp, Zq, Zr, Zs, Zt, c3, w2]
     exact ⟨s.actions.length - (i + 1), by omega, i + 1, _, by omega, rfl, (bK5.add b6).add b7, hc7, by rw [htk]; exact (hm5.base b6).base b7, by rw [htk]; exact gd, by exact ex_env rfl⟩
   ·rw [g] at hx
    exact hp _ _ (hE.trans hx) _ bK4
  ·have c1 : ¬ (i : Int) < (s.actions.length : Int) := by omega
   rw [List.drop_eq_nil_of_le (by omega), actsE] at hx
   have hh := h (hE.trans hx) _ _ bK hcK
   simp (disch := omega) only [kB, kcx, kdm, kdn, kel, aop, Za, Zb, Zc, reduceCtorEq, Zd, Ze, Zf, Zg, Zh, Zi, Zj, Zk, Zl, Zm, Zn, Zo, Zp, Zq, Zr, Zs, Zt, c1]
   exact hh
 ·have g' : ¬ s.actions.length ≤ 64 := by have := of_decide_eq_false g; omega
  exact hp 74 [97, 99, 116, 105, 111, 110] (by rw [actionsE, if_neg g']) _ b1
end
section
variable {R : FRes → Heap → Prop} {H K : Heap}
/-- What is wrong with a table's keys; with its actions; with it. -/
def keysE (s : Sch) (kd : Int) : Nat → List Ky → Option Int
 | _, [] => none
 | n, k :: l => if (fldOf s k.ref).isSome = true then (if 1 ≤ k.kind ∧ k.kind ≤ 4 then (if k.kind = 2 then (if n + 1 = 1 ∧ kd = 2 then keysE s kd (n + 1) l else some 75) else keysE s kd n l) else some 75) else some 72
def tactsE (s : Sch) : List (List UInt8) → List (List UInt8) → Option Int
 | _, [] => none
 | had, a :: l => if a ∈ s.actions.map Act.name then (if a ∈ had then some 71 else tactsE s (had ++ [a]) l) else some 72
def tblE (s : Sch) (t : Tbl) : Option Int :=
 if 1 ≤ t.keys.length ∧ t.keys.length ≤ 8 then (match keysE s (kindV t.keys) 0 t.keys with
  | some e => some e
  | none => if 1 ≤ t.actions.length ∧ t.actions.length ≤ 64 then (match tactsE s [] t.actions with
   | some e => some e
   | none => if 1 ≤ t.size ∧ t.size ≤ 4096 then (if callE s t.name t.dact t.dargs = 0 then none else some (callE s t.name t.dact t.dargs)) else some 74) else some 74) else some 74
def tblsE (s : Sch) : List (List UInt8) → List Tbl → Option (Int × List UInt8)
 | _, [] => none
 | met, x :: l => match nameE met x.name with
  | some e => some (e, [116, 97, 98, 108, 101, 32] ++ x.name)
  | none => match tblE s x with
   | some e => some (e, [116, 97, 98, 108, 101, 32] ++ x.name)
   | none => tblsE s (met ++ [x.name]) l
def tablesE (s : Sch) : Option (Int × List UInt8) := if s.tables.length ≤ 32 then tblsE s [] s.tables else some (74, [116, 97, 98, 108, 101])
def tbI (K : Heap) (cb mb : Nat) (s : Sch) (v : Value) : Nat → Env → Heap → Prop := fun z e K' =>
 ∃ (i : Nat) (th : List UInt8), i ≤ s.tables.length ∧ z = s.tables.length - i ∧ But cb K K' ∧ Chk K' cb s th ∧ Names K' mb ((s.tables.take i).map Tbl.name) ∧
  tblsE s [] s.tables = tblsE s ((s.tables.take i).map Tbl.name) (s.tables.drop i) ∧
  (∃ x : Nat → Value, e = [.pointer (some ⟨cb, 0, none⟩), x 1, .map (some mb), x 3, x 4, x 5, x 6, x 7, x 8, x 9, x 10, x 11, x 12, x 13, x 14, x 15, x 16, x 17, x 18, x 19, x 20, x 21, x 22, x 23, x 24, x 25, x 26, x 27, x 28, x 29, x 30, v, .int .i64 (s.tables.length : Int), .int .i64 (i : Int), x 34, x 35, x 36, x 37, x 38, x 39, x 40, x 41, x 42, x 43, x 44, x 45, x 46, x 47, x 48, x 49, x 50, x 51, x 52, x 53, x 54, x 55, x 56, x 57, x 58, x 59, x 60, x 61, x 62, x 63, x 64, x 65, x 66, x 67, x 68, x 69, x 70, x 71, x 72, x 73, x 74, x 75, x 76, x 77, x 78, x 79, x 80, x 81, x 82, x 83, x 84, x 85, x 86, x 87, x 88, x 89, x 90, x 91, x 92, x 93, x 94, x 95, x 96, x 97, x 98, x 99, x 100, x 101, x 102, x 103, x 104, x 105, x 106, x 107, x 108, x 109, x 110, x 111, x 112, x 113, x 114, x 115, x 116, x 117, x 118, x 119, x 120, x 121, x 122, x 123, x 124, x 125, x 126, x 127, x 128, x 129, x 130, x 131, x 132, x 133, x 134, x 135, x 136, x 137, x 138, x 139, x 140, x 141, x 142, x 143, x 144, x 145, x 146, x 147, x 148, x 149, x 150, x 151, x 152, x 153, x 154, x 155, x 156, x 157, x 158, x 159, x 160, x 161, x 162, x 163, x 164, x 165, x 166, x 167])
def tbJ (K : Heap) (cb mb xb : Nat) (s : Sch) (v : Value) (i : Nat) (w : Value) (kd : Int) (l : List Ky) : Nat → Env → Heap → Prop := fun z e K' =>
 ∃ (k n : Nat), k ≤ l.length ∧ z = l.length - k ∧ n ≤ k ∧ Base K K' ∧ keysE s kd 0 l = keysE s kd n (l.drop k) ∧
  (∃ x : Nat → Value, e = [.pointer (some ⟨cb, 0, none⟩), x 1, .map (some mb), x 3, .pointer (some ⟨xb, 0, none⟩), .int .i64 (n : Int), x 6, x 7, x 8, x 9, x 10, x 11, x 12, x 13, x 14, x 15, x 16, x 17, x 18, x 19, x 20, x 21, x 22, x 23, x 24, x 25, x 26, x 27, x 28, x 29, x 30, v, .int .i64 (s.tables.length : Int), .int .i64 (i : Int), x 34, x 35, x 36, x 37, x 38, x 39, x 40, x 41, x 42, x 43, x 44, x 45, x 46, x 47, x 48, x 49, x 50, x 51, x 52, x 53, x 54, x 55, x 56, x 57, x 58, x 59, x 60, w, .int .i64 (l.length : Int), .int .i64 (k : Int), x 64, x 65, x 66, x 67, x 68, x 69, x 70, x 71, x 72, x 73, x 74, x 75, x 76, x 77, x 78, x 79, x 80, x 81, x 82, x 83, x 84, x 85, x 86, x 87, x 88, x 89, x 90, x 91, x 92, x 93, x 94, x 95, x 96, x 97, x 98, x 99, x 100, x 101, x 102, x 103, x 104, x 105, x 106, x 107, x 108, x 109, x 110, x 111, x 112, x 113, x 114, x 115, x 116, x 117, x 118, x 119, x 120, x 121, x 122, x 123, x 124, x 125, x 126, x 127, x 128, x 129, x 130, x 131, x 132, x 133, x 134, x 135, x 136, x 137, x 138, x 139, x 140, x 141, x 142, x 143, x 144, x 145, x 146, x 147, x 148, x 149, x 150, x 151, x 152, x 153, x 154, x 155, x 156, x 157, x 158, x 159, x 160, x 161, x 162, x 163, x 164, x 165, x 166, x 167])
def tbA (K : Heap) (cb mb xb hb : Nat) (s : Sch) (v : Value) (i : Nat) (w : Value) (l : List (List UInt8)) : Nat → Env → Heap → Prop := fun z e K' =>
 ∃ (k : Nat), k ≤ l.length ∧ z = l.length - k ∧ Base K K' ∧ Names K' hb (l.take k) ∧ tactsE s [] l = tactsE s (l.take k) (l.drop k) ∧
  (∃ x : Nat → Value, e = [.pointer (some ⟨cb, 0, none⟩), x 1, .map (some mb), x 3, .pointer (some ⟨xb, 0, none⟩), x 5, x 6, x 7, x 8, x 9, .map (some hb), x 11, x 12, x 13, x 14, x 15, x 16, x 17, x 18, x 19, x 20, x 21, x 22, x 23, x 24, x 25, x 26, x 27, x 28, x 29, x 30, v, .int .i64 (s.tables.length : Int), .int .i64 (i : Int), x 34, x 35, x 36, x 37, x 38, x 39, x 40, x 41, x 42, x 43, x 44, x 45, x 46, x 47, x 48, x 49, x 50, x 51, x 52, x 53, x 54, x 55, x 56, x 57, x 58, x 59, x 60, x 61, x 62, x 63, x 64, x 65, x 66, x 67, x 68, x 69, x 70, x 71, x 72, x 73, x 74, x 75, x 76, x 77, x 78, x 79, x 80, x 81, x 82, x 83, x 84, x 85, x 86, x 87, x 88, x 89, x 90, x 91, x 92, x 93, x 94, x 95, x 96, x 97, x 98, x 99, x 100, x 101, x 102, x 103, x 104, x 105, x 106, x 107, x 108, x 109, x 110, x 111, x 112, x 113, x 114, x 115, x 116, x 117, x 118, w, .int .i64 (l.length : Int), .int .i64 (k : Int), x 122, x 123, x 124, x 125, x 126, x 127, x 128, x 129, x 130, x 131, x 132, x 133, x 134, x 135, x 136, x 137, x 138, x 139, x 140, x 141, x 142, x 143, x 144, x 145, x 146, x 147, x 148, x 149, x 150, x 151, x 152, x 153, x 154, x 155, x 156, x 157, x 158, x 159, x 160, x 161, x 162, x 163, x 164, x 165, x 166, x 167])
set_option maxHeartbeats 4000000 in
theorem tables_s {cb : Nat} {s : Sch} {th : List UInt8} (hs : s.OK H) (hn0 : ∀ x ∈ s.tables, short x.name) (hb : Base H K) (hcb : H.length ≤ cb) (hc : Chk K cb s th)
  (h : tablesE s = none → ∀ K' th', But cb K K' → Chk K' cb s th' → R (.ret (.tuple #[])) K')
  (hp : ∀ e t, tablesE s = some (e, t) → ∀ K', But cb K K' → R (.pan (wrongV e t)) K') : WD T 50 [.pointer (some ⟨cb, 0, none⟩)] K R := by
 obtain ⟨hr, hn, hok⟩ := hs.ts
 unfold few at hn
 obtain ⟨ad, hv⟩ := hr.sl
 rw [List.length_map] at hv
 have lc := hc.lt
 have hc0 := hc
 unfold Chk at hc0
 obtain ⟨o0, o1, o2, o3, o4, o5⟩ := hs.one
 have k0 : ∀ (t : List UInt8), keyOk (.prim 2) (.string (bs t)) = true := fun _ => rfl
 refine WD.of follows t50 (by simp) ?_
 simp (disch := omega) only [kB, kcx, kdm, kdn, kel, aop, Za, Zb, Zc, reduceCtorEq, Zd, Ze, Zf, Zg, Zh, Zi, Zj, Zk, Zl, Zm, Zn, Zo, Zp, Zq, Zr, Zs, Zt, hc0, hv]
 obtain ⟨K1, hK1⟩ : ∃ K1, K1 = K.set cb (AObj.row [s.hv, s.mv, s.sv, s.av, .slice ad s.tables.length s.tables.length, s.cv, .string (bs [116, 97, 98, 108, 101])] 0 true) := ⟨_, rfl⟩
 rw [← hK1]
 have hc1 : Chk K1 cb s [116, 97, 98, 108, 101] := by rw [hK1]; unfold Chk; rw [hget_set' hc.lt, hv]
 have b1 : But cb K K1 := by rw [hK1]; exact But.refl.set
 clear hK1
 refine need_s hc1 (fun g => ?_) (fun g => ?_)
 ·have g' : s.tables.length ≤ 32 := by have := of_decide_eq_true g; omega
  have hE : tablesE s = tblsE s [] s.tables := by rw [tablesE, if_pos g']
  have hc1' := hc1
  unfold Chk at hc1'
  simp (disch := omega) only [kB, kcx, kdm, kdn, kel, aop, Za, Zb, Zc, reduceCtorEq, Zd, Ze, Zf, Zg, Zh, Zi, Zj, Zk, Zl, Zm, Zn, Zo, Zp, Zq, Zr, Zs, Zt, hc1', hv]
  obtain ⟨K2, hK2⟩ : ∃ K2, K2 = K1 ++ [AObj.map []] := ⟨_, rfl⟩
  rw [← hK2]
  have b2 : Base K1 K2 := by rw [hK2]; exact Base.app0 _
  have hm2 : Names K2 K1.length [] := by rw [hK2, Names, hget_last]; rfl
  clear hK2
  have hc2 := hc1.base b2
  have l1 := b1.1
  have hcm : cb ≠ K1.length := by have := hc1.lt; omega
  have hc2' := hc2
  unfold Chk at hc2'
  simp (disch := omega) only [kB, kcx, kdm, kdn, kel, aop, Za, Zb, Zc, reduceCtorEq, Zd, Ze, Zf, Zg, Zh, Zi, Zj, Zk, Zl, Zm, Zn, Zo, Zp, Zq, Zr, Zs, Zt, hc2', hv]
  refine WLoop.inv (tbI K cb K1.length s (.slice ad s.tables.length s.tables.length)) ?_ s.tables.length _ _ ⟨0, _, Nat.zero_le _, by omega, b1.add b2, hc2, hm2, rfl, by exact ex_env rfl⟩
  rintro z e K' ⟨i, th', hi, rfl, bK, hcK, hm, hx, ⟨x, rfl⟩⟩
  by_cases hlt : i < s.tables.length
  ·have c1 : (i : Int) < (s.tables.length : Int) := by omega
   obtain ⟨b, u0, w0, rfl, p1, p2, p3, p4, p5⟩ := (hv ▸ hr).at Tbl.len hlt
   have prow := (bK.base hb hcb).rowc p2
   have w2 : IntKind.i64.wrap ((i : Int) + 1) = ((i + 1 : Nat) : Int) := wI (by omega)
   have htk := take_map Tbl.name hlt
   have hxo := hok _ (List.getElem_mem hlt)
   have hxs := hn0 _ (List.getElem_mem hlt)
   rw [List.drop_eq_getElem_cons hlt, tblsE] at hx
   generalize s.tables[i] = y at *
   simp only [Tbl.cells] at p3
   obtain ⟨ok1, oa1, od1⟩ := hxo.one
   have hxo' := hxo
   obtain ⟨⟨kr, kn, kk⟩, atx, hsz, hbt⟩ := hxo'
   obtain ⟨ka, kv⟩ := kr.sl
   rw [List.length_map] at kv
   obtain ⟨aa, av⟩ := atx.1.sl
   rw [List.length_map] at av
   unfold few at kn
   have an := atx.2
   unfold few at an
   have lm := hm.lt
   have lcK := hcK.lt
   have lK := bK.1
   have hcK' := hcK
   unfold Chk at hcK'
   unfold short at hxs
   have hadd : binV .add (.string (bs [116, 97, 98, 108, 101, 32])) (.string (bs y.name)) = some (.string (bs ([116, 97, 98, 108, 101, 32] ++ y.name))) := bin_str_add (by simp; omega)
   simp (disch := omega) only [kB, kcx, kdm, kdn, kel, aop, Za, Zb, Zc, reduceCtorEq, Zd, Ze, Zf, Zg, Zh, Zi, Zj, Zk, Zl, Zm, Zn, Zo, Zp, Zq, Zr, Zs, Zt, c1, prow, p3, p4, ok1, oa1, od1, hadd, hcK']
   obtain ⟨K4, hK4⟩ : ∃ K4, K4 = K'.set cb (AObj.row [s.hv, s.mv, s.sv, s.av, s.tv, s.cv, .string (bs (116 :: 97 :: 98 :: 108 :: 101 :: 32 :: y.name))] 0 true) ++ [AObj.row [.string (bs y.name), y.kv, y.av, .int .i64 y.size, .string (bs y.dact), y.dv, .bool y.fixed] 0 true] := ⟨_, rfl⟩
   rw [← hK4]
   have b4 : But cb K' K4 := by rw [hK4]; exact But.refl.set.app _
   have hc4 : Chk K4 cb s ([116, 97, 98, 108, 101, 32] ++ y.name) := by rw [hK4]; unfold Chk; rw [hget_old (by simpa using lcK)]; exact hget_set' lcK
   have hbx4 : hget K4 K'.length = .row [.string (bs y.name), y.kv, y.av, .int .i64 y.size, .string (bs y.dact), y.dv, .bool y.fixed] 0 true := by
    have := hget_last (K'.set cb (AObj.row [s.hv, s.mv, s.sv, s.av, s.tv, s.cv, .string (bs (116 :: 97 :: 98 :: 108 :: 101 :: 32 :: y.name))] 0 true)) (AObj.row [.string (bs y.name), y.kv, y.av, .int .i64 y.size, .string (bs y.dact), y.dv, .bool y.fixed] 0 true)
    rw [List.length_set] at this
    rw [hK4]
    exact this
   clear hK4
   have hm4 := hm.but b4 (Ne.symm hcm)
   have bK4 := bK.trans b4
   refine name_s hc4 hm4 (fun g K5 b5 hm5 => ?_) (fun e g => ?_)
   ·rw [g] at hx
    simp only at hx
    have hc5 := hc4.but b5 hcm
    have hbx5 := b5.row hbx4 (by omega)
    have bK5 := bK4.new b5 l1
    have bad : ∀ e K6, Base K5 K6 → tblE s y = some e → R (.pan (wrongV e ([116, 97, 98, 108, 101, 32] ++ y.name))) K6 := fun e K6 b6 q => by
     rw [q] at hx
     exact hp _ _ (hE.trans hx) _ (bK5.add b6)
    have good : tblE s y = none → tblsE s [] s.tables = tblsE s ((s.tables.take i).map Tbl.name ++ [y.name]) (s.tables.drop (i + 1)) := fun q => by rw [q] at hx; exact hx
    clear hx
    unfold tblE at bad good
    have hb5 := bK5.base hb hcb
    by_cases g1 : (0 : Int) < (y.keys.length : Int)
    case neg =>
     have bd := bad 74 K5 Base.refl (if_neg (fun q => g1 (by omega)))
     simp (disch := omega) only [kB, kcx, kdm, kdn, kel, aop, Za, Zb, Zc, reduceCtorEq, Zd, Ze, Zf, Zg, Zh, Zi, Zj, Zk, Zl, Zm, Zn, Zo, Zp, Zq, Zr, Zs, Zt, hbx5, kv, g1]
     refine need_s hc5 (fun q => by cases q) (fun _ => bd)
    by_cases g2 : (y.keys.length : Int) ≤ 8
    case neg =>
     have bd := bad 74 K5 Base.refl (if_neg (fun q => g2 (by omega)))
     simp (disch := omega) only [kB, kcx, kdm, kdn, kel, aop, Za, Zb, Zc, reduceCtorEq, Zd, Ze, Zf, Zg, Zh, Zi, Zj, Zk, Zl, Zm, Zn, Zo, Zp, Zq, Zr, Zs, Zt, hbx5, kv, g1, g2]
     refine need_s hc5 (fun q => by cases q) (fun _ => bd)
    rw [if_pos ⟨by omega, by omega⟩] at bad good
    simp (disch := omega) only [kB, kcx, kdm, kdn, kel, aop, Za, Zb, Zc, reduceCtorEq, Zd, Ze, Zf, Zg, Zh, Zi, Zj, Zk, Zl, Zm, Zn, Zo, Zp, Zq, Zr, Zs, Zt, hbx5, kv, g1, g2]
    refine need_s hc5 (fun _ => ?_) (fun q => by cases q)
    simp (disch := omega) only [kB, kcx, kdm, kdn, kel, aop, Za, Zb, Zc, reduceCtorEq, Zd, Ze, Zf, Zg, Zh, Zi, Zj, Zk, Zl, Zm, Zn, Zo, Zp, Zq, Zr, Zs, Zt, hbx5, kv]
    have lx5 := hget_lt hbx5 rfl
    refine WLoop.inv (tbJ K5 cb K1.length K'.length s (.slice (some ⟨b, 0, none⟩) s.tables.length s.tables.length) i (.slice ka y.keys.length y.keys.length) (kindV y.keys) y.keys) ?_ y.keys.length _ _ ⟨0, 0, Nat.zero_le _, by omega, Nat.le_refl _, Base.refl, rfl, by exact ex_env rfl⟩
    rintro z e K7 ⟨k, n, hk, rfl, hnk, b7, hx, ⟨x, rfl⟩⟩
    have hc7 := hc5.base b7
    have hc7' := hc7
    unfold Chk at hc7'
    have hbx7 := b7.rowc hbx5
    have hb7 := hb5.trans b7
    have hlx7 := hget_lt hbx7 rfl
    have lc7 := hc7.lt
    by_cases hkl : k < y.keys.length
    ·have c3 : (k : Int) < (y.keys.length : Int) := by omega
     obtain ⟨b', u1, w1, rfl, q1, q2, q3, q4, q5⟩ := (kv ▸ kr).at Ky.len hkl
     have qrow := hb7.rowc q2
     have w3 : IntKind.i64.wrap ((k : Int) + 1) = ((k + 1 : Nat) : Int) := wI (by omega)
     have w4 : IntKind.i64.wrap ((n : Int) + 1) = ((n + 1 : Nat) : Int) := wI (by omega)
     have bad2 : ∀ e K6, Base K7 K6 → keysE s (kindV y.keys) 0 y.keys = some e → R (.pan (wrongV e ([116, 97, 98, 108, 101, 32] ++ y.name))) K6 := fun e K6 b6 q => bad e K6 (b7.trans b6) (by rw [q])
     rw [List.drop_eq_getElem_cons hkl, keysE] at hx
     generalize y.keys[k] = t at *
     simp only [Ky.cells] at q3
     simp (disch := omega) only [kB, kcx, kdm, kdn, kel, aop, Za, Zb, Zc, reduceCtorEq, Zd, Ze, Zf, Zg, Zh, Zi, Zj, Zk, Zl, Zm, Zn, Zo, Zp, Zq, Zr, Zs, Zt, c3, qrow, q3, q4, hc7', o0, o1, o2, o3, o4, o5]
     refine fieldOf_s (r := t.ref) hs (hb7.app _) ?_
     rw [fldV_eq]
     simp (disch := omega) only [kB, kcx, kdm, kdn, kel, aop, Za, Zb, Zc, reduceCtorEq, Zd, Ze, Zf, Zg, Zh, Zi, Zj, Zk, Zl, Zm, Zn, Zo, Zp, Zq, Zr, Zs, Zt]
     refine need_s (hc7.app _) (fun g3 => ?_) (fun g3 => ?_)
     ·rw [if_pos g3] at hx
      by_cases g4 : 1 ≤ t.kind
      case neg =>
       rw [if_neg (fun q => g4 q.1)] at hx
       simp (disch := omega) only [kB, kcx, kdm, kdn, kel, aop, Za, Zb, Zc, reduceCtorEq, Zd, Ze, Zf, Zg, Zh, Zi, Zj, Zk, Zl, Zm, Zn, Zo, Zp, Zq, Zr, Zs, Zt, g4]
       exact need_s (hc7.app _) (fun q => by cases q) (fun _ => bad2 _ _ (Base.app0 _) hx)
      by_cases g5 : t.kind ≤ 4
      case neg =>
       rw [if_neg (fun q => g5 q.2)] at hx
       simp (disch := omega) only [kB, kcx, kdm, kdn, kel, aop, Za, Zb, Zc, reduceCtorEq, Zd, Ze, Zf, Zg, Zh, Zi, Zj, Zk, Zl, Zm, Zn, Zo, Zp, Zq, Zr, Zs, Zt, g4, g5]
       exact need_s (hc7.app _) (fun q => by cases q) (fun _ => bad2 _ _ (Base.app0 _) hx)
      rw [if_pos ⟨g4, g5⟩] at hx
      simp (disch := omega) only [kB, kcx, kdm, kdn, kel, aop, Za, Zb, Zc, reduceCtorEq, Zd, Ze, Zf, Zg, Zh, Zi, Zj, Zk, Zl, Zm, Zn, Zo, Zp, Zq, Zr, Zs, Zt, g4, g5]
      refine need_s (hc7.app _) (fun _ => ?_) (fun q => by cases q)
      by_cases g6 : t.kind = 2
      ·have g6' : (t.kind = 2) = True := eq_true g6
       rw [if_pos g6] at hx
       by_cases g7 : n = 0
       case neg =>
        have g7' : ¬ ((n + 1 : Nat) : Int) = 1 := by omega
        rw [if_neg (fun q => g7 (by omega))] at hx
        simp (disch := omega) only [kB, kcx, kdm, kdn, kel, aop, Za, Zb, Zc, reduceCtorEq, Zd, Ze, Zf, Zg, Zh, Zi, Zj, Zk, Zl, Zm, Zn, Zo, Zp, Zq, Zr, Zs, Zt, g6', w4, g7']
        exact need_s (hc7.app _) (fun q => by cases q) (fun _ => bad2 _ _ (Base.app0 _) hx)
       subst g7
       have w5 : IntKind.i64.wrap (((0 : Nat) : Int) + 1) = 1 := by decide
       simp (disch := omega) only [kB, kcx, kdm, kdn, kel, aop, Za, Zb, Zc, reduceCtorEq, Zd, Ze, Zf, Zg, Zh, Zi, Zj, Zk, Zl, Zm, Zn, Zo, Zp, Zq, Zr, Zs, Zt, g6', w5, hbx7]
       refine kind_s (t := y) hxo (hb7.app _) ?_
       by_cases g8 : kindV y.keys = 2
       case neg =>
        rw [if_neg (fun q => g8 q.2)] at hx
        have g8' : (kindV y.keys = 2) = False := eq_false g8
        simp (disch := omega) only [kB, kcx, kdm, kdn, kel, aop, Za, Zb, Zc, reduceCtorEq, Zd, Ze, Zf, Zg, Zh, Zi, Zj, Zk, Zl, Zm, Zn, Zo, Zp, Zq, Zr, Zs, Zt, g8']
        exact need_s (hc7.app _) (fun q => by cases q) (fun _ => bad2 _ _ (Base.app0 _) hx)
       rw [if_pos ⟨rfl, g8⟩] at hx
       have g8' : (kindV y.keys = 2) = True := eq_true g8
       simp (disch := omega) only [kB, kcx, kdm, kdn, kel, aop, Za, Zb, Zc, reduceCtorEq, Zd, Ze, Zf, Zg, Zh, Zi, Zj, Zk, Zl, Zm, Zn, Zo, Zp, Zq, Zr, Zs, Zt, g8']
       refine need_s (hc7.app _) (fun _ => ?_) (fun q => by cases q)
       simp (disch := omega) only [kB, kcx, kdm, kdn, kel, aop, Za, Zb, Zc, reduceCtorEq, Zd, Ze, Zf, Zg, Zh, Zi, Zj, Zk, Zl, Zm, Zn, Zo, Zp, Zq, Zr, Zs, Zt, w3]
       exact ⟨y.keys.length - (k + 1), by omega, k + 1, 1, by omega, rfl, by omega, b7.app _, hx, by exact ex_env rfl⟩
      ·have g6' : (t.kind = 2) = False := eq_false g6
       rw [if_neg g6] at hx
       simp (disch := omega) only [kB, kcx, kdm, kdn, kel, aop, Za, Zb, Zc, reduceCtorEq, Zd, Ze, Zf, Zg, Zh, Zi, Zj, Zk, Zl, Zm, Zn, Zo, Zp, Zq, Zr, Zs, Zt, g6', w3]
       exact ⟨y.keys.length - (k + 1), by omega, k + 1, n, by omega, rfl, by omega, b7.app _, hx, by exact ex_env rfl⟩
     ·rw [if_neg (by rw [g3]; decide)] at hx
      exact bad2 _ _ (Base.app0 _) hx
    ·have c3 : ¬ (k : Int) < (y.keys.length : Int) := by omega
     rw [List.drop_eq_nil_of_le (by omega), keysE] at hx
     rw [hx] at bad good
     simp only at bad good
     by_cases g3 : (0 : Int) < (y.actions.length : Int)
     case neg =>
      have bd := bad 74 K7 b7 (if_neg (fun q => g3 (by omega)))
      simp (disch := omega) only [kB, kcx, kdm, kdn, kel, aop, Za, Zb, Zc, reduceCtorEq, Zd, Ze, Zf, Zg, Zh, Zi, Zj, Zk, Zl, Zm, Zn, Zo, Zp, Zq, Zr, Zs, Zt, c3, hbx7, av, g3]
      refine need_s hc7 (fun q => by cases q) (fun _ => bd)
     by_cases g4 : (y.actions.length : Int) ≤ 64
     case neg =>
      have bd := bad 74 K7 b7 (if_neg (fun q => g4 (by omega)))
      simp (disch := omega) only [kB, kcx, kdm, kdn, kel, aop, Za, Zb, Zc, reduceCtorEq, Zd, Ze, Zf, Zg, Zh, Zi, Zj, Zk, Zl, Zm, Zn, Zo, Zp, Zq, Zr, Zs, Zt, c3, hbx7, av, g3, g4]
      refine need_s hc7 (fun q => by cases q) (fun _ => bd)
     rw [if_pos ⟨by omega, by omega⟩] at bad good
     simp (disch := omega) only [kB, kcx, kdm, kdn, kel, aop, Za, Zb, Zc, reduceCtorEq, Zd, Ze, Zf, Zg, Zh, Zi, Zj, Zk, Zl, Zm, Zn, Zo, Zp, Zq, Zr, Zs, Zt, c3, hbx7, av, g3, g4]
     refine need_s hc7 (fun _ => ?_) (fun q => by cases q)
     simp (disch := omega) only [kB, kcx, kdm, kdn, kel, aop, Za, Zb, Zc, reduceCtorEq, Zd, Ze, Zf, Zg, Zh, Zi, Zj, Zk, Zl, Zm, Zn, Zo, Zp, Zq, Zr, Zs, Zt, hbx7, av]
     obtain ⟨K8, hK8⟩ : ∃ K8, K8 = K7 ++ [AObj.map []] := ⟨_, rfl⟩
     rw [← hK8]
     have b8 : Base K7 K8 := by rw [hK8]; exact Base.app0 _
     have hm8 : Names K8 K7.length (y.actions.take 0) := by rw [hK8, Names, hget_last]; rfl
     clear hK8
     have hbx8 := b8.rowc hbx7
     try simp (disch := omega) only [kB, kcx, kdm, kdn, kel, aop, Za, Zb, Zc, reduceCtorEq, Zd, Ze, Zf, Zg, Zh, Zi, Zj, Zk, Zl, Zm, Zn, Zo, Zp, Zq, Zr, Zs, Zt, hbx8, av]
     refine WLoop.inv (tbA K7 cb K1.length K'.length K7.length s (.slice (some ⟨b, 0, none⟩) s.tables.length s.tables.length) i (.slice aa y.actions.length y.actions.length) y.actions) ?_ y.actions.length _ _ ⟨0, Nat.zero_le _, by omega, b8, hm8, rfl, by exact ex_env rfl⟩
     clear hx b8 hm8 hbx8
     rintro z e K8 ⟨k, hk, rfl, b8, hm8, hx, ⟨x, rfl⟩⟩
     have hc8 := hc7.base b8
     have hc8' := hc8
     unfold Chk at hc8'
     have hbx8 := b8.rowc hbx7
     have hb8 := hb7.trans b8
     have lx8 := hget_lt hbx8 rfl
     have lc8 := hc8.lt
     have lm8 := hm8.lt
     have hcm8 : cb ≠ K7.length := by omega
     by_cases hkl : k < y.actions.length
     ·have c3 : (k : Int) < (y.actions.length : Int) := by omega
      obtain ⟨b', u1, w1, rfl, q1, q2, q3, q4, q5⟩ := (av ▸ atx.1).at txC_len hkl
      have qrow := hb8.rowc q2
      have r6 : ((y.actions.map txC).flatten)[k]? = some (.string (bs y.actions[k])) := by have := q5 0 (by omega); rw [Nat.mul_one, Nat.add_zero] at this; exact this
      have w3 : IntKind.i64.wrap ((k : Int) + 1) = ((k + 1 : Nat) : Int) := wI (by omega)
      have bad2 : ∀ e K6, Base K7 K6 → tactsE s [] y.actions = some e → R (.pan (wrongV e ([116, 97, 98, 108, 101, 32] ++ y.name))) K6 := fun e K6 b6 q => bad e K6 (b7.trans b6) (by rw [q])
      have htk2 : y.actions.take (k + 1) = y.actions.take k ++ [y.actions[k]] := by rw [List.take_add_one, List.getElem?_eq_getElem hkl]; rfl
      rw [List.drop_eq_getElem_cons hkl, tactsE] at hx
      clear q3 q5
      generalize y.actions[k] = t at *
      simp (disch := omega) only [kB, kcx, kdm, kdn, kel, aop, Za, Zb, Zc, reduceCtorEq, Zd, Ze, Zf, Zg, Zh, Zi, Zj, Zk, Zl, Zm, Zn, Zo, Zp, Zq, Zr, Zs, Zt, c3, qrow, r6, hc8', o0, o1, o2, o3, o4, o5]
      refine actionAt_s hs hb8 ?_
      simp (disch := omega) only [kB, kcx, kdm, kdn, kel, aop, Za, Zb, Zc, reduceCtorEq, Zd, Ze, Zf, Zg, Zh, Zi, Zj, Zk, Zl, Zm, Zn, Zo, Zp, Zq, Zr, Zs, Zt]
      refine need_s hc8 (fun g5 => ?_) (fun g5 => ?_)
      ·rw [if_pos ((ixT_mem _ _).1 (of_decide_eq_true g5))] at hx
       have hm8' := hm8
       unfold Names at hm8'
       rcases find_names t (y.actions.take k) 0 with ⟨f1, j, f2, _⟩ | ⟨f1, f2⟩
       ·rw [if_pos f1] at hx
        simp (disch := omega) only [kB, kcx, kdm, kdn, kel, aop, Za, Zb, Zc, reduceCtorEq, Zd, Ze, Zf, Zg, Zh, Zi, Zj, Zk, Zl, Zm, Zn, Zo, Zp, Zq, Zr, Zs, Zt, hm8', k0, f2]
        refine need_s hc8 (fun q => by cases q) (fun _ => ?_)
        exact bad2 _ _ b8 hx
       ·rw [if_neg f1] at hx
        simp (disch := omega) only [kB, kcx, kdm, kdn, kel, aop, Za, Zb, Zc, reduceCtorEq, Zd, Ze, Zf, Zg, Zh, Zi, Zj, Zk, Zl, Zm, Zn, Zo, Zp, Zq, Zr, Zs, Zt, hm8', k0, f2]
        refine need_s hc8 (fun _ => ?_) (fun q => by cases q)
        simp (disch := omega) only [kB, kcx, kdm, kdn, kel, aop, Za, Zb, Zc, reduceCtorEq, Zd, Ze, Zf, Zg, Zh, Zi, Zj, Zk, Zl, Zm, Zn, Zo, Zp, Zq, Zr, Zs, Zt, hm8', k0, f2, w3]
        refine ⟨y.actions.length - (k + 1), by omega, k + 1, by omega, rfl, b8.set (Nat.le_refl _), ?_, by rw [htk2]; exact hx, by exact ex_env rfl⟩
        rw [htk2, Names, hget_set' lm8, List.map_append]
        rfl
      ·rw [if_neg (fun q => of_decide_eq_false g5 ((ixT_mem _ _).2 q))] at hx
       exact bad2 _ _ b8 hx
     ·have c3 : ¬ (k : Int) < (y.actions.length : Int) := by omega
      rw [List.drop_eq_nil_of_le (by omega), tactsE] at hx
      rw [hx] at bad good
      simp only at bad good
      have b78 := b7.trans b8
      by_cases g5 : 1 ≤ y.size
      case neg =>
       have bd := bad 74 K8 b78 (if_neg (fun q => g5 q.1))
       simp (disch := omega) only [kB, kcx, kdm, kdn, kel, aop, Za, Zb, Zc, reduceCtorEq, Zd, Ze, Zf, Zg, Zh, Zi, Zj, Zk, Zl, Zm, Zn, Zo, Zp, Zq, Zr, Zs, Zt, c3, hbx8, g5]
       refine need_s hc8 (fun q => by cases q) (fun _ => bd)
      by_cases g6 : y.size ≤ 4096
      case neg =>
       have bd := bad 74 K8 b78 (if_neg (fun q => g6 q.2))
       simp (disch := omega) only [kB, kcx, kdm, kdn, kel, aop, Za, Zb, Zc, reduceCtorEq, Zd, Ze, Zf, Zg, Zh, Zi, Zj, Zk, Zl, Zm, Zn, Zo, Zp, Zq, Zr, Zs, Zt, c3, hbx8, g5, g6]
       refine need_s hc8 (fun q => by cases q) (fun _ => bd)
      rw [if_pos ⟨g5, g6⟩] at bad good
      simp (disch := omega) only [kB, kcx, kdm, kdn, kel, aop, Za, Zb, Zc, reduceCtorEq, Zd, Ze, Zf, Zg, Zh, Zi, Zj, Zk, Zl, Zm, Zn, Zo, Zp, Zq, Zr, Zs, Zt, c3, hbx8, g5, g6]
      refine need_s hc8 (fun _ => ?_) (fun q => by cases q)
      simp (disch := omega) only [kB, kcx, kdm, kdn, kel, aop, Za, Zb, Zc, reduceCtorEq, Zd, Ze, Zf, Zg, Zh, Zi, Zj, Zk, Zl, Zm, Zn, Zo, Zp, Zq, Zr, Zs, Zt, hbx8, hc8', o0, o1, o2, o3, o4, o5, od1]
      refine call_s hs hb8 hbt ?_
      by_cases g7 : callE s y.name y.dact y.dargs = 0
      ·have g7' : (callE s y.name y.dact y.dargs = 0) = True := eq_true g7
       rw [if_pos g7] at good
       simp (disch := omega) only [kB, kcx, kdm, kdn, kel, aop, Za, Zb, Zc, reduceCtorEq, Zd, Ze, Zf, Zg, Zh, Zi, Zj, Zk, Zl, Zm, Zn, Zo, Zp, Zq, Zr, Zs, Zt, g7', w2]
       exact ⟨s.tables.length - (i + 1), by omega, i + 1, _, by omega, rfl, (bK5.add b7).add b8, hc8, by rw [htk]; exact (hm5.base b7).base b8, by rw [htk]; exact good rfl, by exact ex_env rfl⟩
      ·have g7' : (callE s y.name y.dact y.dargs = 0) = False := eq_false g7
       rw [if_neg g7] at bad
       simp (disch := omega) only [kB, kcx, kdm, kdn, kel, aop, Za, Zb, Zc, reduceCtorEq, Zd, Ze, Zf, Zg, Zh, Zi, Zj, Zk, Zl, Zm, Zn, Zo, Zp, Zq, Zr, Zs, Zt, g7']
       refine need_s hc8 (fun q => by cases q) (fun _ => ?_)
       exact bad _ _ b78 rfl
   ·rw [g] at hx
    exact hp _ _ (hE.trans hx) _ bK4
  ·have c1 : ¬ (i : Int) < (s.tables.length : Int) := by omega
   rw [List.drop_eq_nil_of_le (by omega), tblsE] at hx
   have hh := h (hE.trans hx) _ _ bK hcK
   simp (disch := omega) only [kB, kcx, kdm, kdn, kel, aop, Za, Zb, Zc, reduceCtorEq, Zd, Ze, Zf, Zg, Zh, Zi, Zj, Zk, Zl, Zm, Zn, Zo, Zp, Zq, Zr, Zs, Zt, c1]
   exact hh
 ·have g' : ¬ s.tables.length ≤ 32 := by have := of_decide_eq_false g; omega
  exact hp 74 [116, 97, 98, 108, 101] (by rw [tablesE, if_neg g']) _ b1
end
section
variable {R : FRes → Heap → Prop} {H : Heap}
mutual
/-- The stages from above, with how deep they stand. -/
def flat1 : Nat → St → List (Nat × St)
 | d, .mk k t c va vb a b => (d, .mk k t c va vb a b) :: (flatL (d + 1) a ++ flatL (d + 1) b)
def flatL : Nat → List St → List (Nat × St)
 | _, [] => []
 | d, s :: l => flat1 d s ++ flatL d l
end
theorem flat1_eq {d : Nat} {s : St} : flat1 d s = (d, s) :: (flatL (d + 1) s.thn ++ flatL (d + 1) s.els) := by cases s; rw [flat1]; rfl
theorem flatL_nil {d : Nat} : flatL d [] = [] := by rw [flatL]
theorem flatL_cons {d : Nat} {s : St} {l : List St} : flatL d (s :: l) = flat1 d s ++ flatL d l := by rw [flatL]
theorem flatL_append {d : Nat} : ∀ {l m : List St}, flatL d (l ++ m) = flatL d l ++ flatL d m
 | [], m => by simp [flatL_nil]
 | x :: l, m => by simp only [List.cons_append, flatL_cons, flatL_append, List.append_assoc]
theorem flatL_take {d : Nat} {l : List St} {i : Nat} (hi : i < l.length) : flatL d (l.take (i + 1)) = flatL d (l.take i) ++ flat1 d l[i] := by
 rw [List.take_add_one, List.getElem?_eq_getElem hi, flatL_append]
 simp [flatL_cons, flatL_nil]
theorem flatL_at {d : Nat} {l : List St} {i : Nat} (hi : i < l.length) : flatL d l = flatL d (l.take i) ++ (flat1 d l[i] ++ flatL d (l.drop (i + 1))) := by
 conv => lhs; rw [← List.take_append_drop i l, List.drop_eq_getElem_cons hi]
 rw [flatL_append, flatL_cons]
/-- What a step comes to: one goes on, it stops, it gives up. -/
inductive Go (σ : Type) where
 | on (s : σ)
 | stop (s : σ)
 | pan (v : Value)
/-- A fold that stops at the first refusal. -/
def foldG {σ α : Type} (step : σ → α → Go σ) : σ → List α → Go σ
 | s, [] => .on s
 | s, x :: l => match step s x with
  | .on s' => foldG step s' l
  | .stop s' => .stop s'
  | .pan v => .pan v
theorem foldG_append {σ α : Type} {step : σ → α → Go σ} : ∀ {l m : List α} {s : σ}, foldG step s (l ++ m) = match foldG step s l with
  | .on s' => foldG step s' m
  | .stop s' => .stop s'
  | .pan v => .pan v
 | [], m, s => rfl
 | x :: l, m, s => by
  simp only [List.cons_append, foldG]
  cases step s x with
  | on s' => exact foldG_append
  | stop s' => rfl
  | pan v => rfl
theorem foldG_on {σ α : Type} {step : σ → α → Go σ} {l m : List α} {s s' : σ} (h : foldG step s l = .on s') : foldG step s (l ++ m) = foldG step s' m := by rw [foldG_append, h]
theorem foldG_stop {σ α : Type} {step : σ → α → Go σ} {l m : List α} {s s' : σ} (h : foldG step s l = .stop s') : foldG step s (l ++ m) = .stop s' := by rw [foldG_append, h]
theorem foldG_pan {σ α : Type} {step : σ → α → Go σ} {l m : List α} {s : σ} {v : Value} (h : foldG step s l = .pan v) : foldG step s (l ++ m) = .pan v := by rw [foldG_append, h]
/-- What a closure's state asks of memory: what stood stays, new blocks do no harm; fp: the blocks that it turns. -/
structure StateOK {σ : Type} (H : Heap) (Q : σ → Heap → Prop) (fp : Heap → Nat → Prop) : Prop where
 old : ∀ {s K}, Q s K → Base H K
 app : ∀ {s K} (g : Heap), Q s K → Q s (K ++ g)
 fin : ∀ {s K c}, Q s K → fp K c → c < K.length
 fpa : ∀ {s K c} (g : Heap), Q s K → fp (K ++ g) c → fp K c
/-- From one heap to another, but for the state's blocks. -/
def FrS (fp : Heap → Nat → Prop) (K K' : Heap) : Prop := K.length ≤ K'.length ∧ ∀ c, c < K.length → ¬ fp K c → hget K' c = hget K c ∧ ¬ fp K' c
theorem FrS.refl {fp : Heap → Nat → Prop} {K : Heap} : FrS fp K K := ⟨Nat.le_refl _, fun c _ h => ⟨rfl, h⟩⟩
theorem FrS.trans {fp : Heap → Nat → Prop} {K K' K2 : Heap} (h : FrS fp K K') (g : FrS fp K' K2) : FrS fp K K2 :=
 ⟨Nat.le_trans h.1 g.1, fun c hc hf => by
  obtain ⟨h1, h2⟩ := h.2 c hc hf
  obtain ⟨h3, h4⟩ := g.2 c (by have := h.1; omega) h2
  exact ⟨h3.trans h1, h4⟩⟩
theorem StateOK.fr {σ : Type} {Q : σ → Heap → Prop} {fp : Heap → Nat → Prop} (hQ : StateOK H Q fp) {s : σ} {K : Heap} (g : Heap) (h : Q s K) : FrS fp K (K ++ g) :=
 ⟨by simp, fun c hc hf => ⟨hget_old hc, fun q => hf (hQ.fpa g h q)⟩⟩
/-- What comes of a walk, or of a call of its closure. -/
def GoR {σ : Type} (Q : σ → Heap → Prop) (fp : Heap → Nat → Prop) (K : Heap) (o : Go σ) (R : FRes → Heap → Prop) : Prop :=
 match o with
 | .on s => ∀ K', Q s K' → FrS fp K K' → R (.ret (.bool true)) K'
 | .stop s => ∀ K', Q s K' → FrS fp K K' → R (.ret (.bool false)) K'
 | .pan v => ∀ K', FrS fp K K' → R (.pan v) K'
/-- A closure's call is its step. -/
def ClosureOK {σ : Type} (H : Heap) (Q : σ → Heap → Prop) (fp : Heap → Nat → Prop) (good : Nat × St → Prop) (Lv : Nat → σ → Prop) (step : σ → Nat × St → Go σ) (g : FuncId) (caps : List Value) : Prop :=
 ∀ (s : σ) (K : Heap) (d : Nat) (x : St) (R : FRes → Heap → Prop), Q s K → StOK H x → good (d, x) → Lv d s → GoR Q fp K (step s (d, x)) R → WD T g (.agg x.cells.toArray :: .int .i64 (d : Int) :: caps) K R
/-- How deep a walk may go. -/
structure LvOK {σ : Type} (good : Nat × St → Prop) (Lv : Nat → σ → Prop) (step : σ → Nat × St → Go σ) : Prop where
 fin : ∀ {d s}, Lv d s → d ≤ 4611686018427387904
 down : ∀ {d s}, Lv (d + 1) s → Lv d s
 step : ∀ {d s s' x}, good (d, x) → Lv d s → step s (d, x) = .on s' → Lv (d + 1) s'
theorem LvOK.fold {σ : Type} {good : Nat × St → Prop} {Lv : Nat → σ → Prop} {step : σ → Nat × St → Go σ} (hL : LvOK good Lv step) :
  ∀ (N : Nat) (l : List St), SizeOf.sizeOf l ≤ N → ∀ (d : Nat) (s s' : σ), Lv d s → (∀ y ∈ flatL d l, good y) → foldG step s (flatL d l) = .on s' → Lv d s' := by
 intro N
 induction N with
 | zero => intro l h; cases l <;> simp at h
 | succ N ih =>
  intro l hN d s s' h hg ht
  cases l with
  | nil => rw [flatL_nil] at ht; cases ht; exact h
  | cons x l =>
   have hz := St.size (List.mem_cons_self (a := x) (l := l))
   have hz2 : SizeOf.sizeOf l ≤ N := by simp at hN; omega
   rw [flatL_cons, flat1_eq, List.cons_append] at ht hg
   simp only [foldG] at ht
   cases e1 : step s (d, x) with
   | stop s1 => rw [e1] at ht; cases ht
   | pan v => rw [e1] at ht; cases ht
   | on s1 =>
    rw [e1] at ht
    simp only at ht
    have g1 := hL.step (hg _ (List.mem_cons_self ..)) h e1
    cases e2 : foldG step s1 (flatL (d + 1) x.thn) with
    | stop s2 => rw [List.append_assoc, foldG_stop e2] at ht; cases ht
    | pan v => rw [List.append_assoc, foldG_pan e2] at ht; cases ht
    | on s2 =>
     have g2 := ih _ (by omega) (d + 1) _ _ g1 (fun y hy => hg y (by simp [hy])) e2
     rw [List.append_assoc, foldG_on e2] at ht
     cases e3 : foldG step s2 (flatL (d + 1) x.els) with
     | stop s3 => rw [foldG_stop e3] at ht; cases ht
     | pan v => rw [foldG_pan e3] at ht; cases ht
     | on s3 =>
      have g3 := ih _ (by omega) (d + 1) _ _ g2 (fun y hy => hg y (by simp [hy])) e3
      rw [foldG_on e3] at ht
      exact ih _ hz2 d _ _ (hL.down g3) (fun y hy => hg y (by simp [hy])) ht
def wkI {σ : Type} (Q : σ → Heap → Prop) (fp : Heap → Nat → Prop) (Lv : Nat → σ → Prop) (step : σ → Nat × St → Go σ) (g : FuncId) (caps : List Value) (d : Nat) (l : List St) (v : Value) (s0 : σ) (K0 : Heap) : Nat → Env → Heap → Prop := fun z e K =>
 ∃ (i : Nat) (s1 : σ), i ≤ l.length ∧ z = l.length - i ∧ foldG step s0 (flatL d (l.take i)) = .on s1 ∧ Q s1 K ∧ FrS fp K0 K ∧ Lv d s1 ∧
  (∃ x : Nat → Value, e = [x 0, .int .i64 (d : Int), .func (.func g) #[] caps.toArray, x 3, x 4, x 5, x 6, x 7, x 8, v, .int .i64 (l.length : Int), .int .i64 (i : Int), x 12, x 13, x 14, x 15, x 16, x 17, x 18, x 19, x 20, x 21, x 22, x 23, x 24, x 25, x 26, x 27, x 28, x 29, x 30, x 31, x 32, x 33, x 34, x 35, x 36, x 37, x 38])
theorem StSl.left {l : List St} {v : Value} (h : StSl H l v) : l.length ≤ 140737488355328 := by
 have := h.few
 unfold Ev.few at this
 omega
set_option maxHeartbeats 2000000 in
theorem walk_s {σ : Type} {Q : σ → Heap → Prop} {fp : Heap → Nat → Prop} {good : Nat × St → Prop} {Lv : Nat → σ → Prop} {step : σ → Nat × St → Go σ} {g : FuncId} {caps : List Value} (hQ : StateOK H Q fp) (hL : LvOK good Lv step) (hc : ClosureOK H Q fp good Lv step g caps) :
  ∀ (N : Nat) (l : List St), SizeOf.sizeOf l ≤ N → ∀ (d : Nat) (s : σ) (K : Heap) (v : Value) (R : FRes → Heap → Prop), Lv d s → (∀ y ∈ flatL d l, good y) → Q s K → StSl H l v →
   GoR Q fp K (foldG step s (flatL d l)) R → WD T 33 [v, .int .i64 (d : Int), .func (.func g) #[] caps.toArray] K R := by
 intro N
 induction N with
 | zero => intro l h; cases l <;> simp at h
 | succ N ih =>
  intro l hN d s K v R hd hgd hs hv h
  obtain ⟨ad, rfl⟩ := hv.sl
  have hfew := hv.left
  refine WD.of follows t33 (by simp) ?_
  simp (disch := omega) only [kB, kcx, kdm, kdn, kel, aop, Za, Zb, Zc, reduceCtorEq, Zd, Ze, Zf, Zg, Zh, Zi, Zj, Zk, Zl, Zm, Zn, Zo, Zp, Zq, Zr, Zs, Zt]
  refine WLoop.inv (wkI Q fp Lv step g caps d l (.slice ad l.length l.length) s K) ?_ l.length _ _ ⟨0, s, Nat.zero_le _, by omega, by rw [List.take_zero, flatL_nil]; rfl, hs, FrS.refl, hd, by exact ex_env rfl⟩
  rintro z e K' ⟨i, s1, hi, rfl, ht, hq, hfr, hlv, ⟨x, rfl⟩⟩
  by_cases hlt : i < l.length
  ·have c1 : (i : Int) < (l.length : Int) := by omega
   have hbq := hQ.old hq
   obtain ⟨_, hok, b, u0, w0, rfl, p1, p2, p3, p4, p5⟩ := hv.at hlt
   have prow : hget K' b = .row (l.map St.cells).flatten u0 w0 := hbq.rowc p2
   have w2 : IntKind.i64.wrap ((i : Int) + 1) = ((i + 1 : Nat) : Int) := wI (by omega)
   have hdm := hL.fin hlv
   have w3 : IntKind.i64.wrap ((d : Int) + 1) = ((d + 1 : Nat) : Int) := wI (by omega)
   obtain ⟨z1, z2⟩ := St.size (List.getElem_mem hlt)
   have sa := hok.sa
   have sb := hok.sb
   have oa := sa.one
   have ob := sb.one
   have hgood : ∀ y ∈ flat1 d l[i], good y := fun y hy => hgd y (by rw [flatL_at hlt]; simp [hy])
   have htk := flatL_take (d := d) hlt
   have hat := flatL_at (d := d) hlt
   rw [flat1_eq] at htk hgood hat
   have hcells := St.cells_eq l[i]
   generalize l[i] = x at *
   simp only [Tst.cells, List.cons_append, List.nil_append] at hcells
   rw [hcells] at p3
   rw [hat, foldG_on ht] at h
   have hnxt : ∀ s2, foldG step s1 ((d, x) :: (flatL (d + 1) x.thn ++ flatL (d + 1) x.els)) = .on s2 → foldG step s (flatL d (l.take (i + 1))) = .on s2 := fun s2 q => by rw [htk, foldG_on ht, q]
   clear hat htk p5
   simp (disch := omega) only [kB, kcx, kdm, kdn, kel, aop, Za, Zb, Zc, reduceCtorEq, Zd, Ze, Zf, Zg, Zh, Zi, Zj, Zk, Zl, Zm, Zn, Zo, Zp, Zq, Zr, Zs, Zt, c1, prow, p3, p4, oa, ob]
   obtain ⟨K1, hK1⟩ : ∃ K1, K1 = K' ++ [AObj.row x.cells 0 true] := ⟨_, rfl⟩
   have hK1' := hK1
   rw [hcells] at hK1'
   rw [← hK1']
   have hfr1 : FrS fp K' K1 := by rw [hK1]; exact hQ.fr _ hq
   have hq1 : Q s1 K1 := by rw [hK1]; exact hQ.app _ hq
   have hx1 : hget K1 K'.length = .row x.cells 0 true := by rw [hK1, hget_last]
   have hxf : ¬ fp K1 K'.length := by rw [hK1]; exact fun q => by have := hQ.fin hq (hQ.fpa _ hq q); omega
   have lx : K'.length < K1.length := hget_lt hx1 rfl
   clear hK1 hK1'
   rw [hcells] at hx1
   have hhx := hc s1 K1 d x
   rw [hcells] at hhx
   refine hhx _ hq1 hok (hgood _ (List.mem_cons_self ..)) hlv ?_
   simp only [foldG, List.cons_append] at h hnxt
   cases e1 : step s1 (d, x) with
   | pan vv =>
    rw [e1] at h
    exact fun K2 f2 => h K2 ((hfr.trans hfr1).trans f2)
   | stop s2 =>
    rw [e1] at h
    intro K2 q2 f2
    have hh := h K2 q2 ((hfr.trans hfr1).trans f2)
    simp (disch := omega) only [kB, kcx, kdm, kdn, kel, aop, Za, Zb, Zc, reduceCtorEq, Zd, Ze, Zf, Zg, Zh, Zi, Zj, Zk, Zl, Zm, Zn, Zo, Zp, Zq, Zr, Zs, Zt]
    exact hh
   | on s2 =>
    rw [e1] at h hnxt
    simp only at h hnxt
    intro K2 q2 f2
    obtain ⟨hb2, hf2⟩ := f2.2 K'.length lx hxf
    rw [hx1] at hb2
    have hlv1 := hL.step (hgood _ (List.mem_cons_self ..)) hlv e1
    have hga : ∀ y ∈ flatL (d + 1) x.thn, good y := fun y hy => hgood y (by simp [hy])
    have hgb : ∀ y ∈ flatL (d + 1) x.els, good y := fun y hy => hgood y (by simp [hy])
    have F2 := (hfr.trans hfr1).trans f2
    have lx2 := hget_lt hb2 rfl
    simp (disch := omega) only [kB, kcx, kdm, kdn, kel, aop, Za, Zb, Zc, reduceCtorEq, Zd, Ze, Zf, Zg, Zh, Zi, Zj, Zk, Zl, Zm, Zn, Zo, Zp, Zq, Zr, Zs, Zt, hb2, w3]
    refine ih _ (by omega) (d + 1) _ K2 _ _ hlv1 hga q2 sa ?_
    rw [List.append_assoc] at h
    cases e2 : foldG step s2 (flatL (d + 1) x.thn) with
    | pan vv =>
     rw [foldG_pan e2] at h
     exact fun K3 f3 => h K3 (F2.trans f3)
    | stop s3 =>
     rw [foldG_stop e2] at h
     intro K3 q3 f3
     have hh := h K3 q3 (F2.trans f3)
     simp (disch := omega) only [kB, kcx, kdm, kdn, kel, aop, Za, Zb, Zc, reduceCtorEq, Zd, Ze, Zf, Zg, Zh, Zi, Zj, Zk, Zl, Zm, Zn, Zo, Zp, Zq, Zr, Zs, Zt]
     exact hh
    | on s3 =>
     rw [foldG_on e2] at h
     simp only [foldG_on e2] at hnxt
     intro K3 q3 f3
     obtain ⟨hb3, hf3⟩ := f3.2 K'.length lx2 hf2
     rw [hb2] at hb3
     have hlv2 := hL.fold _ _ (Nat.le_refl _) (d + 1) _ _ hlv1 hga e2
     have lx3 := hget_lt hb3 rfl
     simp (disch := omega) only [kB, kcx, kdm, kdn, kel, aop, Za, Zb, Zc, reduceCtorEq, Zd, Ze, Zf, Zg, Zh, Zi, Zj, Zk, Zl, Zm, Zn, Zo, Zp, Zq, Zr, Zs, Zt, hb3, w3]
     refine ih _ (by omega) (d + 1) _ K3 _ _ hlv2 hgb q3 sb ?_
     cases e3 : foldG step s3 (flatL (d + 1) x.els) with
     | pan vv =>
      rw [foldG_pan e3] at h
      exact fun K4 f4 => h K4 ((F2.trans f3).trans f4)
     | stop s4 =>
      rw [foldG_stop e3] at h
      intro K4 q4 f4
      have hh := h K4 q4 ((F2.trans f3).trans f4)
      simp (disch := omega) only [kB, kcx, kdm, kdn, kel, aop, Za, Zb, Zc, reduceCtorEq, Zd, Ze, Zf, Zg, Zh, Zi, Zj, Zk, Zl, Zm, Zn, Zo, Zp, Zq, Zr, Zs, Zt]
      exact hh
     | on s4 =>
      have hlv3 := hL.fold _ _ (Nat.le_refl _) (d + 1) _ _ hlv2 hgb e3
      intro K4 q4 f4
      simp (disch := omega) only [kB, kcx, kdm, kdn, kel, aop, Za, Zb, Zc, reduceCtorEq, Zd, Ze, Zf, Zg, Zh, Zi, Zj, Zk, Zl, Zm, Zn, Zo, Zp, Zq, Zr, Zs, Zt, w2]
      exact ⟨l.length - (i + 1), by omega, i + 1, s4, by omega, rfl, hnxt _ e3, q4, (F2.trans f3).trans f4, hL.down hlv3, by exact ex_env rfl⟩
  ·have c1 : ¬ (i : Int) < (l.length : Int) := by omega
   rw [List.take_of_length_le (by omega)] at ht
   rw [ht] at h
   have hh := h K' hq hfr
   simp (disch := omega) only [kB, kcx, kdm, kdn, kel, aop, Za, Zb, Zc, reduceCtorEq, Zd, Ze, Zf, Zg, Zh, Zi, Zj, Zk, Zl, Zm, Zn, Zo, Zp, Zq, Zr, Zs, Zt, c1]
   exact hh
end
section
variable {R : FRes → Heap → Prop} {H K : Heap}
/-- What tall's closure counts. -/
def tallS : Nat × Bool → Nat × St → Go (Nat × Bool) := fun s x => if s.1 + 1 ≤ 128 then .on (s.1 + 1, s.2 || decide (8 < x.1)) else .stop (s.1 + 1, s.2 || decide (8 < x.1))
theorem tall_fold : ∀ (l : List (Nat × St)) (n : Nat) (b : Bool), n ≤ 128 → (n + l.length ≤ 128 → foldG tallS (n, b) l = .on (n + l.length, b || l.any fun x => decide (8 < x.1))) ∧ (128 < n + l.length → ∃ s, foldG tallS (n, b) l = .stop s)
 | [], n, b, h => ⟨fun _ => by simp [foldG], fun q => by simp at q; omega⟩
 | x :: l, n, b, h => by
  by_cases h1 : n + 1 ≤ 128
  ·have e : foldG tallS (n, b) (x :: l) = foldG tallS (n + 1, b || decide (8 < x.1)) l := by simp only [foldG, tallS, if_pos h1]
   obtain ⟨i1, i2⟩ := tall_fold l (n + 1) (b || decide (8 < x.1)) h1
   refine ⟨fun q => ?_, fun q => ?_⟩
   ·rw [e, i1 (by simp at q; omega)]
    simp [Bool.or_assoc]; omega
   ·rw [e]; exact i2 (by simp at q; omega)
  ·have e : foldG tallS (n, b) (x :: l) = .stop (n + 1, b || decide (8 < x.1)) := by simp only [foldG, tallS, if_neg h1]
   exact ⟨fun q => by simp at q; omega, fun _ => ⟨_, e⟩⟩
def tallQ (H : Heap) (s : Nat × Bool) (K : Heap) : Prop :=
 Base H K ∧ H.length + 2 ≤ K.length ∧ hget K H.length = .row [.int .i64 (s.1 : Int)] 0 true ∧ hget K (H.length + 1) = .row [.bool s.2] 0 true
def tallF (H : Heap) (K : Heap) (c : Nat) : Prop := c = H.length ∨ c = H.length + 1
theorem tallOK : StateOK H (tallQ H) (tallF H) where
 old := fun h => h.1
 app := fun {s K} g h => by
  obtain ⟨h1, h2, h3, h4⟩ := h
  exact ⟨h1.app g, by simp; omega, by rw [hget_old (by omega)]; exact h3, by rw [hget_old (by omega)]; exact h4⟩
 fin := fun {s K c} h hf => by have := h.2.1; rcases hf with rfl | rfl <;> omega
 fpa := fun g h hf => hf
set_option maxHeartbeats 1000000 in
theorem tallC : ClosureOK H (tallQ H) (tallF H) (fun _ => True) (fun d s => d ≤ s.1 + 1 ∧ s.1 ≤ 128) tallS 76 [.pointer (some ⟨H.length, 0, none⟩), .pointer (some ⟨H.length + 1, 0, none⟩)] := by
 intro s K d x R hq hx _ hlv h
 obtain ⟨n, b⟩ := s
 obtain ⟨q1, q2, q3, q4⟩ := hq
 simp only at q3 q4 hlv
 have w2 : IntKind.i64.wrap ((n : Int) + 1) = ((n + 1 : Nat) : Int) := wI (by omega)
 have n1 : H.length ≠ H.length + 1 := by omega
 have n2 : H.length + 1 ≠ H.length := by omega
 have lq := q1.1
 have fr : ∀ o1 o2 g, FrS (tallF H) K (((K.set H.length o1).set (H.length + 1) o2) ++ g) := fun o1 o2 g => ⟨by simp, fun c hc hf => by
  simp only [tallF, not_or] at hf
  refine ⟨?_, by simp only [tallF, not_or]; exact hf⟩
  rw [hget_old (by simp; omega), hget_ne (Ne.symm hf.2), hget_ne (Ne.symm hf.1)]⟩
 have qq : ∀ bb g, tallQ H (n + 1, bb) (((K.set H.length (AObj.row [.int .i64 ((n + 1 : Nat) : Int)] 0 true)).set (H.length + 1) (.row [.bool bb] 0 true)) ++ g) := fun bb g => by
  refine ⟨((q1.set (by omega)).set (by omega)).app g, by simp; omega, ?_, ?_⟩
  ·rw [hget_old (by simp; omega), hget_ne n2, hget_set' (by omega)]
  ·rw [hget_old (by simp; omega), hget_set' (by simp; omega)]
 have key : ∀ bb : Bool, bb = (b || decide (8 < d)) → R (.ret (.bool (decide (n + 1 ≤ 128)))) (((K.set H.length (AObj.row [.int .i64 ((n + 1 : Nat) : Int)] 0 true)).set (H.length + 1) (.row [.bool bb] 0 true)) ++ [AObj.row x.cells 0 true]) := by
  intro bb hbb
  simp only [tallS] at h
  rw [← hbb] at h
  by_cases c1 : n + 1 ≤ 128
  ·rw [if_pos c1] at h
   rw [decide_eq_true c1]
   exact h _ (qq bb _) (fr _ _ _)
  ·rw [if_neg c1] at h
   rw [decide_eq_false c1]
   exact h _ (qq bb _) (fr _ _ _)
 clear h
 refine WD.of follows t76 (by simp) ?_
 have hp : H.length < K.length := by omega
 have hp1 : H.length + 1 < K.length := by omega
 have fin : ∀ bb : Bool, bb = (b || decide (8 < d)) → R (.ret (.bool (decide (((n + 1 : Nat) : Int) ≤ 128)))) (((K.set H.length (AObj.row [.int .i64 ((n + 1 : Nat) : Int)] 0 true)).set (H.length + 1) (.row [.bool bb] 0 true)) ++ [AObj.row x.cells 0 true]) := fun bb hbb => by
  have := key bb hbb
  rwa [show decide (n + 1 ≤ 128) = decide (((n + 1 : Nat) : Int) ≤ 128) by congr 1; exact propext (by omega)] at this
 by_cases hb : b = true
 ·subst hb
  have k2 := fin true (by simp)
  simp (disch := omega) only [kB, kcx, kdm, kdn, kel, aop, Za, Zb, Zc, reduceCtorEq, Zd, Ze, Zf, Zg, Zh, Zi, Zj, Zk, Zl, Zm, Zn, Zo, Zp, Zq, Zr, Zs, Zt, q3, q4, w2, hget_ne n1, hget_ne n2]
  exact k2
 ·rw [Bool.not_eq_true] at hb
  subst hb
  by_cases c3 : 8 < d
  ·have c4 : (8 : Int) < (d : Int) := by omega
   have k2 := fin true (by simp [c3])
   simp (disch := omega) only [kB, kcx, kdm, kdn, kel, aop, Za, Zb, Zc, reduceCtorEq, Zd, Ze, Zf, Zg, Zh, Zi, Zj, Zk, Zl, Zm, Zn, Zo, Zp, Zq, Zr, Zs, Zt, q3, q4, w2, c4, hget_ne n1, hget_ne n2]
   exact k2
  ·have c4 : ¬ (8 : Int) < (d : Int) := by omega
   have k2 := fin false (by simp [c3])
   simp (disch := omega) only [kB, kcx, kdm, kdn, kel, aop, Za, Zb, Zc, reduceCtorEq, Zd, Ze, Zf, Zg, Zh, Zi, Zj, Zk, Zl, Zm, Zn, Zo, Zp, Zq, Zr, Zs, Zt, q3, q4, w2, c4, hget_ne n1, hget_ne n2]
   exact k2
/-- The error of a control: too many stages, too deep, none. -/
def tallE (l : List St) : Int := if 128 < (flatL 1 l).length then 74 else if (flatL 1 l).any (fun x => decide (8 < x.1)) = true then 77 else 0
theorem tallLv : LvOK (fun _ => True) (fun d s => d ≤ s.1 + 1 ∧ s.1 ≤ 128) tallS where
 fin := fun h => by omega
 down := fun h => by omega
 step := fun {d s s' x} _ h ht => by
  simp only [tallS] at ht
  split at ht
  ·cases ht; simp only; omega
  ·cases ht
set_option maxHeartbeats 1000000 in
theorem tall_s {s : Sch} (hs : s.OK H) (hb : Base H K) (h : R (.ret (.int .i64 (tallE s.control))) K) : WD T 32 [.agg s.cells.toArray] K R := by
 refine WD.gc0 (WD.of follows t32 (by simp) ?_)
 obtain ⟨o0, o1, o2, o3, o4, o5⟩ := hs.one
 simp only [Sch.cells]
 simp (disch := omega) only [kB, kcx, kdm, kdn, kel, aop, Za, Zb, Zc, reduceCtorEq, Zd, Ze, Zf, Zg, Zh, Zi, Zj, Zk, Zl, Zm, Zn, Zo, Zp, Zq, Zr, Zs, Zt, o0, o1, o2, o3, o4, o5]
 obtain ⟨K0, hK0⟩ : ∃ K0, K0 = K ++ [AObj.row [s.hv, s.mv, s.sv, s.av, s.tv, s.cv] 0 true] := ⟨_, rfl⟩
 obtain ⟨K1, hK1⟩ : ∃ K1, K1 = K ++ [AObj.row [s.hv, s.mv, s.sv, s.av, s.tv, s.cv] 0 true, .row [.int .i64 0] 0 true, .row [.bool false] 0 true] := ⟨_, rfl⟩
 have l0 : K0.length = K.length + 1 := by rw [hK0]; simp
 have e2 : K.length + 2 = K0.length + 1 := by omega
 rw [← hK1, ← l0, e2]
 have hK1' : K1 = K0 ++ [.row [.int .i64 0] 0 true, .row [.bool false] 0 true] := by rw [hK1, hK0, List.append_assoc]; rfl
 have hb0 : Base K K0 := by rw [hK0]; exact Base.app0 _
 have hv := hs.cs.base (hb.trans hb0)
 have q : tallQ K0 (0, false) K1 := ⟨by rw [hK1']; exact Base.app0 _, by rw [hK1']; simp, by rw [hK1', hget_base0]; rfl, by rw [hK1', hget_base]; rfl⟩
 clear hK0 hK1 hK1'
 refine walk_s (tallOK (H := K0)) tallLv (tallC (H := K0)) _ s.control (Nat.le_refl _) 1 (0, false) K1 s.cv _ ⟨by simp, by simp⟩ (fun _ _ => trivial) q hv ?_
 obtain ⟨t1, t2⟩ := tall_fold (flatL 1 s.control) 0 false (by omega)
 by_cases c1 : (flatL 1 s.control).length ≤ 128
 ·rw [t1 (by omega)]
  intro K2 ⟨r1, r2, r3, r4⟩ _
  simp only [Bool.false_or] at r4
  by_cases c2 : (flatL 1 s.control).any (fun x => decide (8 < x.1)) = true
  ·have e : tallE s.control = 77 := by rw [tallE, if_neg (by omega), if_pos c2]
   rw [c2] at r4
   rw [e] at h
   simp (disch := omega) only [kB, kcx, kdm, kdn, kel, aop, Za, Zb, Zc, reduceCtorEq, Zd, Ze, Zf, Zg, Zh, Zi, Zj, Zk, Zl, Zm, Zn, Zo, Zp, Zq, Zr, Zs, Zt, r4]
   exact ⟨_, rfl, (hb0.trans r1).ext, .int, h⟩
  ·have e : tallE s.control = 0 := by rw [tallE, if_neg (by omega), if_neg c2]
   rw [Bool.not_eq_true] at c2
   rw [c2] at r4
   rw [e] at h
   simp (disch := omega) only [kB, kcx, kdm, kdn, kel, aop, Za, Zb, Zc, reduceCtorEq, Zd, Ze, Zf, Zg, Zh, Zi, Zj, Zk, Zl, Zm, Zn, Zo, Zp, Zq, Zr, Zs, Zt, r4]
   exact ⟨_, rfl, (hb0.trans r1).ext, .int, h⟩
 ·obtain ⟨s', e1⟩ := t2 (by omega)
  rw [e1]
  intro K2 ⟨r1, r2, r3, r4⟩ _
  have e : tallE s.control = 74 := by rw [tallE, if_pos (by omega)]
  rw [e] at h
  simp (disch := omega) only [kB, kcx, kdm, kdn, kel, aop, Za, Zb, Zc, reduceCtorEq, Zd, Ze, Zf, Zg, Zh, Zi, Zj, Zk, Zl, Zm, Zn, Zo, Zp, Zq, Zr, Zs, Zt]
  exact ⟨_, rfl, (hb0.trans r1).ext, .int, h⟩
end
section
variable {R : FRes → Heap → Prop} {H K : Heap}
/-- What is wrong with a test. -/
def madeT (t : Tst) : Prop := 2 ≤ t.kind ∧ t.kind ≤ 5 ∧ plainO t.a = true ∧ plainO t.b = true
instance (t : Tst) : Decidable (madeT t) := by unfold madeT; infer_instance
def testE (s : Sch) (t : Tst) : Option Int :=
 if t.kind = 1 then (if t = ⟨t.kind, ⟨⟨t.a.ref.head, []⟩, Bt.zero⟩, Opd.zero⟩ then (if t.a.ref.head ∈ s.headers.map Hdr.name then none else some 72) else some 75)
 else if madeT t then
  if opdOK s [] t.a = true then
   if opdOK s [] t.b = true then
    if (fldOf s t.a.ref).isSome = true then (if opdFit s [] t.b (rwV (fldOf s t.a.ref)) = true then none else some 73)
    else if (fldOf s t.b.ref).isSome = true then (if opdFit s [] t.a (rwV (fldOf s t.b.ref)) = true then none else some 73)
    else some 73
   else some 72
  else some 72
 else some 75
theorem tst_eqA (t : Tst) : eqL [(1, .int .i64 t.kind, .int .i64 t.kind),
  (2, .string (bs t.a.ref.head), .string (bs t.a.ref.head)), (2, .string (bs t.a.ref.name), .string (bs [])), (1, .int .u64 (t.a.const.hi : Int), .int .u64 0), (1, .int .u64 (t.a.const.lo : Int), .int .u64 0),
  (2, .string (bs t.b.ref.head), .string (bs [])), (2, .string (bs t.b.ref.name), .string (bs [])), (1, .int .u64 (t.b.const.hi : Int), .int .u64 0), (1, .int .u64 (t.b.const.lo : Int), .int .u64 0)] = some (decide (t = ⟨t.kind, ⟨⟨t.a.ref.head, []⟩, Bt.zero⟩, Opd.zero⟩)) := Tst.eqs t ⟨t.kind, ⟨⟨t.a.ref.head, []⟩, Bt.zero⟩, Opd.zero⟩
theorem tst_eqz (t : Tst) : eqL [(1, .int .i64 t.kind, .int .i64 0),
  (2, .string (bs t.a.ref.head), .string (bs [])), (2, .string (bs t.a.ref.name), .string (bs [])), (1, .int .u64 (t.a.const.hi : Int), .int .u64 0), (1, .int .u64 (t.a.const.lo : Int), .int .u64 0),
  (2, .string (bs t.b.ref.head), .string (bs [])), (2, .string (bs t.b.ref.name), .string (bs [])), (1, .int .u64 (t.b.const.hi : Int), .int .u64 0), (1, .int .u64 (t.b.const.lo : Int), .int .u64 0)] = some (decide (t = Tst.zero)) := Tst.eqs t Tst.zero
/-- Tests that are in memory. -/
def Tst.OK (t : Tst) : Prop := I64 t.kind ∧ t.a.OK ∧ t.b.OK
set_option maxHeartbeats 4000000 in
theorem test_s {cb : Nat} {s : Sch} {th : List UInt8} {t : Tst} (hs : s.OK H) (ht : t.OK) (hb : Base H K) (hc : Chk K cb s th)
  (h : testE s t = none → ∀ K', Base K K' → R (.ret (.tuple #[])) K')
  (hp : ∀ e, testE s t = some e → ∀ K', Base K K' → R (.pan (wrongV e th)) K') : WD T 92 [.pointer (some ⟨cb, 0, none⟩), .agg t.cells.toArray] K R := by
 refine WD.of follows t92 (by simp) ?_
 obtain ⟨o0, o1, o2, o3, o4, o5⟩ := hs.one
 have hc' := hc
 unfold Chk at hc'
 have lc := hc.lt
 have hnil : FldL H (.slice none 0 0) [] := ⟨.inl ⟨rfl, .inl rfl⟩, by simp [few], by simp⟩
 simp only [Tst.cells]
 by_cases k1 : t.kind = 1
 ·have kk : (t.kind = 1) = True := eq_true k1
  have eA := tst_eqA t
  rw [testE, if_pos k1] at h
  simp only [testE, if_pos k1] at hp
  by_cases a1 : t = ⟨t.kind, ⟨⟨t.a.ref.head, []⟩, Bt.zero⟩, Opd.zero⟩
  ·rw [decide_eq_true a1] at eA
   rw [if_pos a1] at h
   simp only [if_pos a1] at hp
   clear a1
   simp (disch := omega) only [kB, kcx, kdm, kdn, kel, aop, Za, Zb, Zc, reduceCtorEq, Zd, Ze, Zf, Zg, Zh, Zi, Zj, Zk, Zl, Zm, Zn, Zo, Zp, Zq, Zr, Zs, Zt, kk, eA]
   refine need_s (hc.app _) (fun _ => ?_) (fun q => by cases q)
   simp (disch := omega) only [kB, kcx, kdm, kdn, kel, aop, Za, Zb, Zc, reduceCtorEq, Zd, Ze, Zf, Zg, Zh, Zi, Zj, Zk, Zl, Zm, Zn, Zo, Zp, Zq, Zr, Zs, Zt, hc', o0, o1, o2, o3, o4, o5]
   refine headerAt_s hs (hb.app _) ?_
   simp (disch := omega) only [kB, kcx, kdm, kdn, kel, aop, Za, Zb, Zc, reduceCtorEq, Zd, Ze, Zf, Zg, Zh, Zi, Zj, Zk, Zl, Zm, Zn, Zo, Zp, Zq, Zr, Zs, Zt]
   refine need_s (hc.app _) (fun g1 => ?_) (fun g1 => ?_)
   ·rw [if_pos ((ixT_mem _ _).1 (of_decide_eq_true g1))] at h
    simp (disch := omega) only [kB, kcx, kdm, kdn, kel, aop, Za, Zb, Zc, reduceCtorEq, Zd, Ze, Zf, Zg, Zh, Zi, Zj, Zk, Zl, Zm, Zn, Zo, Zp, Zq, Zr, Zs, Zt]
    exact h rfl _ (Base.app0 _)
   ·rw [if_neg (fun q => of_decide_eq_false g1 ((ixT_mem _ _).2 q))] at hp
    exact hp _ rfl _ (Base.app0 _)
  ·rw [decide_eq_false a1] at eA
   rw [if_neg a1] at hp
   clear a1
   simp (disch := omega) only [kB, kcx, kdm, kdn, kel, aop, Za, Zb, Zc, reduceCtorEq, Zd, Ze, Zf, Zg, Zh, Zi, Zj, Zk, Zl, Zm, Zn, Zo, Zp, Zq, Zr, Zs, Zt, kk, eA]
   exact need_s (hc.app _) (fun q => by cases q) (fun _ => hp _ rfl _ (Base.app0 _))
 ·have kk : (t.kind = 1) = False := eq_false k1
  rw [testE, if_neg k1] at h
  simp only [testE, if_neg k1] at hp
  have nm : ¬ madeT t → ∀ K', Base K K' → R (.pan (wrongV 75 th)) K' := fun q => by rw [if_neg q] at hp; exact hp _ rfl
  by_cases a1 : 2 ≤ t.kind
  case neg =>
   have nm' := nm (fun q => a1 q.1)
   simp (disch := omega) only [kB, kcx, kdm, kdn, kel, aop, Za, Zb, Zc, reduceCtorEq, Zd, Ze, Zf, Zg, Zh, Zi, Zj, Zk, Zl, Zm, Zn, Zo, Zp, Zq, Zr, Zs, Zt, kk, a1]
   exact need_s (hc.app _) (fun q => by cases q) (fun _ => nm' _ (Base.app0 _))
  by_cases a2 : t.kind ≤ 5
  case neg =>
   have nm' := nm (fun q => a2 q.2.1)
   simp (disch := omega) only [kB, kcx, kdm, kdn, kel, aop, Za, Zb, Zc, reduceCtorEq, Zd, Ze, Zf, Zg, Zh, Zi, Zj, Zk, Zl, Zm, Zn, Zo, Zp, Zq, Zr, Zs, Zt, kk, a1, a2]
   exact need_s (hc.app _) (fun q => by cases q) (fun _ => nm' _ (Base.app0 _))
  simp (disch := omega) only [kB, kcx, kdm, kdn, kel, aop, Za, Zb, Zc, reduceCtorEq, Zd, Ze, Zf, Zg, Zh, Zi, Zj, Zk, Zl, Zm, Zn, Zo, Zp, Zq, Zr, Zs, Zt, kk, a1, a2]
  refine plain_s (o := t.a) ?_
  by_cases a3 : plainO t.a = true
  case neg =>
   have nm' := nm (fun q => a3 q.2.2.1)
   rw [Bool.not_eq_true] at a3
   simp (disch := omega) only [kB, kcx, kdm, kdn, kel, aop, Za, Zb, Zc, reduceCtorEq, Zd, Ze, Zf, Zg, Zh, Zi, Zj, Zk, Zl, Zm, Zn, Zo, Zp, Zq, Zr, Zs, Zt, a3]
   exact need_s (hc.app _) (fun q => by cases q) (fun _ => nm' _ (Base.app0 _))
  simp (disch := omega) only [kB, kcx, kdm, kdn, kel, aop, Za, Zb, Zc, reduceCtorEq, Zd, Ze, Zf, Zg, Zh, Zi, Zj, Zk, Zl, Zm, Zn, Zo, Zp, Zq, Zr, Zs, Zt, a3]
  refine plain_s (o := t.b) ?_
  by_cases a4 : plainO t.b = true
  case neg =>
   have nm' := nm (fun q => a4 q.2.2.2)
   rw [Bool.not_eq_true] at a4
   simp (disch := omega) only [kB, kcx, kdm, kdn, kel, aop, Za, Zb, Zc, reduceCtorEq, Zd, Ze, Zf, Zg, Zh, Zi, Zj, Zk, Zl, Zm, Zn, Zo, Zp, Zq, Zr, Zs, Zt, a4]
   exact need_s (hc.app _) (fun q => by cases q) (fun _ => nm' _ (Base.app0 _))
  have hE : madeT t := ⟨a1, a2, a3, a4⟩
  rw [if_pos hE] at h
  simp only [if_pos hE] at hp
  clear nm
  simp (disch := omega) only [kB, kcx, kdm, kdn, kel, aop, Za, Zb, Zc, reduceCtorEq, Zd, Ze, Zf, Zg, Zh, Zi, Zj, Zk, Zl, Zm, Zn, Zo, Zp, Zq, Zr, Zs, Zt, a4]
  obtain ⟨K1, hK1⟩ : ∃ K1, K1 = K ++ [AObj.row [.int .i64 t.kind, .string (bs t.a.ref.head), .string (bs t.a.ref.name), .int .u64 (t.a.const.hi : Int), .int .u64 (t.a.const.lo : Int), .string (bs t.b.ref.head), .string (bs t.b.ref.name), .int .u64 (t.b.const.hi : Int), .int .u64 (t.b.const.lo : Int)] 0 true] := ⟨_, rfl⟩
  rw [← hK1]
  have b1 : Base K K1 := by rw [hK1]; exact Base.app0 _
  have hx1 : hget K1 K.length = AObj.row [.int .i64 t.kind, .string (bs t.a.ref.head), .string (bs t.a.ref.name), .int .u64 (t.a.const.hi : Int), .int .u64 (t.a.const.lo : Int), .string (bs t.b.ref.head), .string (bs t.b.ref.name), .int .u64 (t.b.const.hi : Int), .int .u64 (t.b.const.lo : Int)] 0 true := by rw [hK1, hget_last]
  clear hK1
  have hc1 := hc.base b1
  have hb1 := hb.trans b1
  refine need_s hc1 (fun _ => ?_) (fun q => by cases q)
  simp (disch := omega) only [kB, kcx, kdm, kdn, kel, aop, Za, Zb, Zc, reduceCtorEq, Zd, Ze, Zf, Zg, Zh, Zi, Zj, Zk, Zl, Zm, Zn, Zo, Zp, Zq, Zr, Zs, Zt, hx1]
  refine operand_s (o := t.a) hs hnil hb1 hc1 (fun g2 K2 c2 d2 b2 hcl2 => ?_) (fun g2 K2 b2 => ?_)
  ·rw [if_pos g2] at h
   simp only [if_pos g2] at hp
   have hx2 := b2.rowc hx1
   have hc2 := hc1.base b2
   simp (disch := omega) only [kB, kcx, kdm, kdn, kel, aop, Za, Zb, Zc, reduceCtorEq, Zd, Ze, Zf, Zg, Zh, Zi, Zj, Zk, Zl, Zm, Zn, Zo, Zp, Zq, Zr, Zs, Zt, hx2]
   refine operand_s (o := t.b) hs hnil (hb1.trans b2) hc2 (fun g4 K3 c3 d3 b3 hcl3 => ?_) (fun g4 K3 b3 => ?_)
   ·rw [if_pos g4] at h
    simp only [if_pos g4] at hp
    have hx3 := b3.rowc hx2
    have hc3 := hc2.base b3
    have hc3' := hc3
    unfold Chk at hc3'
    have lc3 := hc3.lt
    have lx3 := hget_lt hx3 rfl
    have hb3 := (hb1.trans b2).trans b3
    have hcl2' := hcl2.base b3
    have bb3 := (b1.trans b2).trans b3
    have wa := rwV_i64 hs t.a.ref
    have wb := rwV_i64 hs t.b.ref
    simp (disch := omega) only [kB, kcx, kdm, kdn, kel, aop, Za, Zb, Zc, reduceCtorEq, Zd, Ze, Zf, Zg, Zh, Zi, Zj, Zk, Zl, Zm, Zn, Zo, Zp, Zq, Zr, Zs, Zt, hx3, hc3', o0, o1, o2, o3, o4, o5]
    refine fieldOf_s (r := t.a.ref) hs hb3 ?_
    rw [fldV_eq]
    simp (disch := omega) only [kB, kcx, kdm, kdn, kel, aop, Za, Zb, Zc, reduceCtorEq, Zd, Ze, Zf, Zg, Zh, Zi, Zj, Zk, Zl, Zm, Zn, Zo, Zp, Zq, Zr, Zs, Zt, hx3, hc3', o0, o1, o2, o3, o4, o5]
    refine fieldOf_s (r := t.b.ref) hs (hb3.app _) ?_
    rw [fldV_eq]
    generalize rwV (fldOf s t.a.ref) = WA at *
    generalize rwV (fldOf s t.b.ref) = WB at *
    by_cases g5 : (fldOf s t.a.ref).isSome = true
    ·rw [if_pos g5] at h
     simp only [if_pos g5] at hp
     rw [g5]
     simp (disch := omega) only [kB, kcx, kdm, kdn, kel, aop, Za, Zb, Zc, reduceCtorEq, Zd, Ze, Zf, Zg, Zh, Zi, Zj, Zk, Zl, Zm, Zn, Zo, Zp, Zq, Zr, Zs, Zt]
     refine clo_s ht.2.2 (hcl3.base (Base.app0 _)) wa ?_
     simp (disch := omega) only [kB, kcx, kdm, kdn, kel, aop, Za, Zb, Zc, reduceCtorEq, Zd, Ze, Zf, Zg, Zh, Zi, Zj, Zk, Zl, Zm, Zn, Zo, Zp, Zq, Zr, Zs, Zt]
     refine need_s (hc3.app _) (fun g6 => ?_) (fun g6 => ?_)
     ·rw [if_pos g6] at h
      simp (disch := omega) only [kB, kcx, kdm, kdn, kel, aop, Za, Zb, Zc, reduceCtorEq, Zd, Ze, Zf, Zg, Zh, Zi, Zj, Zk, Zl, Zm, Zn, Zo, Zp, Zq, Zr, Zs, Zt]
      exact h rfl _ (bb3.app _)
     ·rw [if_neg (by rw [g6]; decide)] at hp
      exact hp _ rfl _ (bb3.app _)
    ·rw [if_neg g5] at h
     simp only [if_neg g5] at hp
     rw [Bool.not_eq_true] at g5
     rw [g5]
     by_cases g7 : (fldOf s t.b.ref).isSome = true
     ·rw [if_pos g7] at h
      simp only [if_pos g7] at hp
      rw [g7]
      simp (disch := omega) only [kB, kcx, kdm, kdn, kel, aop, Za, Zb, Zc, reduceCtorEq, Zd, Ze, Zf, Zg, Zh, Zi, Zj, Zk, Zl, Zm, Zn, Zo, Zp, Zq, Zr, Zs, Zt]
      refine clo_s ht.2.1 (hcl2'.base (Base.app0 _)) wb ?_
      simp (disch := omega) only [kB, kcx, kdm, kdn, kel, aop, Za, Zb, Zc, reduceCtorEq, Zd, Ze, Zf, Zg, Zh, Zi, Zj, Zk, Zl, Zm, Zn, Zo, Zp, Zq, Zr, Zs, Zt]
      refine need_s (hc3.app _) (fun g6 => ?_) (fun g6 => ?_)
      ·rw [if_pos g6] at h
       simp (disch := omega) only [kB, kcx, kdm, kdn, kel, aop, Za, Zb, Zc, reduceCtorEq, Zd, Ze, Zf, Zg, Zh, Zi, Zj, Zk, Zl, Zm, Zn, Zo, Zp, Zq, Zr, Zs, Zt]
       exact h rfl _ (bb3.app _)
      ·rw [if_neg (by rw [g6]; decide)] at hp
       exact hp _ rfl _ (bb3.app _)
     ·rw [if_neg g7] at hp
      rw [Bool.not_eq_true] at g7
      rw [g7]
      simp (disch := omega) only [kB, kcx, kdm, kdn, kel, aop, Za, Zb, Zc, reduceCtorEq, Zd, Ze, Zf, Zg, Zh, Zi, Zj, Zk, Zl, Zm, Zn, Zo, Zp, Zq, Zr, Zs, Zt]
      exact need_s (hc3.app _) (fun q => by cases q) (fun _ => hp _ rfl _ (bb3.app _))
   ·rw [if_neg (by rw [g4]; decide)] at hp
    exact hp _ rfl _ ((b1.trans b2).trans b3)
  ·rw [if_neg (by rw [g2]; decide)] at hp
   exact hp _ rfl _ (b1.trans b2)
/-- What is wrong with a stage; which tables have been asked. -/
def stageE (s : Sch) (asked : List (List UInt8)) (x : St) : Except Int (List (List UInt8)) :=
 if x.kind = 1 then (if x.test = Tst.zero then (if x.table ∈ s.tables.map Tbl.name then (if x.table ∈ asked then .error 71 else .ok (asked ++ [x.table])) else .error 72) else .error 75)
 else if x.kind = 3 then (if x.test = Tst.zero ∧ x.table = [] ∧ x.thn.length + x.els.length = 0 then .ok asked else .error 75)
 else if x.kind = 2 then (if x.table = [] then (match testE s x.test with
  | some e => .error e
  | none => .ok asked) else .error 75)
 else .error 75
set_option maxHeartbeats 4000000 in
theorem stage_s {cb mb : Nat} {s : Sch} {th : List UInt8} {x : St} {asked : List (List UInt8)} (hs : s.OK H) (hx : StOK H x) (hb : Base H K) (hc : Chk K cb s th) (hm : Names K mb asked) (hcm : mb ≠ cb)
  (h : ∀ a', stageE s asked x = .ok a' → ∀ K', But mb K K' → Names K' mb a' → R (.ret (.tuple #[])) K')
  (hp : ∀ e, stageE s asked x = .error e → ∀ K', Base K K' → R (.pan (wrongV e th)) K') : WD T 52 [.pointer (some ⟨cb, 0, none⟩), .agg x.cells.toArray, .map (some mb)] K R := by
 refine WD.of follows t52 (by simp) ?_
 obtain ⟨o0, o1, o2, o3, o4, o5⟩ := hs.one
 have hc' := hc
 unfold Chk at hc'
 have lc := hc.lt
 have lm := hm.lt
 have hm' := hm
 unfold Names at hm'
 have hcells := St.cells_eq x
 have sa := hx.sa
 have sb := hx.sb
 have oa := sa.one
 have ob := sb.one
 have ht : x.test.OK := by cases x; simp only [StOK] at hx; exact hx.1.2
 have k0 : ∀ (t : List UInt8), keyOk (.prim 2) (.string (bs t)) = true := fun _ => rfl
 simp only [Tst.cells, List.cons_append, List.nil_append] at hcells
 rw [hcells]
 have ez := tst_eqz x.test
 by_cases k1 : x.kind = 1
 ·have kk : (x.kind = 1) = True := eq_true k1
  simp only [stageE, if_pos k1] at h hp
  by_cases a1 : x.test = Tst.zero
  case neg =>
   rw [decide_eq_false a1] at ez
   rw [if_neg a1] at hp
   simp (disch := omega) only [kB, kcx, kdm, kdn, kel, aop, Za, Zb, Zc, reduceCtorEq, Zd, Ze, Zf, Zg, Zh, Zi, Zj, Zk, Zl, Zm, Zn, Zo, Zp, Zq, Zr, Zs, Zt, kk, ez]
   exact need_s (hc.app _) (fun q => by cases q) (fun _ => hp _ rfl _ (Base.app0 _))
  rw [decide_eq_true a1] at ez
  simp only [if_pos a1] at h hp
  clear a1
  simp (disch := omega) only [kB, kcx, kdm, kdn, kel, aop, Za, Zb, Zc, reduceCtorEq, Zd, Ze, Zf, Zg, Zh, Zi, Zj, Zk, Zl, Zm, Zn, Zo, Zp, Zq, Zr, Zs, Zt, kk, ez]
  refine need_s (hc.app _) (fun _ => ?_) (fun q => by cases q)
  simp (disch := omega) only [kB, kcx, kdm, kdn, kel, aop, Za, Zb, Zc, reduceCtorEq, Zd, Ze, Zf, Zg, Zh, Zi, Zj, Zk, Zl, Zm, Zn, Zo, Zp, Zq, Zr, Zs, Zt, hc', o0, o1, o2, o3, o4, o5]
  refine tableAt_s hs (hb.app _) ?_
  simp (disch := omega) only [kB, kcx, kdm, kdn, kel, aop, Za, Zb, Zc, reduceCtorEq, Zd, Ze, Zf, Zg, Zh, Zi, Zj, Zk, Zl, Zm, Zn, Zo, Zp, Zq, Zr, Zs, Zt]
  refine need_s (hc.app _) (fun g1 => ?_) (fun g1 => ?_)
  ·simp only [if_pos ((ixT_mem _ _).1 (of_decide_eq_true g1))] at h hp
   rcases find_names x.table asked 0 with ⟨f1, j, f2, _⟩ | ⟨f1, f2⟩
   ·rw [if_pos f1] at hp
    simp (disch := omega) only [kB, kcx, kdm, kdn, kel, aop, Za, Zb, Zc, reduceCtorEq, Zd, Ze, Zf, Zg, Zh, Zi, Zj, Zk, Zl, Zm, Zn, Zo, Zp, Zq, Zr, Zs, Zt, hm', k0, f2]
    exact need_s (hc.app _) (fun q => by cases q) (fun _ => hp _ rfl _ (Base.app0 _))
   ·simp only [if_neg f1] at h
    simp (disch := omega) only [kB, kcx, kdm, kdn, kel, aop, Za, Zb, Zc, reduceCtorEq, Zd, Ze, Zf, Zg, Zh, Zi, Zj, Zk, Zl, Zm, Zn, Zo, Zp, Zq, Zr, Zs, Zt, hm', k0, f2]
    refine need_s (hc.app _) (fun _ => ?_) (fun q => by cases q)
    simp (disch := omega) only [kB, kcx, kdm, kdn, kel, aop, Za, Zb, Zc, reduceCtorEq, Zd, Ze, Zf, Zg, Zh, Zi, Zj, Zk, Zl, Zm, Zn, Zo, Zp, Zq, Zr, Zs, Zt, hm', k0, f2]
    refine h _ rfl _ (But.refl.set.app _) ?_
    rw [Names, hget_old (by simpa using lm), hget_set' lm, List.map_append]
    rfl
  ·rw [if_neg (fun q => of_decide_eq_false g1 ((ixT_mem _ _).2 q))] at hp
   exact hp _ rfl _ (Base.app0 _)
 ·have kk : (x.kind = 1) = False := eq_false k1
  by_cases k3 : x.kind = 3
  ·have kk3 : (x.kind = 3) = True := eq_true k3
   have bad : ¬ (x.test = Tst.zero ∧ x.table = [] ∧ x.thn.length + x.els.length = 0) → ∀ K', Base K K' → R (.pan (wrongV 75 th)) K' := fun q => hp 75 (by rw [stageE, if_neg k1, if_pos k3, if_neg q])
   by_cases a1 : x.test = Tst.zero
   case neg =>
    have bd := bad (fun q => a1 q.1)
    rw [decide_eq_false a1] at ez
    simp (disch := omega) only [kB, kcx, kdm, kdn, kel, aop, Za, Zb, Zc, reduceCtorEq, Zd, Ze, Zf, Zg, Zh, Zi, Zj, Zk, Zl, Zm, Zn, Zo, Zp, Zq, Zr, Zs, Zt, kk, kk3, ez]
    exact need_s (hc.app _) (fun q => by cases q) (fun _ => bd _ (Base.app0 _))
   rw [decide_eq_true a1] at ez
   by_cases a2 : x.table = []
   case neg =>
    have bd := bad (fun q => a2 q.2.1)
    simp (disch := omega) only [kB, kcx, kdm, kdn, kel, aop, Za, Zb, Zc, reduceCtorEq, Zd, Ze, Zf, Zg, Zh, Zi, Zj, Zk, Zl, Zm, Zn, Zo, Zp, Zq, Zr, Zs, Zt, kk, kk3, ez, decide_eq_false a2]
    exact need_s (hc.app _) (fun q => by cases q) (fun _ => bd _ (Base.app0 _))
   obtain ⟨aa, ha⟩ := sa.sl
   obtain ⟨ab, hb'⟩ := sb.sl
   have la := sa.left
   have lb := sb.left
   have w1 : IntKind.i64.wrap ((x.thn.length : Int) + (x.els.length : Int)) = ((x.thn.length + x.els.length : Nat) : Int) := by rw [show (x.thn.length : Int) + (x.els.length : Int) = ((x.thn.length + x.els.length : Nat) : Int) by omega]; exact wr_i64 (by omega) (by omega)
   by_cases a3 : x.thn.length + x.els.length = 0
   case neg =>
    have bd := bad (fun q => a3 q.2.2)
    have a3' : ¬ ((x.thn.length + x.els.length : Nat) : Int) = 0 := by omega
    simp (disch := omega) only [kB, kcx, kdm, kdn, kel, aop, Za, Zb, Zc, reduceCtorEq, Zd, Ze, Zf, Zg, Zh, Zi, Zj, Zk, Zl, Zm, Zn, Zo, Zp, Zq, Zr, Zs, Zt, kk, kk3, ez, decide_eq_true a2, ha, hb', w1, a3']
    exact need_s (hc.app _) (fun q => by cases q) (fun _ => bd _ (Base.app0 _))
   have hE : stageE s asked x = .ok asked := by rw [stageE, if_neg k1, if_pos k3, if_pos ⟨a1, a2, a3⟩]
   have a3' : (((x.thn.length + x.els.length : Nat) : Int) = 0) = True := eq_true (by omega)
   simp (disch := omega) only [kB, kcx, kdm, kdn, kel, aop, Za, Zb, Zc, reduceCtorEq, Zd, Ze, Zf, Zg, Zh, Zi, Zj, Zk, Zl, Zm, Zn, Zo, Zp, Zq, Zr, Zs, Zt, kk, kk3, ez, decide_eq_true a2, ha, hb', w1, a3']
   refine need_s (hc.app _) (fun _ => ?_) (fun q => by cases q)
   simp (disch := omega) only [kB, kcx, kdm, kdn, kel, aop, Za, Zb, Zc, reduceCtorEq, Zd, Ze, Zf, Zg, Zh, Zi, Zj, Zk, Zl, Zm, Zn, Zo, Zp, Zq, Zr, Zs, Zt]
   exact h _ hE _ (But.refl.app _) (hm.app _)
  ·have kk3 : (x.kind = 3) = False := eq_false k3
   by_cases k2 : x.kind = 2
   ·have kk2 : (x.kind = 2) = True := eq_true k2
    simp only [stageE, if_neg k1, if_neg k3, if_pos k2] at h hp
    by_cases a2 : x.table = []
    case neg =>
     rw [if_neg a2] at hp
     simp (disch := omega) only [kB, kcx, kdm, kdn, kel, aop, Za, Zb, Zc, reduceCtorEq, Zd, Ze, Zf, Zg, Zh, Zi, Zj, Zk, Zl, Zm, Zn, Zo, Zp, Zq, Zr, Zs, Zt, kk, kk3, kk2, decide_eq_false a2]
     exact need_s (hc.app _) (fun q => by cases q) (fun _ => hp _ rfl _ (Base.app0 _))
    simp only [if_pos a2] at h hp
    simp (disch := omega) only [kB, kcx, kdm, kdn, kel, aop, Za, Zb, Zc, reduceCtorEq, Zd, Ze, Zf, Zg, Zh, Zi, Zj, Zk, Zl, Zm, Zn, Zo, Zp, Zq, Zr, Zs, Zt, kk, kk3, kk2, decide_eq_true a2]
    refine need_s (hc.app _) (fun _ => ?_) (fun q => by cases q)
    simp (disch := omega) only [kB, kcx, kdm, kdn, kel, aop, Za, Zb, Zc, reduceCtorEq, Zd, Ze, Zf, Zg, Zh, Zi, Zj, Zk, Zl, Zm, Zn, Zo, Zp, Zq, Zr, Zs, Zt]
    refine test_s (t := x.test) hs ht (hb.app _) (hc.app _) (fun q K' b => ?_) (fun e q K' b => ?_)
    ·rw [q] at h
     have bb := (Base.app0 _).trans b
     simp (disch := omega) only [kB, kcx, kdm, kdn, kel, aop, Za, Zb, Zc, reduceCtorEq, Zd, Ze, Zf, Zg, Zh, Zi, Zj, Zk, Zl, Zm, Zn, Zo, Zp, Zq, Zr, Zs, Zt]
     exact h _ rfl _ (But.refl.add bb) (hm.base bb)
    ·rw [q] at hp
     exact hp _ rfl _ ((Base.app0 _).trans b)
   ·have kk2 : (x.kind = 2) = False := eq_false k2
    have bd := hp 75 (by rw [stageE, if_neg k1, if_neg k3, if_neg k2])
    simp (disch := omega) only [kB, kcx, kdm, kdn, kel, aop, Za, Zb, Zc, reduceCtorEq, Zd, Ze, Zf, Zg, Zh, Zi, Zj, Zk, Zl, Zm, Zn, Zo, Zp, Zq, Zr, Zs, Zt, kk, kk3, kk2]
    exact need_s (hc.app _) (fun q => by cases q) (fun _ => bd _ (Base.app0 _))
end
section
variable {R : FRes → Heap → Prop} {H K : Heap}
/-! ### What is wrong with a schema -/
def metT : List UInt8 := [109, 101, 116, 97]
def ctT : List UInt8 := [99, 111, 110, 116, 114, 111, 108]
def metaE (s : Sch) : Option (Int × List UInt8) := if s.mets.length ≤ 32 then (fieldsE [] s.mets).map fun e => (e, metT) else some (74, metT)
def stagesE (s : Sch) : List (List UInt8) → List (Nat × St) → Option Int
 | _, [] => none
 | asked, x :: l => match stageE s asked x.2 with
  | .error e => some e
  | .ok a => stagesE s a l
def ctlE (s : Sch) : Option (Int × List UInt8) := if tallE s.control = 0 then (stagesE s [] (flatL 1 s.control)).map fun e => (e, ctT) else some (tallE s.control, ctT)
noncomputable def checkO (s : Sch) : Option (Int × List UInt8) := (headersE s).or ((metaE s).or ((statesE s).or ((actionsE s).or ((tablesE s).or (ctlE s)))))
noncomputable def checkV (s : Sch) : Int × List UInt8 := match checkO s with
 | some x => x
 | none => (0, [])
/-- Names that may be put behind a word. -/
structure Sch.Short (s : Sch) : Prop where
 sh : ∀ x ∈ s.headers, short x.name
 ss : ∀ x ∈ s.states, short x.name
 sa : ∀ x ∈ s.actions, short x.name
 st : ∀ x ∈ s.tables, short x.name
/-! ### The closure over the stages -/
def chkS (s : Sch) (th : List UInt8) : List (List UInt8) → Nat × St → Go (List (List UInt8)) := fun a x => match stageE s a x.2 with
 | .error e => .pan (wrongV e th)
 | .ok a' => .on a'
theorem chk_fold (s : Sch) (th : List UInt8) : ∀ (l : List (Nat × St)) (a : List (List UInt8)), (∃ e, stagesE s a l = some e ∧ foldG (chkS s th) a l = .pan (wrongV e th)) ∨ (stagesE s a l = none ∧ ∃ a', foldG (chkS s th) a l = .on a')
 | [], a => .inr ⟨rfl, a, rfl⟩
 | x :: l, a => by
  simp only [stagesE, foldG, chkS]
  cases stageE s a x.2 with
  | error e => exact .inl ⟨e, rfl, rfl⟩
  | ok a' => exact chk_fold s th l a'
/-- Memory K0 with the map behind it, and the variable that holds it. -/
def chkQ (K0 : Heap) (a : List (List UInt8)) (K : Heap) : Prop := Base K0 K ∧ Names K K0.length a ∧ hget K (K0.length + 1) = .row [.map (some K0.length)] 0 true
def chkF (K0 : Heap) (K : Heap) (c : Nat) : Prop := c = K0.length
theorem chkOK {K0 : Heap} : StateOK K0 (chkQ K0) (chkF K0) where
 old := fun h => h.1
 app := fun g h => ⟨h.1.app g, h.2.1.app g, by rw [hget_old (hget_lt h.2.2 rfl)]; exact h.2.2⟩
 fin := fun h hf => by have := h.2.1.lt; unfold chkF at hf; omega
 fpa := fun g h hf => hf
theorem chkLv {s : Sch} {th : List UInt8} : LvOK (fun x => x.1 ≤ 8) (fun d (_ : List (List UInt8)) => d ≤ 9) (chkS s th) where
 fin := fun h => by omega
 down := fun h => by omega
 step := fun h _ _ => by simp only at h; omega
theorem StOK.base {s : St} (hb : Base H K) (h : StOK H s) : StOK K s := by
 cases s
 simp only [StOK] at h ⊢
 exact ⟨h.1, h.2.1.base hb, h.2.2.base hb⟩
theorem chkC {K0 : Heap} {cb : Nat} {s : Sch} {th : List UInt8} (hs : s.OK K0) (hc : Chk K0 cb s th) : ClosureOK K0 (chkQ K0) (chkF K0) (fun x => x.1 ≤ 8) (fun d _ => d ≤ 9) (chkS s th) 51 [.pointer (some ⟨cb, 0, none⟩), .pointer (some ⟨K0.length + 1, 0, none⟩)] := by
 intro a K d x R hq hx _ _ h
 obtain ⟨q1, q2, q3⟩ := hq
 have lc := hc.lt
 have hcells := St.cells_eq x
 have sa := hx.sa
 have sb := hx.sb
 have oa := sa.one
 have ob := sb.one
 simp only [Tst.cells, List.cons_append, List.nil_append] at hcells
 rw [hcells]
 have l3 := hget_lt q3 rfl
 refine WD.of follows t51 (by simp) ?_
 simp (disch := omega) only [kB, kcx, kdm, kdn, kel, aop, Za, Zb, Zc, reduceCtorEq, Zd, Ze, Zf, Zg, Zh, Zi, Zj, Zk, Zl, Zm, Zn, Zo, Zp, Zq, Zr, Zs, Zt, q3]
 rw [← hcells]
 have q3' : hget (K ++ [AObj.row x.cells 0 true]) (K0.length + 1) = .row [.map (some K0.length)] 0 true := by rw [hget_old l3]; exact q3
 refine stage_s (asked := a) hs hx (q1.app _) ((hc.base q1).app _) (q2.app _) (by omega) (fun a' e K' b' hm' => ?_) (fun e he K' b' => ?_)
 ·simp only [chkS, e, GoR] at h
  have hb3 := b'.row q3' (by omega)
  have bb : But K0.length K K' := (But.refl.app _).trans b'
  simp (disch := omega) only [kB, kcx, kdm, kdn, kel, aop, Za, Zb, Zc, reduceCtorEq, Zd, Ze, Zf, Zg, Zh, Zi, Zj, Zk, Zl, Zm, Zn, Zo, Zp, Zq, Zr, Zs, Zt]
  exact h _ ⟨bb.base q1 (Nat.le_refl _), hm', hb3⟩ ⟨bb.1, fun c hc hf => ⟨bb.2 c hc hf, hf⟩⟩
 ·simp only [chkS, he, GoR] at h
  have bb := (Base.app0 (H := K) [AObj.row x.cells 0 true]).trans b'
  exact h _ ⟨bb.1, fun c hc hf => ⟨bb.2 c hc, hf⟩⟩
/-! ### Deferred -/
theorem wdef_pre {res : List AResult} {R : FRes → Heap → Prop} {a : ACode} {d : ADef} {e : Env} {H : Heap} : WDef T res R (.pre a d) e H = WC T a e H (onNorm (WDef T res R d)) := propext ⟨fun h => h, fun h => h⟩
theorem wdef_here {res : List AResult} {R : FRes → Heap → Prop} {t : Nat} {g : FuncId} {cap : List Operand} {rest : ACode} {e : Env} {H : Heap} : WDef T res R (.here t g cap rest) e H = WC T rest (put e t (.func (.func g) #[] (cap.map (aev e)).toArray)) H (leaveK T g (cap.map (aev e)) res R) := propext ⟨fun h => h, fun h => h⟩
theorem onNorm_norm (Q : Env → Heap → Prop) (e : Env) (H : Heap) : onNorm Q .norm e H = Q e H := propext ⟨fun h => h, fun h => h⟩
theorem rcv_pan {b2 b3 : Nat} {e : Int} {th : List UInt8} {G : Heap → Prop} (h2 : hget K b2 = .row [.int .i64 0] 0 true) (h3 : hget K b3 = .row [.string (bs [])] 0 true) (hne : b2 ≠ b3)
  (h : ∀ g, G ((K.set b2 (.row [.int .i64 e] 0 true)).set b3 (.row [.string (bs th)] 0 true) ++ g)) : WRcv T 44 [.pointer (some ⟨b2, 0, none⟩), .pointer (some ⟨b3, 0, none⟩)] (wrongV e th) K G := by
 refine ⟨_, _, _, _, t44, by simp, ?_⟩
 unfold wrongV
 have l2 := hget_lt h2 rfl
 have l3 := hget_lt h3 rfl
 simp (disch := omega) only [kB, kcx, kdm, kdn, kel, aop, Za, Zb, Zc, reduceCtorEq, Zd, Ze, Zf, Zg, Zh, Zi, Zj, Zk, Zl, Zm, Zn, Zo, Zp, Zq, Zr, Zs, Zt, h2, h3, hget_ne hne, ite_self]
 exact h _
theorem rcv_nil {b2 b3 : Nat} {G : Heap → Prop} (h : ∀ g, G (K ++ g)) : WRcv T 44 [.pointer (some ⟨b2, 0, none⟩), .pointer (some ⟨b3, 0, none⟩)] .nilIface K G := by
 refine ⟨_, _, _, _, t44, by simp, ?_⟩
 simp (disch := omega) only [kB, kcx, kdm, kdn, kel, aop, Za, Zb, Zc, reduceCtorEq, Zd, Ze, Zf, Zg, Zh, Zi, Zj, Zk, Zl, Zm, Zn, Zo, Zp, Zq, Zr, Zs, Zt]
 exact h _
end
section
variable {R : FRes → Heap → Prop} {H K : Heap}
theorem Sch.OK.up {s : Sch} (h : s.OK H) (hb : Base H K) : s.OK K where
 hs := ⟨h.hs.1.base hb, h.hs.2.1, fun x hx => ⟨(h.hs.2.2 x hx).1.base hb, (h.hs.2.2 x hx).2⟩⟩
 ms := ⟨h.ms.1.base hb, h.ms.2⟩
 ss := ⟨h.ss.1.base hb, h.ss.2.1, fun x hx => ⟨(h.ss.2.2 x hx).1.base hb, (h.ss.2.2 x hx).2⟩⟩
 acs := ⟨h.acs.1.base hb, h.acs.2.1, fun x hx => have q := h.acs.2.2 x hx; ⟨⟨q.1.1.base hb, q.1.2⟩, q.2.1.base hb, q.2.2⟩⟩
 ts := ⟨h.ts.1.base hb, h.ts.2.1, fun x hx => have q := h.ts.2.2 x hx; ⟨⟨q.1.1.base hb, q.1.2⟩, ⟨q.2.1.1.base hb, q.2.1.2⟩, q.2.2.1, ⟨q.2.2.2.1.base hb, q.2.2.2.2⟩⟩⟩
 cs := h.cs.base hb
theorem cof_map (b : Option Nat) : cellsOf (.map b) = [.map b] := rfl
theorem one_map (b : Option Nat) : oneCell (.map b) = true := rfl
set_option maxHeartbeats 2000000 in
theorem check_s {s : Sch} (hs : s.OK H) (hsh : s.Short) (hb : Base H K) (h : R (.ret (.tuple #[.int .i64 (checkV s).1, .string (bs (checkV s).2)])) K) : WD T 24 [.agg s.cells.toArray] K R := by
 refine WD.gc0 (WD.dfr follows t24 (by simp) ?_)
 obtain ⟨o0, o1, o2, o3, o4, o5⟩ := hs.one
 simp only [Sch.cells]
 simp (disch := omega) only [kB, kcx, kdm, kdn, kel, aop, Za, Zb, Zc, reduceCtorEq, Zd, Ze, Zf, Zg, Zh, Zi, Zj, Zk, Zl, Zm, Zn, Zo, Zp, Zq, Zr, Zs, Zt, wdef_pre, wdef_here, onNorm_norm, o0, o1, o2, o3, o4, o5]
 obtain ⟨K1, hK1⟩ : ∃ K1, K1 = K ++ [AObj.row [s.hv, s.mv, s.sv, s.av, s.tv, s.cv] 0 true, AObj.row [.int .i64 0] 0 true, AObj.row [.string (bs [])] 0 true, AObj.row [s.hv, s.mv, s.sv, s.av, s.tv, s.cv, .string (bs [])] 0 true] := ⟨_, rfl⟩
 rw [← hK1]
 have b1 : Base K K1 := by rw [hK1]; exact Base.app0 _
 have hx1 : hget K1 K.length = .row [s.hv, s.mv, s.sv, s.av, s.tv, s.cv] 0 true := by rw [hK1, hget_base0]; rfl
 have hr2 : hget K1 (K.length + 1) = .row [.int .i64 0] 0 true := by rw [hK1, hget_base]; rfl
 have hr3 : hget K1 (K.length + 2) = .row [.string (bs [])] 0 true := by rw [hK1, hget_base]; rfl
 have hc1 : Chk K1 (K.length + 3) s [] := by rw [hK1, Chk, hget_base]; rfl
 clear hK1
 have hcb : H.length ≤ K.length + 3 := by have := hb.1; omega
 have hb1 := hb.trans b1
 have pan : ∀ e t, checkO s = some (e, t) → ∀ K' env, But (K.length + 3) K1 K' → get env 2 = .pointer (some ⟨K.length + 1, 0, none⟩) → get env 3 = .pointer (some ⟨K.length + 2, 0, none⟩) → leaveK T 44 [.pointer (some ⟨K.length + 1, 0, none⟩), .pointer (some ⟨K.length + 2, 0, none⟩)] [.cell1 2, .cell1 3] (fun r H1 => ∃ v, r = FRes.ret v ∧ (∃ g, H1 = K ++ g) ∧ Scoped K.length v ∧ R (FRes.ret v) K) (.pan (wrongV e t)) env K' := by
  intro e t hq K' env hbut e2 e3
  have h2 := hbut.row hr2 (by omega)
  have h3 := hbut.row hr3 (by omega)
  have l2 := hget_lt h2 rfl
  have l3 := hget_lt h3 rfl
  have hv : checkV s = (e, t) := by rw [checkV, hq]
  rw [hv] at h
  show WRcv T 44 _ (wrongV e t) K' _
  refine rcv_pan h2 h3 (by omega) (fun g => ?_)
  have l1 := hbut.1
  have n1 : K.length + 1 ≠ K.length + 2 := by omega
  have n2 : K.length + 2 ≠ K.length + 1 := by omega
  have hbase : Base K (((K'.set (K.length + 1) (.row [.int .i64 e] 0 true)).set (K.length + 2) (.row [.string (bs t)] 0 true)) ++ g) := (((hbut.base b1 (by omega)).set (by omega)).set (by omega)).app g
  simp (disch := omega) only [kB, kcx, kdm, kdn, kel, aop, Za, Zb, Zc, reduceCtorEq, Zd, Ze, Zf, Zg, Zh, Zi, Zj, Zk, Zl, Zm, Zn, Zo, Zp, Zq, Zr, Zs, Zt, resK, e2, e3, hget_ne n1, hget_ne n2]
  exact ⟨_, rfl, hbase.ext, .tup2 .int .string, h⟩
 have ms := hs.ms
 obtain ⟨ma, mv⟩ := ms.1.sl
 rw [List.length_map] at mv
 refine headers_s hs hsh.sh hb1 hcb hc1 (fun q1 K2 th2 c2 hc2 => ?_) (fun e t q K2 c2 => pan e t (by rw [checkO, q]; rfl) K2 _ c2 rfl rfl)
 have hx2 := c2.row hx1 (by omega)
 have hc2' := hc2
 unfold Chk at hc2'
 have l2 := hc2.lt
 have nx : K.length + 3 ≠ K.length := by omega
 simp (disch := omega) only [kB, kcx, kdm, kdn, kel, aop, Za, Zb, Zc, reduceCtorEq, Zd, Ze, Zf, Zg, Zh, Zi, Zj, Zk, Zl, Zm, Zn, Zo, Zp, Zq, Zr, Zs, Zt, hc2', hx2, hget_ne nx, mv]
 obtain ⟨K3, hK3⟩ : ∃ K3, K3 = K2.set (K.length + 3) (AObj.row [s.hv, .slice ma s.mets.length s.mets.length, s.sv, s.av, s.tv, s.cv, .string (bs [109, 101, 116, 97])] 0 true) := ⟨_, rfl⟩
 rw [← hK3]
 have hc3 : Chk K3 (K.length + 3) s metT := by rw [hK3, Chk, hget_set' l2, mv]; rfl
 have c3 : But (K.length + 3) K1 K3 := by rw [hK3]; exact c2.set
 clear hK3
 have hx3 := c3.row hx1 (by omega)
 refine need_s hc3 (fun g => ?_) (fun g => pan 74 metT (by rw [checkO, q1, metaE, if_neg (fun q => of_decide_eq_false g (by omega))]; rfl) K3 _ c3 rfl rfl)
 have g' : s.mets.length ≤ 32 := by have := of_decide_eq_true g; omega
 simp (disch := omega) only [kB, kcx, kdm, kdn, kel, aop, Za, Zb, Zc, reduceCtorEq, Zd, Ze, Zf, Zg, Zh, Zi, Zj, Zk, Zl, Zm, Zn, Zo, Zp, Zq, Zr, Zs, Zt, hx3]
 refine fields_s hc3 ms (c3.base hb1 (by have := hb.1; have := b1.1; omega)) (fun q2 K4 b4 => ?_) (fun e q K4 b4 => pan e metT (by rw [checkO, q1, metaE, if_pos g', q]; rfl) K4 _ (c3.add b4) rfl rfl)
 have q2' : metaE s = none := by rw [metaE, if_pos g', q2]; rfl
 have c4 := c3.add b4
 have hc4 := hc3.base b4
 have hlb : H.length ≤ K.length + 3 := hcb
 simp (disch := omega) only [kB, kcx, kdm, kdn, kel, aop, Za, Zb, Zc, reduceCtorEq, Zd, Ze, Zf, Zg, Zh, Zi, Zj, Zk, Zl, Zm, Zn, Zo, Zp, Zq, Zr, Zs, Zt]
 refine states_s hs hsh.ss (c4.base hb1 hlb) hcb hc4 (fun q3 K5 th5 c5 hc5 => ?_) (fun e t q K5 c5 => pan e t (by rw [checkO, q1, q2', q]; rfl) K5 _ (c4.trans c5) rfl rfl)
 have c5 := c4.trans c5
 simp (disch := omega) only [kB, kcx, kdm, kdn, kel, aop, Za, Zb, Zc, reduceCtorEq, Zd, Ze, Zf, Zg, Zh, Zi, Zj, Zk, Zl, Zm, Zn, Zo, Zp, Zq, Zr, Zs, Zt]
 refine actions_s hs hsh.sa (c5.base hb1 hlb) hcb hc5 (fun q4 K6 th6 c6 hc6 => ?_) (fun e t q K6 c6 => pan e t (by rw [checkO, q1, q2', q3, q]; rfl) K6 _ (c5.trans c6) rfl rfl)
 have c6 := c5.trans c6
 simp (disch := omega) only [kB, kcx, kdm, kdn, kel, aop, Za, Zb, Zc, reduceCtorEq, Zd, Ze, Zf, Zg, Zh, Zi, Zj, Zk, Zl, Zm, Zn, Zo, Zp, Zq, Zr, Zs, Zt]
 refine tables_s hs hsh.st (c6.base hb1 hlb) hcb hc6 (fun q5 K7 th7 c7 hc7 => ?_) (fun e t q K7 c7 => pan e t (by rw [checkO, q1, q2', q3, q4, q]; rfl) K7 _ (c6.trans c7) rfl rfl)
 have c7 := c6.trans c7
 have hx7 := c7.row hx1 (by omega)
 have hc7' := hc7
 unfold Chk at hc7'
 have l7 := hc7.lt
 simp (disch := omega) only [kB, kcx, kdm, kdn, kel, aop, Za, Zb, Zc, reduceCtorEq, Zd, Ze, Zf, Zg, Zh, Zi, Zj, Zk, Zl, Zm, Zn, Zo, Zp, Zq, Zr, Zs, Zt, hc7', hx7, hget_ne nx, o0, o1, o2, o3, o4, o5]
 obtain ⟨K8, hK8⟩ : ∃ K8, K8 = K7.set (K.length + 3) (AObj.row [s.hv, s.mv, s.sv, s.av, s.tv, s.cv, .string (bs [99, 111, 110, 116, 114, 111, 108])] 0 true) := ⟨_, rfl⟩
 rw [← hK8]
 have hc8 : Chk K8 (K.length + 3) s ctT := by rw [hK8, Chk, hget_set' l7]; rfl
 have c8 : But (K.length + 3) K1 K8 := by rw [hK8]; exact c7.set
 clear hK8
 have hx8 := c8.row hx1 (by omega)
 have hb8 := c8.base hb1 hlb
 refine tall_s hs hb8 ?_
 have qq : ctlE s = checkO s := by rw [checkO, q1, q2', q3, q4, q5]; rfl
 by_cases g : tallE s.control = 0
 case neg =>
  have g'' : (tallE s.control = 0) = False := eq_false g
  simp (disch := omega) only [kB, kcx, kdm, kdn, kel, aop, Za, Zb, Zc, reduceCtorEq, Zd, Ze, Zf, Zg, Zh, Zi, Zj, Zk, Zl, Zm, Zn, Zo, Zp, Zq, Zr, Zs, Zt, g'']
  exact need_s hc8 (fun q => by cases q) (fun _ => pan _ ctT (by rw [← qq, ctlE, if_neg g]) K8 _ c8 rfl rfl)
 have g'' : (tallE s.control = 0) = True := eq_true g
 have lx8 := hget_lt hx8 rfl
 simp (disch := omega) only [kB, kcx, kdm, kdn, kel, aop, Za, Zb, Zc, reduceCtorEq, Zd, Ze, Zf, Zg, Zh, Zi, Zj, Zk, Zl, Zm, Zn, Zo, Zp, Zq, Zr, Zs, Zt, g'', hx8, cof_map, one_map]
 have good : ∀ y ∈ flatL 1 s.control, y.1 ≤ 8 := fun y hy => by
  unfold tallE at g
  split at g
  ·cases g
  ·split at g
   ·cases g
   ·rename_i hn
    have := mt (List.any_eq_true.2) hn
    exact Nat.le_of_not_lt fun q => this ⟨y, hy, by simpa using q⟩
 obtain ⟨K9, hK9⟩ : ∃ K9, K9 = K8 ++ [AObj.map [], AObj.row [.map (some K8.length)] 0 true] := ⟨_, rfl⟩
 rw [← hK9]
 have hq9 : chkQ K8 [] K9 := ⟨by rw [hK9]; exact Base.app0 _, by rw [hK9, Names, hget_base0]; rfl, by rw [hK9, hget_base]; rfl⟩
 clear hK9
 have hs8 : s.OK K8 := hs.up hb8
 refine walk_s chkOK chkLv (chkC hs8 hc8) _ s.control (Nat.le_refl _) 1 [] K9 s.cv _ (by omega) good hq9 hs8.cs ?_
 have bw : ∀ K', FrS (chkF K8) K9 K' → But (K.length + 3) K1 K' := fun K' f => c8.add ⟨by have := f.1; have := hq9.1.1; omega, fun c hc => by have := hq9.1.1; rw [(f.2 c (by omega) (by unfold chkF; omega)).1]; exact hq9.1.2 c hc⟩
 rcases chk_fold s ctT (flatL 1 s.control) [] with ⟨e, t1, t2⟩ | ⟨t1, a', t2⟩
 ·rw [t2]
  exact fun K' f => pan e ctT (by rw [← qq, ctlE, if_pos g, t1]; rfl) K' _ (bw K' f) rfl rfl
 ·rw [t2]
  intro K' _ f
  have c' := bw K' f
  have h2 := c'.row hr2 (by omega)
  have h3 := c'.row hr3 (by omega)
  have l2' := hget_lt h2 rfl
  have l3' := hget_lt h3 rfl
  have n1 : K.length + 1 ≠ K.length + 2 := by omega
  have n2 : K.length + 2 ≠ K.length + 1 := by omega
  have hv : checkV s = (0, []) := by rw [checkV, ← qq, ctlE, if_pos g, t1]; rfl
  rw [hv] at h
  simp (disch := omega) only [kB, kcx, kdm, kdn, kel, aop, Za, Zb, Zc, reduceCtorEq, Zd, Ze, Zf, Zg, Zh, Zi, Zj, Zk, Zl, Zm, Zn, Zo, Zp, Zq, Zr, Zs, Zt, h2, h3, hget_ne n1, hget_ne n2]
  show WRcv T 44 _ .nilIface _ _
  refine rcv_nil (fun g => ?_)
  have hbase : Base K (((K'.set (K.length + 1) (.row [.int .i64 0] 0 true)).set (K.length + 2) (.row [.string (bs [])] 0 true)) ++ g) := (((c'.base b1 (by omega)).set (by omega)).set (by omega)).app g
  simp (disch := omega) only [kB, kcx, kdm, kdn, kel, aop, Za, Zb, Zc, reduceCtorEq, Zd, Ze, Zf, Zg, Zh, Zi, Zj, Zk, Zl, Zm, Zn, Zo, Zp, Zq, Zr, Zs, Zt, resK, hget_ne n1, hget_ne n2]
  exact ⟨_, rfl, hbase.ext, .tup2 .int .string, h⟩
end
section
variable {R : FRes → Heap → Prop} {H : Heap}
end
section
variable {R : FRes → Heap → Prop} {H : Heap}
end
section
variable {R : FRes → Heap → Prop} {H K : Heap}
end
section
variable {R : FRes → Heap → Prop} {H K : Heap}
/-- Errors are no 0. -/
theorem casesE_ne {s : Sch} {W : Int} : ∀ {l : List Cas} {had : List (Bt × Bt)} {e : Int}, casesE s W had l = some e → e ≠ 0
 | [], _, e, h => by cases h
 | c :: l, had, e, h => by
  rw [casesE] at h
  cases hc : casE s W had c with
  | none => rw [hc] at h; exact casesE_ne h
  | some e' =>
   rw [hc] at h
   cases h
   unfold casE at hc
   split at hc
   ·split at hc
    ·cases hc; decide
    ·split at hc
     ·cases hc
     ·cases hc; decide
   ·cases hc; decide
end
section
variable {R : FRes → Heap → Prop} {H K : Heap}
/-! ### Rounds over a list of marks -/
def Tr (m : List Bool) (k : Nat) : Prop := m[k]? = some true
theorem Tr.set {m : List Bool} {b k : Nat} (h : Tr m k) : Tr (m.set b true) k := by
 unfold Tr at *
 by_cases e : b = k
 ·subst e; rw [List.getElem?_set_self (List.getElem?_eq_some_iff.1 h).1]
 ·rw [List.getElem?_set_ne e]; exact h
theorem Tr.here {m : List Bool} {b : Nat} (h : b < m.length) : Tr (m.set b true) b := by unfold Tr; rw [List.getElem?_set_self h]
theorem Tr.back {m : List Bool} {b k : Nat} (h : Tr (m.set b true) k) : k = b ∨ Tr m k := by
 unfold Tr at *
 by_cases e : b = k
 ·exact .inl e.symm
 ·rw [List.getElem?_set_ne e] at h; exact .inr h
def Shut (E : Nat → Nat → Prop) (i : Nat) (m : List Bool) : Prop := ∀ a b, (a = i ∨ Tr m a) → E a b → Tr m b
structure Rd (E : Nat → Nat → Prop) (n i : Nat) (m0 m : List Bool) (a : Nat) : Prop where
 len : m.length = n
 len0 : m0.length = n
 snd : ∀ k, Tr m k → Relation.TransGen E i k
 sub : ∀ k, Tr m0 k → Tr m k
 clo : Shut E i m0 → ∀ k, Tr m k → Tr m0 k
 fin : ∀ c, c < a → ∀ b, (c = i ∨ Tr m0 c) → E c b → Tr m b
theorem Rd.start {E : Nat → Nat → Prop} {n i : Nat} {m : List Bool} (h1 : m.length = n) (h2 : ∀ k, Tr m k → Relation.TransGen E i k) : Rd E n i m m 0 := ⟨h1, h1, h2, fun _ q => q, fun _ _ q => q, fun c q => by omega⟩
theorem Rd.skip {E : Nat → Nat → Prop} {n i a : Nat} {m0 m : List Bool} (h : Rd E n i m0 m a) (q : ¬ (a = i ∨ Tr m a)) : Rd E n i m0 m (a + 1) :=
 ⟨h.len, h.len0, h.snd, h.sub, h.clo, fun c hc b hb e => by
  by_cases hca : c = a
  ·subst hca; exact absurd (hb.imp id (h.sub c)) q
  ·exact h.fin c (by omega) b hb e⟩
theorem Rd.next {E : Nat → Nat → Prop} {n i a : Nat} {m0 m : List Bool} (h : Rd E n i m0 m a) (q : ∀ b, E a b → Tr m b) : Rd E n i m0 m (a + 1) :=
 ⟨h.len, h.len0, h.snd, h.sub, h.clo, fun c hc b hb e => by
  by_cases hca : c = a
  ·subst hca; exact q b e
  ·exact h.fin c (by omega) b hb e⟩
theorem Rd.put {E : Nat → Nat → Prop} {n i a b : Nat} {m0 m : List Bool} (h : Rd E n i m0 m a) (ha : a = i ∨ Tr m a) (e : E a b) : Rd E n i m0 (m.set b true) a :=
 ⟨by simp [h.len], h.len0, fun k q => by
  rcases q.back with rfl | q
  ·rcases ha with rfl | ha
   ·exact .single e
   ·exact .tail (h.snd a ha) e
  ·exact h.snd k q, fun k q => (h.sub k q).set, fun hc k q => by
  rcases q.back with rfl | q
  ·exact hc a _ (ha.imp id (h.clo hc a)) e
  ·exact h.clo hc k q, fun c hc d hd ed => (h.fin c hc d hd ed).set⟩
theorem count_sub : ∀ {m0 m : List Bool}, m0.length = m.length → (∀ k, Tr m0 k → Tr m k) → m0.count true ≤ m.count true ∧ (m0.count true = m.count true → m0 = m)
 | [], [], _, _ => ⟨Nat.le_refl _, fun _ => rfl⟩
 | x :: l, y :: l', hl, h => by
  obtain ⟨h1, h2⟩ := count_sub (m0 := l) (m := l') (by simpa using hl) (fun k q => h (k + 1) q)
  have h0 := h 0
  unfold Tr at h0
  cases x <;> cases y <;> simp at h0 ⊢
  ·exact ⟨h1, h2⟩
  ·exact ⟨by omega, by omega⟩
  ·exact ⟨h1, h2⟩
 | [], _ :: _, hl, _ => by simp at hl
 | _ :: _, [], hl, _ => by simp at hl
theorem Rd.pass {E : Nat → Nat → Prop} {n i t : Nat} {m0 m : List Bool} (hE : ∀ a b, E a b → a < n) (h : Rd E n i m0 m n) (q : Shut E i m0 ∨ t ≤ m0.count true) : Shut E i m ∨ t + 1 ≤ m.count true := by
 obtain ⟨h1, h2⟩ := count_sub (h.len0.trans h.len.symm) h.sub
 have same : m0 = m → Shut E i m := fun e a b ha hab => by
  rw [← e] at ha
  exact h.fin a (hE a b hab) b ha hab
 rcases q with q | q
 ·exact .inl fun a b ha hab => h.sub b (q a b (ha.imp id (h.clo q a)) hab)
 ·by_cases e : m0.count true = m.count true
  ·exact .inl (same (h2 e))
  ·exact .inr (by omega)
end
section
variable {R : FRes → Heap → Prop} {H K : Heap}
/-- Errors are no 0. -/
theorem nameE_ne {met : List (List UInt8)} {n : List UInt8} {e : Int} (h : nameE met n = some e) : e ≠ 0 := by
 unfold nameE at h
 split at h
 ·cases h; decide
 ·split at h
  ·cases h; decide
  ·cases h
theorem fieldsE_ne : ∀ {l : List Fld} {met : List (List UInt8)} {e : Int}, fieldsE met l = some e → e ≠ 0
 | [], _, e, h => by cases h
 | f :: l, met, e, h => by
  rw [fieldsE] at h
  cases hn : nameE met f.name with
  | some e' => rw [hn] at h; cases h; exact nameE_ne hn
  | none =>
   rw [hn] at h
   simp only at h
   split at h
   ·exact fieldsE_ne h
   ·cases h; decide
theorem staE_ne {s : Sch} {y : Sta} {e : Int} (h : staE s y = some e) : e ≠ 0 := by
 unfold staE at h
 split at h
 ·split at h
  ·split at h
   ·split at h
    ·cases hc : casesE s (rwV (fldOf s y.on)) [] y.cases with
     | some e' => rw [hc] at h; cases h; exact casesE_ne hc
     | none =>
      rw [hc] at h
      simp only at h
      split at h
      ·cases h
      ·cases h; decide
    ·cases h; decide
   ·cases h; decide
  ·cases h; decide
 ·cases h; decide
end
section
variable {R : FRes → Heap → Prop} {H K : Heap}
/-- What is wrong with a StepSet that is well made. -/
def setE (s : Sch) (ps : List Fld) (x : Stp) : Option Int :=
 if (fldOf s x.to).isSome = true then
  if opdOK s ps x.a = true then
   if opdOK s ps x.b = true then
    if opdFit s ps x.a (rwV (fldOf s x.to)) = true then
     if opdFit s ps x.b (rwV (fldOf s x.to)) = true then none else some 73
    else some 73
   else some 72
  else some 72
 else some 72
theorem stepE_ne {s : Sch} {ps : List Fld} {x : Stp} {e : Int} (h : stepE s ps x = some e) : e ≠ 0 := by
 unfold stepE at h
 repeat' split at h
 all_goals (cases h; try decide)
theorem stepsE_ne {s : Sch} {ps : List Fld} : ∀ {l : List Stp} {e : Int}, stepsE s ps l = some e → e ≠ 0
 | [], e, h => by cases h
 | y :: l, e, h => by
  rw [stepsE] at h
  cases hy : stepE s ps y with
  | some e' => rw [hy] at h; cases h; exact stepE_ne hy
  | none => rw [hy] at h; exact stepsE_ne h
end
section
variable {R : FRes → Heap → Prop} {H K : Heap}
theorem keysE_ne {s : Sch} {kd : Int} : ∀ {l : List Ky} {n : Nat} {e : Int}, keysE s kd n l = some e → e ≠ 0
 | [], _, e, h => by cases h
 | k :: l, n, e, h => by
  rw [keysE] at h
  split at h
  ·split at h
   ·split at h
    ·split at h
     ·exact keysE_ne h
     ·cases h; decide
    ·exact keysE_ne h
   ·cases h; decide
  ·cases h; decide
theorem tactsE_ne {s : Sch} : ∀ {l had : List (List UInt8)} {e : Int}, tactsE s had l = some e → e ≠ 0
 | [], _, e, h => by cases h
 | a :: l, had, e, h => by
  rw [tactsE] at h
  split at h
  ·split at h
   ·cases h; decide
   ·exact tactsE_ne h
  ·cases h; decide
theorem tblE_ne {s : Sch} {t : Tbl} {e : Int} (h : tblE s t = some e) : e ≠ 0 := by
 unfold tblE at h
 split at h
 ·cases hk : keysE s (kindV t.keys) 0 t.keys with
  | some e' => rw [hk] at h; cases h; exact keysE_ne hk
  | none =>
   rw [hk] at h
   simp only at h
   split at h
   ·cases ha : tactsE s [] t.actions with
    | some e' => rw [ha] at h; cases h; exact tactsE_ne ha
    | none =>
     rw [ha] at h
     simp only at h
     split at h
     ·split at h
      ·cases h
      ·rename_i hc; cases h; exact hc
     ·cases h; decide
   ·cases h; decide
 ·cases h; decide
end
section
variable {R : FRes → Heap → Prop} {H K : Heap}
/-- A stage with its depth as an element's cells. -/
def stC (y : Nat × St) : List Value := y.2.cells ++ [.int .i64 (y.1 : Int)]
def StG (n0 : Nat) (H : Heap) (sv : Value) (L : List (Nat × St)) : Prop := SLs 14 n0 H sv (L.map stC)
theorem StG.sl {n0 : Nat} {sv : Value} {L : List (Nat × St)} (h : StG n0 H sv L) : ∃ ad, sv = .slice ad L.length L.length := by
 obtain ⟨ad, q⟩ := h.len
 exact ⟨ad, by simpa using q⟩
end
section
variable {R : FRes → Heap → Prop} {H K : Heap}
/-- Is a test well made? -/
def madeTV (t : Tst) : Prop := if t.kind = 1 then t = ⟨t.kind, ⟨⟨t.a.ref.head, []⟩, Bt.zero⟩, Opd.zero⟩ else madeT t
instance (t : Tst) : Decidable (madeTV t) := by unfold madeTV; infer_instance
/-- Is a stage well made? -/
def madeX (x : St) : Prop := (x.kind = 1 ∧ x.test = Tst.zero) ∨ (x.kind = 2 ∧ x.table = [] ∧ madeTV x.test) ∨ (x.kind = 3 ∧ x.table = [] ∧ x.test = Tst.zero ∧ x.thn.length = 0 ∧ x.els.length = 0)
instance (x : St) : Decidable (madeX x) := by unfold madeX; infer_instance
/-- What is wrong with a test that is well made. -/
def testR (s : Sch) (t : Tst) : Option Int :=
 if t.kind = 1 then (if t.a.ref.head ∈ s.headers.map Hdr.name then none else some 72)
 else if opdOK s [] t.a = true then
   if opdOK s [] t.b = true then
    if (fldOf s t.a.ref).isSome = true then (if opdFit s [] t.b (rwV (fldOf s t.a.ref)) = true then none else some 73)
    else if (fldOf s t.b.ref).isSome = true then (if opdFit s [] t.a (rwV (fldOf s t.b.ref)) = true then none else some 73)
    else some 73
   else some 72
  else some 72
theorem testE_eq (s : Sch) (t : Tst) : testE s t = if madeTV t then testR s t else some 75 := by
 unfold testE madeTV testR
 by_cases k : t.kind = 1
 ·simp only [if_pos k]
 ·simp only [if_neg k]
theorem testR_ne {s : Sch} {t : Tst} {e : Int} (h : testR s t = some e) : e ≠ 0 := by
 unfold testR at h
 repeat' split at h
 all_goals (cases h; try decide)
end
section
variable {R : FRes → Heap → Prop} {H K : Heap}
/-! ### Errors are no 0 -/
theorem hdrE_ne {met : List (List UInt8)} {y : Hdr} {e : Int} (h : hdrE met y = some e) : e ≠ 0 := by
 unfold hdrE at h
 cases hn : nameE met y.name with
 | some e' => rw [hn] at h; cases h; exact nameE_ne hn
 | none =>
  rw [hn] at h
  simp only at h
  split at h
  ·cases hf : fieldsE [] y.fields with
   | some e' => rw [hf] at h; cases h; exact fieldsE_ne hf
   | none =>
    rw [hf] at h
    simp only at h
    split at h
    ·cases h
    ·cases h; decide
  ·cases h; decide
theorem hdrsE_ne : ∀ {l : List Hdr} {met : List (List UInt8)} {x : Int × List UInt8}, hdrsE met l = some x → x.1 ≠ 0
 | [], _, x, h => by cases h
 | y :: l, met, x, h => by
  rw [hdrsE] at h
  cases hy : hdrE met y with
  | some e => rw [hy] at h; cases h; exact hdrE_ne hy
  | none => rw [hy] at h; exact hdrsE_ne h
theorem headersE_ne {s : Sch} {x : Int × List UInt8} (h : headersE s = some x) : x.1 ≠ 0 := by
 unfold headersE at h
 split at h
 ·exact hdrsE_ne h
 ·cases h; decide
theorem metaE_ne {s : Sch} {x : Int × List UInt8} (h : metaE s = some x) : x.1 ≠ 0 := by
 unfold metaE at h
 split at h
 ·obtain ⟨e, he, rfl⟩ := Option.map_eq_some_iff.1 h
  exact fieldsE_ne he
 ·cases h; decide
theorem stasE_ne {s : Sch} : ∀ {l : List Sta} {met : List (List UInt8)} {x : Int × List UInt8}, stasE s met l = some x → x.1 ≠ 0
 | [], _, x, h => by cases h
 | y :: l, met, x, h => by
  rw [stasE] at h
  cases hn : nameE met y.name with
  | some e => rw [hn] at h; cases h; exact nameE_ne hn
  | none =>
   rw [hn] at h
   simp only at h
   cases hy : staE s y with
   | some e => rw [hy] at h; cases h; exact staE_ne hy
   | none => rw [hy] at h; exact stasE_ne h
theorem rndE_ne {s : Sch} : ∀ {l : List Sta} {i : Nat} {x : Int × List UInt8}, rndE s i l = some x → x.1 ≠ 0
 | [], _, x, h => by cases h
 | y :: l, i, x, h => by
  rw [rndE] at h
  split at h
  ·cases h; show (78 : Int) ≠ 0; decide
  ·exact rndE_ne h
theorem statesE_ne {s : Sch} {x : Int × List UInt8} (h : statesE s = some x) : x.1 ≠ 0 := by
 unfold statesE at h
 split at h
 ·cases hs : stasE s [] s.states with
  | some e => rw [hs] at h; cases h; exact stasE_ne hs
  | none => rw [hs] at h; exact rndE_ne h
 ·cases h; decide
theorem actE_ne {s : Sch} {y : Act} {e : Int} (h : actE s y = some e) : e ≠ 0 := by
 unfold actE at h
 split at h
 ·cases hf : fieldsE [] y.params with
  | some e' => rw [hf] at h; cases h; exact fieldsE_ne hf
  | none => rw [hf] at h; exact stepsE_ne h
 ·cases h; decide
theorem actsE_ne {s : Sch} : ∀ {l : List Act} {met : List (List UInt8)} {x : Int × List UInt8}, actsE s met l = some x → x.1 ≠ 0
 | [], _, x, h => by cases h
 | y :: l, met, x, h => by
  rw [actsE] at h
  cases hn : nameE met y.name with
  | some e => rw [hn] at h; cases h; exact nameE_ne hn
  | none =>
   rw [hn] at h
   simp only at h
   cases hy : actE s y with
   | some e => rw [hy] at h; cases h; exact actE_ne hy
   | none => rw [hy] at h; exact actsE_ne h
theorem actionsE_ne {s : Sch} {x : Int × List UInt8} (h : actionsE s = some x) : x.1 ≠ 0 := by
 unfold actionsE at h
 split at h
 ·exact actsE_ne h
 ·cases h; decide
theorem tblsE_ne {s : Sch} : ∀ {l : List Tbl} {met : List (List UInt8)} {x : Int × List UInt8}, tblsE s met l = some x → x.1 ≠ 0
 | [], _, x, h => by cases h
 | y :: l, met, x, h => by
  rw [tblsE] at h
  cases hn : nameE met y.name with
  | some e => rw [hn] at h; cases h; exact nameE_ne hn
  | none =>
   rw [hn] at h
   simp only at h
   cases hy : tblE s y with
   | some e => rw [hy] at h; cases h; exact tblE_ne hy
   | none => rw [hy] at h; exact tblsE_ne h
theorem tablesE_ne {s : Sch} {x : Int × List UInt8} (h : tablesE s = some x) : x.1 ≠ 0 := by
 unfold tablesE at h
 split at h
 ·exact tblsE_ne h
 ·cases h; decide
theorem testE_ne {s : Sch} {t : Tst} {e : Int} (h : testE s t = some e) : e ≠ 0 := by
 rw [testE_eq] at h
 split at h
 ·exact testR_ne h
 ·cases h; decide
theorem stageE_ne {s : Sch} {a : List (List UInt8)} {x : St} {e : Int} (h : stageE s a x = .error e) : e ≠ 0 := by
 unfold stageE at h
 split at h
 ·split at h
  ·split at h
   ·split at h
    ·cases h; decide
    ·cases h
   ·cases h; decide
  ·cases h; decide
 ·split at h
  ·split at h
   ·cases h
   ·cases h; decide
  ·split at h
   ·split at h
    ·cases ht : testE s x.test with
     | some e' => rw [ht] at h; cases h; exact testE_ne ht
     | none => rw [ht] at h; cases h
    ·cases h; decide
   ·cases h; decide
theorem stagesE_ne {s : Sch} : ∀ {l : List (Nat × St)} {a : List (List UInt8)} {e : Int}, stagesE s a l = some e → e ≠ 0
 | [], _, e, h => by cases h
 | x :: l, a, e, h => by
  rw [stagesE] at h
  cases hx : stageE s a x.2 with
  | error e' => rw [hx] at h; cases h; exact stageE_ne hx
  | ok a' => rw [hx] at h; exact stagesE_ne h
theorem ctlE_ne {s : Sch} {x : Int × List UInt8} (h : ctlE s = some x) : x.1 ≠ 0 ∧ x.2 = ctT := by
 unfold ctlE at h
 split at h
 ·obtain ⟨e, he, rfl⟩ := Option.map_eq_some_iff.1 h
  exact ⟨stagesE_ne he, rfl⟩
 ·rename_i c; cases h; exact ⟨c, rfl⟩
/-! ### Fields of sound headers -/
theorem Sch.len (s : Sch) : s.cells.length = 6 := rfl
end
section
variable {R : FRes → Heap → Prop} {H K : Heap}
theorem checkO_ne {s : Sch} {x : Int × List UInt8} (h : checkO s = some x) : x.1 ≠ 0 := by
 unfold checkO at h
 cases e1 : headersE s with
 | some y => rw [e1] at h; cases h; exact headersE_ne e1
 | none =>
 rw [e1, Option.none_or] at h
 cases e2 : metaE s with
 | some y => rw [e2] at h; cases h; exact metaE_ne e2
 | none =>
 rw [e2, Option.none_or] at h
 cases e3 : statesE s with
 | some y => rw [e3] at h; cases h; exact statesE_ne e3
 | none =>
 rw [e3, Option.none_or] at h
 cases e4 : actionsE s with
 | some y => rw [e4] at h; cases h; exact actionsE_ne e4
 | none =>
 rw [e4, Option.none_or] at h
 cases e5 : tablesE s with
 | some y => rw [e5] at h; cases h; exact tablesE_ne e5
 | none =>
 rw [e5, Option.none_or] at h
 exact (ctlE_ne h).1
structure Parts (s : Sch) : Prop where
 hs : headersE s = none
 ms : metaE s = none
 ss : statesE s = none
 acs : actionsE s = none
 ts : tablesE s = none
 cs : ctlE s = none
theorem checkO_parts {s : Sch} (h : checkO s = none) : Parts s := by
 unfold checkO at h
 cases e1 : headersE s with
 | some y => rw [e1] at h; cases h
 | none =>
 rw [e1, Option.none_or] at h
 cases e2 : metaE s with
 | some y => rw [e2] at h; cases h
 | none =>
 rw [e2, Option.none_or] at h
 cases e3 : statesE s with
 | some y => rw [e3] at h; cases h
 | none =>
 rw [e3, Option.none_or] at h
 cases e4 : actionsE s with
 | some y => rw [e4] at h; cases h
 | none =>
 rw [e4, Option.none_or] at h
 cases e5 : tablesE s with
 | some y => rw [e5] at h; cases h
 | none =>
 rw [e5, Option.none_or] at h
 exact ⟨e1, e2, e3, e4, e5, h⟩
theorem sound_s {s : Sch} (hs : s.OK H) (hsh : s.Short) (hb : Base H K) (h : ∀ b : Bool, (b = true ↔ checkO s = none) → R (.ret (.bool b)) K) : WD T 16 [.agg s.cells.toArray] K R := by
 refine WD.gc0 (WD.of follows t16 (by simp) ?_)
 obtain ⟨o0, o1, o2, o3, o4, o5⟩ := hs.one
 simp only [Sch.cells]
 simp (disch := omega) only [kB, kcx, kdm, kdn, kel, aop, Za, Zb, Zc, reduceCtorEq, Zd, Ze, Zf, Zg, Zh, Zi, Zj, Zk, Zl, Zm, Zn, Zo, Zp, Zq, Zr, Zs, Zt, o0, o1, o2, o3, o4, o5]
 refine check_s hs hsh (hb.app _) ?_
 cases e : checkO s with
 | none =>
  have hv : checkV s = (0, []) := by rw [checkV, e]
  rw [hv]
  have hh := h true (by simp [e])
  simp (disch := omega) only [kB, kcx, kdm, kdn, kel, aop, Za, Zb, Zc, reduceCtorEq, Zd, Ze, Zf, Zg, Zh, Zi, Zj, Zk, Zl, Zm, Zn, Zo, Zp, Zq, Zr, Zs, Zt]
  exact ⟨_, rfl, (Base.app0 _).ext, .bool, hh⟩
 | some x =>
  have hv : checkV s = x := by rw [checkV, e]
  rw [hv]
  have hh := h false (by simp [e])
  have he : (x.1 = 0) = False := eq_false (checkO_ne e)
  simp (disch := omega) only [kB, kcx, kdm, kdn, kel, aop, Za, Zb, Zc, reduceCtorEq, Zd, Ze, Zf, Zg, Zh, Zi, Zj, Zk, Zl, Zm, Zn, Zo, Zp, Zq, Zr, Zs, Zt, he]
  exact ⟨_, rfl, (Base.app0 _).ext, .bool, hh⟩
/-- Where a state leads by a choice. -/
def nextOf (y : Sta) (c : Int) : List UInt8 := if 0 ≤ c ∧ c < (y.cases.length : Int) then (y.cases.map Cas.next).getD c.toNat [] else y.next
theorem nextOf_outs (y : Sta) (c : Int) : nextOf y c ∈ y.outs := by
 unfold nextOf Sta.outs
 split
 ·rename_i h
  refine List.mem_cons_of_mem _ ?_
  rw [List.getD_eq_getElem?_getD, List.getElem?_eq_getElem (by simp; omega)]
  exact List.getElem_mem _
 ·exact List.mem_cons_self
def stpI (K : Heap) (bx : Nat) (t : List UInt8) (l : List Sta) : Nat → Env → Heap → Prop := fun z e K' =>
 ∃ i : Nat, i ≤ l.length ∧ z = l.length - i ∧ K' = K ∧ ixT t (l.map Sta.name) 0 = ixT t ((l.map Sta.name).drop i) i ∧ (∃ x : Nat → Value, e = [x 0, x 1, x 2, .pointer (some ⟨bx, 0, none⟩), x 4, x 5, x 6, x 7, .string (bs t), .int .i64 (i : Int), x 10, x 11, x 12, x 13, x 14, x 15, x 16, x 17, x 18, x 19, x 20, x 21, x 22, x 23, x 24, x 25, x 26, x 27, x 28, x 29, x 30, x 31, x 32, x 33, x 34, x 35, x 36, x 37, x 38, x 39, x 40, x 41, x 42, x 43, x 44, x 45, x 46, x 47])
set_option maxHeartbeats 1000000 in
theorem stepto_s {s : Sch} (hs : s.OK H) (hb : Base H K) {a : Nat} (ha : a < s.states.length) {c : Int} (h : R (.ret (.int .i64 (ixT (nextOf s.states[a] c) (s.states.map Sta.name) 0))) K) : WD T 22 [.agg s.cells.toArray, .int .i64 (a : Int), .int .i64 c] K R := by
 refine WD.gc0 (WD.of follows t22 (by simp) ?_)
 obtain ⟨o0, o1, o2, o3, o4, o5⟩ := hs.one
 obtain ⟨hr, hn, hok⟩ := hs.ss
 unfold few at hn
 obtain ⟨ad, hv⟩ := hr.sl
 rw [List.length_map] at hv
 obtain ⟨b, u0, w0, rfl, p1, p2, p3, p4, p5⟩ := (hv ▸ hr).at Sta.len ha
 have prow := hb.rowc p2
 have hyo := hok _ (List.getElem_mem ha)
 have o := hyo.one
 obtain ⟨fr, fn, fk⟩ := hyo
 obtain ⟨fa, fv⟩ := fr.sl
 rw [List.length_map] at fv
 unfold few at fn
 have ca : (a : Int) < (s.states.length : Int) := by omega
 clear p5
 generalize s.states[a] = y at *
 simp only [Sta.cells] at p3
 simp only [Sch.cells]
 have lp := hget_lt prow rfl
 have tail : ∀ (e : Env) (t : List UInt8), nextOf y c = t → (∃ x : Nat → Value, e = [x 0, x 1, x 2, .pointer (some ⟨K.length, 0, none⟩), x 4, x 5, x 6, x 7, .string (bs t), x 9, x 10, x 11, x 12, x 13, x 14, x 15, x 16, x 17, x 18, x 19, x 20, x 21, x 22, x 23, x 24, x 25, x 26, x 27, x 28, x 29, x 30, x 31, x 32, x 33, x 34, x 35, x 36, x 37, x 38, x 39, x 40, x 41, x 42, x 43, x 44, x 45, x 46, x 47]) → WC T (g22.body.at [1, 1, 1, 1]) e (K ++ [AObj.row [s.hv, s.mv, .slice (some ⟨b, 0, none⟩) s.states.length s.states.length, s.av, s.tv, s.cv] 0 true, AObj.row [.string (bs y.name), .string (bs y.header), .string (bs y.on.head), .string (bs y.on.name), y.cv, .string (bs y.next)] 0 true]) (retK [.tmp 6] (fun r H1 => ∃ v, r = .ret v ∧ (∃ g, H1 = K ++ g) ∧ Scoped K.length v ∧ R (.ret v) K)) := by
  intro e t ht he
  obtain ⟨x, rfl⟩ := he
  rw [ht] at h
  simp only [AFunc.body, g22, ACode.at]
  obtain ⟨K1, hK1⟩ : ∃ K1, K1 = K ++ [AObj.row [s.hv, s.mv, .slice (some ⟨b, 0, none⟩) s.states.length s.states.length, s.av, s.tv, s.cv] 0 true, AObj.row [.string (bs y.name), .string (bs y.header), .string (bs y.on.head), .string (bs y.on.name), y.cv, .string (bs y.next)] 0 true] := ⟨_, rfl⟩
  rw [← hK1]
  have b1 : Base K K1 := by rw [hK1]; exact Base.app0 _
  have hs1 : hget K1 K.length = .row [s.hv, s.mv, .slice (some ⟨b, 0, none⟩) s.states.length s.states.length, s.av, s.tv, s.cv] 0 true := by rw [hK1, hget_base0]; rfl
  clear hK1
  have prow1 := b1.rowc prow
  have hat := fun j hj => ((hv ▸ hr).at Sta.len (i := j) hj)
  generalize s.states = l at *
  simp (disch := omega) only [kB, kcx, kdm, kdn, kel, aop, Za, Zb, Zc, reduceCtorEq, Zd, Ze, Zf, Zg, Zh, Zi, Zj, Zk, Zl, Zm, Zn, Zo, Zp, Zq, Zr, Zs, Zt]
  refine WLoop.inv (stpI K1 K.length t l) ?_ l.length _ _ ⟨0, Nat.zero_le _, by omega, rfl, by simp, by exact ex_env rfl⟩
  rintro z e K' ⟨i, hi, rfl, rfl, hx, ⟨x, rfl⟩⟩
  by_cases hlt : i < l.length
  ·have c0 : (i : Int) < (l.length : Int) := by omega
   obtain ⟨b', u1, w1, e1, _, hrow1, _, _, hat1⟩ := hat i hlt
   cases e1
   have h0 := hat1 0 (by decide)
   have w2 : IntKind.i64.wrap ((i : Int) + 1) = ((i + 1 : Nat) : Int) := wI (by omega)
   rw [ixT_drop (by simpa using hlt), List.getElem_map] at hx
   generalize l[i] = q at *
   simp only [Sta.cells, List.getElem?_cons_zero, Nat.add_zero] at h0
   by_cases he : q.name = t
   ·rw [if_pos he] at hx
    rw [hx] at h
    simp (disch := omega) only [kB, kcx, kdm, kdn, kel, aop, Za, Zb, Zc, reduceCtorEq, Zd, Ze, Zf, Zg, Zh, Zi, Zj, Zk, Zl, Zm, Zn, Zo, Zp, Zq, Zr, Zs, Zt, hs1, c0, prow1, h0, decide_eq_true he]
    exact ⟨_, rfl, b1.ext, .int, h⟩
   ·rw [if_neg he] at hx
    simp (disch := omega) only [kB, kcx, kdm, kdn, kel, aop, Za, Zb, Zc, reduceCtorEq, Zd, Ze, Zf, Zg, Zh, Zi, Zj, Zk, Zl, Zm, Zn, Zo, Zp, Zq, Zr, Zs, Zt, hs1, c0, prow1, h0, decide_eq_false he, w2]
    exact ⟨l.length - (i + 1), by omega, i + 1, by omega, rfl, rfl, hx, by exact ex_env rfl⟩
  ·have c0 : ¬ (i : Int) < (l.length : Int) := by omega
   rw [ixT_end (by simp; omega)] at hx
   rw [hx] at h
   simp (disch := omega) only [kB, kcx, kdm, kdn, kel, aop, Za, Zb, Zc, reduceCtorEq, Zd, Ze, Zf, Zg, Zh, Zi, Zj, Zk, Zl, Zm, Zn, Zo, Zp, Zq, Zr, Zs, Zt, hs1, c0]
   exact ⟨_, rfl, b1.ext, .int, h⟩
 obtain ⟨Z, hZ⟩ : ∃ Z, Z = WC T (g22.body.at [1, 1, 1, 1]) := ⟨_, rfl⟩
 rw [← hZ] at tail
 have hZ' := hZ.symm
 simp only [AFunc.body, g22, ACode.at] at hZ'
 by_cases c1 : 0 ≤ c
 ·by_cases c2 : c < (y.cases.length : Int)
  ·obtain ⟨n, rfl⟩ := Int.eq_ofNat_of_zero_le c1
   have hn2 : n < y.cases.length := by omega
   obtain ⟨b2, u2, w2, rfl, s1, s2, s3, s4, s5⟩ := (fv ▸ fr).at Cas.len hn2
   have srow := hb.rowc s2
   have ls := hget_lt srow rfl
   have s6 := s5 4 (by decide)
   have hnx : nextOf y (n : Int) = y.cases[n].next := by
    rw [nextOf, if_pos ⟨c1, c2⟩, Int.toNat_natCast, List.getD_eq_getElem?_getD, List.getElem?_map, List.getElem?_eq_getElem hn2]
    rfl
   clear s5 s3
   generalize y.cases[n] = k at *
   simp only [Cas.cells, List.getElem?_cons_succ, List.getElem?_cons_zero] at s6
   simp (disch := omega) only [kB, kcx, kdm, kdn, kel, aop, Za, Zb, Zc, reduceCtorEq, Zd, Ze, Zf, Zg, Zh, Zi, Zj, Zk, Zl, Zm, Zn, Zo, Zp, Zq, Zr, Zs, Zt, hZ', o0, o1, o2, o3, o4, o5, hv, ca, prow, p3, p4, o, fv, c2, srow, s6]
   rw [← fv]
   refine tail _ _ hnx ?_
   exact ex_env rfl
  ·have hnx : nextOf y c = y.next := by rw [nextOf, if_neg (fun q => c2 q.2)]
   simp (disch := omega) only [kB, kcx, kdm, kdn, kel, aop, Za, Zb, Zc, reduceCtorEq, Zd, Ze, Zf, Zg, Zh, Zi, Zj, Zk, Zl, Zm, Zn, Zo, Zp, Zq, Zr, Zs, Zt, hZ', o0, o1, o2, o3, o4, o5, hv, ca, prow, p3, p4, o, fv, c1, c2]
   rw [← fv]
   refine tail _ _ hnx ?_
   exact ex_env rfl
 ·have hnx : nextOf y c = y.next := by rw [nextOf, if_neg (fun q => c1 q.1)]
  simp (disch := omega) only [kB, kcx, kdm, kdn, kel, aop, Za, Zb, Zc, reduceCtorEq, Zd, Ze, Zf, Zg, Zh, Zi, Zj, Zk, Zl, Zm, Zn, Zo, Zp, Zq, Zr, Zs, Zt, hZ', o0, o1, o2, o3, o4, o5, hv, ca, prow, p3, p4, o, c1]
  refine tail _ _ hnx ?_
  exact ex_env rfl
end
section
variable {R : FRes → Heap → Prop} {H K : Heap}
theorem nodup_lt : ∀ (n : Nat) (l : List Nat), l.Nodup → (∀ x ∈ l, x < n) → l.length ≤ n
 | 0, l, _, h => by
  cases l with
  | nil => simp
  | cons x l => exact absurd (h x (by simp)) (by omega)
 | n + 1, l, hn, h => by
  have h1 := nodup_lt n (l.erase n) (hn.erase n) (fun x hx => by
   have h2 := h x (List.mem_of_mem_erase hx)
   have h3 : x ≠ n := fun e => by rw [e] at hx; exact (List.Nodup.not_mem_erase hn) hx
   omega)
  rw [List.length_erase] at h1
  split at h1 <;> omega
theorem rnd_no {s : Sch} : ∀ {l : List Sta} {i : Nat}, rndE s i l = none → ∀ k, k < l.length → ¬ Relation.TransGen (Edge s) (i + k) (i + k)
 | [], _, _, k, hk => by simp at hk
 | y :: l, i, h, k, hk => by
  rw [rndE] at h
  split at h
  ·cases h
  ·rename_i hn
   cases k with
   | zero => exact hn
   | succ k =>
    have := rnd_no h k (by simpa using hk)
    rwa [show i + (k + 1) = i + 1 + k by omega]
theorem states_sound {s : Sch} (h : statesE s = none) : s.states.length ≤ 32 ∧ (∀ x ∈ s.states, staE s x = none) ∧ ∀ k, ¬ Relation.TransGen (Edge s) k k := by
 unfold statesE at h
 split at h
 ·rename_i hl
  cases hs : stasE s [] s.states with
  | some e => rw [hs] at h; cases h
  | none =>
   rw [hs] at h
   refine ⟨hl, (stasE_ok (by simp) hs).2, fun k => ?_⟩
   by_cases hk : k < s.states.length
   ·have := rnd_no h k hk
    rwa [Nat.zero_add] at this
   ·intro q
    have : ∀ {a b}, Relation.TransGen (Edge s) a b → a < s.states.length := fun q => by
     induction q with
     | single e => exact (edge_lt e).1
     | tail _ _ ih => exact ih
    exact hk (this q)
 ·cases h
theorem sta_header {s : Sch} {y : Sta} (h : staE s y = none) : (named Hdr.name s.headers y.header).isSome = true := by
 unfold staE at h
 split at h
 ·rename_i hm
  rcases named_cases Hdr.name s.headers y.header with ⟨e, _⟩ | ⟨j, hj, _, e, _⟩
  ·exact absurd ((ixT_mem _ _).2 hm) (by rw [e]; omega)
  ·rw [e]; rfl
 ·cases h
/-- What has been gone through. -/
structure Path (s : Sch) (n a : Nat) (vis : List Nat) : Prop where
 len : vis.length = n
 nd : vis.Nodup
 out : a ∉ vis
 to : ∀ v ∈ vis, Relation.TransGen (Edge s) v a
 lt : ∀ v ∈ vis, v < s.states.length
 here : a < s.states.length
theorem Path.short {s : Sch} {n a : Nat} {vis : List Nat} (h : Path s n a vis) : n + 1 ≤ s.states.length := by
 have := nodup_lt s.states.length (a :: vis) (by rw [List.nodup_cons]; exact ⟨h.out, h.nd⟩) (fun x hx => by
  rcases List.mem_cons.1 hx with rfl | hx
  ·exact h.here
  ·exact h.lt x hx)
 simp [h.len] at this
 exact this
theorem Path.step {s : Sch} {n a b : Nat} {vis : List Nat} (h : Path s n a vis) (hno : ∀ k, ¬ Relation.TransGen (Edge s) k k) (e : Edge s a b) : Path s (n + 1) b (a :: vis) where
 len := by simp [h.len]
 nd := by rw [List.nodup_cons]; exact ⟨h.out, h.nd⟩
 out := fun q => by
  rcases List.mem_cons.1 q with rfl | q
  ·exact hno _ (.single e)
  ·exact hno _ (.tail (h.to b q) e)
 to := fun v hv => by
  rcases List.mem_cons.1 hv with rfl | hv
  ·exact .single e
  ·exact .tail (h.to v hv) e
 lt := fun v hv => by
  rcases List.mem_cons.1 hv with rfl | hv
  ·exact h.here
  ·exact h.lt v hv
 here := (edge_lt e).2
def itC (c : Int) : List Value := [.int .i64 c]
theorem itC_len (c : Int) : (itC c).length = 1 := rfl
def enI (K : Heap) (bx : Nat) (s : Sch) (v : Value) : Nat → Env → Heap → Prop := fun z e K' =>
 ∃ (n : Nat) (at' : Int), n ≤ 32 ∧ z = 33 - n ∧ Base K K' ∧ ((at' = -1) ∨ ∃ (a : Nat) (vis : List Nat), at' = (a : Int) ∧ Path s n a vis) ∧ (∃ x : Nat → Value, e = [x 0, v, .pointer (some ⟨bx, 0, none⟩), x 3, x 4, x 5, .int .i64 at', .int .i64 (n : Int), x 8, x 9, x 10, x 11, x 12, x 13, x 14, x 15, x 16, x 17, x 18, x 19, x 20, x 21, x 22, x 23, x 24, x 25, x 26, x 27, x 28, x 29, x 30, x 31, x 32, x 33, x 34, x 35, x 36, x 37, x 38, x 39, x 40, x 41, x 42, x 43, x 44, x 45, x 46, x 47, x 48, x 49, x 50, x 51, x 52, x 53])
set_option maxHeartbeats 2000000 in
theorem ends_w (shown_s : ∀ {R : FRes → Heap → Prop} {H : Heap}, R (.ret (.bool true)) H → WD T 8 [] H R) {s : Sch} (hs : s.OK H) (hsh : s.Short) {v : Value} {l : List Int} (hr : RoSl H v (l.map itC)) (hn : few 8 l.length) :
  WD T 7 [.agg s.cells.toArray, v] H (fun r _ => r = .ret (.bool true)) := by
 unfold few at hn
 refine WD.of follows t7 (by simp) ?_
 obtain ⟨o0, o1, o2, o3, o4, o5⟩ := hs.one
 obtain ⟨ad, rfl⟩ := hr.sl
 rw [List.length_map] at hr ⊢
 obtain ⟨sr, sn, sok⟩ := hs.ss
 unfold few at sn
 obtain ⟨sa, sv⟩ := sr.sl
 rw [List.length_map] at sv
 simp only [Sch.cells]
 simp (disch := omega) only [kB, kcx, kdm, kdn, kel, aop, Za, Zb, Zc, reduceCtorEq, Zd, Ze, Zf, Zg, Zh, Zi, Zj, Zk, Zl, Zm, Zn, Zo, Zp, Zq, Zr, Zs, Zt, o0, o1, o2, o3, o4, o5]
 refine shown_s ?_
 simp (disch := omega) only [kB, kcx, kdm, kdn, kel, aop, Za, Zb, Zc, reduceCtorEq, Zd, Ze, Zf, Zg, Zh, Zi, Zj, Zk, Zl, Zm, Zn, Zo, Zp, Zq, Zr, Zs, Zt, o0, o1, o2, o3, o4, o5]
 refine sound_s hs hsh (Base.app0 _) (fun bb hbb => ?_)
 cases bb with
 | false => simp (disch := omega) only [kB, kcx, kdm, kdn, kel, aop, Za, Zb, Zc, reduceCtorEq, Zd, Ze, Zf, Zg, Zh, Zi, Zj, Zk, Zl, Zm, Zn, Zo, Zp, Zq, Zr, Zs, Zt]
 | true =>
 have hp := checkO_parts (hbb.1 rfl)
 obtain ⟨hlen, hsta, hno⟩ := states_sound hp.ss
 by_cases g0 : s.states.length = 0
 ·have g0' : ((s.states.length : Int) = 0) = True := eq_true (by omega)
  simp (disch := omega) only [kB, kcx, kdm, kdn, kel, aop, Za, Zb, Zc, reduceCtorEq, Zd, Ze, Zf, Zg, Zh, Zi, Zj, Zk, Zl, Zm, Zn, Zo, Zp, Zq, Zr, Zs, Zt, sv, g0']
 have g0' : ((s.states.length : Int) = 0) = False := eq_false (by omega)
 simp (disch := omega) only [kB, kcx, kdm, kdn, kel, aop, Za, Zb, Zc, reduceCtorEq, Zd, Ze, Zf, Zg, Zh, Zi, Zj, Zk, Zl, Zm, Zn, Zo, Zp, Zq, Zr, Zs, Zt, sv, g0']
 obtain ⟨K1, hK1⟩ : ∃ K1, K1 = H ++ [AObj.row [s.hv, s.mv, .slice sa s.states.length s.states.length, s.av, s.tv, s.cv] 0 true] := ⟨_, rfl⟩
 rw [← hK1]
 have b1 : Base H K1 := by rw [hK1]; exact Base.app0 _
 have hs1 : hget K1 H.length = .row [s.hv, s.mv, .slice sa s.states.length s.states.length, s.av, s.tv, s.cv] 0 true := by rw [hK1, hget_base0]; rfl
 clear hK1
 refine WLoop.inv (enI K1 H.length s (.slice ad l.length l.length)) ?_ 33 _ _ ⟨0, 0, by omega, by omega, Base.refl, .inr ⟨0, [], rfl, rfl, by simp, by simp, by simp, by simp, by omega⟩, by exact ex_env rfl⟩
 rintro z e K' ⟨n, at', hn32, rfl, bK, hat, ⟨x, rfl⟩⟩
 have hs2 := bK.rowc hs1
 have ls2 := hget_lt hs2 rfl
 have hbK := b1.trans bK
 rcases hat with rfl | ⟨a, vis, rfl, hpath⟩
 ·have c0 : ¬ (0 : Int) ≤ -1 := by omega
  simp (disch := omega) only [kB, kcx, kdm, kdn, kel, aop, Za, Zb, Zc, reduceCtorEq, Zd, Ze, Zf, Zg, Zh, Zi, Zj, Zk, Zl, Zm, Zn, Zo, Zp, Zq, Zr, Zs, Zt, c0]
 ·have hsh2 := hpath.short
  have ha := hpath.here
  have c1 : ¬ (32 : Int) ≤ (n : Int) := by omega
  have ca : (a : Int) < (s.states.length : Int) := by omega
  obtain ⟨b, u0, w0, rfl, p1, p2, p3, p4, p5⟩ := (sv ▸ sr).at Sta.len ha
  have prow := hbK.rowc p2
  have lp := hget_lt prow rfl
  have r1 := p5 1 (by decide)
  simp only [Sta.cells, List.getElem?_cons_succ, List.getElem?_cons_zero] at r1
  have hhd := sta_header (hsta _ (List.getElem_mem ha))
  have w2 : IntKind.i64.wrap ((n : Int) + 1) = ((n + 1 : Nat) : Int) := wI (by omega)
  clear p5 p3
  simp (disch := omega) only [kB, kcx, kdm, kdn, kel, aop, Za, Zb, Zc, reduceCtorEq, Zd, Ze, Zf, Zg, Zh, Zi, Zj, Zk, Zl, Zm, Zn, Zo, Zp, Zq, Zr, Zs, Zt, c1, hs2, ca, prow, r1, o0, o1, o2, o3, o4, o5]
  rw [← sv]
  refine header_s hs hbK ?_
  intro xh K2 b2 hxo _
  rw [hhd]
  have oxh := hxo.one
  simp only [Hdr.cells]
  have hs3 := b2.rowc hs2
  have ls3 := hget_lt hs3 rfl
  have hbK2 := hbK.trans b2
  have fin : ∀ (c : Int) (K3 : Heap), Base K2 K3 → ∀ e, (∃ x : Nat → Value, e = [x 0, .slice ad l.length l.length, .pointer (some ⟨H.length, 0, none⟩), x 3, x 4, x 5, .int .i64 (ixT (nextOf s.states[a] c) (s.states.map Sta.name) 0), .int .i64 ((n + 1 : Nat) : Int), x 8, x 9, x 10, x 11, x 12, x 13, x 14, x 15, x 16, x 17, x 18, x 19, x 20, x 21, x 22, x 23, x 24, x 25, x 26, x 27, x 28, x 29, x 30, x 31, x 32, x 33, x 34, x 35, x 36, x 37, x 38, x 39, x 40, x 41, x 42, x 43, x 44, x 45, x 46, x 47, x 48, x 49, x 50, x 51, x 52, x 53]) → enI K1 H.length s (.slice ad l.length l.length) (33 - (n + 1)) e K3 := fun c K3 b3 e he => by
   refine ⟨n + 1, _, by omega, rfl, (bK.trans b2).trans b3, ?_, he⟩
   rcases ixT_get (nextOf s.states[a] c) (s.states.map Sta.name) 0 with ⟨q, _⟩ | ⟨j, hj, q, q2⟩
   ·exact .inl q
   ·rw [List.length_map] at hj
    rw [List.getElem_map] at q2
    refine .inr ⟨j, a :: vis, by rw [q, Nat.zero_add], hpath.step hno ((edge_outs ha hj).2 ?_)⟩
    rw [q2]
    exact nextOf_outs _ _
  by_cases g1 : n < l.length
  ·have c2 : (n : Int) < (l.length : Int) := by omega
   obtain ⟨b', u1, w1, rfl, q1, q2, q3, q4, q5⟩ := hr.at itC_len g1
   have qrow := (hbK2.app [AObj.row [.string (bs xh.name), xh.fv] 0 true]).rowc q2
   have lq := hget_lt (hbK2.rowc q2) rfl
   have qrow0 := hbK2.rowc q2
   have s1 : ((l.map itC).flatten)[n]? = some (.int .i64 l[n]) := by have := q5 0 (by omega); rw [Nat.mul_one, Nat.add_zero] at this; exact this
   simp (disch := omega) only [kB, kcx, kdm, kdn, kel, aop, Za, Zb, Zc, reduceCtorEq, Zd, Ze, Zf, Zg, Zh, Zi, Zj, Zk, Zl, Zm, Zn, Zo, Zp, Zq, Zr, Zs, Zt, oxh, c2, qrow0, s1, hs3, o0, o1, o2, o3, o4, o5]
   rw [← sv]
   refine stepto_s hs (hbK2.app _) ha ?_
   simp (disch := omega) only [kB, kcx, kdm, kdn, kel, aop, Za, Zb, Zc, reduceCtorEq, Zd, Ze, Zf, Zg, Zh, Zi, Zj, Zk, Zl, Zm, Zn, Zo, Zp, Zq, Zr, Zs, Zt, w2]
   exact ⟨33 - (n + 1), by omega, fin _ _ (Base.app0 _) _ (by exact ex_env rfl)⟩
  ·have c2 : ¬ (n : Int) < (l.length : Int) := by omega
   simp (disch := omega) only [kB, kcx, kdm, kdn, kel, aop, Za, Zb, Zc, reduceCtorEq, Zd, Ze, Zf, Zg, Zh, Zi, Zj, Zk, Zl, Zm, Zn, Zo, Zp, Zq, Zr, Zs, Zt, oxh, c2, hs3, o0, o1, o2, o3, o4, o5]
   rw [← sv]
   refine stepto_s hs (hbK2.app _) ha ?_
   simp (disch := omega) only [kB, kcx, kdm, kdn, kel, aop, Za, Zb, Zc, reduceCtorEq, Zd, Ze, Zf, Zg, Zh, Zi, Zj, Zk, Zl, Zm, Zn, Zo, Zp, Zq, Zr, Zs, Zt, w2]
   exact ⟨33 - (n + 1), by omega, fin _ _ (Base.app0 _) _ (by exact ex_env rfl)⟩
end
end Go.Proofs.Ytpllhhaeclnngaa.Ev
