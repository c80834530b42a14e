/- Parts of the proof: D2, D3, D4, D5, S3, S4, E2, E3, E4, E5, E6, E7, E8, E9, G1. Conditions: none. -/
import Derived.Test.YtpllhhaeclnngaaGreatChk3
namespace Go.Proofs.YtpllhhaeclnngaaGreat.Ev
set_option maxRecDepth 100000
set_option linter.unusedSimpArgs false
set_option linter.unusedVariables false
open Go.Proofs.YtpllhhaeclnngaaGreat.Ev renaming resultsL → Za, resultOf → Zb, eq1 → Zd, apartOK → Ze, apart2 → Zf, cutCells → Zo
open Go.Proofs.YtpllhhaeclnngaaGreat.Ev.AObj renaming live → Zg
open Nat renaming reduceEqDiff → Zc, reduceAdd → Zp, reduceLeDiff → Zq, reduceLT → Zr, reduceMul → Zs, reduceSub → Zt
open Int renaming reduceEq → Zh, reduceLT → Zi, reduceLE → Zj, reduceAdd → Zk, reduceSub → Zl, reduceMul → Zm, reduceToNat → Zn
section
variable {R : FRes → Heap → Prop} {H K : Heap}
/-- What tall's closure counts. -/
def tallS : Nat × Bool → Nat × St → Go (Nat × Bool) := fun s x => if s.1 + 1 ≤ 128 then .on (s.1 + 1, s.2 || decide (8 < x.1)) else .stop (s.1 + 1, s.2 || decide (8 < x.1))
theorem tall_fold : ∀ (l : List (Nat × St)) (n : Nat) (b : Bool), n ≤ 128 → (n + l.length ≤ 128 → foldG tallS (n, b) l = .on (n + l.length, b || l.any fun x => decide (8 < x.1))) ∧ (128 < n + l.length → ∃ s, foldG tallS (n, b) l = .stop s)
 | [], n, b, h => ⟨fun _ => by simp [foldG], fun q => by simp at q; omega⟩
 | x :: l, n, b, h => by
  by_cases h1 : n + 1 ≤ 128
  ·have e : foldG tallS (n, b) (x :: l) = foldG tallS (n + 1, b || decide (8 < x.1)) l := by simp only [foldG, tallS, if_pos h1]
   obtain ⟨i1, i2⟩ := tall_fold l (n + 1) (b || decide (8 < x.1)) h1
   refine ⟨fun q => ?_, fun q => ?_⟩
   ·rw [e, i1 (by simp at q; omega)]
    simp [Bool.or_assoc]; omega
   ·rw [e]; exact i2 (by simp at q; omega)
  ·have e : foldG tallS (n, b) (x :: l) = .stop (n + 1, b || decide (8 < x.1)) := by simp only [foldG, tallS, if_neg h1]
   exact ⟨fun q => by simp at q; omega, fun _ => ⟨_, e⟩⟩
def tallQ (H : Heap) (s : Nat × Bool) (K : Heap) : Prop :=
 Base H K ∧ H.length + 2 ≤ K.length ∧ hget K H.length = .row [.int .i64 (s.1 : Int)] 0 true ∧ hget K (H.length + 1) = .row [.bool s.2] 0 true
def tallF (H : Heap) (K : Heap) (c : Nat) : Prop := c = H.length ∨ c = H.length + 1
theorem tallOK : StateOK H (tallQ H) (tallF H) where
 old := fun h => h.1
 app := fun {s K} g h => by
  obtain ⟨h1, h2, h3, h4⟩ := h
  exact ⟨h1.app g, by simp; omega, by rw [hget_old (by omega)]; exact h3, by rw [hget_old (by omega)]; exact h4⟩
 fin := fun {s K c} h hf => by have := h.2.1; rcases hf with rfl | rfl <;> omega
 fpa := fun g h hf => hf
set_option maxHeartbeats 1000000 in
theorem tallC : ClosureOK H (tallQ H) (tallF H) (fun _ => True) (fun d s => d ≤ s.1 + 1 ∧ s.1 ≤ 128) tallS 131 [.pointer (some ⟨H.length, 0, none⟩), .pointer (some ⟨H.length + 1, 0, none⟩)] := by
 intro s K d x R hq hx _ hlv h
 obtain ⟨n, b⟩ := s
 obtain ⟨q1, q2, q3, q4⟩ := hq
 simp only at q3 q4 hlv
 have w2 : IntKind.i64.wrap ((n : Int) + 1) = ((n + 1 : Nat) : Int) := wI (by omega)
 have n1 : H.length ≠ H.length + 1 := by omega
 have n2 : H.length + 1 ≠ H.length := by omega
 have lq := q1.1
 have fr : ∀ o1 o2 g, FrS (tallF H) K (((K.set H.length o1).set (H.length + 1) o2) ++ g) := fun o1 o2 g => ⟨by simp, fun c hc hf => by
  simp only [tallF, not_or] at hf
  refine ⟨?_, by simp only [tallF, not_or]; exact hf⟩
  rw [hget_old (by simp; omega), hget_ne (Ne.symm hf.2), hget_ne (Ne.symm hf.1)]⟩
 have qq : ∀ bb g, tallQ H (n + 1, bb) (((K.set H.length (AObj.row [.int .i64 ((n + 1 : Nat) : Int)] 0 true)).set (H.length + 1) (.row [.bool bb] 0 true)) ++ g) := fun bb g => by
  refine ⟨((q1.set (by omega)).set (by omega)).app g, by simp; omega, ?_, ?_⟩
  ·rw [hget_old (by simp; omega), hget_ne n2, hget_set' (by omega)]
  ·rw [hget_old (by simp; omega), hget_set' (by simp; omega)]
 have key : ∀ bb : Bool, bb = (b || decide (8 < d)) → R (.ret (.bool (decide (n + 1 ≤ 128)))) (((K.set H.length (AObj.row [.int .i64 ((n + 1 : Nat) : Int)] 0 true)).set (H.length + 1) (.row [.bool bb] 0 true)) ++ [AObj.row x.cells 0 true]) := by
  intro bb hbb
  simp only [tallS] at h
  rw [← hbb] at h
  by_cases c1 : n + 1 ≤ 128
  ·rw [if_pos c1] at h
   rw [decide_eq_true c1]
   exact h _ (qq bb _) (fr _ _ _)
  ·rw [if_neg c1] at h
   rw [decide_eq_false c1]
   exact h _ (qq bb _) (fr _ _ _)
 clear h
 refine WD.of follows t131 (by simp) ?_
 have hp : H.length < K.length := by omega
 have hp1 : H.length + 1 < K.length := by omega
 have fin : ∀ bb : Bool, bb = (b || decide (8 < d)) → R (.ret (.bool (decide (((n + 1 : Nat) : Int) ≤ 128)))) (((K.set H.length (AObj.row [.int .i64 ((n + 1 : Nat) : Int)] 0 true)).set (H.length + 1) (.row [.bool bb] 0 true)) ++ [AObj.row x.cells 0 true]) := fun bb hbb => by
  have := key bb hbb
  rwa [show decide (n + 1 ≤ 128) = decide (((n + 1 : Nat) : Int) ≤ 128) by congr 1; exact propext (by omega)] at this
 by_cases hb : b = true
 ·subst hb
  have k2 := fin true (by simp)
  simp (disch := omega) only [kB, kcx, kdm, kdn, kel, aop, Za, Zb, Zc, reduceCtorEq, Zd, Ze, Zf, Zg, Zh, Zi, Zj, Zk, Zl, Zm, Zn, Zo, Zp, Zq, Zr, Zs, Zt, q3, q4, w2, hget_ne n1, hget_ne n2]
  exact k2
 ·rw [Bool.not_eq_true] at hb
  subst hb
  by_cases c3 : 8 < d
  ·have c4 : (8 : Int) < (d : Int) := by omega
   have k2 := fin true (by simp [c3])
   simp (disch := omega) only [kB, kcx, kdm, kdn, kel, aop, Za, Zb, Zc, reduceCtorEq, Zd, Ze, Zf, Zg, Zh, Zi, Zj, Zk, Zl, Zm, Zn, Zo, Zp, Zq, Zr, Zs, Zt, q3, q4, w2, c4, hget_ne n1, hget_ne n2]
   exact k2
  ·have c4 : ¬ (8 : Int) < (d : Int) := by omega
   have k2 := fin false (by simp [c3])
   simp (disch := omega) only [kB, kcx, kdm, kdn, kel, aop, Za, Zb, Zc, reduceCtorEq, Zd, Ze, Zf, Zg, Zh, Zi, Zj, Zk, Zl, Zm, Zn, Zo, Zp, Zq, Zr, Zs, Zt, q3, q4, w2, c4, hget_ne n1, hget_ne n2]
   exact k2
/-- The error of a control: too many stages, too deep, none. -/
def tallE (l : List St) : Int := if 128 < (flatL 1 l).length then 74 else if (flatL 1 l).any (fun x => decide (8 < x.1)) = true then 77 else 0
theorem tallLv : LvOK (fun _ => True) (fun d s => d ≤ s.1 + 1 ∧ s.1 ≤ 128) tallS where
 fin := fun h => by omega
 down := fun h => by omega
 step := fun {d s s' x} _ h ht => by
  simp only [tallS] at ht
  split at ht
  ·cases ht; simp only; omega
  ·cases ht
set_option maxHeartbeats 1000000 in
theorem tall_s {s : Sch} (hs : s.OK H) (hb : Base H K) (h : R (.ret (.int .i64 (tallE s.control))) K) : WD T 58 [.agg s.cells.toArray] K R := by
 refine WD.gc0 (WD.of follows t58 (by simp) ?_)
 obtain ⟨o0, o1, o2, o3, o4, o5⟩ := hs.one
 simp only [Sch.cells]
 simp (disch := omega) only [kB, kcx, kdm, kdn, kel, aop, Za, Zb, Zc, reduceCtorEq, Zd, Ze, Zf, Zg, Zh, Zi, Zj, Zk, Zl, Zm, Zn, Zo, Zp, Zq, Zr, Zs, Zt, o0, o1, o2, o3, o4, o5]
 obtain ⟨K0, hK0⟩ : ∃ K0, K0 = K ++ [AObj.row [s.hv, s.mv, s.sv, s.av, s.tv, s.cv] 0 true] := ⟨_, rfl⟩
 obtain ⟨K1, hK1⟩ : ∃ K1, K1 = K ++ [AObj.row [s.hv, s.mv, s.sv, s.av, s.tv, s.cv] 0 true, .row [.int .i64 0] 0 true, .row [.bool false] 0 true] := ⟨_, rfl⟩
 have l0 : K0.length = K.length + 1 := by rw [hK0]; simp
 have e2 : K.length + 2 = K0.length + 1 := by omega
 rw [← hK1, ← l0, e2]
 have hK1' : K1 = K0 ++ [.row [.int .i64 0] 0 true, .row [.bool false] 0 true] := by rw [hK1, hK0, List.append_assoc]; rfl
 have hb0 : Base K K0 := by rw [hK0]; exact Base.app0 _
 have hv := hs.cs.base (hb.trans hb0)
 have q : tallQ K0 (0, false) K1 := ⟨by rw [hK1']; exact Base.app0 _, by rw [hK1']; simp, by rw [hK1', hget_base0]; rfl, by rw [hK1', hget_base]; rfl⟩
 clear hK0 hK1 hK1'
 refine walk_s (tallOK (H := K0)) tallLv (tallC (H := K0)) _ s.control (Nat.le_refl _) 1 (0, false) K1 s.cv _ ⟨by simp, by simp⟩ (fun _ _ => trivial) q hv ?_
 obtain ⟨t1, t2⟩ := tall_fold (flatL 1 s.control) 0 false (by omega)
 by_cases c1 : (flatL 1 s.control).length ≤ 128
 ·rw [t1 (by omega)]
  intro K2 ⟨r1, r2, r3, r4⟩ _
  simp only [Bool.false_or] at r4
  by_cases c2 : (flatL 1 s.control).any (fun x => decide (8 < x.1)) = true
  ·have e : tallE s.control = 77 := by rw [tallE, if_neg (by omega), if_pos c2]
   rw [c2] at r4
   rw [e] at h
   simp (disch := omega) only [kB, kcx, kdm, kdn, kel, aop, Za, Zb, Zc, reduceCtorEq, Zd, Ze, Zf, Zg, Zh, Zi, Zj, Zk, Zl, Zm, Zn, Zo, Zp, Zq, Zr, Zs, Zt, r4]
   exact ⟨_, rfl, (hb0.trans r1).ext, .int, h⟩
  ·have e : tallE s.control = 0 := by rw [tallE, if_neg (by omega), if_neg c2]
   rw [Bool.not_eq_true] at c2
   rw [c2] at r4
   rw [e] at h
   simp (disch := omega) only [kB, kcx, kdm, kdn, kel, aop, Za, Zb, Zc, reduceCtorEq, Zd, Ze, Zf, Zg, Zh, Zi, Zj, Zk, Zl, Zm, Zn, Zo, Zp, Zq, Zr, Zs, Zt, r4]
   exact ⟨_, rfl, (hb0.trans r1).ext, .int, h⟩
 ·obtain ⟨s', e1⟩ := t2 (by omega)
  rw [e1]
  intro K2 ⟨r1, r2, r3, r4⟩ _
  have e : tallE s.control = 74 := by rw [tallE, if_pos (by omega)]
  rw [e] at h
  simp (disch := omega) only [kB, kcx, kdm, kdn, kel, aop, Za, Zb, Zc, reduceCtorEq, Zd, Ze, Zf, Zg, Zh, Zi, Zj, Zk, Zl, Zm, Zn, Zo, Zp, Zq, Zr, Zs, Zt]
  exact ⟨_, rfl, (hb0.trans r1).ext, .int, h⟩
end
section
variable {R : FRes → Heap → Prop} {H K : Heap}
/-- What is wrong with a test. -/
def madeT (t : Tst) : Prop := 2 ≤ t.kind ∧ t.kind ≤ 5 ∧ plainO t.a = true ∧ plainO t.b = true
instance (t : Tst) : Decidable (madeT t) := by unfold madeT; infer_instance
def testE (s : Sch) (t : Tst) : Option Int :=
 if t.kind = 1 then (if t = ⟨t.kind, ⟨⟨t.a.ref.head, []⟩, Bt.zero⟩, Opd.zero⟩ then (if t.a.ref.head ∈ s.headers.map Hdr.name then none else some 72) else some 75)
 else if madeT t then
  if opdOK s [] t.a = true then
   if opdOK s [] t.b = true then
    if (fldOf s t.a.ref).isSome = true then (if opdFit s [] t.b (rwV (fldOf s t.a.ref)) = true then none else some 73)
    else if (fldOf s t.b.ref).isSome = true then (if opdFit s [] t.a (rwV (fldOf s t.b.ref)) = true then none else some 73)
    else some 73
   else some 72
  else some 72
 else some 75
theorem tst_eqA (t : Tst) : eqL [(1, .int .i64 t.kind, .int .i64 t.kind),
  (2, .string (bs t.a.ref.head), .string (bs t.a.ref.head)), (2, .string (bs t.a.ref.name), .string (bs [])), (1, .int .u64 (t.a.const.hi : Int), .int .u64 0), (1, .int .u64 (t.a.const.lo : Int), .int .u64 0),
  (2, .string (bs t.b.ref.head), .string (bs [])), (2, .string (bs t.b.ref.name), .string (bs [])), (1, .int .u64 (t.b.const.hi : Int), .int .u64 0), (1, .int .u64 (t.b.const.lo : Int), .int .u64 0)] = some (decide (t = ⟨t.kind, ⟨⟨t.a.ref.head, []⟩, Bt.zero⟩, Opd.zero⟩)) := Tst.eqs t ⟨t.kind, ⟨⟨t.a.ref.head, []⟩, Bt.zero⟩, Opd.zero⟩
theorem tst_eqz (t : Tst) : eqL [(1, .int .i64 t.kind, .int .i64 0),
  (2, .string (bs t.a.ref.head), .string (bs [])), (2, .string (bs t.a.ref.name), .string (bs [])), (1, .int .u64 (t.a.const.hi : Int), .int .u64 0), (1, .int .u64 (t.a.const.lo : Int), .int .u64 0),
  (2, .string (bs t.b.ref.head), .string (bs [])), (2, .string (bs t.b.ref.name), .string (bs [])), (1, .int .u64 (t.b.const.hi : Int), .int .u64 0), (1, .int .u64 (t.b.const.lo : Int), .int .u64 0)] = some (decide (t = Tst.zero)) := Tst.eqs t Tst.zero
/-- Tests that are in memory. -/
def Tst.OK (t : Tst) : Prop := I64 t.kind ∧ t.a.OK ∧ t.b.OK
set_option maxHeartbeats 4000000 in
theorem test_s {cb : Nat} {s : Sch} {th : List UInt8} {t : Tst} (hs : s.OK H) (ht : t.OK) (hb : Base H K) (hc : Chk K cb s th)
  (h : testE s t = none → ∀ K', Base K K' → R (.ret (.tuple #[])) K')
  (hp : ∀ e, testE s t = some e → ∀ K', Base K K' → R (.pan (wrongV e th)) K') : WD T 132 [.pointer (some ⟨cb, 0, none⟩), .agg t.cells.toArray] K R := by
 refine WD.of follows t132 (by simp) ?_
 obtain ⟨o0, o1, o2, o3, o4, o5⟩ := hs.one
 have hc' := hc
 unfold Chk at hc'
 have lc := hc.lt
 have hnil : FldL H (.slice none 0 0) [] := ⟨.inl ⟨rfl, .inl rfl⟩, by simp [few], by simp⟩
 simp only [Tst.cells]
 by_cases k1 : t.kind = 1
 ·have kk : (t.kind = 1) = True := eq_true k1
  have eA := tst_eqA t
  rw [testE, if_pos k1] at h
  simp only [testE, if_pos k1] at hp
  by_cases a1 : t = ⟨t.kind, ⟨⟨t.a.ref.head, []⟩, Bt.zero⟩, Opd.zero⟩
  ·rw [decide_eq_true a1] at eA
   rw [if_pos a1] at h
   simp only [if_pos a1] at hp
   clear a1
   simp (disch := omega) only [kB, kcx, kdm, kdn, kel, aop, Za, Zb, Zc, reduceCtorEq, Zd, Ze, Zf, Zg, Zh, Zi, Zj, Zk, Zl, Zm, Zn, Zo, Zp, Zq, Zr, Zs, Zt, kk, eA]
   refine need_s (hc.app _) (fun _ => ?_) (fun q => by cases q)
   simp (disch := omega) only [kB, kcx, kdm, kdn, kel, aop, Za, Zb, Zc, reduceCtorEq, Zd, Ze, Zf, Zg, Zh, Zi, Zj, Zk, Zl, Zm, Zn, Zo, Zp, Zq, Zr, Zs, Zt, hc', o0, o1, o2, o3, o4, o5]
   refine headerAt_s hs (hb.app _) ?_
   simp (disch := omega) only [kB, kcx, kdm, kdn, kel, aop, Za, Zb, Zc, reduceCtorEq, Zd, Ze, Zf, Zg, Zh, Zi, Zj, Zk, Zl, Zm, Zn, Zo, Zp, Zq, Zr, Zs, Zt]
   refine need_s (hc.app _) (fun g1 => ?_) (fun g1 => ?_)
   ·rw [if_pos ((ixT_mem _ _).1 (of_decide_eq_true g1))] at h
    simp (disch := omega) only [kB, kcx, kdm, kdn, kel, aop, Za, Zb, Zc, reduceCtorEq, Zd, Ze, Zf, Zg, Zh, Zi, Zj, Zk, Zl, Zm, Zn, Zo, Zp, Zq, Zr, Zs, Zt]
    exact h rfl _ (Base.app0 _)
   ·rw [if_neg (fun q => of_decide_eq_false g1 ((ixT_mem _ _).2 q))] at hp
    exact hp _ rfl _ (Base.app0 _)
  ·rw [decide_eq_false a1] at eA
   rw [if_neg a1] at hp
   clear a1
   simp (disch := omega) only [kB, kcx, kdm, kdn, kel, aop, Za, Zb, Zc, reduceCtorEq, Zd, Ze, Zf, Zg, Zh, Zi, Zj, Zk, Zl, Zm, Zn, Zo, Zp, Zq, Zr, Zs, Zt, kk, eA]
   exact need_s (hc.app _) (fun q => by cases q) (fun _ => hp _ rfl _ (Base.app0 _))
 ·have kk : (t.kind = 1) = False := eq_false k1
  rw [testE, if_neg k1] at h
  simp only [testE, if_neg k1] at hp
  have nm : ¬ madeT t → ∀ K', Base K K' → R (.pan (wrongV 75 th)) K' := fun q => by rw [if_neg q] at hp; exact hp _ rfl
  by_cases a1 : 2 ≤ t.kind
  case neg =>
   have nm' := nm (fun q => a1 q.1)
   simp (disch := omega) only [kB, kcx, kdm, kdn, kel, aop, Za, Zb, Zc, reduceCtorEq, Zd, Ze, Zf, Zg, Zh, Zi, Zj, Zk, Zl, Zm, Zn, Zo, Zp, Zq, Zr, Zs, Zt, kk, a1]
   exact need_s (hc.app _) (fun q => by cases q) (fun _ => nm' _ (Base.app0 _))
  by_cases a2 : t.kind ≤ 5
  case neg =>
   have nm' := nm (fun q => a2 q.2.1)
   simp (disch := omega) only [kB, kcx, kdm, kdn, kel, aop, Za, Zb, Zc, reduceCtorEq, Zd, Ze, Zf, Zg, Zh, Zi, Zj, Zk, Zl, Zm, Zn, Zo, Zp, Zq, Zr, Zs, Zt, kk, a1, a2]
   exact need_s (hc.app _) (fun q => by cases q) (fun _ => nm' _ (Base.app0 _))
  simp (disch := omega) only [kB, kcx, kdm, kdn, kel, aop, Za, Zb, Zc, reduceCtorEq, Zd, Ze, Zf, Zg, Zh, Zi, Zj, Zk, Zl, Zm, Zn, Zo, Zp, Zq, Zr, Zs, Zt, kk, a1, a2]
  refine plain_s (o := t.a) ?_
  by_cases a3 : plainO t.a = true
  case neg =>
   have nm' := nm (fun q => a3 q.2.2.1)
   rw [Bool.not_eq_true] at a3
   simp (disch := omega) only [kB, kcx, kdm, kdn, kel, aop, Za, Zb, Zc, reduceCtorEq, Zd, Ze, Zf, Zg, Zh, Zi, Zj, Zk, Zl, Zm, Zn, Zo, Zp, Zq, Zr, Zs, Zt, a3]
   exact need_s (hc.app _) (fun q => by cases q) (fun _ => nm' _ (Base.app0 _))
  simp (disch := omega) only [kB, kcx, kdm, kdn, kel, aop, Za, Zb, Zc, reduceCtorEq, Zd, Ze, Zf, Zg, Zh, Zi, Zj, Zk, Zl, Zm, Zn, Zo, Zp, Zq, Zr, Zs, Zt, a3]
  refine plain_s (o := t.b) ?_
  by_cases a4 : plainO t.b = true
  case neg =>
   have nm' := nm (fun q => a4 q.2.2.2)
   rw [Bool.not_eq_true] at a4
   simp (disch := omega) only [kB, kcx, kdm, kdn, kel, aop, Za, Zb, Zc, reduceCtorEq, Zd, Ze, Zf, Zg, Zh, Zi, Zj, Zk, Zl, Zm, Zn, Zo, Zp, Zq, Zr, Zs, Zt, a4]
   exact need_s (hc.app _) (fun q => by cases q) (fun _ => nm' _ (Base.app0 _))
  have hE : madeT t := ⟨a1, a2, a3, a4⟩
  rw [if_pos hE] at h
  simp only [if_pos hE] at hp
  clear nm
  simp (disch := omega) only [kB, kcx, kdm, kdn, kel, aop, Za, Zb, Zc, reduceCtorEq, Zd, Ze, Zf, Zg, Zh, Zi, Zj, Zk, Zl, Zm, Zn, Zo, Zp, Zq, Zr, Zs, Zt, a4]
  obtain ⟨K1, hK1⟩ : ∃ K1, K1 = K ++ [AObj.row [.int .i64 t.kind, .string (bs t.a.ref.head), .string (bs t.a.ref.name), .int .u64 (t.a.const.hi : Int), .int .u64 (t.a.const.lo : Int), .string (bs t.b.ref.head), .string (bs t.b.ref.name), .int .u64 (t.b.const.hi : Int), .int .u64 (t.b.const.lo : Int)] 0 true] := ⟨_, rfl⟩
  rw [← hK1]
  have b1 : Base K K1 := by rw [hK1]; exact Base.app0 _
  have hx1 : hget K1 K.length = AObj.row [.int .i64 t.kind, .string (bs t.a.ref.head), .string (bs t.a.ref.name), .int .u64 (t.a.const.hi : Int), .int .u64 (t.a.const.lo : Int), .string (bs t.b.ref.head), .string (bs t.b.ref.name), .int .u64 (t.b.const.hi : Int), .int .u64 (t.b.const.lo : Int)] 0 true := by rw [hK1, hget_last]
  clear hK1
  have hc1 := hc.base b1
  have hb1 := hb.trans b1
  refine need_s hc1 (fun _ => ?_) (fun q => by cases q)
  simp (disch := omega) only [kB, kcx, kdm, kdn, kel, aop, Za, Zb, Zc, reduceCtorEq, Zd, Ze, Zf, Zg, Zh, Zi, Zj, Zk, Zl, Zm, Zn, Zo, Zp, Zq, Zr, Zs, Zt, hx1]
  refine operand_s (o := t.a) hs hnil hb1 hc1 (fun g2 K2 c2 d2 b2 hcl2 => ?_) (fun g2 K2 b2 => ?_)
  ·rw [if_pos g2] at h
   simp only [if_pos g2] at hp
   have hx2 := b2.rowc hx1
   have hc2 := hc1.base b2
   simp (disch := omega) only [kB, kcx, kdm, kdn, kel, aop, Za, Zb, Zc, reduceCtorEq, Zd, Ze, Zf, Zg, Zh, Zi, Zj, Zk, Zl, Zm, Zn, Zo, Zp, Zq, Zr, Zs, Zt, hx2]
   refine operand_s (o := t.b) hs hnil (hb1.trans b2) hc2 (fun g4 K3 c3 d3 b3 hcl3 => ?_) (fun g4 K3 b3 => ?_)
   ·rw [if_pos g4] at h
    simp only [if_pos g4] at hp
    have hx3 := b3.rowc hx2
    have hc3 := hc2.base b3
    have hc3' := hc3
    unfold Chk at hc3'
    have lc3 := hc3.lt
    have lx3 := hget_lt hx3 rfl
    have hb3 := (hb1.trans b2).trans b3
    have hcl2' := hcl2.base b3
    have bb3 := (b1.trans b2).trans b3
    have wa := rwV_i64 hs t.a.ref
    have wb := rwV_i64 hs t.b.ref
    simp (disch := omega) only [kB, kcx, kdm, kdn, kel, aop, Za, Zb, Zc, reduceCtorEq, Zd, Ze, Zf, Zg, Zh, Zi, Zj, Zk, Zl, Zm, Zn, Zo, Zp, Zq, Zr, Zs, Zt, hx3, hc3', o0, o1, o2, o3, o4, o5]
    refine fieldOf_s (r := t.a.ref) hs hb3 ?_
    rw [fldV_eq]
    simp (disch := omega) only [kB, kcx, kdm, kdn, kel, aop, Za, Zb, Zc, reduceCtorEq, Zd, Ze, Zf, Zg, Zh, Zi, Zj, Zk, Zl, Zm, Zn, Zo, Zp, Zq, Zr, Zs, Zt, hx3, hc3', o0, o1, o2, o3, o4, o5]
    refine fieldOf_s (r := t.b.ref) hs (hb3.app _) ?_
    rw [fldV_eq]
    generalize rwV (fldOf s t.a.ref) = WA at *
    generalize rwV (fldOf s t.b.ref) = WB at *
    by_cases g5 : (fldOf s t.a.ref).isSome = true
    ·rw [if_pos g5] at h
     simp only [if_pos g5] at hp
     rw [g5]
     simp (disch := omega) only [kB, kcx, kdm, kdn, kel, aop, Za, Zb, Zc, reduceCtorEq, Zd, Ze, Zf, Zg, Zh, Zi, Zj, Zk, Zl, Zm, Zn, Zo, Zp, Zq, Zr, Zs, Zt]
     refine clo_s ht.2.2 (hcl3.base (Base.app0 _)) wa ?_
     simp (disch := omega) only [kB, kcx, kdm, kdn, kel, aop, Za, Zb, Zc, reduceCtorEq, Zd, Ze, Zf, Zg, Zh, Zi, Zj, Zk, Zl, Zm, Zn, Zo, Zp, Zq, Zr, Zs, Zt]
     refine need_s (hc3.app _) (fun g6 => ?_) (fun g6 => ?_)
     ·rw [if_pos g6] at h
      simp (disch := omega) only [kB, kcx, kdm, kdn, kel, aop, Za, Zb, Zc, reduceCtorEq, Zd, Ze, Zf, Zg, Zh, Zi, Zj, Zk, Zl, Zm, Zn, Zo, Zp, Zq, Zr, Zs, Zt]
      exact h rfl _ (bb3.app _)
     ·rw [if_neg (by rw [g6]; decide)] at hp
      exact hp _ rfl _ (bb3.app _)
    ·rw [if_neg g5] at h
     simp only [if_neg g5] at hp
     rw [Bool.not_eq_true] at g5
     rw [g5]
     by_cases g7 : (fldOf s t.b.ref).isSome = true
     ·rw [if_pos g7] at h
      simp only [if_pos g7] at hp
      rw [g7]
      simp (disch := omega) only [kB, kcx, kdm, kdn, kel, aop, Za, Zb, Zc, reduceCtorEq, Zd, Ze, Zf, Zg, Zh, Zi, Zj, Zk, Zl, Zm, Zn, Zo, Zp, Zq, Zr, Zs, Zt]
      refine clo_s ht.2.1 (hcl2'.base (Base.app0 _)) wb ?_
      simp (disch := omega) only [kB, kcx, kdm, kdn, kel, aop, Za, Zb, Zc, reduceCtorEq, Zd, Ze, Zf, Zg, Zh, Zi, Zj, Zk, Zl, Zm, Zn, Zo, Zp, Zq, Zr, Zs, Zt]
      refine need_s (hc3.app _) (fun g6 => ?_) (fun g6 => ?_)
      ·rw [if_pos g6] at h
       simp (disch := omega) only [kB, kcx, kdm, kdn, kel, aop, Za, Zb, Zc, reduceCtorEq, Zd, Ze, Zf, Zg, Zh, Zi, Zj, Zk, Zl, Zm, Zn, Zo, Zp, Zq, Zr, Zs, Zt]
       exact h rfl _ (bb3.app _)
      ·rw [if_neg (by rw [g6]; decide)] at hp
       exact hp _ rfl _ (bb3.app _)
     ·rw [if_neg g7] at hp
      rw [Bool.not_eq_true] at g7
      rw [g7]
      simp (disch := omega) only [kB, kcx, kdm, kdn, kel, aop, Za, Zb, Zc, reduceCtorEq, Zd, Ze, Zf, Zg, Zh, Zi, Zj, Zk, Zl, Zm, Zn, Zo, Zp, Zq, Zr, Zs, Zt]
      exact need_s (hc3.app _) (fun q => by cases q) (fun _ => hp _ rfl _ (bb3.app _))
   ·rw [if_neg (by rw [g4]; decide)] at hp
    exact hp _ rfl _ ((b1.trans b2).trans b3)
  ·rw [if_neg (by rw [g2]; decide)] at hp
   exact hp _ rfl _ (b1.trans b2)
/-- What is wrong with a stage; which tables have been asked. -/
def stageE (s : Sch) (asked : List (List UInt8)) (x : St) : Except Int (List (List UInt8)) :=
 if x.kind = 1 then (if x.test = Tst.zero then (if x.table ∈ s.tables.map Tbl.name then (if x.table ∈ asked then .error 71 else .ok (asked ++ [x.table])) else .error 72) else .error 75)
 else if x.kind = 3 then (if x.test = Tst.zero ∧ x.table = [] ∧ x.thn.length + x.els.length = 0 then .ok asked else .error 75)
 else if x.kind = 2 then (if x.table = [] then (match testE s x.test with
  | some e => .error e
  | none => .ok asked) else .error 75)
 else .error 75
set_option maxHeartbeats 4000000 in
theorem stage_s {cb mb : Nat} {s : Sch} {th : List UInt8} {x : St} {asked : List (List UInt8)} (hs : s.OK H) (hx : StOK H x) (hb : Base H K) (hc : Chk K cb s th) (hm : Names K mb asked) (hcm : mb ≠ cb)
  (h : ∀ a', stageE s asked x = .ok a' → ∀ K', But mb K K' → Names K' mb a' → R (.ret (.tuple #[])) K')
  (hp : ∀ e, stageE s asked x = .error e → ∀ K', Base K K' → R (.pan (wrongV e th)) K') : WD T 61 [.pointer (some ⟨cb, 0, none⟩), .agg x.cells.toArray, .map (some mb)] K R := by
 refine WD.of follows t61 (by simp) ?_
 obtain ⟨o0, o1, o2, o3, o4, o5⟩ := hs.one
 have hc' := hc
 unfold Chk at hc'
 have lc := hc.lt
 have lm := hm.lt
 have hm' := hm
 unfold Names at hm'
 have hcells := St.cells_eq x
 have sa := hx.sa
 have sb := hx.sb
 have oa := sa.one
 have ob := sb.one
 have ht : x.test.OK := by cases x; simp only [StOK] at hx; exact hx.1.2
 have k0 : ∀ (t : List UInt8), keyOk (.prim 2) (.string (bs t)) = true := fun _ => rfl
 simp only [Tst.cells, List.cons_append, List.nil_append] at hcells
 rw [hcells]
 have ez := tst_eqz x.test
 by_cases k1 : x.kind = 1
 ·have kk : (x.kind = 1) = True := eq_true k1
  simp only [stageE, if_pos k1] at h hp
  by_cases a1 : x.test = Tst.zero
  case neg =>
   rw [decide_eq_false a1] at ez
   rw [if_neg a1] at hp
   simp (disch := omega) only [kB, kcx, kdm, kdn, kel, aop, Za, Zb, Zc, reduceCtorEq, Zd, Ze, Zf, Zg, Zh, Zi, Zj, Zk, Zl, Zm, Zn, Zo, Zp, Zq, Zr, Zs, Zt, kk, ez]
   exact need_s (hc.app _) (fun q => by cases q) (fun _ => hp _ rfl _ (Base.app0 _))
  rw [decide_eq_true a1] at ez
  simp only [if_pos a1] at h hp
  clear a1
  simp (disch := omega) only [kB, kcx, kdm, kdn, kel, aop, Za, Zb, Zc, reduceCtorEq, Zd, Ze, Zf, Zg, Zh, Zi, Zj, Zk, Zl, Zm, Zn, Zo, Zp, Zq, Zr, Zs, Zt, kk, ez]
  refine need_s (hc.app _) (fun _ => ?_) (fun q => by cases q)
  simp (disch := omega) only [kB, kcx, kdm, kdn, kel, aop, Za, Zb, Zc, reduceCtorEq, Zd, Ze, Zf, Zg, Zh, Zi, Zj, Zk, Zl, Zm, Zn, Zo, Zp, Zq, Zr, Zs, Zt, hc', o0, o1, o2, o3, o4, o5]
  refine tableAt_s hs (hb.app _) ?_
  simp (disch := omega) only [kB, kcx, kdm, kdn, kel, aop, Za, Zb, Zc, reduceCtorEq, Zd, Ze, Zf, Zg, Zh, Zi, Zj, Zk, Zl, Zm, Zn, Zo, Zp, Zq, Zr, Zs, Zt]
  refine need_s (hc.app _) (fun g1 => ?_) (fun g1 => ?_)
  ·simp only [if_pos ((ixT_mem _ _).1 (of_decide_eq_true g1))] at h hp
   rcases find_names x.table asked 0 with ⟨f1, j, f2, _⟩ | ⟨f1, f2⟩
   ·rw [if_pos f1] at hp
    simp (disch := omega) only [kB, kcx, kdm, kdn, kel, aop, Za, Zb, Zc, reduceCtorEq, Zd, Ze, Zf, Zg, Zh, Zi, Zj, Zk, Zl, Zm, Zn, Zo, Zp, Zq, Zr, Zs, Zt, hm', k0, f2]
    exact need_s (hc.app _) (fun q => by cases q) (fun _ => hp _ rfl _ (Base.app0 _))
   ·simp only [if_neg f1] at h
    simp (disch := omega) only [kB, kcx, kdm, kdn, kel, aop, Za, Zb, Zc, reduceCtorEq, Zd, Ze, Zf, Zg, Zh, Zi, Zj, Zk, Zl, Zm, Zn, Zo, Zp, Zq, Zr, Zs, Zt, hm', k0, f2]
    refine need_s (hc.app _) (fun _ => ?_) (fun q => by cases q)
    simp (disch := omega) only [kB, kcx, kdm, kdn, kel, aop, Za, Zb, Zc, reduceCtorEq, Zd, Ze, Zf, Zg, Zh, Zi, Zj, Zk, Zl, Zm, Zn, Zo, Zp, Zq, Zr, Zs, Zt, hm', k0, f2]
    refine h _ rfl _ (But.refl.set.app _) ?_
    rw [Names, hget_old (by simpa using lm), hget_set' lm, List.map_append]
    rfl
  ·rw [if_neg (fun q => of_decide_eq_false g1 ((ixT_mem _ _).2 q))] at hp
   exact hp _ rfl _ (Base.app0 _)
 ·have kk : (x.kind = 1) = False := eq_false k1
  by_cases k3 : x.kind = 3
  ·have kk3 : (x.kind = 3) = True := eq_true k3
   have bad : ¬ (x.test = Tst.zero ∧ x.table = [] ∧ x.thn.length + x.els.length = 0) → ∀ K', Base K K' → R (.pan (wrongV 75 th)) K' := fun q => hp 75 (by rw [stageE, if_neg k1, if_pos k3, if_neg q])
   by_cases a1 : x.test = Tst.zero
   case neg =>
    have bd := bad (fun q => a1 q.1)
    rw [decide_eq_false a1] at ez
    simp (disch := omega) only [kB, kcx, kdm, kdn, kel, aop, Za, Zb, Zc, reduceCtorEq, Zd, Ze, Zf, Zg, Zh, Zi, Zj, Zk, Zl, Zm, Zn, Zo, Zp, Zq, Zr, Zs, Zt, kk, kk3, ez]
    exact need_s (hc.app _) (fun q => by cases q) (fun _ => bd _ (Base.app0 _))
   rw [decide_eq_true a1] at ez
   by_cases a2 : x.table = []
   case neg =>
    have bd := bad (fun q => a2 q.2.1)
    simp (disch := omega) only [kB, kcx, kdm, kdn, kel, aop, Za, Zb, Zc, reduceCtorEq, Zd, Ze, Zf, Zg, Zh, Zi, Zj, Zk, Zl, Zm, Zn, Zo, Zp, Zq, Zr, Zs, Zt, kk, kk3, ez, decide_eq_false a2]
    exact need_s (hc.app _) (fun q => by cases q) (fun _ => bd _ (Base.app0 _))
   obtain ⟨aa, ha⟩ := sa.sl
   obtain ⟨ab, hb'⟩ := sb.sl
   have la := sa.left
   have lb := sb.left
   have w1 : IntKind.i64.wrap ((x.thn.length : Int) + (x.els.length : Int)) = ((x.thn.length + x.els.length : Nat) : Int) := by rw [show (x.thn.length : Int) + (x.els.length : Int) = ((x.thn.length + x.els.length : Nat) : Int) by omega]; exact wr_i64 (by omega) (by omega)
   by_cases a3 : x.thn.length + x.els.length = 0
   case neg =>
    have bd := bad (fun q => a3 q.2.2)
    have a3' : ¬ ((x.thn.length + x.els.length : Nat) : Int) = 0 := by omega
    simp (disch := omega) only [kB, kcx, kdm, kdn, kel, aop, Za, Zb, Zc, reduceCtorEq, Zd, Ze, Zf, Zg, Zh, Zi, Zj, Zk, Zl, Zm, Zn, Zo, Zp, Zq, Zr, Zs, Zt, kk, kk3, ez, decide_eq_true a2, ha, hb', w1, a3']
    exact need_s (hc.app _) (fun q => by cases q) (fun _ => bd _ (Base.app0 _))
   have hE : stageE s asked x = .ok asked := by rw [stageE, if_neg k1, if_pos k3, if_pos ⟨a1, a2, a3⟩]
   have a3' : (((x.thn.length + x.els.length : Nat) : Int) = 0) = True := eq_true (by omega)
   simp (disch := omega) only [kB, kcx, kdm, kdn, kel, aop, Za, Zb, Zc, reduceCtorEq, Zd, Ze, Zf, Zg, Zh, Zi, Zj, Zk, Zl, Zm, Zn, Zo, Zp, Zq, Zr, Zs, Zt, kk, kk3, ez, decide_eq_true a2, ha, hb', w1, a3']
   refine need_s (hc.app _) (fun _ => ?_) (fun q => by cases q)
   simp (disch := omega) only [kB, kcx, kdm, kdn, kel, aop, Za, Zb, Zc, reduceCtorEq, Zd, Ze, Zf, Zg, Zh, Zi, Zj, Zk, Zl, Zm, Zn, Zo, Zp, Zq, Zr, Zs, Zt]
   exact h _ hE _ (But.refl.app _) (hm.app _)
  ·have kk3 : (x.kind = 3) = False := eq_false k3
   by_cases k2 : x.kind = 2
   ·have kk2 : (x.kind = 2) = True := eq_true k2
    simp only [stageE, if_neg k1, if_neg k3, if_pos k2] at h hp
    by_cases a2 : x.table = []
    case neg =>
     rw [if_neg a2] at hp
     simp (disch := omega) only [kB, kcx, kdm, kdn, kel, aop, Za, Zb, Zc, reduceCtorEq, Zd, Ze, Zf, Zg, Zh, Zi, Zj, Zk, Zl, Zm, Zn, Zo, Zp, Zq, Zr, Zs, Zt, kk, kk3, kk2, decide_eq_false a2]
     exact need_s (hc.app _) (fun q => by cases q) (fun _ => hp _ rfl _ (Base.app0 _))
    simp only [if_pos a2] at h hp
    simp (disch := omega) only [kB, kcx, kdm, kdn, kel, aop, Za, Zb, Zc, reduceCtorEq, Zd, Ze, Zf, Zg, Zh, Zi, Zj, Zk, Zl, Zm, Zn, Zo, Zp, Zq, Zr, Zs, Zt, kk, kk3, kk2, decide_eq_true a2]
    refine need_s (hc.app _) (fun _ => ?_) (fun q => by cases q)
    simp (disch := omega) only [kB, kcx, kdm, kdn, kel, aop, Za, Zb, Zc, reduceCtorEq, Zd, Ze, Zf, Zg, Zh, Zi, Zj, Zk, Zl, Zm, Zn, Zo, Zp, Zq, Zr, Zs, Zt]
    refine test_s (t := x.test) hs ht (hb.app _) (hc.app _) (fun q K' b => ?_) (fun e q K' b => ?_)
    ·rw [q] at h
     have bb := (Base.app0 _).trans b
     simp (disch := omega) only [kB, kcx, kdm, kdn, kel, aop, Za, Zb, Zc, reduceCtorEq, Zd, Ze, Zf, Zg, Zh, Zi, Zj, Zk, Zl, Zm, Zn, Zo, Zp, Zq, Zr, Zs, Zt]
     exact h _ rfl _ (But.refl.add bb) (hm.base bb)
    ·rw [q] at hp
     exact hp _ rfl _ ((Base.app0 _).trans b)
   ·have kk2 : (x.kind = 2) = False := eq_false k2
    have bd := hp 75 (by rw [stageE, if_neg k1, if_neg k3, if_neg k2])
    simp (disch := omega) only [kB, kcx, kdm, kdn, kel, aop, Za, Zb, Zc, reduceCtorEq, Zd, Ze, Zf, Zg, Zh, Zi, Zj, Zk, Zl, Zm, Zn, Zo, Zp, Zq, Zr, Zs, Zt, kk, kk3, kk2]
    exact need_s (hc.app _) (fun q => by cases q) (fun _ => bd _ (Base.app0 _))
end
section
variable {R : FRes → Heap → Prop} {H K : Heap}
/-! ### What is wrong with a schema -/
def metT : List UInt8 := [109, 101, 116, 97]
def ctT : List UInt8 := [99, 111, 110, 116, 114, 111, 108]
def metaE (s : Sch) : Option (Int × List UInt8) := if s.mets.length ≤ 32 then (fieldsE [] s.mets).map fun e => (e, metT) else some (74, metT)
def stagesE (s : Sch) : List (List UInt8) → List (Nat × St) → Option Int
 | _, [] => none
 | asked, x :: l => match stageE s asked x.2 with
  | .error e => some e
  | .ok a => stagesE s a l
def ctlE (s : Sch) : Option (Int × List UInt8) := if tallE s.control = 0 then (stagesE s [] (flatL 1 s.control)).map fun e => (e, ctT) else some (tallE s.control, ctT)
noncomputable def checkO (s : Sch) : Option (Int × List UInt8) := (headersE s).or ((metaE s).or ((statesE s).or ((actionsE s).or ((tablesE s).or (ctlE s)))))
noncomputable def checkV (s : Sch) : Int × List UInt8 := match checkO s with
 | some x => x
 | none => (0, [])
/-- Names that may be put behind a word. -/
structure Sch.Short (s : Sch) : Prop where
 sh : ∀ x ∈ s.headers, short x.name
 ss : ∀ x ∈ s.states, short x.name
 sa : ∀ x ∈ s.actions, short x.name
 st : ∀ x ∈ s.tables, short x.name
/-! ### The closure over the stages -/
def chkS (s : Sch) (th : List UInt8) : List (List UInt8) → Nat × St → Go (List (List UInt8)) := fun a x => match stageE s a x.2 with
 | .error e => .pan (wrongV e th)
 | .ok a' => .on a'
theorem chk_fold (s : Sch) (th : List UInt8) : ∀ (l : List (Nat × St)) (a : List (List UInt8)), (∃ e, stagesE s a l = some e ∧ foldG (chkS s th) a l = .pan (wrongV e th)) ∨ (stagesE s a l = none ∧ ∃ a', foldG (chkS s th) a l = .on a')
 | [], a => .inr ⟨rfl, a, rfl⟩
 | x :: l, a => by
  simp only [stagesE, foldG, chkS]
  cases stageE s a x.2 with
  | error e => exact .inl ⟨e, rfl, rfl⟩
  | ok a' => exact chk_fold s th l a'
/-- Memory K0 with the map behind it, and the variable that holds it. -/
def chkQ (K0 : Heap) (a : List (List UInt8)) (K : Heap) : Prop := Base K0 K ∧ Names K K0.length a ∧ hget K (K0.length + 1) = .row [.map (some K0.length)] 0 true
def chkF (K0 : Heap) (K : Heap) (c : Nat) : Prop := c = K0.length
theorem chkOK {K0 : Heap} : StateOK K0 (chkQ K0) (chkF K0) where
 old := fun h => h.1
 app := fun g h => ⟨h.1.app g, h.2.1.app g, by rw [hget_old (hget_lt h.2.2 rfl)]; exact h.2.2⟩
 fin := fun h hf => by have := h.2.1.lt; unfold chkF at hf; omega
 fpa := fun g h hf => hf
theorem chkLv {s : Sch} {th : List UInt8} : LvOK (fun x => x.1 ≤ 8) (fun d (_ : List (List UInt8)) => d ≤ 9) (chkS s th) where
 fin := fun h => by omega
 down := fun h => by omega
 step := fun h _ _ => by simp only at h; omega
theorem StOK.base {s : St} (hb : Base H K) (h : StOK H s) : StOK K s := by
 cases s
 simp only [StOK] at h ⊢
 exact ⟨h.1, h.2.1.base hb, h.2.2.base hb⟩
theorem chkC {K0 : Heap} {cb : Nat} {s : Sch} {th : List UInt8} (hs : s.OK K0) (hc : Chk K0 cb s th) : ClosureOK K0 (chkQ K0) (chkF K0) (fun x => x.1 ≤ 8) (fun d _ => d ≤ 9) (chkS s th) 60 [.pointer (some ⟨cb, 0, none⟩), .pointer (some ⟨K0.length + 1, 0, none⟩)] := by
 intro a K d x R hq hx _ _ h
 obtain ⟨q1, q2, q3⟩ := hq
 have lc := hc.lt
 have hcells := St.cells_eq x
 have sa := hx.sa
 have sb := hx.sb
 have oa := sa.one
 have ob := sb.one
 simp only [Tst.cells, List.cons_append, List.nil_append] at hcells
 rw [hcells]
 have l3 := hget_lt q3 rfl
 refine WD.of follows t60 (by simp) ?_
 simp (disch := omega) only [kB, kcx, kdm, kdn, kel, aop, Za, Zb, Zc, reduceCtorEq, Zd, Ze, Zf, Zg, Zh, Zi, Zj, Zk, Zl, Zm, Zn, Zo, Zp, Zq, Zr, Zs, Zt, q3]
 rw [← hcells]
 have q3' : hget (K ++ [AObj.row x.cells 0 true]) (K0.length + 1) = .row [.map (some K0.length)] 0 true := by rw [hget_old l3]; exact q3
 refine stage_s (asked := a) hs hx (q1.app _) ((hc.base q1).app _) (q2.app _) (by omega) (fun a' e K' b' hm' => ?_) (fun e he K' b' => ?_)
 ·simp only [chkS, e, GoR] at h
  have hb3 := b'.row q3' (by omega)
  have bb : But K0.length K K' := (But.refl.app _).trans b'
  simp (disch := omega) only [kB, kcx, kdm, kdn, kel, aop, Za, Zb, Zc, reduceCtorEq, Zd, Ze, Zf, Zg, Zh, Zi, Zj, Zk, Zl, Zm, Zn, Zo, Zp, Zq, Zr, Zs, Zt]
  exact h _ ⟨bb.base q1 (Nat.le_refl _), hm', hb3⟩ ⟨bb.1, fun c hc hf => ⟨bb.2 c hc hf, hf⟩⟩
 ·simp only [chkS, he, GoR] at h
  have bb := (Base.app0 (H := K) [AObj.row x.cells 0 true]).trans b'
  exact h _ ⟨bb.1, fun c hc hf => ⟨bb.2 c hc, hf⟩⟩
/-! ### Deferred -/
theorem wdef_pre {res : List AResult} {R : FRes → Heap → Prop} {a : ACode} {d : ADef} {e : Env} {H : Heap} : WDef T res R (.pre a d) e H = WC T a e H (onNorm (WDef T res R d)) := propext ⟨fun h => h, fun h => h⟩
theorem wdef_here {res : List AResult} {R : FRes → Heap → Prop} {t : Nat} {g : FuncId} {cap : List Operand} {rest : ACode} {e : Env} {H : Heap} : WDef T res R (.here t g cap rest) e H = WC T rest (put e t (.func (.func g) #[] (cap.map (aev e)).toArray)) H (leaveK T g (cap.map (aev e)) res R) := propext ⟨fun h => h, fun h => h⟩
theorem onNorm_norm (Q : Env → Heap → Prop) (e : Env) (H : Heap) : onNorm Q .norm e H = Q e H := propext ⟨fun h => h, fun h => h⟩
theorem rcv_pan {b2 b3 : Nat} {e : Int} {th : List UInt8} {G : Heap → Prop} (h2 : hget K b2 = .row [.int .i64 0] 0 true) (h3 : hget K b3 = .row [.string (bs [])] 0 true) (hne : b2 ≠ b3)
  (h : ∀ g, G ((K.set b2 (.row [.int .i64 e] 0 true)).set b3 (.row [.string (bs th)] 0 true) ++ g)) : WRcv T 51 [.pointer (some ⟨b2, 0, none⟩), .pointer (some ⟨b3, 0, none⟩)] (wrongV e th) K G := by
 refine ⟨_, _, _, _, t51, by simp, ?_⟩
 unfold wrongV
 have l2 := hget_lt h2 rfl
 have l3 := hget_lt h3 rfl
 simp (disch := omega) only [kB, kcx, kdm, kdn, kel, aop, Za, Zb, Zc, reduceCtorEq, Zd, Ze, Zf, Zg, Zh, Zi, Zj, Zk, Zl, Zm, Zn, Zo, Zp, Zq, Zr, Zs, Zt, h2, h3, hget_ne hne, ite_self]
 exact h _
theorem rcv_nil {b2 b3 : Nat} {G : Heap → Prop} (h : ∀ g, G (K ++ g)) : WRcv T 51 [.pointer (some ⟨b2, 0, none⟩), .pointer (some ⟨b3, 0, none⟩)] .nilIface K G := by
 refine ⟨_, _, _, _, t51, by simp, ?_⟩
 simp (disch := omega) only [kB, kcx, kdm, kdn, kel, aop, Za, Zb, Zc, reduceCtorEq, Zd, Ze, Zf, Zg, Zh, Zi, Zj, Zk, Zl, Zm, Zn, Zo, Zp, Zq, Zr, Zs, Zt]
 exact h _
end
section
variable {R : FRes → Heap → Prop} {H K : Heap}
theorem Sch.OK.up {s : Sch} (h : s.OK H) (hb : Base H K) : s.OK K where
 hs := ⟨h.hs.1.base hb, h.hs.2.1, fun x hx => ⟨(h.hs.2.2 x hx).1.base hb, (h.hs.2.2 x hx).2⟩⟩
 ms := ⟨h.ms.1.base hb, h.ms.2⟩
 ss := ⟨h.ss.1.base hb, h.ss.2.1, fun x hx => ⟨(h.ss.2.2 x hx).1.base hb, (h.ss.2.2 x hx).2⟩⟩
 acs := ⟨h.acs.1.base hb, h.acs.2.1, fun x hx => have q := h.acs.2.2 x hx; ⟨⟨q.1.1.base hb, q.1.2⟩, q.2.1.base hb, q.2.2⟩⟩
 ts := ⟨h.ts.1.base hb, h.ts.2.1, fun x hx => have q := h.ts.2.2 x hx; ⟨⟨q.1.1.base hb, q.1.2⟩, ⟨q.2.1.1.base hb, q.2.1.2⟩, q.2.2.1, ⟨q.2.2.2.1.base hb, q.2.2.2.2⟩⟩⟩
 cs := h.cs.base hb
theorem cof_map (b : Option Nat) : cellsOf (.map b) = [.map b] := rfl
theorem one_map (b : Option Nat) : oneCell (.map b) = true := rfl
set_option maxHeartbeats 2000000 in
theorem check_s {s : Sch} (hs : s.OK H) (hsh : s.Short) (hb : Base H K) (h : R (.ret (.tuple #[.int .i64 (checkV s).1, .string (bs (checkV s).2)])) K) : WD T 10 [.agg s.cells.toArray] K R := by
 refine WD.gc0 (WD.dfr follows t10 (by simp) ?_)
 obtain ⟨o0, o1, o2, o3, o4, o5⟩ := hs.one
 simp only [Sch.cells]
 simp (disch := omega) only [kB, kcx, kdm, kdn, kel, aop, Za, Zb, Zc, reduceCtorEq, Zd, Ze, Zf, Zg, Zh, Zi, Zj, Zk, Zl, Zm, Zn, Zo, Zp, Zq, Zr, Zs, Zt, wdef_pre, wdef_here, onNorm_norm, o0, o1, o2, o3, o4, o5]
 obtain ⟨K1, hK1⟩ : ∃ K1, K1 = K ++ [AObj.row [s.hv, s.mv, s.sv, s.av, s.tv, s.cv] 0 true, AObj.row [.int .i64 0] 0 true, AObj.row [.string (bs [])] 0 true, AObj.row [s.hv, s.mv, s.sv, s.av, s.tv, s.cv, .string (bs [])] 0 true] := ⟨_, rfl⟩
 rw [← hK1]
 have b1 : Base K K1 := by rw [hK1]; exact Base.app0 _
 have hx1 : hget K1 K.length = .row [s.hv, s.mv, s.sv, s.av, s.tv, s.cv] 0 true := by rw [hK1, hget_base0]; rfl
 have hr2 : hget K1 (K.length + 1) = .row [.int .i64 0] 0 true := by rw [hK1, hget_base]; rfl
 have hr3 : hget K1 (K.length + 2) = .row [.string (bs [])] 0 true := by rw [hK1, hget_base]; rfl
 have hc1 : Chk K1 (K.length + 3) s [] := by rw [hK1, Chk, hget_base]; rfl
 clear hK1
 have hcb : H.length ≤ K.length + 3 := by have := hb.1; omega
 have hb1 := hb.trans b1
 have pan : ∀ e t, checkO s = some (e, t) → ∀ K' env, But (K.length + 3) K1 K' → get env 2 = .pointer (some ⟨K.length + 1, 0, none⟩) → get env 3 = .pointer (some ⟨K.length + 2, 0, none⟩) → leaveK T 51 [.pointer (some ⟨K.length + 1, 0, none⟩), .pointer (some ⟨K.length + 2, 0, none⟩)] [.cell1 2, .cell1 3] (fun r H1 => ∃ v, r = FRes.ret v ∧ (∃ g, H1 = K ++ g) ∧ Scoped K.length v ∧ R (FRes.ret v) K) (.pan (wrongV e t)) env K' := by
  intro e t hq K' env hbut e2 e3
  have h2 := hbut.row hr2 (by omega)
  have h3 := hbut.row hr3 (by omega)
  have l2 := hget_lt h2 rfl
  have l3 := hget_lt h3 rfl
  have hv : checkV s = (e, t) := by rw [checkV, hq]
  rw [hv] at h
  show WRcv T 51 _ (wrongV e t) K' _
  refine rcv_pan h2 h3 (by omega) (fun g => ?_)
  have l1 := hbut.1
  have n1 : K.length + 1 ≠ K.length + 2 := by omega
  have n2 : K.length + 2 ≠ K.length + 1 := by omega
  have hbase : Base K (((K'.set (K.length + 1) (.row [.int .i64 e] 0 true)).set (K.length + 2) (.row [.string (bs t)] 0 true)) ++ g) := (((hbut.base b1 (by omega)).set (by omega)).set (by omega)).app g
  simp (disch := omega) only [kB, kcx, kdm, kdn, kel, aop, Za, Zb, Zc, reduceCtorEq, Zd, Ze, Zf, Zg, Zh, Zi, Zj, Zk, Zl, Zm, Zn, Zo, Zp, Zq, Zr, Zs, Zt, resK, e2, e3, hget_ne n1, hget_ne n2]
  exact ⟨_, rfl, hbase.ext, .tup2 .int .string, h⟩
 have ms := hs.ms
 obtain ⟨ma, mv⟩ := ms.1.sl
 rw [List.length_map] at mv
 refine headers_s hs hsh.sh hb1 hcb hc1 (fun q1 K2 th2 c2 hc2 => ?_) (fun e t q K2 c2 => pan e t (by rw [checkO, q]; rfl) K2 _ c2 rfl rfl)
 have hx2 := c2.row hx1 (by omega)
 have hc2' := hc2
 unfold Chk at hc2'
 have l2 := hc2.lt
 have nx : K.length + 3 ≠ K.length := by omega
 simp (disch := omega) only [kB, kcx, kdm, kdn, kel, aop, Za, Zb, Zc, reduceCtorEq, Zd, Ze, Zf, Zg, Zh, Zi, Zj, Zk, Zl, Zm, Zn, Zo, Zp, Zq, Zr, Zs, Zt, hc2', hx2, hget_ne nx, mv]
 obtain ⟨K3, hK3⟩ : ∃ K3, K3 = K2.set (K.length + 3) (AObj.row [s.hv, .slice ma s.mets.length s.mets.length, s.sv, s.av, s.tv, s.cv, .string (bs [109, 101, 116, 97])] 0 true) := ⟨_, rfl⟩
 rw [← hK3]
 have hc3 : Chk K3 (K.length + 3) s metT := by rw [hK3, Chk, hget_set' l2, mv]; rfl
 have c3 : But (K.length + 3) K1 K3 := by rw [hK3]; exact c2.set
 clear hK3
 have hx3 := c3.row hx1 (by omega)
 refine need_s hc3 (fun g => ?_) (fun g => pan 74 metT (by rw [checkO, q1, metaE, if_neg (fun q => of_decide_eq_false g (by omega))]; rfl) K3 _ c3 rfl rfl)
 have g' : s.mets.length ≤ 32 := by have := of_decide_eq_true g; omega
 simp (disch := omega) only [kB, kcx, kdm, kdn, kel, aop, Za, Zb, Zc, reduceCtorEq, Zd, Ze, Zf, Zg, Zh, Zi, Zj, Zk, Zl, Zm, Zn, Zo, Zp, Zq, Zr, Zs, Zt, hx3]
 refine fields_s hc3 ms (c3.base hb1 (by have := hb.1; have := b1.1; omega)) (fun q2 K4 b4 => ?_) (fun e q K4 b4 => pan e metT (by rw [checkO, q1, metaE, if_pos g', q]; rfl) K4 _ (c3.add b4) rfl rfl)
 have q2' : metaE s = none := by rw [metaE, if_pos g', q2]; rfl
 have c4 := c3.add b4
 have hc4 := hc3.base b4
 have hlb : H.length ≤ K.length + 3 := hcb
 simp (disch := omega) only [kB, kcx, kdm, kdn, kel, aop, Za, Zb, Zc, reduceCtorEq, Zd, Ze, Zf, Zg, Zh, Zi, Zj, Zk, Zl, Zm, Zn, Zo, Zp, Zq, Zr, Zs, Zt]
 refine states_s hs hsh.ss (c4.base hb1 hlb) hcb hc4 (fun q3 K5 th5 c5 hc5 => ?_) (fun e t q K5 c5 => pan e t (by rw [checkO, q1, q2', q]; rfl) K5 _ (c4.trans c5) rfl rfl)
 have c5 := c4.trans c5
 simp (disch := omega) only [kB, kcx, kdm, kdn, kel, aop, Za, Zb, Zc, reduceCtorEq, Zd, Ze, Zf, Zg, Zh, Zi, Zj, Zk, Zl, Zm, Zn, Zo, Zp, Zq, Zr, Zs, Zt]
 refine actions_s hs hsh.sa (c5.base hb1 hlb) hcb hc5 (fun q4 K6 th6 c6 hc6 => ?_) (fun e t q K6 c6 => pan e t (by rw [checkO, q1, q2', q3, q]; rfl) K6 _ (c5.trans c6) rfl rfl)
 have c6 := c5.trans c6
 simp (disch := omega) only [kB, kcx, kdm, kdn, kel, aop, Za, Zb, Zc, reduceCtorEq, Zd, Ze, Zf, Zg, Zh, Zi, Zj, Zk, Zl, Zm, Zn, Zo, Zp, Zq, Zr, Zs, Zt]
 refine tables_s hs hsh.st (c6.base hb1 hlb) hcb hc6 (fun q5 K7 th7 c7 hc7 => ?_) (fun e t q K7 c7 => pan e t (by rw [checkO, q1, q2', q3, q4, q]; rfl) K7 _ (c6.trans c7) rfl rfl)
 have c7 := c6.trans c7
 have hx7 := c7.row hx1 (by omega)
 have hc7' := hc7
 unfold Chk at hc7'
 have l7 := hc7.lt
 simp (disch := omega) only [kB, kcx, kdm, kdn, kel, aop, Za, Zb, Zc, reduceCtorEq, Zd, Ze, Zf, Zg, Zh, Zi, Zj, Zk, Zl, Zm, Zn, Zo, Zp, Zq, Zr, Zs, Zt, hc7', hx7, hget_ne nx, o0, o1, o2, o3, o4, o5]
 obtain ⟨K8, hK8⟩ : ∃ K8, K8 = K7.set (K.length + 3) (AObj.row [s.hv, s.mv, s.sv, s.av, s.tv, s.cv, .string (bs [99, 111, 110, 116, 114, 111, 108])] 0 true) := ⟨_, rfl⟩
 rw [← hK8]
 have hc8 : Chk K8 (K.length + 3) s ctT := by rw [hK8, Chk, hget_set' l7]; rfl
 have c8 : But (K.length + 3) K1 K8 := by rw [hK8]; exact c7.set
 clear hK8
 have hx8 := c8.row hx1 (by omega)
 have hb8 := c8.base hb1 hlb
 refine tall_s hs hb8 ?_
 have qq : ctlE s = checkO s := by rw [checkO, q1, q2', q3, q4, q5]; rfl
 by_cases g : tallE s.control = 0
 case neg =>
  have g'' : (tallE s.control = 0) = False := eq_false g
  simp (disch := omega) only [kB, kcx, kdm, kdn, kel, aop, Za, Zb, Zc, reduceCtorEq, Zd, Ze, Zf, Zg, Zh, Zi, Zj, Zk, Zl, Zm, Zn, Zo, Zp, Zq, Zr, Zs, Zt, g'']
  exact need_s hc8 (fun q => by cases q) (fun _ => pan _ ctT (by rw [← qq, ctlE, if_neg g]) K8 _ c8 rfl rfl)
 have g'' : (tallE s.control = 0) = True := eq_true g
 have lx8 := hget_lt hx8 rfl
 simp (disch := omega) only [kB, kcx, kdm, kdn, kel, aop, Za, Zb, Zc, reduceCtorEq, Zd, Ze, Zf, Zg, Zh, Zi, Zj, Zk, Zl, Zm, Zn, Zo, Zp, Zq, Zr, Zs, Zt, g'', hx8, cof_map, one_map]
 have good : ∀ y ∈ flatL 1 s.control, y.1 ≤ 8 := fun y hy => by
  unfold tallE at g
  split at g
  ·cases g
  ·split at g
   ·cases g
   ·rename_i hn
    have := mt (List.any_eq_true.2) hn
    exact Nat.le_of_not_lt fun q => this ⟨y, hy, by simpa using q⟩
 obtain ⟨K9, hK9⟩ : ∃ K9, K9 = K8 ++ [AObj.map [], AObj.row [.map (some K8.length)] 0 true] := ⟨_, rfl⟩
 rw [← hK9]
 have hq9 : chkQ K8 [] K9 := ⟨by rw [hK9]; exact Base.app0 _, by rw [hK9, Names, hget_base0]; rfl, by rw [hK9, hget_base]; rfl⟩
 clear hK9
 have hs8 : s.OK K8 := hs.up hb8
 refine walk_s chkOK chkLv (chkC hs8 hc8) _ s.control (Nat.le_refl _) 1 [] K9 s.cv _ (by omega) good hq9 hs8.cs ?_
 have bw : ∀ K', FrS (chkF K8) K9 K' → But (K.length + 3) K1 K' := fun K' f => c8.add ⟨by have := f.1; have := hq9.1.1; omega, fun c hc => by have := hq9.1.1; rw [(f.2 c (by omega) (by unfold chkF; omega)).1]; exact hq9.1.2 c hc⟩
 rcases chk_fold s ctT (flatL 1 s.control) [] with ⟨e, t1, t2⟩ | ⟨t1, a', t2⟩
 ·rw [t2]
  exact fun K' f => pan e ctT (by rw [← qq, ctlE, if_pos g, t1]; rfl) K' _ (bw K' f) rfl rfl
 ·rw [t2]
  intro K' _ f
  have c' := bw K' f
  have h2 := c'.row hr2 (by omega)
  have h3 := c'.row hr3 (by omega)
  have l2' := hget_lt h2 rfl
  have l3' := hget_lt h3 rfl
  have n1 : K.length + 1 ≠ K.length + 2 := by omega
  have n2 : K.length + 2 ≠ K.length + 1 := by omega
  have hv : checkV s = (0, []) := by rw [checkV, ← qq, ctlE, if_pos g, t1]; rfl
  rw [hv] at h
  simp (disch := omega) only [kB, kcx, kdm, kdn, kel, aop, Za, Zb, Zc, reduceCtorEq, Zd, Ze, Zf, Zg, Zh, Zi, Zj, Zk, Zl, Zm, Zn, Zo, Zp, Zq, Zr, Zs, Zt, h2, h3, hget_ne n1, hget_ne n2]
  show WRcv T 51 _ .nilIface _ _
  refine rcv_nil (fun g => ?_)
  have hbase : Base K (((K'.set (K.length + 1) (.row [.int .i64 0] 0 true)).set (K.length + 2) (.row [.string (bs [])] 0 true)) ++ g) := (((c'.base b1 (by omega)).set (by omega)).set (by omega)).app g
  simp (disch := omega) only [kB, kcx, kdm, kdn, kel, aop, Za, Zb, Zc, reduceCtorEq, Zd, Ze, Zf, Zg, Zh, Zi, Zj, Zk, Zl, Zm, Zn, Zo, Zp, Zq, Zr, Zs, Zt, resK, hget_ne n1, hget_ne n2]
  exact ⟨_, rfl, hbase.ext, .tup2 .int .string, h⟩
end
section
variable {R : FRes → Heap → Prop} {H : Heap}
set_option maxHeartbeats 4000000 in
theorem reserved_s {l : List UInt8} (h : R (.ret (.bool (wordsL.contains l))) H) : WD T 170 [.string (bs l)] H R := by
 refine WD.of follows t170 (by simp) ?_
 by_cases h0 : l = [97, 99, 99, 101, 112, 116]
 ·have q : (l = [97, 99, 99, 101, 112, 116]) = True := eq_true h0
  have hc : wordsL.contains l = true := by rw [h0]; decide
  rw [hc] at h
  simp (disch := omega) only [kB, kcx, kdm, kdn, kel, aop, Za, Zb, Zc, reduceCtorEq, Zd, Ze, Zf, Zg, Zh, Zi, Zj, Zk, Zl, Zm, Zn, Zo, Zp, Zq, Zr, Zs, Zt, q]
  exact h
 by_cases h1 : l = [97, 99, 116, 105, 111, 110]
 ·have q : (l = [97, 99, 116, 105, 111, 110]) = True := eq_true h1
  have hc : wordsL.contains l = true := by rw [h1]; decide
  rw [hc] at h
  simp (disch := omega) only [kB, kcx, kdm, kdn, kel, aop, Za, Zb, Zc, reduceCtorEq, Zd, Ze, Zf, Zg, Zh, Zi, Zj, Zk, Zl, Zm, Zn, Zo, Zp, Zq, Zr, Zs, Zt, h0, q]
  exact h
 by_cases h2 : l = [97, 100, 100]
 ·have q : (l = [97, 100, 100]) = True := eq_true h2
  have hc : wordsL.contains l = true := by rw [h2]; decide
  rw [hc] at h
  simp (disch := omega) only [kB, kcx, kdm, kdn, kel, aop, Za, Zb, Zc, reduceCtorEq, Zd, Ze, Zf, Zg, Zh, Zi, Zj, Zk, Zl, Zm, Zn, Zo, Zp, Zq, Zr, Zs, Zt, h0, h1, q]
  exact h
 by_cases h3 : l = [97, 103, 97, 105, 110]
 ·have q : (l = [97, 103, 97, 105, 110]) = True := eq_true h3
  have hc : wordsL.contains l = true := by rw [h3]; decide
  rw [hc] at h
  simp (disch := omega) only [kB, kcx, kdm, kdn, kel, aop, Za, Zb, Zc, reduceCtorEq, Zd, Ze, Zf, Zg, Zh, Zi, Zj, Zk, Zl, Zm, Zn, Zo, Zp, Zq, Zr, Zs, Zt, h0, h1, h2, q]
  exact h
 by_cases h4 : l = [97, 112, 112, 108, 121]
 ·have q : (l = [97, 112, 112, 108, 121]) = True := eq_true h4
  have hc : wordsL.contains l = true := by rw [h4]; decide
  rw [hc] at h
  simp (disch := omega) only [kB, kcx, kdm, kdn, kel, aop, Za, Zb, Zc, reduceCtorEq, Zd, Ze, Zf, Zg, Zh, Zi, Zj, Zk, Zl, Zm, Zn, Zo, Zp, Zq, Zr, Zs, Zt, h0, h1, h2, h3, q]
  exact h
 by_cases h5 : l = [99, 97, 110]
 ·have q : (l = [99, 97, 110]) = True := eq_true h5
  have hc : wordsL.contains l = true := by rw [h5]; decide
  rw [hc] at h
  simp (disch := omega) only [kB, kcx, kdm, kdn, kel, aop, Za, Zb, Zc, reduceCtorEq, Zd, Ze, Zf, Zg, Zh, Zi, Zj, Zk, Zl, Zm, Zn, Zo, Zp, Zq, Zr, Zs, Zt, h0, h1, h2, h3, h4, q]
  exact h
 by_cases h6 : l = [99, 111, 110, 116, 114, 111, 108]
 ·have q : (l = [99, 111, 110, 116, 114, 111, 108]) = True := eq_true h6
  have hc : wordsL.contains l = true := by rw [h6]; decide
  rw [hc] at h
  simp (disch := omega) only [kB, kcx, kdm, kdn, kel, aop, Za, Zb, Zc, reduceCtorEq, Zd, Ze, Zf, Zg, Zh, Zi, Zj, Zk, Zl, Zm, Zn, Zo, Zp, Zq, Zr, Zs, Zt, h0, h1, h2, h3, h4, h5, q]
  exact h
 by_cases h7 : l = [100, 101, 102, 97, 117, 108, 116]
 ·have q : (l = [100, 101, 102, 97, 117, 108, 116]) = True := eq_true h7
  have hc : wordsL.contains l = true := by rw [h7]; decide
  rw [hc] at h
  simp (disch := omega) only [kB, kcx, kdm, kdn, kel, aop, Za, Zb, Zc, reduceCtorEq, Zd, Ze, Zf, Zg, Zh, Zi, Zj, Zk, Zl, Zm, Zn, Zo, Zp, Zq, Zr, Zs, Zt, h0, h1, h2, h3, h4, h5, h6, q]
  exact h
 by_cases h8 : l = [100, 114, 111, 112]
 ·have q : (l = [100, 114, 111, 112]) = True := eq_true h8
  have hc : wordsL.contains l = true := by rw [h8]; decide
  rw [hc] at h
  simp (disch := omega) only [kB, kcx, kdm, kdn, kel, aop, Za, Zb, Zc, reduceCtorEq, Zd, Ze, Zf, Zg, Zh, Zi, Zj, Zk, Zl, Zm, Zn, Zo, Zp, Zq, Zr, Zs, Zt, h0, h1, h2, h3, h4, h5, h6, h7, q]
  exact h
 by_cases h9 : l = [101, 108, 115, 101]
 ·have q : (l = [101, 108, 115, 101]) = True := eq_true h9
  have hc : wordsL.contains l = true := by rw [h9]; decide
  rw [hc] at h
  simp (disch := omega) only [kB, kcx, kdm, kdn, kel, aop, Za, Zb, Zc, reduceCtorEq, Zd, Ze, Zf, Zg, Zh, Zi, Zj, Zk, Zl, Zm, Zn, Zo, Zp, Zq, Zr, Zs, Zt, h0, h1, h2, h3, h4, h5, h6, h7, h8, q]
  exact h
 by_cases h10 : l = [101, 120, 97, 99, 116]
 ·have q : (l = [101, 120, 97, 99, 116]) = True := eq_true h10
  have hc : wordsL.contains l = true := by rw [h10]; decide
  rw [hc] at h
  simp (disch := omega) only [kB, kcx, kdm, kdn, kel, aop, Za, Zb, Zc, reduceCtorEq, Zd, Ze, Zf, Zg, Zh, Zi, Zj, Zk, Zl, Zm, Zn, Zo, Zp, Zq, Zr, Zs, Zt, h0, h1, h2, h3, h4, h5, h6, h7, h8, h9, q]
  exact h
 by_cases h11 : l = [101, 120, 105, 116]
 ·have q : (l = [101, 120, 105, 116]) = True := eq_true h11
  have hc : wordsL.contains l = true := by rw [h11]; decide
  rw [hc] at h
  simp (disch := omega) only [kB, kcx, kdm, kdn, kel, aop, Za, Zb, Zc, reduceCtorEq, Zd, Ze, Zf, Zg, Zh, Zi, Zj, Zk, Zl, Zm, Zn, Zo, Zp, Zq, Zr, Zs, Zt, h0, h1, h2, h3, h4, h5, h6, h7, h8, h9, h10, q]
  exact h
 by_cases h12 : l = [102, 105, 120, 101, 100]
 ·have q : (l = [102, 105, 120, 101, 100]) = True := eq_true h12
  have hc : wordsL.contains l = true := by rw [h12]; decide
  rw [hc] at h
  simp (disch := omega) only [kB, kcx, kdm, kdn, kel, aop, Za, Zb, Zc, reduceCtorEq, Zd, Ze, Zf, Zg, Zh, Zi, Zj, Zk, Zl, Zm, Zn, Zo, Zp, Zq, Zr, Zs, Zt, h0, h1, h2, h3, h4, h5, h6, h7, h8, h9, h10, h11, q]
  exact h
 by_cases h13 : l = [104, 101, 97, 100, 101, 114]
 ·have q : (l = [104, 101, 97, 100, 101, 114]) = True := eq_true h13
  have hc : wordsL.contains l = true := by rw [h13]; decide
  rw [hc] at h
  simp (disch := omega) only [kB, kcx, kdm, kdn, kel, aop, Za, Zb, Zc, reduceCtorEq, Zd, Ze, Zf, Zg, Zh, Zi, Zj, Zk, Zl, Zm, Zn, Zo, Zp, Zq, Zr, Zs, Zt, h0, h1, h2, h3, h4, h5, h6, h7, h8, h9, h10, h11, h12, q]
  exact h
 by_cases h14 : l = [105, 102]
 ·have q : (l = [105, 102]) = True := eq_true h14
  have hc : wordsL.contains l = true := by rw [h14]; decide
  rw [hc] at h
  simp (disch := omega) only [kB, kcx, kdm, kdn, kel, aop, Za, Zb, Zc, reduceCtorEq, Zd, Ze, Zf, Zg, Zh, Zi, Zj, Zk, Zl, Zm, Zn, Zo, Zp, Zq, Zr, Zs, Zt, h0, h1, h2, h3, h4, h5, h6, h7, h8, h9, h10, h11, h12, h13, q]
  exact h
 by_cases h15 : l = [107, 101, 121]
 ·have q : (l = [107, 101, 121]) = True := eq_true h15
  have hc : wordsL.contains l = true := by rw [h15]; decide
  rw [hc] at h
  simp (disch := omega) only [kB, kcx, kdm, kdn, kel, aop, Za, Zb, Zc, reduceCtorEq, Zd, Ze, Zf, Zg, Zh, Zi, Zj, Zk, Zl, Zm, Zn, Zo, Zp, Zq, Zr, Zs, Zt, h0, h1, h2, h3, h4, h5, h6, h7, h8, h9, h10, h11, h12, h13, h14, q]
  exact h
 by_cases h16 : l = [109, 101, 116, 97]
 ·have q : (l = [109, 101, 116, 97]) = True := eq_true h16
  have hc : wordsL.contains l = true := by rw [h16]; decide
  rw [hc] at h
  simp (disch := omega) only [kB, kcx, kdm, kdn, kel, aop, Za, Zb, Zc, reduceCtorEq, Zd, Ze, Zf, Zg, Zh, Zi, Zj, Zk, Zl, Zm, Zn, Zo, Zp, Zq, Zr, Zs, Zt, h0, h1, h2, h3, h4, h5, h6, h7, h8, h9, h10, h11, h12, h13, h14, h15, q]
  exact h
 by_cases h17 : l = [111, 110]
 ·have q : (l = [111, 110]) = True := eq_true h17
  have hc : wordsL.contains l = true := by rw [h17]; decide
  rw [hc] at h
  simp (disch := omega) only [kB, kcx, kdm, kdn, kel, aop, Za, Zb, Zc, reduceCtorEq, Zd, Ze, Zf, Zg, Zh, Zi, Zj, Zk, Zl, Zm, Zn, Zo, Zp, Zq, Zr, Zs, Zt, h0, h1, h2, h3, h4, h5, h6, h7, h8, h9, h10, h11, h12, h13, h14, h15, h16, q]
  exact h
 by_cases h18 : l = [112, 114, 101, 102, 105, 120]
 ·have q : (l = [112, 114, 101, 102, 105, 120]) = True := eq_true h18
  have hc : wordsL.contains l = true := by rw [h18]; decide
  rw [hc] at h
  simp (disch := omega) only [kB, kcx, kdm, kdn, kel, aop, Za, Zb, Zc, reduceCtorEq, Zd, Ze, Zf, Zg, Zh, Zi, Zj, Zk, Zl, Zm, Zn, Zo, Zp, Zq, Zr, Zs, Zt, h0, h1, h2, h3, h4, h5, h6, h7, h8, h9, h10, h11, h12, h13, h14, h15, h16, h17, q]
  exact h
 by_cases h19 : l = [114, 97, 110, 103, 101]
 ·have q : (l = [114, 97, 110, 103, 101]) = True := eq_true h19
  have hc : wordsL.contains l = true := by rw [h19]; decide
  rw [hc] at h
  simp (disch := omega) only [kB, kcx, kdm, kdn, kel, aop, Za, Zb, Zc, reduceCtorEq, Zd, Ze, Zf, Zg, Zh, Zi, Zj, Zk, Zl, Zm, Zn, Zo, Zp, Zq, Zr, Zs, Zt, h0, h1, h2, h3, h4, h5, h6, h7, h8, h9, h10, h11, h12, h13, h14, h15, h16, h17, h18, q]
  exact h
 by_cases h20 : l = [114, 101, 106, 101, 99, 116]
 ·have q : (l = [114, 101, 106, 101, 99, 116]) = True := eq_true h20
  have hc : wordsL.contains l = true := by rw [h20]; decide
  rw [hc] at h
  simp (disch := omega) only [kB, kcx, kdm, kdn, kel, aop, Za, Zb, Zc, reduceCtorEq, Zd, Ze, Zf, Zg, Zh, Zi, Zj, Zk, Zl, Zm, Zn, Zo, Zp, Zq, Zr, Zs, Zt, h0, h1, h2, h3, h4, h5, h6, h7, h8, h9, h10, h11, h12, h13, h14, h15, h16, h17, h18, h19, q]
  exact h
 by_cases h21 : l = [114, 101, 109, 111, 118, 101]
 ·have q : (l = [114, 101, 109, 111, 118, 101]) = True := eq_true h21
  have hc : wordsL.contains l = true := by rw [h21]; decide
  rw [hc] at h
  simp (disch := omega) only [kB, kcx, kdm, kdn, kel, aop, Za, Zb, Zc, reduceCtorEq, Zd, Ze, Zf, Zg, Zh, Zi, Zj, Zk, Zl, Zm, Zn, Zo, Zp, Zq, Zr, Zs, Zt, h0, h1, h2, h3, h4, h5, h6, h7, h8, h9, h10, h11, h12, h13, h14, h15, h16, h17, h18, h19, h20, q]
  exact h
 by_cases h22 : l = [115, 105, 122, 101]
 ·have q : (l = [115, 105, 122, 101]) = True := eq_true h22
  have hc : wordsL.contains l = true := by rw [h22]; decide
  rw [hc] at h
  simp (disch := omega) only [kB, kcx, kdm, kdn, kel, aop, Za, Zb, Zc, reduceCtorEq, Zd, Ze, Zf, Zg, Zh, Zi, Zj, Zk, Zl, Zm, Zn, Zo, Zp, Zq, Zr, Zs, Zt, h0, h1, h2, h3, h4, h5, h6, h7, h8, h9, h10, h11, h12, h13, h14, h15, h16, h17, h18, h19, h20, h21, q]
  exact h
 by_cases h23 : l = [115, 116, 97, 116, 101]
 ·have q : (l = [115, 116, 97, 116, 101]) = True := eq_true h23
  have hc : wordsL.contains l = true := by rw [h23]; decide
  rw [hc] at h
  simp (disch := omega) only [kB, kcx, kdm, kdn, kel, aop, Za, Zb, Zc, reduceCtorEq, Zd, Ze, Zf, Zg, Zh, Zi, Zj, Zk, Zl, Zm, Zn, Zo, Zp, Zq, Zr, Zs, Zt, h0, h1, h2, h3, h4, h5, h6, h7, h8, h9, h10, h11, h12, h13, h14, h15, h16, h17, h18, h19, h20, h21, h22, q]
  exact h
 by_cases h24 : l = [115, 117, 109]
 ·have q : (l = [115, 117, 109]) = True := eq_true h24
  have hc : wordsL.contains l = true := by rw [h24]; decide
  rw [hc] at h
  simp (disch := omega) only [kB, kcx, kdm, kdn, kel, aop, Za, Zb, Zc, reduceCtorEq, Zd, Ze, Zf, Zg, Zh, Zi, Zj, Zk, Zl, Zm, Zn, Zo, Zp, Zq, Zr, Zs, Zt, h0, h1, h2, h3, h4, h5, h6, h7, h8, h9, h10, h11, h12, h13, h14, h15, h16, h17, h18, h19, h20, h21, h22, h23, q]
  exact h
 by_cases h25 : l = [116, 97, 98, 108, 101]
 ·have q : (l = [116, 97, 98, 108, 101]) = True := eq_true h25
  have hc : wordsL.contains l = true := by rw [h25]; decide
  rw [hc] at h
  simp (disch := omega) only [kB, kcx, kdm, kdn, kel, aop, Za, Zb, Zc, reduceCtorEq, Zd, Ze, Zf, Zg, Zh, Zi, Zj, Zk, Zl, Zm, Zn, Zo, Zp, Zq, Zr, Zs, Zt, h0, h1, h2, h3, h4, h5, h6, h7, h8, h9, h10, h11, h12, h13, h14, h15, h16, h17, h18, h19, h20, h21, h22, h23, h24, q]
  exact h
 by_cases h26 : l = [116, 97, 107, 101]
 ·have q : (l = [116, 97, 107, 101]) = True := eq_true h26
  have hc : wordsL.contains l = true := by rw [h26]; decide
  rw [hc] at h
  simp (disch := omega) only [kB, kcx, kdm, kdn, kel, aop, Za, Zb, Zc, reduceCtorEq, Zd, Ze, Zf, Zg, Zh, Zi, Zj, Zk, Zl, Zm, Zn, Zo, Zp, Zq, Zr, Zs, Zt, h0, h1, h2, h3, h4, h5, h6, h7, h8, h9, h10, h11, h12, h13, h14, h15, h16, h17, h18, h19, h20, h21, h22, h23, h24, h25, q]
  exact h
 by_cases h27 : l = [116, 101, 114, 110, 97, 114, 121]
 ·have q : (l = [116, 101, 114, 110, 97, 114, 121]) = True := eq_true h27
  have hc : wordsL.contains l = true := by rw [h27]; decide
  rw [hc] at h
  simp (disch := omega) only [kB, kcx, kdm, kdn, kel, aop, Za, Zb, Zc, reduceCtorEq, Zd, Ze, Zf, Zg, Zh, Zi, Zj, Zk, Zl, Zm, Zn, Zo, Zp, Zq, Zr, Zs, Zt, h0, h1, h2, h3, h4, h5, h6, h7, h8, h9, h10, h11, h12, h13, h14, h15, h16, h17, h18, h19, h20, h21, h22, h23, h24, h25, h26, q]
  exact h
 by_cases h28 : l = [118, 97, 108, 105, 100]
 ·have q : (l = [118, 97, 108, 105, 100]) = True := eq_true h28
  have hc : wordsL.contains l = true := by rw [h28]; decide
  rw [hc] at h
  simp (disch := omega) only [kB, kcx, kdm, kdn, kel, aop, Za, Zb, Zc, reduceCtorEq, Zd, Ze, Zf, Zg, Zh, Zi, Zj, Zk, Zl, Zm, Zn, Zo, Zp, Zq, Zr, Zs, Zt, h0, h1, h2, h3, h4, h5, h6, h7, h8, h9, h10, h11, h12, h13, h14, h15, h16, h17, h18, h19, h20, h21, h22, h23, h24, h25, h26, h27, q]
  exact h
 have hc : wordsL.contains l = false := by
  cases hq : wordsL.contains l with
  | false => rfl
  | true =>
   rw [List.contains_iff_mem] at hq
   simp only [wordsL, List.mem_cons, List.not_mem_nil, or_false] at hq
   simp only [h0, h1, h2, h3, h4, h5, h6, h7, h8, h9, h10, h11, h12, h13, h14, h15, h16, h17, h18, h19, h20, h21, h22, h23, h24, h25, h26, h27, h28, or_self] at hq
 rw [hc] at h
 simp (disch := omega) only [kB, kcx, kdm, kdn, kel, aop, Za, Zb, Zc, reduceCtorEq, Zd, Ze, Zf, Zg, Zh, Zi, Zj, Zk, Zl, Zm, Zn, Zo, Zp, Zq, Zr, Zs, Zt, h0, h1, h2, h3, h4, h5, h6, h7, h8, h9, h10, h11, h12, h13, h14, h15, h16, h17, h18, h19, h20, h21, h22, h23, h24, h25, h26, h27, h28]
 exact h
end
section
variable {R : FRes → Heap → Prop} {H : Heap}
def rnI (l : List UInt8) (H : Heap) : Nat → Env → Heap → Prop := fun z e K =>
 ∃ i : Nat, i ≤ l.length ∧ z = l.length - i ∧ K = H ∧ (∀ (j : Nat) (c : UInt8), j < i → l[j]? = some c → okC j c.toNat = true) ∧
  (∃ x : Nat → Value, e = [.string (bs l), x 1, x 2, .int .i64 (i : Int), x 4, x 5, x 6, x 7, x 8, x 9, x 10, x 11, x 12, x 13, x 14, x 15, x 16, x 17, x 18, x 19, x 20, x 21, x 22, x 23, x 24, x 25, x 26, x 27, x 28, x 29, x 30, x 31, x 32, x 33, x 34, x 35, x 36, x 37, x 38, x 39, x 40, x 41, x 42, x 43, x 44, x 45, x 46, x 47, x 48, x 49, x 50, x 51, x 52, x 53, x 54, x 55, x 56, x 57, x 58, x 59, x 60])
set_option maxHeartbeats 4000000 in
theorem risName_s {l : List UInt8} (h : R (.ret (.bool (isNm l))) H) : WD T 133 [.string (bs l)] H R := by
 refine WD.of follows t133 (by simp) ?_
 by_cases h0 : l = []
 ·have hf : isNm l = false := by subst h0; rfl
  rw [hf] at h
  subst h0
  simp (disch := omega) only [kB, kcx, kdm, kdn, kel, aop, Za, Zb, Zc, reduceCtorEq, Zd, Ze, Zf, Zg, Zh, Zi, Zj, Zk, Zl, Zm, Zn, Zo, Zp, Zq, Zr, Zs, Zt]
  exact h
 have c2 : ¬ (l.length : Int) < 1 := by
  have := List.length_pos_iff.2 h0
  omega
 by_cases h32 : 32 < l.length
 ·have hf : isNm l = false := by unfold isNm; rw [decide_eq_false (fun q => by omega)]; rfl
  rw [hf] at h
  have c1 : (32 : Int) < (l.length : Int) := by omega
  simp (disch := omega) only [kB, kcx, kdm, kdn, kel, aop, Za, Zb, Zc, reduceCtorEq, Zd, Ze, Zf, Zg, Zh, Zi, Zj, Zk, Zl, Zm, Zn, Zo, Zp, Zq, Zr, Zs, Zt, c2, c1]
  exact h
 have c1 : ¬ (32 : Int) < (l.length : Int) := by omega
 have hlen : decide (l ≠ [] ∧ l.length ≤ 32) = true := decide_eq_true ⟨h0, by omega⟩
 simp (disch := omega) only [kB, kcx, kdm, kdn, kel, aop, Za, Zb, Zc, reduceCtorEq, Zd, Ze, Zf, Zg, Zh, Zi, Zj, Zk, Zl, Zm, Zn, Zo, Zp, Zq, Zr, Zs, Zt, c2, c1]
 refine WLoop.inv (rnI l H) ?_ l.length _ _ ⟨0, Nat.zero_le _, by omega, rfl, fun j c hj => by omega, by exact ex_env rfl⟩
 rintro z e K ⟨i, hi, rfl, rfl, hok, ⟨x, rfl⟩⟩
 by_cases hlt : i < l.length
 ·have c0 : (i : Int) < (l.length : Int) := by omega
  have hg : l[i]? = some l[i] := List.getElem?_eq_getElem hlt
  have w2 : IntKind.i64.wrap ((i : Int) + 1) = ((i + 1 : Nat) : Int) := wI (by omega)
  have next : okC i (l[i]).toNat = true → ∀ e : Env, (∃ x : Nat → Value, e = [.string (bs l), x 1, x 2, .int .i64 ((i + 1 : Nat) : Int), x 4, x 5, x 6, x 7, x 8, x 9, x 10, x 11, x 12, x 13, x 14, x 15, x 16, x 17, x 18, x 19, x 20, x 21, x 22, x 23, x 24, x 25, x 26, x 27, x 28, x 29, x 30, x 31, x 32, x 33, x 34, x 35, x 36, x 37, x 38, x 39, x 40, x 41, x 42, x 43, x 44, x 45, x 46, x 47, x 48, x 49, x 50, x 51, x 52, x 53, x 54, x 55, x 56, x 57, x 58, x 59, x 60]) → ∃ m, m < l.length - i ∧ rnI l K m e K := fun ho e he => by
   refine ⟨l.length - (i + 1), by omega, i + 1, by omega, rfl, rfl, fun j c hj hc => ?_, he⟩
   by_cases hji : j = i
   ·subst hji; rw [hg] at hc; cases hc; exact ho
   ·exact hok j c (by omega) hc
  have bad : okC i (l[i]).toNat = false → R (.ret (.bool false)) K := fun ho => by
   have hf : isNm l = false := by
    have : okFrom 0 l = false := by
     cases hq : okFrom 0 l with
     | false => rfl
     | true =>
      have := (okFrom_iff l 0).1 hq i l[i] hg
      rw [Nat.zero_add, ho] at this
      cases this
    unfold isNm
    rw [this, Bool.and_false, Bool.false_and]
   rw [hf] at h
   exact h
  by_cases a1 : 97 ≤ l[i].toNat
  ·by_cases a2 : l[i].toNat ≤ 122
   ·have xa1 : (97 : Int) ≤ ((l[i].toNat : Nat) : Int) := by omega
    have xa2 : ((l[i].toNat : Nat) : Int) ≤ 122 := by omega
    have xe1 : (48 : Int) ≤ ((l[i].toNat : Nat) : Int) := by omega
    have xe2 : ¬ ((l[i].toNat : Nat) : Int) ≤ 57 := by omega
    have xe3 : (((l[i].toNat : Nat) : Int) = 95) = False := eq_false (by omega)
    simp (disch := omega) only [kB, kcx, kdm, kdn, kel, aop, Za, Zb, Zc, reduceCtorEq, Zd, Ze, Zf, Zg, Zh, Zi, Zj, Zk, Zl, Zm, Zn, Zo, Zp, Zq, Zr, Zs, Zt, c0, hg, xa1, xa2, xe1, xe2, xe3, w2]
    exact next (by unfold okC smallC; simp [a1, a2]) _ (by exact ex_env rfl)
   ·have xa1 : (97 : Int) ≤ ((l[i].toNat : Nat) : Int) := by omega
    have xa2 : ¬ ((l[i].toNat : Nat) : Int) ≤ 122 := by omega
    have xe1 : (48 : Int) ≤ ((l[i].toNat : Nat) : Int) := by omega
    have xe2 : ¬ ((l[i].toNat : Nat) : Int) ≤ 57 := by omega
    have xe3 : (((l[i].toNat : Nat) : Int) = 95) = False := eq_false (by omega)
    by_cases i0 : i = 0
    ·have z0 : ((i : Int) = 0) = True := eq_true (by omega)
     simp (disch := omega) only [kB, kcx, kdm, kdn, kel, aop, Za, Zb, Zc, reduceCtorEq, Zd, Ze, Zf, Zg, Zh, Zi, Zj, Zk, Zl, Zm, Zn, Zo, Zp, Zq, Zr, Zs, Zt, c0, hg, xa1, xa2, xe1, xe2, xe3, z0]
     exact bad (by unfold okC; rw [show smallC l[i].toNat = false from decide_eq_false (by omega), decide_eq_false (show ¬ i ≠ 0 from fun q => q i0)]; rfl)
    ·have z0 : ((i : Int) = 0) = False := eq_false (by omega)
     simp (disch := omega) only [kB, kcx, kdm, kdn, kel, aop, Za, Zb, Zc, reduceCtorEq, Zd, Ze, Zf, Zg, Zh, Zi, Zj, Zk, Zl, Zm, Zn, Zo, Zp, Zq, Zr, Zs, Zt, c0, hg, xa1, xa2, xe1, xe2, xe3, z0]
     exact bad (by unfold okC; rw [show smallC l[i].toNat = false from decide_eq_false (by omega), decide_eq_false (show ¬ l[i].toNat = 95 by omega), decide_eq_false (show ¬ (48 ≤ l[i].toNat ∧ l[i].toNat ≤ 57) by omega)]; simp)
  by_cases d1 : l[i].toNat = 95
  ·have xa1 : ¬ (97 : Int) ≤ ((l[i].toNat : Nat) : Int) := by omega
   have xe1 : (48 : Int) ≤ ((l[i].toNat : Nat) : Int) := by omega
   have xe2 : ¬ ((l[i].toNat : Nat) : Int) ≤ 57 := by omega
   have xe3 : (((l[i].toNat : Nat) : Int) = 95) = True := eq_true (by omega)
   by_cases i0 : i = 0
   ·have z0 : ((i : Int) = 0) = True := eq_true (by omega)
    simp (disch := omega) only [kB, kcx, kdm, kdn, kel, aop, Za, Zb, Zc, reduceCtorEq, Zd, Ze, Zf, Zg, Zh, Zi, Zj, Zk, Zl, Zm, Zn, Zo, Zp, Zq, Zr, Zs, Zt, c0, hg, xa1, xe1, xe2, xe3, z0]
    exact bad (by unfold okC; rw [show smallC l[i].toNat = false from decide_eq_false (by omega), decide_eq_false (show ¬ i ≠ 0 from fun q => q i0)]; rfl)
   ·have z0 : ((i : Int) = 0) = False := eq_false (by omega)
    simp (disch := omega) only [kB, kcx, kdm, kdn, kel, aop, Za, Zb, Zc, reduceCtorEq, Zd, Ze, Zf, Zg, Zh, Zi, Zj, Zk, Zl, Zm, Zn, Zo, Zp, Zq, Zr, Zs, Zt, c0, hg, xa1, xe1, xe2, xe3, z0, w2]
    exact next (by unfold okC; rw [decide_eq_true (show i ≠ 0 from i0), decide_eq_true (show l[i].toNat = 95 by omega)]; simp) _ (by exact ex_env rfl)
  by_cases d2 : l[i].toNat < 48
  ·have xa1 : ¬ (97 : Int) ≤ ((l[i].toNat : Nat) : Int) := by omega
   have xe1 : ¬ (48 : Int) ≤ ((l[i].toNat : Nat) : Int) := by omega
   have xe3 : (((l[i].toNat : Nat) : Int) = 95) = False := eq_false (by omega)
   by_cases i0 : i = 0
   ·have z0 : ((i : Int) = 0) = True := eq_true (by omega)
    simp (disch := omega) only [kB, kcx, kdm, kdn, kel, aop, Za, Zb, Zc, reduceCtorEq, Zd, Ze, Zf, Zg, Zh, Zi, Zj, Zk, Zl, Zm, Zn, Zo, Zp, Zq, Zr, Zs, Zt, c0, hg, xa1, xe1, xe3, z0]
    exact bad (by unfold okC; rw [show smallC l[i].toNat = false from decide_eq_false (by omega), decide_eq_false (show ¬ i ≠ 0 from fun q => q i0)]; rfl)
   ·have z0 : ((i : Int) = 0) = False := eq_false (by omega)
    simp (disch := omega) only [kB, kcx, kdm, kdn, kel, aop, Za, Zb, Zc, reduceCtorEq, Zd, Ze, Zf, Zg, Zh, Zi, Zj, Zk, Zl, Zm, Zn, Zo, Zp, Zq, Zr, Zs, Zt, c0, hg, xa1, xe1, xe3, z0]
    exact bad (by unfold okC; rw [show smallC l[i].toNat = false from decide_eq_false (by omega), decide_eq_false (show ¬ l[i].toNat = 95 by omega), decide_eq_false (show ¬ (48 ≤ l[i].toNat ∧ l[i].toNat ≤ 57) by omega)]; simp)
  by_cases d3 : l[i].toNat ≤ 57
  ·have xa1 : ¬ (97 : Int) ≤ ((l[i].toNat : Nat) : Int) := by omega
   have xe1 : (48 : Int) ≤ ((l[i].toNat : Nat) : Int) := by omega
   have xe2 : ((l[i].toNat : Nat) : Int) ≤ 57 := by omega
   by_cases i0 : i = 0
   ·have z0 : ((i : Int) = 0) = True := eq_true (by omega)
    simp (disch := omega) only [kB, kcx, kdm, kdn, kel, aop, Za, Zb, Zc, reduceCtorEq, Zd, Ze, Zf, Zg, Zh, Zi, Zj, Zk, Zl, Zm, Zn, Zo, Zp, Zq, Zr, Zs, Zt, c0, hg, xa1, xe1, xe2, z0]
    exact bad (by unfold okC; rw [show smallC l[i].toNat = false from decide_eq_false (by omega), decide_eq_false (show ¬ i ≠ 0 from fun q => q i0)]; rfl)
   ·have z0 : ((i : Int) = 0) = False := eq_false (by omega)
    simp (disch := omega) only [kB, kcx, kdm, kdn, kel, aop, Za, Zb, Zc, reduceCtorEq, Zd, Ze, Zf, Zg, Zh, Zi, Zj, Zk, Zl, Zm, Zn, Zo, Zp, Zq, Zr, Zs, Zt, c0, hg, xa1, xe1, xe2, z0, w2]
    exact next (by unfold okC; rw [decide_eq_true (show i ≠ 0 from i0), decide_eq_true (show 48 ≤ l[i].toNat ∧ l[i].toNat ≤ 57 by omega)]; simp) _ (by exact ex_env rfl)
  have xa1 : ¬ (97 : Int) ≤ ((l[i].toNat : Nat) : Int) := by omega
  have xe1 : (48 : Int) ≤ ((l[i].toNat : Nat) : Int) := by omega
  have xe2 : ¬ ((l[i].toNat : Nat) : Int) ≤ 57 := by omega
  have xe3 : (((l[i].toNat : Nat) : Int) = 95) = False := eq_false (by omega)
  by_cases i0 : i = 0
  ·have z0 : ((i : Int) = 0) = True := eq_true (by omega)
   simp (disch := omega) only [kB, kcx, kdm, kdn, kel, aop, Za, Zb, Zc, reduceCtorEq, Zd, Ze, Zf, Zg, Zh, Zi, Zj, Zk, Zl, Zm, Zn, Zo, Zp, Zq, Zr, Zs, Zt, c0, hg, xa1, xe1, xe2, xe3, z0]
   exact bad (by unfold okC; rw [show smallC l[i].toNat = false from decide_eq_false (by omega), decide_eq_false (show ¬ i ≠ 0 from fun q => q i0)]; rfl)
  ·have z0 : ((i : Int) = 0) = False := eq_false (by omega)
   simp (disch := omega) only [kB, kcx, kdm, kdn, kel, aop, Za, Zb, Zc, reduceCtorEq, Zd, Ze, Zf, Zg, Zh, Zi, Zj, Zk, Zl, Zm, Zn, Zo, Zp, Zq, Zr, Zs, Zt, c0, hg, xa1, xe1, xe2, xe3, z0]
   exact bad (by unfold okC; rw [show smallC l[i].toNat = false from decide_eq_false (by omega), decide_eq_false (show ¬ l[i].toNat = 95 by omega), decide_eq_false (show ¬ (48 ≤ l[i].toNat ∧ l[i].toNat ≤ 57) by omega)]; simp)
 ·have c0 : ¬ (i : Int) < (l.length : Int) := by omega
  have hall : okFrom 0 l = true := (okFrom_iff l 0).2 fun j c hc => by
   rw [Nat.zero_add]
   have := (List.getElem?_eq_some_iff.1 hc).1
   exact hok j c (by omega) hc
  have hc : isNm l = !wordsL.contains l := by
   unfold isNm
   rw [hlen, hall]
   rfl
  rw [hc] at h
  simp (disch := omega) only [kB, kcx, kdm, kdn, kel, aop, Za, Zb, Zc, reduceCtorEq, Zd, Ze, Zf, Zg, Zh, Zi, Zj, Zk, Zl, Zm, Zn, Zo, Zp, Zq, Zr, Zs, Zt, c0]
  refine reserved_s ?_
  simp (disch := omega) only [kB, kcx, kdm, kdn, kel, aop, Za, Zb, Zc, reduceCtorEq, Zd, Ze, Zf, Zg, Zh, Zi, Zj, Zk, Zl, Zm, Zn, Zo, Zp, Zq, Zr, Zs, Zt]
  exact h
end
section
variable {R : FRes → Heap → Prop} {H K : Heap}
/-- An error as a number; 0: none. -/
def eI (o : Option Int) : Int := o.getD 0
theorem eI_none : eI none = 0 := rfl
theorem eI_some (e : Int) : eI (some e) = e := rfl
theorem zref_s {r : Rf} (h : R (.ret (.bool (decide (r = Rf.zero)))) K) : WD T 172 [.agg r.cells.toArray] K R := by
 refine WD.gc0 (WD.of follows t172 (by simp) ?_)
 simp only [Rf.cells]
 have key : (r = Rf.zero) ↔ r.head = [] ∧ r.name = [] := by cases r; simp [Rf.zero]
 by_cases c1 : r.head = []
 ·by_cases c2 : r.name = []
  ·rw [decide_eq_true (key.2 ⟨c1, c2⟩)] at h
   simp (disch := omega) only [kB, kcx, kdm, kdn, kel, aop, Za, Zb, Zc, reduceCtorEq, Zd, Ze, Zf, Zg, Zh, Zi, Zj, Zk, Zl, Zm, Zn, Zo, Zp, Zq, Zr, Zs, Zt, decide_eq_true c1, decide_eq_true c2]
   exact ⟨_, rfl, ⟨_, rfl⟩, .bool, h⟩
  ·rw [decide_eq_false (fun q => c2 (key.1 q).2)] at h
   simp (disch := omega) only [kB, kcx, kdm, kdn, kel, aop, Za, Zb, Zc, reduceCtorEq, Zd, Ze, Zf, Zg, Zh, Zi, Zj, Zk, Zl, Zm, Zn, Zo, Zp, Zq, Zr, Zs, Zt, decide_eq_true c1, decide_eq_false c2]
   exact ⟨_, rfl, ⟨_, rfl⟩, .bool, h⟩
 ·rw [decide_eq_false (fun q => c1 (key.1 q).1)] at h
  simp (disch := omega) only [kB, kcx, kdm, kdn, kel, aop, Za, Zb, Zc, reduceCtorEq, Zd, Ze, Zf, Zg, Zh, Zi, Zj, Zk, Zl, Zm, Zn, Zo, Zp, Zq, Zr, Zs, Zt, decide_eq_false c1]
  exact ⟨_, rfl, ⟨_, rfl⟩, .bool, h⟩
theorem zbits_s {b : Bt} (h : R (.ret (.bool (decide (b = Bt.zero)))) K) : WD T 194 [.agg b.cells.toArray] K R := by
 refine WD.gc0 (WD.of follows t194 (by simp) ?_)
 simp only [Bt.cells]
 have key : (b = Bt.zero) ↔ b.hi = 0 ∧ b.lo = 0 := by cases b; simp [Bt.zero]
 by_cases c1 : b.hi = 0
 ·have c1' : ((b.hi : Int) = 0) = True := eq_true (by omega)
  by_cases c2 : b.lo = 0
  ·have c2' : ((b.lo : Int) = 0) = True := eq_true (by omega)
   rw [decide_eq_true (key.2 ⟨c1, c2⟩)] at h
   simp (disch := omega) only [kB, kcx, kdm, kdn, kel, aop, Za, Zb, Zc, reduceCtorEq, Zd, Ze, Zf, Zg, Zh, Zi, Zj, Zk, Zl, Zm, Zn, Zo, Zp, Zq, Zr, Zs, Zt, c1', c2']
   exact ⟨_, rfl, ⟨_, rfl⟩, .bool, h⟩
  ·have c2' : ((b.lo : Int) = 0) = False := eq_false (by omega)
   rw [decide_eq_false (fun q => c2 (key.1 q).2)] at h
   simp (disch := omega) only [kB, kcx, kdm, kdn, kel, aop, Za, Zb, Zc, reduceCtorEq, Zd, Ze, Zf, Zg, Zh, Zi, Zj, Zk, Zl, Zm, Zn, Zo, Zp, Zq, Zr, Zs, Zt, c1', c2']
   exact ⟨_, rfl, ⟨_, rfl⟩, .bool, h⟩
 ·have c1' : ((b.hi : Int) = 0) = False := eq_false (by omega)
  rw [decide_eq_false (fun q => c1 (key.1 q).1)] at h
  simp (disch := omega) only [kB, kcx, kdm, kdn, kel, aop, Za, Zb, Zc, reduceCtorEq, Zd, Ze, Zf, Zg, Zh, Zi, Zj, Zk, Zl, Zm, Zn, Zo, Zp, Zq, Zr, Zs, Zt, c1']
  exact ⟨_, rfl, ⟨_, rfl⟩, .bool, h⟩
theorem opd_zero (o : Opd) : (o = Opd.zero) ↔ o.ref = Rf.zero ∧ o.const = Bt.zero := by
 obtain ⟨⟨a, b⟩, ⟨c, d⟩⟩ := o
 simp [Opd.zero, Rf.zero, Bt.zero]
theorem zopd_s {o : Opd} (h : R (.ret (.bool (decide (o = Opd.zero)))) K) : WD T 192 [.agg o.cells.toArray] K R := by
 refine WD.gc0 (WD.of follows t192 (by simp) ?_)
 simp only [Opd.cells]
 simp (disch := omega) only [kB, kcx, kdm, kdn, kel, aop, Za, Zb, Zc, reduceCtorEq, Zd, Ze, Zf, Zg, Zh, Zi, Zj, Zk, Zl, Zm, Zn, Zo, Zp, Zq, Zr, Zs, Zt]
 refine zref_s (r := o.ref) ?_
 simp (disch := omega) only [kB, kcx, kdm, kdn, kel, aop, Za, Zb, Zc, reduceCtorEq, Zd, Ze, Zf, Zg, Zh, Zi, Zj, Zk, Zl, Zm, Zn, Zo, Zp, Zq, Zr, Zs, Zt]
 refine zbits_s (b := o.const) ?_
 by_cases c1 : o.ref = Rf.zero
 ·by_cases c2 : o.const = Bt.zero
  ·rw [decide_eq_true ((opd_zero o).2 ⟨c1, c2⟩)] at h
   simp (disch := omega) only [kB, kcx, kdm, kdn, kel, aop, Za, Zb, Zc, reduceCtorEq, Zd, Ze, Zf, Zg, Zh, Zi, Zj, Zk, Zl, Zm, Zn, Zo, Zp, Zq, Zr, Zs, Zt, decide_eq_true c1, decide_eq_true c2]
   exact ⟨_, rfl, ⟨_, rfl⟩, .bool, h⟩
  ·rw [decide_eq_false (fun q => c2 ((opd_zero o).1 q).2)] at h
   simp (disch := omega) only [kB, kcx, kdm, kdn, kel, aop, Za, Zb, Zc, reduceCtorEq, Zd, Ze, Zf, Zg, Zh, Zi, Zj, Zk, Zl, Zm, Zn, Zo, Zp, Zq, Zr, Zs, Zt, decide_eq_true c1, decide_eq_false c2]
   exact ⟨_, rfl, ⟨_, rfl⟩, .bool, h⟩
 ·rw [decide_eq_false (fun q => c1 ((opd_zero o).1 q).1)] at h
  simp (disch := omega) only [kB, kcx, kdm, kdn, kel, aop, Za, Zb, Zc, reduceCtorEq, Zd, Ze, Zf, Zg, Zh, Zi, Zj, Zk, Zl, Zm, Zn, Zo, Zp, Zq, Zr, Zs, Zt, decide_eq_false c1]
  exact ⟨_, rfl, ⟨_, rfl⟩, .bool, h⟩
theorem rplain_s {o : Opd} (h : R (.ret (.bool (plainO o))) K) : WD T 193 [.agg o.cells.toArray] K R := by
 refine WD.gc0 (WD.of follows t193 (by simp) ?_)
 simp only [Opd.cells]
 unfold plainO at h
 simp (disch := omega) only [kB, kcx, kdm, kdn, kel, aop, Za, Zb, Zc, reduceCtorEq, Zd, Ze, Zf, Zg, Zh, Zi, Zj, Zk, Zl, Zm, Zn, Zo, Zp, Zq, Zr, Zs, Zt]
 refine zref_s (r := o.ref) ?_
 simp (disch := omega) only [kB, kcx, kdm, kdn, kel, aop, Za, Zb, Zc, reduceCtorEq, Zd, Ze, Zf, Zg, Zh, Zi, Zj, Zk, Zl, Zm, Zn, Zo, Zp, Zq, Zr, Zs, Zt]
 refine zbits_s (b := o.const) ?_
 by_cases c1 : o.ref = Rf.zero
 ·rw [decide_eq_true c1, Bool.true_or] at h
  simp (disch := omega) only [kB, kcx, kdm, kdn, kel, aop, Za, Zb, Zc, reduceCtorEq, Zd, Ze, Zf, Zg, Zh, Zi, Zj, Zk, Zl, Zm, Zn, Zo, Zp, Zq, Zr, Zs, Zt, decide_eq_true c1]
  exact ⟨_, rfl, ⟨_, rfl⟩, .bool, h⟩
 ·rw [decide_eq_false c1, Bool.false_or] at h
  simp (disch := omega) only [kB, kcx, kdm, kdn, kel, aop, Za, Zb, Zc, reduceCtorEq, Zd, Ze, Zf, Zg, Zh, Zi, Zj, Zk, Zl, Zm, Zn, Zo, Zp, Zq, Zr, Zs, Zt, decide_eq_false c1]
  exact ⟨_, rfl, ⟨_, rfl⟩, .bool, h⟩
/-- Does an operand of that width (0: a constant) agree with another width? -/
def agreesV (o : Opd) (w w2 : Int) : Bool := if w = 0 then fitsV o.const w2 else decide (w = w2)
theorem agrees_s {o : Opd} (hO : o.OK) {w w2 : Int} (hw : I64 w2) (h : R (.ret (.bool (agreesV o w w2))) K) : WD T 183 [.agg o.cells.toArray, .int .i64 w, .int .i64 w2] K R := by
 refine WD.gc0 (WD.of follows t183 (by simp) ?_)
 simp only [Opd.cells]
 by_cases c1 : w = 0
 ·have c1' : (w = 0) = True := eq_true c1
  rw [agreesV, if_pos c1] at h
  simp (disch := omega) only [kB, kcx, kdm, kdn, kel, aop, Za, Zb, Zc, reduceCtorEq, Zd, Ze, Zf, Zg, Zh, Zi, Zj, Zk, Zl, Zm, Zn, Zo, Zp, Zq, Zr, Zs, Zt, c1']
  refine rfits_s (b := o.const) hO hw ?_
  simp (disch := omega) only [kB, kcx, kdm, kdn, kel, aop, Za, Zb, Zc, reduceCtorEq, Zd, Ze, Zf, Zg, Zh, Zi, Zj, Zk, Zl, Zm, Zn, Zo, Zp, Zq, Zr, Zs, Zt]
  exact ⟨_, rfl, ⟨_, rfl⟩, .bool, h⟩
 ·have c1' : (w = 0) = False := eq_false c1
  rw [agreesV, if_neg c1] at h
  simp (disch := omega) only [kB, kcx, kdm, kdn, kel, aop, Za, Zb, Zc, reduceCtorEq, Zd, Ze, Zf, Zg, Zh, Zi, Zj, Zk, Zl, Zm, Zn, Zo, Zp, Zq, Zr, Zs, Zt, c1']
  exact ⟨_, rfl, ⟨_, rfl⟩, .bool, h⟩
/-- An operand's width. -/
def opwV (s : Sch) (ps : List Fld) (o : Opd) : Int := if o.ref = Rf.zero then 0 else rwV (opdF s ps o)
theorem opw_s {s : Sch} {pv : Value} {ps : List Fld} {o : Opd} (hs : s.OK H) (hp : FldL H pv ps) (hb : Base H K) (h : R (.ret (.tuple #[.int .i64 (opwV s ps o), .bool (opdOK s ps o)])) K) : WD T 182 [.agg s.cells.toArray, pv, .agg o.cells.toArray] K R := by
 refine WD.gc0 (WD.of follows t182 (by simp) ?_)
 obtain ⟨o0, o1, o2, o3, o4, o5⟩ := hs.one
 simp only [Opd.cells, Sch.cells]
 simp (disch := omega) only [kB, kcx, kdm, kdn, kel, aop, Za, Zb, Zc, reduceCtorEq, Zd, Ze, Zf, Zg, Zh, Zi, Zj, Zk, Zl, Zm, Zn, Zo, Zp, Zq, Zr, Zs, Zt, o0, o1, o2, o3, o4, o5]
 refine zref_s (r := o.ref) ?_
 unfold opwV opdOK at h
 have sc : ∀ (a : Int) (b : Bool), Scoped K.length (.tuple #[.int .i64 a, .bool b]) := fun a b => .tup2 .int .bool
 by_cases c1 : o.ref = Rf.zero
 ·rw [if_pos c1, decide_eq_true c1, Bool.true_or] at h
  simp (disch := omega) only [kB, kcx, kdm, kdn, kel, aop, Za, Zb, Zc, reduceCtorEq, Zd, Ze, Zf, Zg, Zh, Zi, Zj, Zk, Zl, Zm, Zn, Zo, Zp, Zq, Zr, Zs, Zt, decide_eq_true c1]
  exact ⟨_, rfl, ⟨_, rfl⟩, sc _ _, h⟩
 ·rw [if_neg c1, decide_eq_false c1, Bool.false_or] at h
  by_cases c2 : o.ref.head = []
  ·rw [opdF, if_pos c2] at h
   simp (disch := omega) only [kB, kcx, kdm, kdn, kel, aop, Za, Zb, Zc, reduceCtorEq, Zd, Ze, Zf, Zg, Zh, Zi, Zj, Zk, Zl, Zm, Zn, Zo, Zp, Zq, Zr, Zs, Zt, decide_eq_false c1, decide_eq_true c2]
   refine rfield_s hp (hb.app _) ?_
   rcases named_cases Fld.name ps o.ref.name with ⟨e2, e3⟩ | ⟨j, hj, e2, e3, _⟩
   ·rw [e3] at h
    rw [e2]
    simp (disch := omega) only [kB, kcx, kdm, kdn, kel, aop, Za, Zb, Zc, reduceCtorEq, Zd, Ze, Zf, Zg, Zh, Zi, Zj, Zk, Zl, Zm, Zn, Zo, Zp, Zq, Zr, Zs, Zt]
    exact ⟨_, rfl, ⟨_, rfl⟩, sc _ _, h⟩
   ·rw [e3] at h
    rw [e2]
    obtain ⟨ad, hv⟩ := hp.1.sl
    rw [List.length_map] at hv
    subst hv
    obtain ⟨b, u0, w0, rfl, p1, p2, p3, p4, p5⟩ := hp.1.at Fld.len hj
    have prow := hb.rowc p2
    have lb := hget_lt prow rfl
    have c5 : (j : Int) < (ps.length : Int) := by omega
    have c6 : ¬ (j : Int) < 0 := by omega
    have h1 := p5 1 (by decide)
    simp only [Fld.cells, List.getElem?_cons_succ, List.getElem?_cons_zero] at h1
    simp (disch := omega) only [kB, kcx, kdm, kdn, kel, aop, Za, Zb, Zc, reduceCtorEq, Zd, Ze, Zf, Zg, Zh, Zi, Zj, Zk, Zl, Zm, Zn, Zo, Zp, Zq, Zr, Zs, Zt, prow, h1, c5, c6]
    exact ⟨_, rfl, ⟨_, rfl⟩, sc _ _, h⟩
  ·rw [opdF, if_neg c2] at h
   simp (disch := omega) only [kB, kcx, kdm, kdn, kel, aop, Za, Zb, Zc, reduceCtorEq, Zd, Ze, Zf, Zg, Zh, Zi, Zj, Zk, Zl, Zm, Zn, Zo, Zp, Zq, Zr, Zs, Zt, decide_eq_false c1, decide_eq_false c2]
   refine rwide_s (r := o.ref) hs (hb.app _) ?_
   simp (disch := omega) only [kB, kcx, kdm, kdn, kel, aop, Za, Zb, Zc, reduceCtorEq, Zd, Ze, Zf, Zg, Zh, Zi, Zj, Zk, Zl, Zm, Zn, Zo, Zp, Zq, Zr, Zs, Zt]
   exact ⟨_, rfl, ⟨_, rfl⟩, sc _ _, h⟩
def rfpI (K : Heap) (ad : Option Addr) (t : List UInt8) (l : List Fld) (n : Nat) : Nat → Env → Heap → Prop := fun z e K' =>
 ∃ i : Nat, i ≤ n ∧ z = n - i ∧ K' = K ∧ ixT t ((l.take n).map Fld.name) 0 = ixT t (((l.take n).map Fld.name).drop i) i ∧ (∃ x : Nat → Value, e = [.slice ad n l.length, .string (bs t), x 2, x 3, x 4, .int .i64 (i : Int), x 6, x 7, x 8, x 9, x 10, x 11, x 12, x 13, x 14, x 15, x 16, x 17, x 18, x 19])
/-- A beginning of a list. -/
theorem rfieldp_s {ad : Option Addr} {l : List Fld} {n : Nat} (hr : RoSl H (.slice ad l.length l.length) (l.map Fld.cells)) (hn : few 24 l.length) (hb : Base H K) (hnl : n ≤ l.length) {t : List UInt8} (h : R (.ret (.int .i64 (ixT t ((l.take n).map Fld.name) 0))) K) : WD T 171 [.slice ad n l.length, .string (bs t)] K R := by
 refine WD.of follows t171 (by simp) ?_
 unfold few at hn
 simp (disch := omega) only [kB, kcx, kdm, kdn, kel, aop, Za, Zb, Zc, reduceCtorEq, Zd, Ze, Zf, Zg, Zh, Zi, Zj, Zk, Zl, Zm, Zn, Zo, Zp, Zq, Zr, Zs, Zt]
 refine WLoop.inv (rfpI K ad t l n) ?_ n _ _ ⟨0, Nat.zero_le _, by omega, rfl, by simp, by exact ex_env rfl⟩
 rintro z e K' ⟨i, hi, rfl, rfl, hx, ⟨x, rfl⟩⟩
 by_cases hlt : i < n
 ·have c0 : (i : Int) < (n : Int) := by omega
  have hil : i < l.length := by omega
  obtain ⟨b, u0, w0, rfl, hbl, hrow0, _, _, hat⟩ := hr.at Fld.len hil
  have hrow : hget K' b = .row (l.map Fld.cells).flatten u0 w0 := by rw [hb.2 b hbl]; exact hrow0
  have h0 := hat 0 (by decide)
  have w2 : IntKind.i64.wrap ((i : Int) + 1) = ((i + 1 : Nat) : Int) := wI (by omega)
  rw [ixT_drop (by simp; omega), List.getElem_map, List.getElem_take] at hx
  generalize l[i] = x at *
  simp only [Fld.cells, List.getElem?_cons_zero, Nat.add_zero] at h0
  by_cases he : x.name = t
  ·rw [if_pos he] at hx
   rw [hx] at h
   simp (disch := omega) only [kB, kcx, kdm, kdn, kel, aop, Za, Zb, Zc, reduceCtorEq, Zd, Ze, Zf, Zg, Zh, Zi, Zj, Zk, Zl, Zm, Zn, Zo, Zp, Zq, Zr, Zs, Zt, c0, hrow, h0, decide_eq_true he]
   exact h
  ·rw [if_neg he] at hx
   simp (disch := omega) only [kB, kcx, kdm, kdn, kel, aop, Za, Zb, Zc, reduceCtorEq, Zd, Ze, Zf, Zg, Zh, Zi, Zj, Zk, Zl, Zm, Zn, Zo, Zp, Zq, Zr, Zs, Zt, c0, hrow, h0, decide_eq_false he, w2]
   exact ⟨n - (i + 1), by omega, i + 1, by omega, rfl, rfl, hx, by exact ex_env rfl⟩
 ·have c0 : ¬ (i : Int) < (n : Int) := by omega
  rw [ixT_end (by simp; omega)] at hx
  rw [hx] at h
  simp (disch := omega) only [kB, kcx, kdm, kdn, kel, aop, Za, Zb, Zc, reduceCtorEq, Zd, Ze, Zf, Zg, Zh, Zi, Zj, Zk, Zl, Zm, Zn, Zo, Zp, Zq, Zr, Zs, Zt, c0]
  exact h
def rflI (K : Heap) (v : Value) (l : List Fld) : Nat → Env → Heap → Prop := fun z e K' =>
 ∃ i : Nat, i ≤ l.length ∧ z = l.length - i ∧ Base K K' ∧ fieldsE [] l = fieldsE ((l.take i).map Fld.name) (l.drop i) ∧ (∃ x : Nat → Value, e = [v, x 1, x 2, .int .i64 (i : Int), x 4, x 5, x 6, x 7, x 8, x 9, x 10, x 11, x 12, x 13, x 14, x 15, x 16, x 17, x 18, x 19, x 20, x 21, x 22, x 23, x 24, x 25, x 26, x 27, x 28, x 29, x 30, x 31, x 32, x 33, x 34, x 35, x 36, x 37, x 38, x 39, x 40, x 41, x 42])
set_option maxHeartbeats 1000000 in
theorem rfields_s {v : Value} {l : List Fld} (hl : FldL H v l) (hb : Base H K) (h : R (.ret (.int .i64 (eI (fieldsE [] l)))) K) : WD T 134 [v] K R := by
 refine WD.gc0 (WD.of follows t134 (by simp) ?_)
 obtain ⟨hr, hn, _⟩ := hl
 have hn' := hn
 unfold few at hn'
 obtain ⟨ad, rfl⟩ := hr.sl
 rw [List.length_map] at hr ⊢
 simp (disch := omega) only [kB, kcx, kdm, kdn, kel, aop, Za, Zb, Zc, reduceCtorEq, Zd, Ze, Zf, Zg, Zh, Zi, Zj, Zk, Zl, Zm, Zn, Zo, Zp, Zq, Zr, Zs, Zt]
 refine WLoop.inv (rflI K (.slice ad l.length l.length) l) ?_ l.length _ _ ⟨0, Nat.zero_le _, by omega, Base.refl, rfl, by exact ex_env rfl⟩
 rintro z e K' ⟨i, hi, rfl, bK, hx, ⟨x, rfl⟩⟩
 by_cases hlt : i < l.length
 ·have c1 : (i : Int) < (l.length : Int) := by omega
  have c1' : (i : Int) ≤ (l.length : Int) := by omega
  obtain ⟨b, u0, w0, rfl, p1, p2, p3, p4, p5⟩ := hr.at Fld.len hlt
  have hbK := hb.trans bK
  have prow := hbK.rowc p2
  have w2 : IntKind.i64.wrap ((i : Int) + 1) = ((i + 1 : Nat) : Int) := wI (by omega)
  have htk := take_map Fld.name hlt
  have h0 := p5 0 (by decide)
  have h1 := p5 1 (by decide)
  rw [List.drop_eq_getElem_cons hlt, fieldsE] at hx
  generalize l[i] = x at *
  simp only [Fld.cells, List.getElem?_cons_succ, List.getElem?_cons_zero, Nat.add_zero] at h0 h1
  clear p3 p5
  simp (disch := omega) only [kB, kcx, kdm, kdn, kel, aop, Za, Zb, Zc, reduceCtorEq, Zd, Ze, Zf, Zg, Zh, Zi, Zj, Zk, Zl, Zm, Zn, Zo, Zp, Zq, Zr, Zs, Zt, c1, prow, h0]
  refine risName_s ?_
  by_cases g1 : isNm x.name = false
  ·rw [nameE, if_pos g1] at hx
   rw [hx] at h
   rw [g1]
   simp (disch := omega) only [kB, kcx, kdm, kdn, kel, aop, Za, Zb, Zc, reduceCtorEq, Zd, Ze, Zf, Zg, Zh, Zi, Zj, Zk, Zl, Zm, Zn, Zo, Zp, Zq, Zr, Zs, Zt]
   exact ⟨_, rfl, bK.ext, .int, h⟩
  ·rw [nameE, if_neg g1] at hx
   rw [Bool.not_eq_false] at g1
   rw [g1]
   simp (disch := omega) only [kB, kcx, kdm, kdn, kel, aop, Za, Zb, Zc, reduceCtorEq, Zd, Ze, Zf, Zg, Zh, Zi, Zj, Zk, Zl, Zm, Zn, Zo, Zp, Zq, Zr, Zs, Zt, c1, c1', prow, h0, and_false, Nat.zero_mul, Nat.sub_zero]
   refine rfieldp_s hr hn hbK hi ?_
   by_cases g2 : x.name ∈ (l.take i).map Fld.name
   ·rw [if_pos g2] at hx
    rw [hx] at h
    have g3 := (ixT_mem _ _).2 g2
    simp (disch := omega) only [kB, kcx, kdm, kdn, kel, aop, Za, Zb, Zc, reduceCtorEq, Zd, Ze, Zf, Zg, Zh, Zi, Zj, Zk, Zl, Zm, Zn, Zo, Zp, Zq, Zr, Zs, Zt, g3]
    exact ⟨_, rfl, bK.ext, .int, h⟩
   ·rw [if_neg g2] at hx
    have g3 : ¬ (0 ≤ ixT x.name ((l.take i).map Fld.name) 0) := fun q => g2 ((ixT_mem _ _).1 q)
    by_cases g4 : x.width < 1
    ·simp only [if_neg (show ¬ (1 ≤ x.width ∧ x.width ≤ 128) by omega)] at hx
     rw [hx] at h
     simp (disch := omega) only [kB, kcx, kdm, kdn, kel, aop, Za, Zb, Zc, reduceCtorEq, Zd, Ze, Zf, Zg, Zh, Zi, Zj, Zk, Zl, Zm, Zn, Zo, Zp, Zq, Zr, Zs, Zt, g3, c1, prow, h1, g4]
     exact ⟨_, rfl, bK.ext, .int, h⟩
    ·by_cases g5 : 128 < x.width
     ·simp only [if_neg (show ¬ (1 ≤ x.width ∧ x.width ≤ 128) by omega)] at hx
      rw [hx] at h
      simp (disch := omega) only [kB, kcx, kdm, kdn, kel, aop, Za, Zb, Zc, reduceCtorEq, Zd, Ze, Zf, Zg, Zh, Zi, Zj, Zk, Zl, Zm, Zn, Zo, Zp, Zq, Zr, Zs, Zt, g3, c1, prow, h1, g4, g5]
      exact ⟨_, rfl, bK.ext, .int, h⟩
     ·simp only [if_pos (show 1 ≤ x.width ∧ x.width ≤ 128 by omega)] at hx
      simp (disch := omega) only [kB, kcx, kdm, kdn, kel, aop, Za, Zb, Zc, reduceCtorEq, Zd, Ze, Zf, Zg, Zh, Zi, Zj, Zk, Zl, Zm, Zn, Zo, Zp, Zq, Zr, Zs, Zt, g3, c1, prow, h1, g4, g5, w2]
      exact ⟨l.length - (i + 1), by omega, i + 1, by omega, rfl, bK, by rw [htk]; exact hx, by exact ex_env rfl⟩
 ·have c1 : ¬ (i : Int) < (l.length : Int) := by omega
  rw [List.drop_eq_nil_of_le (by omega)] at hx
  rw [hx] at h
  simp (disch := omega) only [kB, kcx, kdm, kdn, kel, aop, Za, Zb, Zc, reduceCtorEq, Zd, Ze, Zf, Zg, Zh, Zi, Zj, Zk, Zl, Zm, Zn, Zo, Zp, Zq, Zr, Zs, Zt, c1]
  exact ⟨_, rfl, bK.ext, .int, h⟩
end
section
variable {R : FRes → Heap → Prop} {H K : Heap}
theorem bin_an64 {a b : Nat} (ha : a < 18446744073709551616) (hb : b < 18446744073709551616) : ∃ n : Nat, binV .andNot (.int .u64 (a : Int)) (.int .u64 (b : Int)) = some (.int .u64 (n : Int)) ∧ (n = 0 ↔ a ||| b = b) := by
 refine ⟨(BitVec.ofNat 64 a &&& ~~~ BitVec.ofNat 64 b).toNat, ?_, ?_⟩
 ·have e : pr (Op.intBits .andNot .u64 (a : Int) (b : Int)) = some (.int .u64 (IntKind.wrap .u64 ((BitVec.ofInt IntKind.u64.bits (a : Int) &&& ~~~ BitVec.ofInt IntKind.u64.bits (b : Int)).toNat : Int))) := rfl
  simp only [binV, intBin, if_true, e]
  rw [BitVec.ofInt_natCast, BitVec.ofInt_natCast, wr_u64n, Nat.mod_eq_of_lt]
  ·rfl
  ·exact BitVec.isLt _
 ·have key : ∀ i, (BitVec.ofNat 64 a &&& ~~~ BitVec.ofNat 64 b).toNat.testBit i = (a.testBit i && !b.testBit i) := fun i => by
   rw [BitVec.testBit_toNat, BitVec.getLsbD_and, BitVec.getLsbD_not, BitVec.getLsbD_ofNat, BitVec.getLsbD_ofNat]
   by_cases h : i < 64
   ·simp [h]
   ·have h64 : (2 : Nat) ^ 64 ≤ 2 ^ i := Nat.pow_le_pow_right (by decide) (by omega)
    have : a.testBit i = false := Nat.testBit_lt_two_pow (Nat.lt_of_lt_of_le (show a < 2 ^ 64 from ha) h64)
    simp [h, this]
  constructor
  ·intro h
   refine Nat.eq_of_testBit_eq fun i => ?_
   have := key i
   rw [h, Nat.zero_testBit] at this
   rw [Nat.testBit_or]
   cases h1 : a.testBit i <;> cases h2 : b.testBit i <;> simp [h1, h2] at this ⊢
  ·intro h
   refine Nat.eq_of_testBit_eq fun i => ?_
   rw [key, Nat.zero_testBit]
   have := congrArg (fun n => n.testBit i) h
   simp only [Nat.testBit_or] at this
   cases h1 : a.testBit i <;> cases h2 : b.testBit i <;> simp [h1, h2] at this ⊢
def rstI (K : Heap) (bx : Nat) (t : List UInt8) (l : List Sta) : Nat → Env → Heap → Prop := fun z e K' =>
 ∃ i : Nat, i ≤ l.length ∧ z = l.length - i ∧ K' = K ∧ ixT t (l.map Sta.name) 0 = ixT t ((l.map Sta.name).drop i) i ∧ (∃ x : Nat → Value, e = [x 0, .string (bs t), .pointer (some ⟨bx, 0, none⟩), x 3, x 4, .int .i64 (i : Int), x 6, x 7, x 8, x 9, x 10, x 11, x 12, x 13, x 14, x 15, x 16, x 17, x 18, x 19, x 20, x 21])
theorem rstateAt_s {s : Sch} (hs : s.OK H) (hb : Base H K) {t : List UInt8} (h : R (.ret (.int .i64 (ixT t (s.states.map Sta.name) 0))) K) : WD T 135 [.agg s.cells.toArray, .string (bs t)] K R := by
 refine WD.gc0 (WD.of follows t135 (by simp) ?_)
 obtain ⟨o0, o1, o2, o3, o4, o5⟩ := hs.one
 obtain ⟨hr, hn, hok⟩ := hs.ss
 unfold few at hn
 obtain ⟨ad, hv⟩ := hr.sl
 rw [List.length_map] at hv
 simp only [Sch.cells]
 simp only [hv] at hr o2 ⊢
 generalize s.states = l at *
 simp (disch := omega) only [kB, kcx, kdm, kdn, kel, aop, Za, Zb, Zc, reduceCtorEq, Zd, Ze, Zf, Zg, Zh, Zi, Zj, Zk, Zl, Zm, Zn, Zo, Zp, Zq, Zr, Zs, Zt, o0, o1, o2, o3, o4, o5]
 refine WLoop.inv (rstI (K ++ [_]) K.length t l) ?_ l.length _ _ ⟨0, Nat.zero_le _, by omega, rfl, by simp, by exact ex_env rfl⟩
 rintro z e K' ⟨i, hi, rfl, rfl, hx, ⟨x, rfl⟩⟩
 by_cases hlt : i < l.length
 ·have c0 : (i : Int) < (l.length : Int) := by omega
  obtain ⟨b, u0, w0, rfl, hbl, hrow0, _, _, hat⟩ := hr.at Sta.len hlt
  have hrow : hget K b = .row (l.map Sta.cells).flatten u0 w0 := by rw [hb.2 b hbl]; exact hrow0
  have hbl2 : b < K.length := Nat.lt_of_lt_of_le hbl hb.1
  have h0 := hat 0 (by decide)
  have w2 : IntKind.i64.wrap ((i : Int) + 1) = ((i + 1 : Nat) : Int) := wI (by omega)
  rw [ixT_drop (by simpa using hlt), List.getElem_map] at hx
  generalize l[i] = x at *
  simp only [Sta.cells, List.getElem?_cons_zero, Nat.add_zero] at h0
  by_cases he : x.name = t
  ·rw [if_pos he] at hx
   rw [hx] at h
   simp (disch := omega) only [kB, kcx, kdm, kdn, kel, aop, Za, Zb, Zc, reduceCtorEq, Zd, Ze, Zf, Zg, Zh, Zi, Zj, Zk, Zl, Zm, Zn, Zo, Zp, Zq, Zr, Zs, Zt, c0, hrow, h0, decide_eq_true he]
   exact ⟨_, rfl, ⟨_, rfl⟩, .int, h⟩
  ·rw [if_neg he] at hx
   simp (disch := omega) only [kB, kcx, kdm, kdn, kel, aop, Za, Zb, Zc, reduceCtorEq, Zd, Ze, Zf, Zg, Zh, Zi, Zj, Zk, Zl, Zm, Zn, Zo, Zp, Zq, Zr, Zs, Zt, c0, hrow, h0, decide_eq_false he, w2]
   exact ⟨l.length - (i + 1), by omega, i + 1, by omega, rfl, rfl, hx, by exact ex_env rfl⟩
 ·have c0 : ¬ (i : Int) < (l.length : Int) := by omega
  rw [ixT_end (by simp; omega)] at hx
  rw [hx] at h
  simp (disch := omega) only [kB, kcx, kdm, kdn, kel, aop, Za, Zb, Zc, reduceCtorEq, Zd, Ze, Zf, Zg, Zh, Zi, Zj, Zk, Zl, Zm, Zn, Zo, Zp, Zq, Zr, Zs, Zt, c0]
  exact ⟨_, rfl, ⟨_, rfl⟩, .int, h⟩
theorem rleads_s {s : Sch} (hs : s.OK H) (hb : Base H K) {t : List UInt8} (h : R (.ret (.bool (decide (leads s t)))) K) : WD T 175 [.agg s.cells.toArray, .string (bs t)] K R := by
 refine WD.gc0 (WD.of follows t175 (by simp) ?_)
 obtain ⟨o0, o1, o2, o3, o4, o5⟩ := hs.one
 simp only [Sch.cells]
 simp (disch := omega) only [kB, kcx, kdm, kdn, kel, aop, Za, Zb, Zc, reduceCtorEq, Zd, Ze, Zf, Zg, Zh, Zi, Zj, Zk, Zl, Zm, Zn, Zo, Zp, Zq, Zr, Zs, Zt, o0, o1, o2, o3, o4, o5]
 refine rstateAt_s hs (hb.app _) ?_
 by_cases c1 : t ∈ s.states.map Sta.name
 ·have g := (ixT_mem _ _).2 c1
  rw [decide_eq_true (.inr c1)] at h
  simp (disch := omega) only [kB, kcx, kdm, kdn, kel, aop, Za, Zb, Zc, reduceCtorEq, Zd, Ze, Zf, Zg, Zh, Zi, Zj, Zk, Zl, Zm, Zn, Zo, Zp, Zq, Zr, Zs, Zt, g]
  exact ⟨_, rfl, ⟨_, rfl⟩, .bool, h⟩
 ·have g : ¬ (0 ≤ ixT t (s.states.map Sta.name) 0) := fun q => c1 ((ixT_mem _ _).1 q)
  by_cases c2 : t = [97, 99, 99, 101, 112, 116]
  ·rw [decide_eq_true (.inl (by rw [c2]; simp [ends]))] at h
   simp (disch := omega) only [kB, kcx, kdm, kdn, kel, aop, Za, Zb, Zc, reduceCtorEq, Zd, Ze, Zf, Zg, Zh, Zi, Zj, Zk, Zl, Zm, Zn, Zo, Zp, Zq, Zr, Zs, Zt, g, decide_eq_true c2]
   exact ⟨_, rfl, ⟨_, rfl⟩, .bool, h⟩
  ·by_cases c3 : t = [114, 101, 106, 101, 99, 116]
   ·rw [decide_eq_true (.inl (by rw [c3]; simp [ends]))] at h
    simp (disch := omega) only [kB, kcx, kdm, kdn, kel, aop, Za, Zb, Zc, reduceCtorEq, Zd, Ze, Zf, Zg, Zh, Zi, Zj, Zk, Zl, Zm, Zn, Zo, Zp, Zq, Zr, Zs, Zt, g, decide_eq_false c2, decide_eq_true c3]
    exact ⟨_, rfl, ⟨_, rfl⟩, .bool, h⟩
   ·rw [decide_eq_false (fun q => q.elim (fun q => by simp [ends] at q; exact q.elim c2 c3) c1)] at h
    simp (disch := omega) only [kB, kcx, kdm, kdn, kel, aop, Za, Zb, Zc, reduceCtorEq, Zd, Ze, Zf, Zg, Zh, Zi, Zj, Zk, Zl, Zm, Zn, Zo, Zp, Zq, Zr, Zs, Zt, g, decide_eq_false c2, decide_eq_false c3]
    exact ⟨_, rfl, ⟨_, rfl⟩, .bool, h⟩
def rcsI (K0 : Heap) (bx : Nat) (s : Sch) (W : Int) (l : List Cas) : Nat → Env → Heap → Prop := fun z e K' =>
 ∃ i : Nat, i ≤ l.length ∧ z = l.length - i ∧ Base K0 K' ∧ casesE s W [] l = casesE s W ((l.take i).map Cas.key) (l.drop i) ∧
  (∃ x : Nat → Value, e = [x 0, x 1, .pointer (some ⟨bx, 0, none⟩), .pointer (some ⟨bx + 1, 0, none⟩), x 4, .int .i64 W, x 6, .int .i64 (i : Int), x 8, x 9, x 10, x 11, x 12, x 13, x 14, x 15, x 16, x 17, x 18, x 19, x 20, x 21, x 22, x 23, x 24, x 25, x 26, x 27, x 28, x 29, x 30, x 31, x 32, x 33, x 34, x 35, x 36, x 37, x 38, x 39, x 40, x 41, x 42, x 43, x 44, x 45, x 46, x 47, x 48, x 49, x 50, x 51, x 52, x 53, x 54, x 55, x 56, x 57, x 58, x 59, x 60, x 61, x 62, x 63, x 64, x 65, x 66, x 67, x 68, x 69, x 70, x 71, x 72, x 73, x 74, x 75, x 76, x 77, x 78, x 79, x 80, x 81, x 82, x 83, x 84, x 85, x 86, x 87])
def rcsJ (K0 : Heap) (bx cx : Nat) (W : Int) (l : List Cas) (i : Nat) (c : Cas) : Nat → Env → Heap → Prop := fun z e K' =>
 ∃ k : Nat, k ≤ i ∧ z = i - k ∧ K' = K0 ∧ (∀ j (h : j < l.length), j < k → l[j].key ≠ c.key) ∧
  (∃ x : Nat → Value, e = [x 0, x 1, .pointer (some ⟨bx, 0, none⟩), .pointer (some ⟨bx + 1, 0, none⟩), x 4, .int .i64 W, x 6, .int .i64 (i : Int), .pointer (some ⟨cx, 0, none⟩), x 9, .int .i64 (k : Int), x 11, x 12, x 13, x 14, x 15, x 16, x 17, x 18, x 19, x 20, x 21, x 22, x 23, x 24, x 25, x 26, x 27, x 28, x 29, x 30, x 31, x 32, x 33, x 34, x 35, x 36, x 37, x 38, x 39, x 40, x 41, x 42, x 43, x 44, x 45, x 46, x 47, x 48, x 49, x 50, x 51, x 52, x 53, x 54, x 55, x 56, x 57, x 58, x 59, x 60, x 61, x 62, x 63, x 64, x 65, x 66, x 67, x 68, x 69, x 70, x 71, x 72, x 73, x 74, x 75, x 76, x 77, x 78, x 79, x 80, x 81, x 82, x 83, x 84, x 85, x 86, x 87])
set_option maxHeartbeats 4000000 in
theorem rcases_s {s : Sch} (hs : s.OK H) {y : Sta} (hx : y.OK H) (hb : Base H K) (h : R (.ret (.int .i64 (eI (casesE s (rwV (fldOf s y.on)) [] y.cases)))) K) : WD T 174 [.agg s.cells.toArray, .agg y.cells.toArray] K R := by
 refine WD.gc0 (WD.of follows t174 (by simp) ?_)
 obtain ⟨o0, o1, o2, o3, o4, o5⟩ := hs.one
 have o := hx.one
 obtain ⟨fr, fn, fk⟩ := hx
 obtain ⟨fa, fv⟩ := fr.sl
 rw [List.length_map] at fv
 unfold few at fn
 simp only [Sch.cells, Sta.cells]
 simp (disch := omega) only [kB, kcx, kdm, kdn, kel, aop, Za, Zb, Zc, reduceCtorEq, Zd, Ze, Zf, Zg, Zh, Zi, Zj, Zk, Zl, Zm, Zn, Zo, Zp, Zq, Zr, Zs, Zt, o0, o1, o2, o3, o4, o5, o]
 refine rwide_s (r := y.on) hs (hb.app _) ?_
 have hw64 := rwV_i64 hs y.on
 generalize rwV (fldOf s y.on) = W at *
 simp (disch := omega) only [kB, kcx, kdm, kdn, kel, aop, Za, Zb, Zc, reduceCtorEq, Zd, Ze, Zf, Zg, Zh, Zi, Zj, Zk, Zl, Zm, Zn, Zo, Zp, Zq, Zr, Zs, Zt]
 obtain ⟨K1, hK1⟩ : ∃ K1, K1 = K ++ [AObj.row [s.hv, s.mv, s.sv, s.av, s.tv, s.cv] 0 true, AObj.row [.string (bs y.name), .string (bs y.header), .string (bs y.on.head), .string (bs y.on.name), y.cv, .string (bs y.next)] 0 true] := ⟨_, rfl⟩
 rw [← hK1]
 have b1 : Base K K1 := by rw [hK1]; exact Base.app0 _
 have hs1 : hget K1 K.length = .row [s.hv, s.mv, s.sv, s.av, s.tv, s.cv] 0 true := by rw [hK1, hget_base0]; rfl
 have hx1 : hget K1 (K.length + 1) = .row [.string (bs y.name), .string (bs y.header), .string (bs y.on.head), .string (bs y.on.name), y.cv, .string (bs y.next)] 0 true := by rw [hK1, hget_base]; rfl
 clear hK1
 refine WLoop.inv (rcsI K1 K.length s W y.cases) ?_ y.cases.length _ _ ⟨0, Nat.zero_le _, by omega, Base.refl, rfl, by exact ex_env rfl⟩
 rintro z e K' ⟨i, hi, rfl, bK, hxx, ⟨x, rfl⟩⟩
 have hs2 := bK.rowc hs1
 have hx2 := bK.rowc hx1
 have hbK := (hb.trans b1).trans bK
 have bKK := b1.trans bK
 have lx2 := hget_lt hx2 rfl
 have ls2 := hget_lt hs2 rfl
 by_cases hlt : i < y.cases.length
 ·have c1 : (i : Int) < (y.cases.length : Int) := by omega
  obtain ⟨b, u1, w1, rfl, q1, q2, q3, q4, q5⟩ := (fv ▸ fr).at Cas.len hlt
  have qrow := hbK.rowc q2
  have lq := hget_lt qrow rfl
  have w2 : IntKind.i64.wrap ((i : Int) + 1) = ((i + 1 : Nat) : Int) := wI (by omega)
  have hck := fk _ (List.getElem_mem hlt)
  have htk2 := take_map Cas.key hlt
  rw [List.drop_eq_getElem_cons hlt, casesE, casE] at hxx
  generalize hcc : y.cases[i] = c at *
  obtain ⟨⟨cv1, cv2⟩, cm⟩ := hck
  have cm' := cm
  obtain ⟨cm1, cm2⟩ := cm'
  unfold U64 at cv1 cv2 cm1 cm2
  simp only [Cas.cells] at q3
  obtain ⟨n1, an1, ad1⟩ := bin_an64 cv1 cm1
  obtain ⟨n2, an2, ad2⟩ := bin_an64 cv2 cm2
  have bad : ¬ (fitsV c.mask W = true ∧ inMask c) → R (.ret (.int .i64 73)) K := fun q => by
   rw [if_neg q] at hxx
   rw [hxx] at h
   exact h
  simp (disch := omega) only [kB, kcx, kdm, kdn, kel, aop, Za, Zb, Zc, reduceCtorEq, Zd, Ze, Zf, Zg, Zh, Zi, Zj, Zk, Zl, Zm, Zn, Zo, Zp, Zq, Zr, Zs, Zt, c1, hx2, fv, qrow, q3, q4]
  refine rfits_s (b := c.mask) cm hw64 ?_
  by_cases g1 : fitsV c.mask W = true
  case neg =>
   have hh := bad (fun q => g1 q.1)
   rw [Bool.not_eq_true] at g1
   simp (disch := omega) only [kB, kcx, kdm, kdn, kel, aop, Za, Zb, Zc, reduceCtorEq, Zd, Ze, Zf, Zg, Zh, Zi, Zj, Zk, Zl, Zm, Zn, Zo, Zp, Zq, Zr, Zs, Zt, g1]
   exact ⟨_, rfl, (bKK.app _).ext, .int, hh⟩
  by_cases g2 : n1 = 0
  case neg =>
   have hh := bad (fun q => g2 (ad1.2 q.2.1))
   have g2' : ((n1 : Int) = 0) = False := eq_false (by omega)
   simp (disch := omega) only [kB, kcx, kdm, kdn, kel, aop, Za, Zb, Zc, reduceCtorEq, Zd, Ze, Zf, Zg, Zh, Zi, Zj, Zk, Zl, Zm, Zn, Zo, Zp, Zq, Zr, Zs, Zt, g1, an1, g2']
   exact ⟨_, rfl, (bKK.app _).ext, .int, hh⟩
  have g2' : ((n1 : Int) = 0) = True := eq_true (by omega)
  by_cases g3 : n2 = 0
  case neg =>
   have hh := bad (fun q => g3 (ad2.2 q.2.2))
   have g3' : ((n2 : Int) = 0) = False := eq_false (by omega)
   simp (disch := omega) only [kB, kcx, kdm, kdn, kel, aop, Za, Zb, Zc, reduceCtorEq, Zd, Ze, Zf, Zg, Zh, Zi, Zj, Zk, Zl, Zm, Zn, Zo, Zp, Zq, Zr, Zs, Zt, g1, an1, an2, g2', g3']
   exact ⟨_, rfl, (bKK.app _).ext, .int, hh⟩
  have g3' : ((n2 : Int) = 0) = True := eq_true (by omega)
  rw [if_pos ⟨g1, ad1.1 g2, ad2.1 g3⟩] at hxx
  clear bad
  simp (disch := omega) only [kB, kcx, kdm, kdn, kel, aop, Za, Zb, Zc, reduceCtorEq, Zd, Ze, Zf, Zg, Zh, Zi, Zj, Zk, Zl, Zm, Zn, Zo, Zp, Zq, Zr, Zs, Zt, g1, an1, an2, g2', g3']
  obtain ⟨K3, hK3⟩ : ∃ K3, K3 = K' ++ [AObj.row [.int .u64 (c.value.hi : Int), .int .u64 (c.value.lo : Int), .int .u64 (c.mask.hi : Int), .int .u64 (c.mask.lo : Int), .string (bs c.next)] 0 true] := ⟨_, rfl⟩
  rw [← hK3]
  have b3 : Base K' K3 := by rw [hK3]; exact Base.app0 _
  have hc3 : hget K3 K'.length = AObj.row [.int .u64 (c.value.hi : Int), .int .u64 (c.value.lo : Int), .int .u64 (c.mask.hi : Int), .int .u64 (c.mask.lo : Int), .string (bs c.next)] 0 true := by rw [hK3, hget_last]
  clear hK3
  have hx3 := b3.rowc hx2
  have hs3 := b3.rowc hs2
  have bKK3 := bKK.trans b3
  refine WLoop.inv (rcsJ K3 K.length K'.length W y.cases i c) ?_ i _ _ ⟨0, Nat.zero_le _, by omega, rfl, fun j _ q => by omega, by exact ex_env rfl⟩
  rintro z e K4 ⟨k, hk, rfl, rfl, hno, ⟨x, rfl⟩⟩
  by_cases hki : k < i
  ·have c2 : (k : Int) < (i : Int) := by omega
   have hkl : k < y.cases.length := by omega
   have c3 : (k : Int) < (y.cases.length : Int) := by omega
   obtain ⟨b', u2, w2', e2, r1, r2, r3, r4, r5⟩ := (fv ▸ fr).at Cas.len hkl
   cases e2
   have rrow := hbK.trans b3 |>.rowc r2
   have w3 : IntKind.i64.wrap ((k : Int) + 1) = ((k + 1 : Nat) : Int) := wI (by omega)
   have hmem : y.cases[k].key ∈ (y.cases.take i).map Cas.key := by
    rw [List.mem_map]
    exact ⟨_, List.mem_take_iff_getElem.2 ⟨k, by omega, rfl⟩, rfl⟩
   generalize hdd : y.cases[k] = d at *
   simp only [Cas.cells] at r3
   have cut0 : (((y.cases.map Cas.cells).flatten).drop (k * 5)).take 2 = [.int .u64 (d.value.hi : Int), .int .u64 (d.value.lo : Int)] := by
    have := congrArg (fun q : List Value => q.take 2) r3
    simpa [List.take_take] using this
   have cut2 : (((y.cases.map Cas.cells).flatten).drop (k * 5 + 2)).take 2 = [.int .u64 (d.mask.hi : Int), .int .u64 (d.mask.lo : Int)] := by
    have := congrArg (fun q : List Value => (q.drop 2).take 2) r3
    rw [List.drop_take, List.drop_drop, List.take_take] at this
    simpa using this
   have le0 : k * 5 + 2 ≤ ((y.cases.map Cas.cells).flatten).length := by omega
   have le2 : k * 5 + 2 + 2 ≤ ((y.cases.map Cas.cells).flatten).length := by omega
   have eq1 := Bt.eqs d.value c.value
   have eq2 := Bt.eqs d.mask c.mask
   have ke : (d.key = c.key) ↔ d.value = c.value ∧ d.mask = c.mask := by unfold Cas.key; simp
   by_cases g4 : d.value = c.value
   ·rw [decide_eq_true g4] at eq1
    by_cases g5 : d.mask = c.mask
    ·rw [decide_eq_true g5] at eq2
     have hin : (c.value, c.mask) ∈ (y.cases.take i).map Cas.key := by
      have : d.key = (c.value, c.mask) := ke.2 ⟨g4, g5⟩
      rw [← this]; exact hmem
     rw [if_pos hin] at hxx
     rw [hxx] at h
     simp (disch := omega) only [kB, kcx, kdm, kdn, kel, aop, Za, Zb, Zc, reduceCtorEq, Zd, Ze, Zf, Zg, Zh, Zi, Zj, Zk, Zl, Zm, Zn, Zo, Zp, Zq, Zr, Zs, Zt, c2, hx3, fv, c3, rrow, cut0, cut2, le0, le2, hc3, eq1, eq2]
     exact ⟨_, rfl, bKK3.ext, .int, h⟩
    ·rw [decide_eq_false g5] at eq2
     simp (disch := omega) only [kB, kcx, kdm, kdn, kel, aop, Za, Zb, Zc, reduceCtorEq, Zd, Ze, Zf, Zg, Zh, Zi, Zj, Zk, Zl, Zm, Zn, Zo, Zp, Zq, Zr, Zs, Zt, c2, hx3, fv, c3, rrow, cut0, cut2, le0, le2, hc3, eq1, eq2, w3]
     refine ⟨i - (k + 1), by omega, k + 1, by omega, rfl, rfl, fun j hj q => ?_, by exact ex_env rfl⟩
     by_cases hjk : j = k
     ·subst hjk; rw [hdd]; exact fun q => g5 (ke.1 q).2
     ·exact hno j hj (by omega)
   ·rw [decide_eq_false g4] at eq1
    simp (disch := omega) only [kB, kcx, kdm, kdn, kel, aop, Za, Zb, Zc, reduceCtorEq, Zd, Ze, Zf, Zg, Zh, Zi, Zj, Zk, Zl, Zm, Zn, Zo, Zp, Zq, Zr, Zs, Zt, c2, hx3, fv, c3, rrow, cut0, le0, hc3, eq1, w3]
    refine ⟨i - (k + 1), by omega, k + 1, by omega, rfl, rfl, fun j hj q => ?_, by exact ex_env rfl⟩
    by_cases hjk : j = k
    ·subst hjk; rw [hdd]; exact fun q => g4 (ke.1 q).1
    ·exact hno j hj (by omega)
  ·have c2 : ¬ (k : Int) < (i : Int) := by omega
   have hin : ¬ (c.value, c.mask) ∈ (y.cases.take i).map Cas.key := by
    intro q
    obtain ⟨d, hd, e⟩ := List.mem_map.1 q
    obtain ⟨j, hj, rfl⟩ := List.mem_take_iff_getElem.1 hd
    exact hno j (by omega) (by omega) e
   rw [if_neg hin] at hxx
   have lx3 := hget_lt hx3 rfl
   simp (disch := omega) only [kB, kcx, kdm, kdn, kel, aop, Za, Zb, Zc, reduceCtorEq, Zd, Ze, Zf, Zg, Zh, Zi, Zj, Zk, Zl, Zm, Zn, Zo, Zp, Zq, Zr, Zs, Zt, c2, hs3, hc3, o0, o1, o2, o3, o4, o5]
   refine rleads_s hs (hbK.trans b3) ?_
   by_cases g6 : leads s c.next
   ·rw [if_pos g6] at hxx
    simp (disch := omega) only [kB, kcx, kdm, kdn, kel, aop, Za, Zb, Zc, reduceCtorEq, Zd, Ze, Zf, Zg, Zh, Zi, Zj, Zk, Zl, Zm, Zn, Zo, Zp, Zq, Zr, Zs, Zt, decide_eq_true g6, w2]
    exact ⟨y.cases.length - (i + 1), by omega, i + 1, by omega, rfl, bK.trans b3, by rw [htk2]; exact hxx, by exact ex_env rfl⟩
   ·rw [if_neg g6] at hxx
    rw [hxx] at h
    simp (disch := omega) only [kB, kcx, kdm, kdn, kel, aop, Za, Zb, Zc, reduceCtorEq, Zd, Ze, Zf, Zg, Zh, Zi, Zj, Zk, Zl, Zm, Zn, Zo, Zp, Zq, Zr, Zs, Zt, decide_eq_false g6]
    exact ⟨_, rfl, bKK3.ext, .int, h⟩
 ·have c1 : ¬ (i : Int) < (y.cases.length : Int) := by omega
  rw [List.drop_eq_nil_of_le (by omega), casesE] at hxx
  rw [hxx] at h
  simp (disch := omega) only [kB, kcx, kdm, kdn, kel, aop, Za, Zb, Zc, reduceCtorEq, Zd, Ze, Zf, Zg, Zh, Zi, Zj, Zk, Zl, Zm, Zn, Zo, Zp, Zq, Zr, Zs, Zt, c1, hx2, fv]
  exact ⟨_, rfl, bKK.ext, .int, h⟩
/-- Errors are no 0. -/
theorem casesE_ne {s : Sch} {W : Int} : ∀ {l : List Cas} {had : List (Bt × Bt)} {e : Int}, casesE s W had l = some e → e ≠ 0
 | [], _, e, h => by cases h
 | c :: l, had, e, h => by
  rw [casesE] at h
  cases hc : casE s W had c with
  | none => rw [hc] at h; exact casesE_ne h
  | some e' =>
   rw [hc] at h
   cases h
   unfold casE at hc
   split at hc
   ·split at hc
    ·cases hc; decide
    ·split at hc
     ·cases hc
     ·cases hc; decide
   ·cases hc; decide
set_option maxHeartbeats 2000000 in
theorem rstate_s {s : Sch} (hs : s.OK H) {y : Sta} (hx : y.OK H) (hb : Base H K) (h : R (.ret (.int .i64 (eI (staE s y)))) K) : WD T 136 [.agg s.cells.toArray, .agg y.cells.toArray] K R := by
 refine WD.gc0 (WD.of follows t136 (by simp) ?_)
 obtain ⟨o0, o1, o2, o3, o4, o5⟩ := hs.one
 have o := hx.one
 have hx' := hx
 obtain ⟨fr, fn, fk⟩ := hx'
 obtain ⟨fa, fv⟩ := fr.sl
 rw [List.length_map] at fv
 unfold few at fn
 simp only [Sch.cells, Sta.cells]
 simp (disch := omega) only [kB, kcx, kdm, kdn, kel, aop, Za, Zb, Zc, reduceCtorEq, Zd, Ze, Zf, Zg, Zh, Zi, Zj, Zk, Zl, Zm, Zn, Zo, Zp, Zq, Zr, Zs, Zt, o0, o1, o2, o3, o4, o5, o]
 refine rheaderAt_s hs (hb.app _) ?_
 unfold staE at h
 by_cases g1 : y.header ∈ s.headers.map Hdr.name
 case neg =>
  have g1' : ixT y.header (s.headers.map Hdr.name) 0 < 0 := Int.not_le.1 fun q => g1 ((ixT_mem _ _).1 q)
  rw [if_neg g1] at h
  simp (disch := omega) only [kB, kcx, kdm, kdn, kel, aop, Za, Zb, Zc, reduceCtorEq, Zd, Ze, Zf, Zg, Zh, Zi, Zj, Zk, Zl, Zm, Zn, Zo, Zp, Zq, Zr, Zs, Zt, g1']
  exact ⟨_, rfl, ⟨_, rfl⟩, .int, h⟩
 have g1' : ¬ (ixT y.header (s.headers.map Hdr.name) 0 < 0) := Int.not_lt.2 ((ixT_mem _ _).2 g1)
 rw [if_pos g1] at h
 simp (disch := omega) only [kB, kcx, kdm, kdn, kel, aop, Za, Zb, Zc, reduceCtorEq, Zd, Ze, Zf, Zg, Zh, Zi, Zj, Zk, Zl, Zm, Zn, Zo, Zp, Zq, Zr, Zs, Zt, g1']
 refine zref_s (r := y.on) ?_
 simp (disch := omega) only [kB, kcx, kdm, kdn, kel, aop, Za, Zb, Zc, reduceCtorEq, Zd, Ze, Zf, Zg, Zh, Zi, Zj, Zk, Zl, Zm, Zn, Zo, Zp, Zq, Zr, Zs, Zt]
 refine place_s (r := y.on) hs (hb.app _) (fun hi fi ok hpl => ?_)
 have hok : ok = (fldOf s y.on).isSome := by
  rcases hpl with ⟨rfl, _, _, e⟩ | ⟨rfl, _, j, hj, _, e⟩ | ⟨rfl, k, hk, _, j, hj, _, e⟩ <;> rw [e] <;> rfl
 clear hpl
 by_cases g2 : y.on = Rf.zero ∨ (fldOf s y.on).isSome = true
 case neg =>
  rw [if_neg g2] at h
  have g2a : ¬ y.on = Rf.zero := fun q => g2 (.inl q)
  have g2b : ok = false := by rw [hok]; simpa using fun q => g2 (.inr q)
  subst g2b
  simp (disch := omega) only [kB, kcx, kdm, kdn, kel, aop, Za, Zb, Zc, reduceCtorEq, Zd, Ze, Zf, Zg, Zh, Zi, Zj, Zk, Zl, Zm, Zn, Zo, Zp, Zq, Zr, Zs, Zt, decide_eq_false g2a]
  exact ⟨_, rfl, ⟨_, rfl⟩, .int, h⟩
 rw [if_pos g2] at h
 have hbx := hb.app [AObj.row [s.hv, s.mv, s.sv, s.av, s.tv, s.cv] 0 true, AObj.row [.string (bs y.name), .string (bs y.header), .string (bs y.on.head), .string (bs y.on.name), y.cv, .string (bs y.next)] 0 true]
 by_cases g3 : (y.cases.length : Int) ≤ 32
 case neg =>
  rw [if_neg (by omega)] at h
  have g3' : (32 : Int) < (y.cases.length : Int) := by omega
  by_cases gz : y.on = Rf.zero
  ·simp (disch := omega) only [kB, kcx, kdm, kdn, kel, aop, Za, Zb, Zc, reduceCtorEq, Zd, Ze, Zf, Zg, Zh, Zi, Zj, Zk, Zl, Zm, Zn, Zo, Zp, Zq, Zr, Zs, Zt, decide_eq_true gz, fv, g3']
   exact ⟨_, rfl, ⟨_, rfl⟩, .int, h⟩
  ·have g2b : ok = true := by rw [hok]; exact g2.resolve_left gz
   subst g2b
   simp (disch := omega) only [kB, kcx, kdm, kdn, kel, aop, Za, Zb, Zc, reduceCtorEq, Zd, Ze, Zf, Zg, Zh, Zi, Zj, Zk, Zl, Zm, Zn, Zo, Zp, Zq, Zr, Zs, Zt, decide_eq_false gz, fv, g3']
   exact ⟨_, rfl, ⟨_, rfl⟩, .int, h⟩
 rw [if_pos (by omega)] at h
 have g3' : ¬ (32 : Int) < (y.cases.length : Int) := by omega
 by_cases g4 : y.on ≠ Rf.zero ∨ y.cases.length = 0
 case neg =>
  rw [if_neg g4] at h
  have gz : y.on = Rf.zero := Classical.byContradiction fun q => g4 (.inl q)
  have g4' : (0 : Int) < (y.cases.length : Int) := by have : ¬ y.cases.length = 0 := fun q => g4 (.inr q); omega
  simp (disch := omega) only [kB, kcx, kdm, kdn, kel, aop, Za, Zb, Zc, reduceCtorEq, Zd, Ze, Zf, Zg, Zh, Zi, Zj, Zk, Zl, Zm, Zn, Zo, Zp, Zq, Zr, Zs, Zt, decide_eq_true gz, fv, g3', g4']
  exact ⟨_, rfl, ⟨_, rfl⟩, .int, h⟩
 rw [if_pos g4] at h
 by_cases gz : y.on = Rf.zero
 case' pos =>
  have g4' : ¬ (0 : Int) < (y.cases.length : Int) := by have := g4.resolve_left (fun q => q gz); omega
  simp (disch := omega) only [kB, kcx, kdm, kdn, kel, aop, Za, Zb, Zc, reduceCtorEq, Zd, Ze, Zf, Zg, Zh, Zi, Zj, Zk, Zl, Zm, Zn, Zo, Zp, Zq, Zr, Zs, Zt, decide_eq_true gz, fv, g3', g4', o0, o1, o2, o3, o4, o5, o]
  clear g4'
 case' neg =>
  have g2b : ok = true := by rw [hok]; exact g2.resolve_left gz
  subst g2b
  simp (disch := omega) only [kB, kcx, kdm, kdn, kel, aop, Za, Zb, Zc, reduceCtorEq, Zd, Ze, Zf, Zg, Zh, Zi, Zj, Zk, Zl, Zm, Zn, Zo, Zp, Zq, Zr, Zs, Zt, decide_eq_false gz, fv, g3', o0, o1, o2, o3, o4, o5, o]
 all_goals (
  clear g3 g3' g4
  rw [← fv]
  refine rcases_s hs hx (hb.app _) ?_
  cases hE : casesE s (rwV (fldOf s y.on)) [] y.cases with
  | some e =>
   have he : (e = 0) = False := eq_false (casesE_ne hE)
   rw [hE] at h
   simp only [eI_some] at h ⊢
   simp (disch := omega) only [kB, kcx, kdm, kdn, kel, aop, Za, Zb, Zc, reduceCtorEq, Zd, Ze, Zf, Zg, Zh, Zi, Zj, Zk, Zl, Zm, Zn, Zo, Zp, Zq, Zr, Zs, Zt, he]
   exact ⟨_, rfl, ⟨_, rfl⟩, .int, h⟩
  | none =>
   rw [hE] at h
   simp only [eI_none] at h ⊢
   simp (disch := omega) only [kB, kcx, kdm, kdn, kel, aop, Za, Zb, Zc, reduceCtorEq, Zd, Ze, Zf, Zg, Zh, Zi, Zj, Zk, Zl, Zm, Zn, Zo, Zp, Zq, Zr, Zs, Zt, o0, o1, o2, o3, o4, o5]
   refine rleads_s hs (hb.app _) ?_
   by_cases g6 : leads s y.next
   ·rw [if_pos g6] at h
    simp (disch := omega) only [kB, kcx, kdm, kdn, kel, aop, Za, Zb, Zc, reduceCtorEq, Zd, Ze, Zf, Zg, Zh, Zi, Zj, Zk, Zl, Zm, Zn, Zo, Zp, Zq, Zr, Zs, Zt, decide_eq_true g6]
    exact ⟨_, rfl, ⟨_, rfl⟩, .int, h⟩
   ·rw [if_neg g6] at h
    simp (disch := omega) only [kB, kcx, kdm, kdn, kel, aop, Za, Zb, Zc, reduceCtorEq, Zd, Ze, Zf, Zg, Zh, Zi, Zj, Zk, Zl, Zm, Zn, Zo, Zp, Zq, Zr, Zs, Zt, decide_eq_false g6]
    exact ⟨_, rfl, ⟨_, rfl⟩, .int, h⟩)
end
section
variable {R : FRes → Heap → Prop} {H K : Heap}
/-! ### Rounds over a list of marks -/
def Tr (m : List Bool) (k : Nat) : Prop := m[k]? = some true
theorem Tr.set {m : List Bool} {b k : Nat} (h : Tr m k) : Tr (m.set b true) k := by
 unfold Tr at *
 by_cases e : b = k
 ·subst e; rw [List.getElem?_set_self (List.getElem?_eq_some_iff.1 h).1]
 ·rw [List.getElem?_set_ne e]; exact h
theorem Tr.here {m : List Bool} {b : Nat} (h : b < m.length) : Tr (m.set b true) b := by unfold Tr; rw [List.getElem?_set_self h]
theorem Tr.back {m : List Bool} {b k : Nat} (h : Tr (m.set b true) k) : k = b ∨ Tr m k := by
 unfold Tr at *
 by_cases e : b = k
 ·exact .inl e.symm
 ·rw [List.getElem?_set_ne e] at h; exact .inr h
def Shut (E : Nat → Nat → Prop) (i : Nat) (m : List Bool) : Prop := ∀ a b, (a = i ∨ Tr m a) → E a b → Tr m b
structure Rd (E : Nat → Nat → Prop) (n i : Nat) (m0 m : List Bool) (a : Nat) : Prop where
 len : m.length = n
 len0 : m0.length = n
 snd : ∀ k, Tr m k → Relation.TransGen E i k
 sub : ∀ k, Tr m0 k → Tr m k
 clo : Shut E i m0 → ∀ k, Tr m k → Tr m0 k
 fin : ∀ c, c < a → ∀ b, (c = i ∨ Tr m0 c) → E c b → Tr m b
theorem Rd.start {E : Nat → Nat → Prop} {n i : Nat} {m : List Bool} (h1 : m.length = n) (h2 : ∀ k, Tr m k → Relation.TransGen E i k) : Rd E n i m m 0 := ⟨h1, h1, h2, fun _ q => q, fun _ _ q => q, fun c q => by omega⟩
theorem Rd.skip {E : Nat → Nat → Prop} {n i a : Nat} {m0 m : List Bool} (h : Rd E n i m0 m a) (q : ¬ (a = i ∨ Tr m a)) : Rd E n i m0 m (a + 1) :=
 ⟨h.len, h.len0, h.snd, h.sub, h.clo, fun c hc b hb e => by
  by_cases hca : c = a
  ·subst hca; exact absurd (hb.imp id (h.sub c)) q
  ·exact h.fin c (by omega) b hb e⟩
theorem Rd.next {E : Nat → Nat → Prop} {n i a : Nat} {m0 m : List Bool} (h : Rd E n i m0 m a) (q : ∀ b, E a b → Tr m b) : Rd E n i m0 m (a + 1) :=
 ⟨h.len, h.len0, h.snd, h.sub, h.clo, fun c hc b hb e => by
  by_cases hca : c = a
  ·subst hca; exact q b e
  ·exact h.fin c (by omega) b hb e⟩
theorem Rd.put {E : Nat → Nat → Prop} {n i a b : Nat} {m0 m : List Bool} (h : Rd E n i m0 m a) (ha : a = i ∨ Tr m a) (e : E a b) : Rd E n i m0 (m.set b true) a :=
 ⟨by simp [h.len], h.len0, fun k q => by
  rcases q.back with rfl | q
  ·rcases ha with rfl | ha
   ·exact .single e
   ·exact .tail (h.snd a ha) e
  ·exact h.snd k q, fun k q => (h.sub k q).set, fun hc k q => by
  rcases q.back with rfl | q
  ·exact hc a _ (ha.imp id (h.clo hc a)) e
  ·exact h.clo hc k q, fun c hc d hd ed => (h.fin c hc d hd ed).set⟩
theorem count_sub : ∀ {m0 m : List Bool}, m0.length = m.length → (∀ k, Tr m0 k → Tr m k) → m0.count true ≤ m.count true ∧ (m0.count true = m.count true → m0 = m)
 | [], [], _, _ => ⟨Nat.le_refl _, fun _ => rfl⟩
 | x :: l, y :: l', hl, h => by
  obtain ⟨h1, h2⟩ := count_sub (m0 := l) (m := l') (by simpa using hl) (fun k q => h (k + 1) q)
  have h0 := h 0
  unfold Tr at h0
  cases x <;> cases y <;> simp at h0 ⊢
  ·exact ⟨h1, h2⟩
  ·exact ⟨by omega, by omega⟩
  ·exact ⟨h1, h2⟩
 | [], _ :: _, hl, _ => by simp at hl
 | _ :: _, [], hl, _ => by simp at hl
theorem Rd.pass {E : Nat → Nat → Prop} {n i t : Nat} {m0 m : List Bool} (hE : ∀ a b, E a b → a < n) (h : Rd E n i m0 m n) (q : Shut E i m0 ∨ t ≤ m0.count true) : Shut E i m ∨ t + 1 ≤ m.count true := by
 obtain ⟨h1, h2⟩ := count_sub (h.len0.trans h.len.symm) h.sub
 have same : m0 = m → Shut E i m := fun e a b ha hab => by
  rw [← e] at ha
  exact h.fin a (hE a b hab) b ha hab
 rcases q with q | q
 ·exact .inl fun a b ha hab => h.sub b (q a b (ha.imp id (h.clo q a)) hab)
 ·by_cases e : m0.count true = m.count true
  ·exact .inl (same (h2 e))
  ·exact .inr (by omega)
theorem closed_tr {E : Nat → Nat → Prop} {i : Nat} {m : List Bool} (h : Shut E i m) {k : Nat} (q : Relation.TransGen E i k) : Tr m k := by
 induction q with
 | single e => exact h i _ (.inl rfl) e
 | tail _ e ih => exact h _ _ (.inr ih) e
/-! ### The walks -/
def rnxI (K : Heap) (k : Nat) (y : Sta) (t : List UInt8) : Nat → Env → Heap → Prop := fun z e K' =>
 ∃ j : Nat, j ≤ y.cases.length ∧ z = y.cases.length - j ∧ K' = K ∧ (∀ c ∈ y.cases.take j, c.next ≠ t) ∧
  (∃ x : Nat → Value, e = [x 0, x 1, .int .i64 (k : Int), .pointer (some ⟨K.length - 2, 0, none⟩), x 4, x 5, x 6, .pointer (some ⟨K.length - 1, 0, none⟩), .int .i64 (j : Int), x 9, x 10, x 11, x 12, x 13, x 14, x 15, x 16, x 17, x 18, x 19, x 20, x 21, x 22, x 23, x 24, x 25, x 26, x 27, x 28, x 29, x 30, x 31, x 32, x 33, x 34, x 35, x 36, x 37, x 38, x 39, x 40, x 41, x 42])
set_option maxHeartbeats 1000000 in
theorem rnext_s {s : Sch} (hs : s.OK H) (hb : Base H K) {i k : Nat} (hi : i < s.states.length) (hk : k < s.states.length) (h : ∀ b : Bool, (b = true ↔ Edge s i k) → R (.ret (.bool b)) K) : WD T 176 [.agg s.cells.toArray, .int .i64 (i : Int), .int .i64 (k : Int)] K R := by
 refine WD.gc0 (WD.of follows t176 (by simp) ?_)
 obtain ⟨o0, o1, o2, o3, o4, o5⟩ := hs.one
 obtain ⟨hr, hn, hok⟩ := hs.ss
 unfold few at hn
 obtain ⟨ad, hv⟩ := hr.sl
 rw [List.length_map] at hv
 obtain ⟨b, u0, w0, rfl, p1, p2, p3, p4, p5⟩ := (hv ▸ hr).at Sta.len hi
 obtain ⟨b', u0', w0', e2, q1, q2, q3, q4, q5⟩ := (hv ▸ hr).at Sta.len hk
 cases e2
 have prow := hb.rowc p2
 have lp := hget_lt prow rfl
 have r0 := q5 0 (by decide)
 have ho := edge_outs hi hk
 have hyo := hok _ (List.getElem_mem hi)
 have o := hyo.one
 obtain ⟨fr, fn, fk⟩ := hyo
 obtain ⟨fa, fv⟩ := fr.sl
 rw [List.length_map] at fv
 unfold few at fn
 have ci : (i : Int) < (s.states.length : Int) := by omega
 have ck : (k : Int) < (s.states.length : Int) := by omega
 clear p5 q5 q3 q1 q2
 generalize s.states[i] = y at *
 generalize s.states[k] = yk at *
 simp only [Sta.cells, List.getElem?_cons_zero, Nat.add_zero] at p3 r0
 simp only [Sch.cells]
 unfold Sta.outs at ho
 by_cases g1 : y.next = yk.name
 ·have hh := h true (by rw [ho, g1]; simp)
  simp (disch := omega) only [kB, kcx, kdm, kdn, kel, aop, Za, Zb, Zc, reduceCtorEq, Zd, Ze, Zf, Zg, Zh, Zi, Zj, Zk, Zl, Zm, Zn, Zo, Zp, Zq, Zr, Zs, Zt, o0, o1, o2, o3, o4, o5, hv, ci, ck, prow, p3, p4, o, r0, decide_eq_true g1]
  exact ⟨_, rfl, (Base.app0 _).ext, .bool, hh⟩
 ·simp (disch := omega) only [kB, kcx, kdm, kdn, kel, aop, Za, Zb, Zc, reduceCtorEq, Zd, Ze, Zf, Zg, Zh, Zi, Zj, Zk, Zl, Zm, Zn, Zo, Zp, Zq, Zr, Zs, Zt, o0, o1, o2, o3, o4, o5, hv, ci, ck, prow, p3, p4, o, r0, decide_eq_false g1]
  obtain ⟨K1, hK1⟩ : ∃ K1, K1 = K ++ [AObj.row [s.hv, s.mv, .slice (some ⟨b, 0, none⟩) s.states.length s.states.length, s.av, s.tv, s.cv] 0 true, AObj.row [.string (bs y.name), .string (bs y.header), .string (bs y.on.head), .string (bs y.on.name), y.cv, .string (bs y.next)] 0 true] := ⟨_, rfl⟩
  rw [← hK1]
  have b1 : Base K K1 := by rw [hK1]; exact Base.app0 _
  have l1 : K1.length = K.length + 2 := by rw [hK1]; simp
  have hs1 : hget K1 K.length = .row [s.hv, s.mv, .slice (some ⟨b, 0, none⟩) s.states.length s.states.length, s.av, s.tv, s.cv] 0 true := by rw [hK1, hget_base0]; rfl
  have hx1 : hget K1 (K.length + 1) = .row [.string (bs y.name), .string (bs y.header), .string (bs y.on.head), .string (bs y.on.name), y.cv, .string (bs y.next)] 0 true := by rw [hK1, hget_base]; rfl
  clear hK1
  have e1 : K.length = K1.length - 2 := by omega
  have e2 : K.length + 1 = K1.length - 1 := by omega
  refine WLoop.inv (rnxI K1 k y yk.name) ?_ y.cases.length _ _ ⟨0, Nat.zero_le _, by omega, rfl, by simp, by rw [← e1, ← e2]; exact ex_env rfl⟩
  rintro z e K' ⟨j, hj, rfl, rfl, hno, ⟨x, rfl⟩⟩
  rw [← e1, ← e2]
  have prow1 := b1.rowc prow
  by_cases hlt : j < y.cases.length
  ·have c1 : (j : Int) < (y.cases.length : Int) := by omega
   obtain ⟨b2, u2, w2', rfl, s1, s2, s3, s4, s5⟩ := (fv ▸ fr).at Cas.len hlt
   have srow := (hb.trans b1).rowc s2
   have s6 := s5 4 (by decide)
   have w2 : IntKind.i64.wrap ((j : Int) + 1) = ((j + 1 : Nat) : Int) := wI (by omega)
   have hmem : y.cases[j] ∈ y.cases := List.getElem_mem hlt
   have hlast := fun c => mem_take_succ (t := c) hlt
   clear s5 s3
   generalize y.cases[j] = c at *
   simp only [Cas.cells, List.getElem?_cons_succ, List.getElem?_cons_zero] at s6
   by_cases g2 : c.next = yk.name
   ·have hh := h true (by rw [ho, ← g2]; simp; exact .inr ⟨c, hmem, rfl⟩)
    simp (disch := omega) only [kB, kcx, kdm, kdn, kel, aop, Za, Zb, Zc, reduceCtorEq, Zd, Ze, Zf, Zg, Zh, Zi, Zj, Zk, Zl, Zm, Zn, Zo, Zp, Zq, Zr, Zs, Zt, hx1, fv, c1, srow, s6, hs1, ck, prow1, r0, decide_eq_true g2]
    exact ⟨_, rfl, b1.ext, .bool, hh⟩
   ·simp (disch := omega) only [kB, kcx, kdm, kdn, kel, aop, Za, Zb, Zc, reduceCtorEq, Zd, Ze, Zf, Zg, Zh, Zi, Zj, Zk, Zl, Zm, Zn, Zo, Zp, Zq, Zr, Zs, Zt, hx1, fv, c1, srow, s6, hs1, ck, prow1, r0, decide_eq_false g2, w2]
    exact ⟨y.cases.length - (j + 1), by omega, j + 1, by omega, rfl, rfl, fun d hd => (hlast d hd).elim (hno d) (fun q => q ▸ g2), by rw [← e1, ← e2]; exact ex_env rfl⟩
  ·have c1 : ¬ (j : Int) < (y.cases.length : Int) := by omega
   rw [List.take_of_length_le (by omega)] at hno
   have hh := h false (by rw [ho]; simp; exact ⟨fun q => g1 q.symm, hno⟩)
   simp (disch := omega) only [kB, kcx, kdm, kdn, kel, aop, Za, Zb, Zc, reduceCtorEq, Zd, Ze, Zf, Zg, Zh, Zi, Zj, Zk, Zl, Zm, Zn, Zo, Zp, Zq, Zr, Zs, Zt, hx1, fv, c1]
   exact ⟨_, rfl, b1.ext, .bool, hh⟩
def rrT (K : Heap) (bx mb : Nat) (s : Sch) (i : Nat) : Nat → Env → Heap → Prop := fun z e K' =>
 ∃ (t : Nat) (m : List Bool), t ≤ s.states.length + 1 ∧ z = s.states.length + 1 - t ∧ m.length = s.states.length ∧ (∀ k, Tr m k → Relation.TransGen (Edge s) i k) ∧ (Shut (Edge s) i m ∨ t ≤ m.count true) ∧ Base K K' ∧ hget K' mb = .row (m.map .bool) 1 true ∧
  (∃ x : Nat → Value, e = [x 0, .int .i64 (i : Int), .pointer (some ⟨bx, 0, none⟩), x 3, x 4, .int .i64 (s.states.length : Int), .slice (some ⟨mb, 0, none⟩) s.states.length s.states.length, .int .i64 (t : Int), x 8, x 9, x 10, x 11, x 12, x 13, x 14, x 15, x 16, x 17, x 18, x 19, x 20, x 21, x 22, x 23, x 24, x 25, x 26, x 27, x 28, x 29, x 30, x 31, x 32, x 33, x 34, x 35, x 36, x 37, x 38, x 39, x 40, x 41, x 42, x 43, x 44, x 45, x 46, x 47, x 48, x 49, x 50, x 51, x 52, x 53, x 54, x 55, x 56, x 57, x 58, x 59, x 60, x 61, x 62, x 63, x 64, x 65, x 66, x 67, x 68, x 69])
def rrA (K : Heap) (bx mb : Nat) (s : Sch) (i t : Nat) (m0 : List Bool) : Nat → Env → Heap → Prop := fun z e K' =>
 ∃ (a : Nat) (m : List Bool), a ≤ s.states.length ∧ z = s.states.length - a ∧ Rd (Edge s) s.states.length i m0 m a ∧ Base K K' ∧ hget K' mb = .row (m.map .bool) 1 true ∧
  (∃ x : Nat → Value, e = [x 0, .int .i64 (i : Int), .pointer (some ⟨bx, 0, none⟩), x 3, x 4, .int .i64 (s.states.length : Int), .slice (some ⟨mb, 0, none⟩) s.states.length s.states.length, .int .i64 (t : Int), .int .i64 (a : Int), x 9, x 10, x 11, x 12, x 13, x 14, x 15, x 16, x 17, x 18, x 19, x 20, x 21, x 22, x 23, x 24, x 25, x 26, x 27, x 28, x 29, x 30, x 31, x 32, x 33, x 34, x 35, x 36, x 37, x 38, x 39, x 40, x 41, x 42, x 43, x 44, x 45, x 46, x 47, x 48, x 49, x 50, x 51, x 52, x 53, x 54, x 55, x 56, x 57, x 58, x 59, x 60, x 61, x 62, x 63, x 64, x 65, x 66, x 67, x 68, x 69])
def rrB (K : Heap) (bx mb : Nat) (s : Sch) (i t a : Nat) (m0 : List Bool) : Nat → Env → Heap → Prop := fun z e K' =>
 ∃ (b : Nat) (m : List Bool), b ≤ s.states.length ∧ z = s.states.length - b ∧ Rd (Edge s) s.states.length i m0 m a ∧ (a = i ∨ Tr m a) ∧ (∀ c, c < b → Edge s a c → Tr m c) ∧ Base K K' ∧ hget K' mb = .row (m.map .bool) 1 true ∧
  (∃ x : Nat → Value, e = [x 0, .int .i64 (i : Int), .pointer (some ⟨bx, 0, none⟩), x 3, x 4, .int .i64 (s.states.length : Int), .slice (some ⟨mb, 0, none⟩) s.states.length s.states.length, .int .i64 (t : Int), .int .i64 (a : Int), .int .i64 (b : Int), x 10, x 11, x 12, x 13, x 14, x 15, x 16, x 17, x 18, x 19, x 20, x 21, x 22, x 23, x 24, x 25, x 26, x 27, x 28, x 29, x 30, x 31, x 32, x 33, x 34, x 35, x 36, x 37, x 38, x 39, x 40, x 41, x 42, x 43, x 44, x 45, x 46, x 47, x 48, x 49, x 50, x 51, x 52, x 53, x 54, x 55, x 56, x 57, x 58, x 59, x 60, x 61, x 62, x 63, x 64, x 65, x 66, x 67, x 68, x 69])
theorem map_set_true {m : List Bool} {b : Nat} : (m.map Value.bool).set b (.bool true) = (m.set b true).map Value.bool := (List.map_set ..).symm
theorem map_set_same {m : List Bool} {b : Nat} {v : Bool} (h : m[b]? = some v) : (m.map Value.bool).set b (.bool v) = m.map Value.bool := by
 rw [← List.map_set]
 congr 1
 obtain ⟨hb, e⟩ := List.getElem?_eq_some_iff.1 h
 refine List.ext_getElem? fun j => ?_
 by_cases hj : b = j
 ·subst hj; rw [List.getElem?_set_self hb, h]
 ·rw [List.getElem?_set_ne hj]
set_option maxHeartbeats 4000000 in
theorem rround_s {s : Sch} (hs : s.OK H) (hb : Base H K) {i : Nat} (hi : i < s.states.length) (hlen : s.states.length ≤ 32) (h : ∀ b : Bool, (b = true ↔ Relation.TransGen (Edge s) i i) → R (.ret (.bool b)) K) : WD T 137 [.agg s.cells.toArray, .int .i64 (i : Int)] K R := by
 refine WD.gc0 (WD.of follows t137 (by simp) ?_)
 obtain ⟨o0, o1, o2, o3, o4, o5⟩ := hs.one
 obtain ⟨ad, hv⟩ := hs.ss.1.sl
 rw [List.length_map] at hv
 have hmk : s.states.length ≤ roomMax := by unfold roomMax; omega
 have nat1 : ∀ i : Nat, i < 64 → IntKind.i64.wrap ((i : Int) + 1) = ((i + 1 : Nat) : Int) := fun i hi => by rw [show (i : Int) + 1 = ((i + 1 : Nat) : Int) by omega]; exact wr_i64 (by omega) (by omega)
 simp only [Sch.cells]
 simp (disch := omega) only [kB, kcx, kdm, kdn, kel, aop, Za, Zb, Zc, reduceCtorEq, Zd, Ze, Zf, Zg, Zh, Zi, Zj, Zk, Zl, Zm, Zn, Zo, Zp, Zq, Zr, Zs, Zt, o0, o1, o2, o3, o4, o5, hv, hmk, Int.le_refl]
 obtain ⟨K1, hK1⟩ : ∃ K1, K1 = K ++ [AObj.row [s.hv, s.mv, .slice ad s.states.length s.states.length, s.av, s.tv, s.cv] 0 true, AObj.row (List.replicate s.states.length [Value.bool false]).flatten 1 true] := ⟨_, rfl⟩
 rw [← hK1]
 obtain ⟨K0, hK0⟩ : ∃ K0, K0 = K ++ [AObj.row [s.hv, s.mv, .slice ad s.states.length s.states.length, s.av, s.tv, s.cv] 0 true] := ⟨_, rfl⟩
 have l0 : K0.length = K.length + 1 := by rw [hK0]; simp
 have b01 : Base K0 K1 := by rw [hK1, hK0, show K ++ [AObj.row [s.hv, s.mv, .slice ad s.states.length s.states.length, s.av, s.tv, s.cv] 0 true, AObj.row (List.replicate s.states.length [Value.bool false]).flatten 1 true] = (K ++ [AObj.row [s.hv, s.mv, .slice ad s.states.length s.states.length, s.av, s.tv, s.cv] 0 true]) ++ [AObj.row (List.replicate s.states.length [Value.bool false]).flatten 1 true] by rw [List.append_assoc]; rfl]; exact Base.app0 _
 have hs0 : hget K0 K.length = .row [s.hv, s.mv, .slice ad s.states.length s.states.length, s.av, s.tv, s.cv] 0 true := by rw [hK0, hget_base0]; rfl
 have hm1 : hget K1 (K.length + 1) = .row ((List.replicate s.states.length false).map .bool) 1 true := by rw [hK1, hget_base, ← rep_flat]; rfl
 have b0 : Base K K0 := by rw [hK0]; exact Base.app0 _
 clear hK0 hK1
 have hE : ∀ a b, Edge s a b → a < s.states.length := fun a b q => (edge_lt q).1
 refine WLoop.inv (rrT K0 K.length (K.length + 1) s i) ?_ (s.states.length + 1) _ _ ⟨0, List.replicate s.states.length false, by omega, by omega, by simp, fun k q => by simp [Tr, List.getElem?_replicate] at q, .inr (Nat.zero_le _), b01, hm1, by exact ex_env rfl⟩
 rintro z e K2 ⟨t, m0, ht, rfl, hml, hsnd, hq, b2, hm2, ⟨x, rfl⟩⟩
 have lm2 := hget_lt hm2 rfl
 by_cases htl : t ≤ s.states.length
 ·have c1 : (t : Int) ≤ (s.states.length : Int) := by omega
  simp (disch := omega) only [kB, kcx, kdm, kdn, kel, aop, Za, Zb, Zc, reduceCtorEq, Zd, Ze, Zf, Zg, Zh, Zi, Zj, Zk, Zl, Zm, Zn, Zo, Zp, Zq, Zr, Zs, Zt, c1]
  refine WLoop.inv (rrA K0 K.length (K.length + 1) s i t m0) ?_ s.states.length _ _ ⟨0, m0, Nat.zero_le _, by omega, Rd.start hml hsnd, b2, hm2, by exact ex_env rfl⟩
  clear b2 hm2 lm2
  rintro z e K3 ⟨a, m, ha, rfl, hrd, b3, hm3, ⟨x, rfl⟩⟩
  have lm3 := hget_lt hm3 rfl
  by_cases hal : a < s.states.length
  ·have c2 : (a : Int) < (s.states.length : Int) := by omega
   have w2 := nat1 a (by omega)
   have ham : a < m.length := by rw [hrd.len]; exact hal
   have go : (a = i ∨ Tr m a) → ∀ e, (∃ x : Nat → Value, e = [x 0, .int .i64 (i : Int), .pointer (some ⟨K.length, 0, none⟩), x 3, x 4, .int .i64 (s.states.length : Int), .slice (some ⟨K.length + 1, 0, none⟩) s.states.length s.states.length, .int .i64 (t : Int), .int .i64 (a : Int), .int .i64 ((0 : Nat) : Int), x 10, x 11, x 12, x 13, x 14, x 15, x 16, x 17, x 18, x 19, x 20, x 21, x 22, x 23, x 24, x 25, x 26, x 27, x 28, x 29, x 30, x 31, x 32, x 33, x 34, x 35, x 36, x 37, x 38, x 39, x 40, x 41, x 42, x 43, x 44, x 45, x 46, x 47, x 48, x 49, x 50, x 51, x 52, x 53, x 54, x 55, x 56, x 57, x 58, x 59, x 60, x 61, x 62, x 63, x 64, x 65, x 66, x 67, x 68, x 69]) → rrB K0 K.length (K.length + 1) s i t a m0 s.states.length e K3 := fun q e he => ⟨0, m, Nat.zero_le _, by omega, hrd, q, fun c hc => by omega, b3, hm3, he⟩
   by_cases hai : a = i
   case' pos =>
    have c3 : ((a : Int) = (i : Int)) = True := eq_true (by omega)
    simp (disch := omega) only [kB, kcx, kdm, kdn, kel, aop, Za, Zb, Zc, reduceCtorEq, Zd, Ze, Zf, Zg, Zh, Zi, Zj, Zk, Zl, Zm, Zn, Zo, Zp, Zq, Zr, Zs, Zt, c2, c3]
    refine WLoop.inv (rrB K0 K.length (K.length + 1) s i t a m0) ?_ s.states.length _ _ (go (.inl hai) _ (by exact ex_env rfl))
   case' neg =>
    have c3 : ((a : Int) = (i : Int)) = False := eq_false (by omega)
    cases hbb : m[a] with
    | false =>
     have cell : (m.map Value.bool)[a]? = some (.bool false) := by rw [List.getElem?_map, List.getElem?_eq_getElem ham, hbb]; rfl
     have nt : ¬ (a = i ∨ Tr m a) := fun q => q.elim hai (fun q => by unfold Tr at q; rw [List.getElem?_eq_getElem ham, hbb] at q; cases q)
     simp (disch := omega) only [kB, kcx, kdm, kdn, kel, aop, Za, Zb, Zc, reduceCtorEq, Zd, Ze, Zf, Zg, Zh, Zi, Zj, Zk, Zl, Zm, Zn, Zo, Zp, Zq, Zr, Zs, Zt, c2, c3, hm3, cell, w2]
     exact ⟨s.states.length - (a + 1), by omega, a + 1, m, by omega, rfl, hrd.skip nt, b3, hm3, by exact ex_env rfl⟩
    | true => ?_
    have cell : (m.map Value.bool)[a]? = some (.bool true) := by rw [List.getElem?_map, List.getElem?_eq_getElem ham, hbb]; rfl
    have nt : Tr m a := by unfold Tr; rw [List.getElem?_eq_getElem ham, hbb]
    simp (disch := omega) only [kB, kcx, kdm, kdn, kel, aop, Za, Zb, Zc, reduceCtorEq, Zd, Ze, Zf, Zg, Zh, Zi, Zj, Zk, Zl, Zm, Zn, Zo, Zp, Zq, Zr, Zs, Zt, c2, c3, hm3, cell]
    refine WLoop.inv (rrB K0 K.length (K.length + 1) s i t a m0) ?_ s.states.length _ _ (go (.inr nt) _ (by exact ex_env rfl))
   all_goals (
    clear go
    rintro z e K4 ⟨b, m, hbl, rfl, hrd, hta, hdone, b4, hm4, ⟨x, rfl⟩⟩
    have lm4 := hget_lt hm4 rfl
    by_cases hbn : b < s.states.length
    ·have c4 : (b : Int) < (s.states.length : Int) := by omega
     have w4 := nat1 b (by omega)
     have hbm : b < m.length := by rw [hrd.len]; exact hbn
     have hs4 := b4.rowc hs0
     have ls4 := hget_lt hs4 rfl
     have lj : b + 1 ≤ (m.map Value.bool).length := by rw [List.length_map]; omega
     simp (disch := omega) only [kB, kcx, kdm, kdn, kel, aop, Za, Zb, Zc, reduceCtorEq, Zd, Ze, Zf, Zg, Zh, Zi, Zj, Zk, Zl, Zm, Zn, Zo, Zp, Zq, Zr, Zs, Zt, c4, hs4, o0, o1, o2, o3, o4, o5]
     rw [← hv]
     refine rnext_s hs (hb.trans (b0.trans b4)) hal hbn (fun bb hbb => ?_)
     have keep : ∀ o, Base K0 (K4.set (K.length + 1) o) := fun o => b4.set (by omega)
     cases hmb : m[b] with
     | true =>
      have cell : (m.map Value.bool)[b]? = some (.bool true) := by rw [List.getElem?_map, List.getElem?_eq_getElem hbm, hmb]; rfl
      have tb : Tr m b := by unfold Tr; rw [List.getElem?_eq_getElem hbm, hmb]
      simp (disch := omega) only [kB, kcx, kdm, kdn, kel, aop, Za, Zb, Zc, reduceCtorEq, Zd, Ze, Zf, Zg, Zh, Zi, Zj, Zk, Zl, Zm, Zn, Zo, Zp, Zq, Zr, Zs, Zt, c4, hm4, cell, lj, map_set_same tb, w4]
      exact ⟨s.states.length - (b + 1), by omega, b + 1, m, by omega, rfl, hrd, hta, fun c hc ec => by
       by_cases hcb : c = b
       ·subst hcb; exact tb
       ·exact hdone c (by omega) ec, keep _, hget_set' lm4, by exact ex_env rfl⟩
     | false =>
      have cell : (m.map Value.bool)[b]? = some (.bool false) := by rw [List.getElem?_map, List.getElem?_eq_getElem hbm, hmb]; rfl
      have fb : m[b]? = some false := by rw [List.getElem?_eq_getElem hbm, hmb]
      cases bb with
      | false =>
       have ne : ¬ Edge s a b := fun q => by have := hbb.2 q; cases this
       simp (disch := omega) only [kB, kcx, kdm, kdn, kel, aop, Za, Zb, Zc, reduceCtorEq, Zd, Ze, Zf, Zg, Zh, Zi, Zj, Zk, Zl, Zm, Zn, Zo, Zp, Zq, Zr, Zs, Zt, c4, hm4, cell, lj, map_set_same fb, w4]
       exact ⟨s.states.length - (b + 1), by omega, b + 1, m, by omega, rfl, hrd, hta, fun c hc ec => by
        by_cases hcb : c = b
        ·subst hcb; exact absurd ec ne
        ·exact hdone c (by omega) ec, keep _, hget_set' lm4, by exact ex_env rfl⟩
      | true =>
       have ee : Edge s a b := hbb.1 rfl
       have fin : ∀ e, (∃ x : Nat → Value, e = [x 0, .int .i64 (i : Int), .pointer (some ⟨K.length, 0, none⟩), x 3, x 4, .int .i64 (s.states.length : Int), .slice (some ⟨K.length + 1, 0, none⟩) s.states.length s.states.length, .int .i64 (t : Int), .int .i64 (a : Int), .int .i64 ((b + 1 : Nat) : Int), x 10, x 11, x 12, x 13, x 14, x 15, x 16, x 17, x 18, x 19, x 20, x 21, x 22, x 23, x 24, x 25, x 26, x 27, x 28, x 29, x 30, x 31, x 32, x 33, x 34, x 35, x 36, x 37, x 38, x 39, x 40, x 41, x 42, x 43, x 44, x 45, x 46, x 47, x 48, x 49, x 50, x 51, x 52, x 53, x 54, x 55, x 56, x 57, x 58, x 59, x 60, x 61, x 62, x 63, x 64, x 65, x 66, x 67, x 68, x 69]) → rrB K0 K.length (K.length + 1) s i t a m0 (s.states.length - (b + 1)) e (K4.set (K.length + 1) (.row ((m.set b true).map Value.bool) 1 true)) := fun e he =>
        ⟨b + 1, m.set b true, by omega, rfl, hrd.put hta ee, hta.imp id Tr.set, fun c hc ec => by
         by_cases hcb : c = b
         ·subst hcb; exact Tr.here hbm
         ·exact (hdone c (by omega) ec).set, keep _, hget_set' lm4, he⟩
       by_cases hai2 : a = i
       ·have c5 : ((a : Int) = (i : Int)) = True := eq_true (by omega)
        simp (disch := omega) only [kB, kcx, kdm, kdn, kel, aop, Za, Zb, Zc, reduceCtorEq, Zd, Ze, Zf, Zg, Zh, Zi, Zj, Zk, Zl, Zm, Zn, Zo, Zp, Zq, Zr, Zs, Zt, c4, c5, hm4, cell, lj, map_set_true, w4]
        exact ⟨s.states.length - (b + 1), by omega, fin _ (by exact ex_env rfl)⟩
       ·have c5 : ((a : Int) = (i : Int)) = False := eq_false (by omega)
        have ta : Tr m a := hta.resolve_left hai2
        have cella : (m.map Value.bool)[a]? = some (.bool true) := by rw [List.getElem?_map, ta]; rfl
        simp (disch := omega) only [kB, kcx, kdm, kdn, kel, aop, Za, Zb, Zc, reduceCtorEq, Zd, Ze, Zf, Zg, Zh, Zi, Zj, Zk, Zl, Zm, Zn, Zo, Zp, Zq, Zr, Zs, Zt, c2, c4, c5, hm4, cell, cella, lj, map_set_true, w4]
        exact ⟨s.states.length - (b + 1), by omega, fin _ (by exact ex_env rfl)⟩
    ·have c4 : ¬ (b : Int) < (s.states.length : Int) := by omega
     simp (disch := omega) only [kB, kcx, kdm, kdn, kel, aop, Za, Zb, Zc, reduceCtorEq, Zd, Ze, Zf, Zg, Zh, Zi, Zj, Zk, Zl, Zm, Zn, Zo, Zp, Zq, Zr, Zs, Zt, c4, w2]
     exact ⟨s.states.length - (a + 1), by omega, a + 1, m, by omega, rfl, hrd.next (fun c ec => hdone c (by have := (edge_lt ec).2; omega) ec), b4, hm4, by exact ex_env rfl⟩)
  ·have c2 : ¬ (a : Int) < (s.states.length : Int) := by omega
   obtain rfl : a = s.states.length := by omega
   have w2 := nat1 t (by omega)
   simp (disch := omega) only [kB, kcx, kdm, kdn, kel, aop, Za, Zb, Zc, reduceCtorEq, Zd, Ze, Zf, Zg, Zh, Zi, Zj, Zk, Zl, Zm, Zn, Zo, Zp, Zq, Zr, Zs, Zt, c2, w2]
   exact ⟨s.states.length + 1 - (t + 1), by omega, t + 1, m, by omega, rfl, hrd.len, hrd.snd, hrd.pass hE hq, b3, hm3, by exact ex_env rfl⟩
 ·have c1 : ¬ (t : Int) ≤ (s.states.length : Int) := by omega
  have hcl : Shut (Edge s) i m0 := hq.resolve_right fun q => by have := List.count_le_length (a := true) (l := m0); omega
  have him : i < m0.length := by omega
  have ci : (i : Int) < (s.states.length : Int) := by omega
  have hh := h m0[i] ⟨fun q => hsnd i (by unfold Tr; rw [List.getElem?_eq_getElem him, q]), fun q => by have := closed_tr hcl q; unfold Tr at this; rw [List.getElem?_eq_getElem him] at this; injection this⟩
  have cell : (m0.map Value.bool)[i]? = some (.bool m0[i]) := by rw [List.getElem?_map, List.getElem?_eq_getElem him]; rfl
  simp (disch := omega) only [kB, kcx, kdm, kdn, kel, aop, Za, Zb, Zc, reduceCtorEq, Zd, Ze, Zf, Zg, Zh, Zi, Zj, Zk, Zl, Zm, Zn, Zo, Zp, Zq, Zr, Zs, Zt, c1, ci, hm2, cell]
  exact ⟨_, rfl, (b0.trans b2).ext, .bool, hh⟩
end
section
variable {R : FRes → Heap → Prop} {H K : Heap}
/-- An error and its thing. -/
def eT (o : Option (Int × List UInt8)) : Value := match o with
 | some x => .tuple #[.int .i64 x.1, .string (bs x.2)]
 | none => .tuple #[.int .i64 0, .string (bs [])]
theorem eT_scoped {n : Nat} {o : Option (Int × List UInt8)} : Scoped n (eT o) := by cases o <;> exact .tup2 .int .string
theorem ixT_lt : ∀ {t : List UInt8} {l : List (List UInt8)} {p i : Nat} (h : i < l.length), l[i] = t → (ixT t l p < ((p + i : Nat) : Int) ↔ t ∈ l.take i)
 | t, [], p, i, h, _ => by simp at h
 | t, x :: l, p, 0, h, e => by
  simp at e
  rw [ixT, if_pos e]
  simp
 | t, x :: l, p, i + 1, h, e => by
  rw [ixT]
  by_cases hx : x = t
  ·rw [if_pos hx]
   exact ⟨fun _ => by simp [hx], fun _ => by omega⟩
  ·rw [if_neg hx, show p + (i + 1) = p + 1 + i by omega, ixT_lt (by simpa using h) (by simpa using e), List.take_succ_cons, List.mem_cons]
   exact ⟨.inr, fun q => q.resolve_left fun q => hx q.symm⟩
/-- Errors are no 0. -/
theorem nameE_ne {met : List (List UInt8)} {n : List UInt8} {e : Int} (h : nameE met n = some e) : e ≠ 0 := by
 unfold nameE at h
 split at h
 ·cases h; decide
 ·split at h
  ·cases h; decide
  ·cases h
theorem fieldsE_ne : ∀ {l : List Fld} {met : List (List UInt8)} {e : Int}, fieldsE met l = some e → e ≠ 0
 | [], _, e, h => by cases h
 | f :: l, met, e, h => by
  rw [fieldsE] at h
  cases hn : nameE met f.name with
  | some e' => rw [hn] at h; cases h; exact nameE_ne hn
  | none =>
   rw [hn] at h
   simp only at h
   split at h
   ·exact fieldsE_ne h
   ·cases h; decide
theorem staE_ne {s : Sch} {y : Sta} {e : Int} (h : staE s y = some e) : e ≠ 0 := by
 unfold staE at h
 split at h
 ·split at h
  ·split at h
   ·split at h
    ·cases hc : casesE s (rwV (fldOf s y.on)) [] y.cases with
     | some e' => rw [hc] at h; cases h; exact casesE_ne hc
     | none =>
      rw [hc] at h
      simp only at h
      split at h
      ·cases h
      ·cases h; decide
    ·cases h; decide
   ·cases h; decide
  ·cases h; decide
 ·cases h; decide
def rsA (K : Heap) (bx : Nat) (s : Sch) : Nat → Env → Heap → Prop := fun z e K' =>
 ∃ i : Nat, i ≤ s.states.length ∧ z = s.states.length - i ∧ Base K K' ∧ stasE s [] s.states = stasE s ((s.states.take i).map Sta.name) (s.states.drop i) ∧ (∃ x : Nat → Value, e = [x 0, .pointer (some ⟨bx, 0, none⟩), x 2, x 3, .int .i64 (i : Int), x 5, x 6, x 7, x 8, x 9, x 10, x 11, x 12, x 13, x 14, x 15, x 16, x 17, x 18, x 19, x 20, x 21, x 22, x 23, x 24, x 25, x 26, x 27, x 28, x 29, x 30, x 31, x 32, x 33, x 34, x 35, x 36, x 37, x 38, x 39, x 40, x 41, x 42, x 43, x 44, x 45, x 46, x 47, x 48, x 49, x 50, x 51, x 52, x 53, x 54, x 55, x 56, x 57, x 58, x 59, x 60, x 61, x 62, x 63, x 64, x 65, x 66, x 67, x 68, x 69, x 70, x 71, x 72, x 73, x 74, x 75, x 76, x 77])
def rsB (K : Heap) (bx : Nat) (s : Sch) : Nat → Env → Heap → Prop := fun z e K' =>
 ∃ i : Nat, i ≤ s.states.length ∧ z = s.states.length - i ∧ Base K K' ∧ rndE s 0 s.states = rndE s i (s.states.drop i) ∧ (∃ x : Nat → Value, e = [x 0, .pointer (some ⟨bx, 0, none⟩), x 2, x 3, x 4, x 5, x 6, x 7, .int .i64 (i : Int), x 9, x 10, x 11, x 12, x 13, x 14, x 15, x 16, x 17, x 18, x 19, x 20, x 21, x 22, x 23, x 24, x 25, x 26, x 27, x 28, x 29, x 30, x 31, x 32, x 33, x 34, x 35, x 36, x 37, x 38, x 39, x 40, x 41, x 42, x 43, x 44, x 45, x 46, x 47, x 48, x 49, x 50, x 51, x 52, x 53, x 54, x 55, x 56, x 57, x 58, x 59, x 60, x 61, x 62, x 63, x 64, x 65, x 66, x 67, x 68, x 69, x 70, x 71, x 72, x 73, x 74, x 75, x 76, x 77])
set_option maxHeartbeats 4000000 in
theorem rstates_s {s : Sch} (hs : s.OK H) (hn0 : ∀ x ∈ s.states, short x.name) (hb : Base H K) (h : R (.ret (eT (statesE s))) K) : WD T 64 [.agg s.cells.toArray] K R := by
 refine WD.gc0 (WD.of follows t64 (by simp) ?_)
 obtain ⟨o0, o1, o2, o3, o4, o5⟩ := hs.one
 obtain ⟨hr, hn, hok⟩ := hs.ss
 unfold few at hn
 obtain ⟨ad, hv⟩ := hr.sl
 rw [List.length_map] at hv
 simp only [Sch.cells]
 by_cases g0 : (s.states.length : Int) ≤ 32
 case neg =>
  have g0' : (32 : Int) < (s.states.length : Int) := by omega
  rw [statesE, if_neg (by omega)] at h
  simp (disch := omega) only [kB, kcx, kdm, kdn, kel, aop, Za, Zb, Zc, reduceCtorEq, Zd, Ze, Zf, Zg, Zh, Zi, Zj, Zk, Zl, Zm, Zn, Zo, Zp, Zq, Zr, Zs, Zt, o0, o1, o2, o3, o4, o5, hv, g0']
  exact ⟨_, rfl, (Base.app0 _).ext, eT_scoped (o := some (74, [115, 116, 97, 116, 101])), h⟩
 have g0' : ¬ (32 : Int) < (s.states.length : Int) := by omega
 rw [statesE, if_pos (by omega)] at h
 simp (disch := omega) only [kB, kcx, kdm, kdn, kel, aop, Za, Zb, Zc, reduceCtorEq, Zd, Ze, Zf, Zg, Zh, Zi, Zj, Zk, Zl, Zm, Zn, Zo, Zp, Zq, Zr, Zs, Zt, o0, o1, o2, o3, o4, o5, hv, g0']
 obtain ⟨K1, hK1⟩ : ∃ K1, K1 = K ++ [AObj.row [s.hv, s.mv, .slice ad s.states.length s.states.length, s.av, s.tv, s.cv] 0 true] := ⟨_, rfl⟩
 rw [← hK1]
 have b1 : Base K K1 := by rw [hK1]; exact Base.app0 _
 have hs1 : hget K1 K.length = .row [s.hv, s.mv, .slice ad s.states.length s.states.length, s.av, s.tv, s.cv] 0 true := by rw [hK1, hget_base0]; rfl
 clear hK1
 have nat1 : ∀ i : Nat, i < 64 → IntKind.i64.wrap ((i : Int) + 1) = ((i + 1 : Nat) : Int) := fun i hi => by rw [show (i : Int) + 1 = ((i + 1 : Nat) : Int) by omega]; exact wr_i64 (by omega) (by omega)
 refine WLoop.inv (rsA K1 K.length s) ?_ s.states.length _ _ ⟨0, Nat.zero_le _, by omega, Base.refl, rfl, by exact ex_env rfl⟩
 rintro z e K' ⟨i, hi, rfl, bK, hx, ⟨x, rfl⟩⟩
 have hs2 := bK.rowc hs1
 have ls2 := hget_lt hs2 rfl
 have bKK := b1.trans bK
 have hbK := hb.trans bKK
 by_cases hlt : i < s.states.length
 ·have c1 : (i : Int) < (s.states.length : Int) := by omega
  obtain ⟨b, u0, w0, rfl, p1, p2, p3, p4, p5⟩ := (hv ▸ hr).at Sta.len hlt
  have prow := hbK.rowc p2
  have w2 := nat1 i (by omega)
  have hyo := hok _ (List.getElem_mem hlt)
  have hys := hn0 _ (List.getElem_mem hlt)
  have htk := take_map Sta.name hlt
  have hix := ixT_lt (l := s.states.map Sta.name) (p := 0) (i := i) (by simpa using hlt) rfl
  rw [List.getElem_map, Nat.zero_add, ← List.map_take] at hix
  have r0 := p5 0 (by decide)
  rw [List.drop_eq_getElem_cons hlt, stasE] at hx
  generalize s.states[i] = y at *
  simp only [Sta.cells, List.getElem?_cons_zero, Nat.add_zero] at p3 r0
  clear p5
  unfold short at hys
  have hadd : binV .add (.string (bs [115, 116, 97, 116, 101, 32])) (.string (bs y.name)) = some (.string (bs ([115, 116, 97, 116, 101, 32] ++ y.name))) := bin_str_add (by simp; omega)
  have bad : ∀ e, stasE s [] s.states = some (e, [115, 116, 97, 116, 101, 32] ++ y.name) → R (.ret (.tuple #[.int .i64 e, .string (bs ([115, 116, 97, 116, 101, 32] ++ y.name))])) K := fun e q => by rw [q] at h; exact h
  simp (disch := omega) only [kB, kcx, kdm, kdn, kel, aop, Za, Zb, Zc, reduceCtorEq, Zd, Ze, Zf, Zg, Zh, Zi, Zj, Zk, Zl, Zm, Zn, Zo, Zp, Zq, Zr, Zs, Zt, hs2, c1, prow, r0, hadd]
  refine risName_s ?_
  unfold nameE at hx
  by_cases g1 : isNm y.name = false
  case pos =>
   rw [if_pos g1] at hx
   rw [g1]
   simp (disch := omega) only [kB, kcx, kdm, kdn, kel, aop, Za, Zb, Zc, reduceCtorEq, Zd, Ze, Zf, Zg, Zh, Zi, Zj, Zk, Zl, Zm, Zn, Zo, Zp, Zq, Zr, Zs, Zt]
   exact ⟨_, rfl, bKK.ext, .tup2 .int .string, bad _ hx⟩
  rw [if_neg g1] at hx
  rw [Bool.not_eq_false] at g1
  rw [g1]
  simp (disch := omega) only [kB, kcx, kdm, kdn, kel, aop, Za, Zb, Zc, reduceCtorEq, Zd, Ze, Zf, Zg, Zh, Zi, Zj, Zk, Zl, Zm, Zn, Zo, Zp, Zq, Zr, Zs, Zt, hs2, c1, prow, r0, o0, o1, o2, o3, o4, o5]
  rw [← hv]
  refine rstateAt_s hs hbK ?_
  by_cases g2 : y.name ∈ (s.states.take i).map Sta.name
  case pos =>
   rw [if_pos g2] at hx
   have g2' : ixT y.name (s.states.map Sta.name) 0 < (i : Int) := hix.2 g2
   simp (disch := omega) only [kB, kcx, kdm, kdn, kel, aop, Za, Zb, Zc, reduceCtorEq, Zd, Ze, Zf, Zg, Zh, Zi, Zj, Zk, Zl, Zm, Zn, Zo, Zp, Zq, Zr, Zs, Zt, g2']
   exact ⟨_, rfl, bKK.ext, .tup2 .int .string, bad _ hx⟩
  rw [if_neg g2] at hx
  simp only at hx
  have g2' : ¬ ixT y.name (s.states.map Sta.name) 0 < (i : Int) := fun q => g2 (hix.1 q)
  simp (disch := omega) only [kB, kcx, kdm, kdn, kel, aop, Za, Zb, Zc, reduceCtorEq, Zd, Ze, Zf, Zg, Zh, Zi, Zj, Zk, Zl, Zm, Zn, Zo, Zp, Zq, Zr, Zs, Zt, g2', hs2, c1, prow, p3, p4, o0, o1, o2, o3, o4, o5]
  rw [← hv]
  refine rstate_s hs hyo hbK ?_
  cases hE : staE s y with
  | some e =>
   have he : (e = 0) = False := eq_false (staE_ne hE)
   rw [hE] at hx
   simp only [eI_some]
   simp (disch := omega) only [kB, kcx, kdm, kdn, kel, aop, Za, Zb, Zc, reduceCtorEq, Zd, Ze, Zf, Zg, Zh, Zi, Zj, Zk, Zl, Zm, Zn, Zo, Zp, Zq, Zr, Zs, Zt, he]
   exact ⟨_, rfl, bKK.ext, .tup2 .int .string, bad _ hx⟩
  | none =>
   rw [hE] at hx
   simp only [eI_none]
   simp (disch := omega) only [kB, kcx, kdm, kdn, kel, aop, Za, Zb, Zc, reduceCtorEq, Zd, Ze, Zf, Zg, Zh, Zi, Zj, Zk, Zl, Zm, Zn, Zo, Zp, Zq, Zr, Zs, Zt, w2]
   exact ⟨s.states.length - (i + 1), by omega, i + 1, by omega, rfl, bK, by rw [htk]; exact hx, by exact ex_env rfl⟩
 ·have c1 : ¬ (i : Int) < (s.states.length : Int) := by omega
  rw [List.drop_eq_nil_of_le (by omega), stasE] at hx
  rw [hx] at h
  simp only [roundsE] at h
  simp (disch := omega) only [kB, kcx, kdm, kdn, kel, aop, Za, Zb, Zc, reduceCtorEq, Zd, Ze, Zf, Zg, Zh, Zi, Zj, Zk, Zl, Zm, Zn, Zo, Zp, Zq, Zr, Zs, Zt, hs2, c1]
  refine WLoop.inv (rsB K1 K.length s) ?_ s.states.length _ _ ⟨0, Nat.zero_le _, by omega, bK, rfl, by exact ex_env rfl⟩
  clear hs2 ls2 bK bKK hbK
  rintro z e K' ⟨i, hi, rfl, bK, hx, ⟨x, rfl⟩⟩
  have hs2 := bK.rowc hs1
  have ls2 := hget_lt hs2 rfl
  have bKK := b1.trans bK
  have hbK := hb.trans bKK
  by_cases hlt : i < s.states.length
  ·have c1 : (i : Int) < (s.states.length : Int) := by omega
   obtain ⟨b, u0, w0, rfl, p1, p2, p3, p4, p5⟩ := (hv ▸ hr).at Sta.len hlt
   have prow := hbK.rowc p2
   have w2 := nat1 i (by omega)
   have hys := hn0 _ (List.getElem_mem hlt)
   have r0 := p5 0 (by decide)
   rw [List.drop_eq_getElem_cons hlt, rndE] at hx
   clear p5 p3
   generalize s.states[i] = y at *
   simp only [Sta.cells, List.getElem?_cons_zero, Nat.add_zero] at r0
   unfold short at hys
   have hadd : binV .add (.string (bs [115, 116, 97, 116, 101, 32])) (.string (bs y.name)) = some (.string (bs ([115, 116, 97, 116, 101, 32] ++ y.name))) := bin_str_add (by simp; omega)
   simp (disch := omega) only [kB, kcx, kdm, kdn, kel, aop, Za, Zb, Zc, reduceCtorEq, Zd, Ze, Zf, Zg, Zh, Zi, Zj, Zk, Zl, Zm, Zn, Zo, Zp, Zq, Zr, Zs, Zt, hs2, c1, o0, o1, o2, o3, o4, o5]
   rw [← hv]
   refine rround_s hs hbK hlt (by omega) (fun bb hbb => ?_)
   cases bb with
   | true =>
    rw [if_pos (hbb.1 rfl)] at hx
    rw [hx] at h
    simp (disch := omega) only [kB, kcx, kdm, kdn, kel, aop, Za, Zb, Zc, reduceCtorEq, Zd, Ze, Zf, Zg, Zh, Zi, Zj, Zk, Zl, Zm, Zn, Zo, Zp, Zq, Zr, Zs, Zt, hs2, c1, prow, r0, hadd]
    exact ⟨_, rfl, bKK.ext, .tup2 .int .string, h⟩
   | false =>
    rw [if_neg (fun q => by have := hbb.2 q; cases this)] at hx
    simp (disch := omega) only [kB, kcx, kdm, kdn, kel, aop, Za, Zb, Zc, reduceCtorEq, Zd, Ze, Zf, Zg, Zh, Zi, Zj, Zk, Zl, Zm, Zn, Zo, Zp, Zq, Zr, Zs, Zt, w2]
    exact ⟨s.states.length - (i + 1), by omega, i + 1, by omega, rfl, bK, hx, by exact ex_env rfl⟩
  ·have c1 : ¬ (i : Int) < (s.states.length : Int) := by omega
   rw [List.drop_eq_nil_of_le (by omega), rndE] at hx
   rw [hx] at h
   simp (disch := omega) only [kB, kcx, kdm, kdn, kel, aop, Za, Zb, Zc, reduceCtorEq, Zd, Ze, Zf, Zg, Zh, Zi, Zj, Zk, Zl, Zm, Zn, Zo, Zp, Zq, Zr, Zs, Zt, hs2, c1]
   exact ⟨_, rfl, bKK.ext, .tup2 .int .string, h⟩
theorem rmeta_s {s : Sch} (hs : s.OK H) (hb : Base H K) (h : R (.ret (eT (metaE s))) K) : WD T 63 [.agg s.cells.toArray] K R := by
 refine WD.gc0 (WD.of follows t63 (by simp) ?_)
 obtain ⟨o0, o1, o2, o3, o4, o5⟩ := hs.one
 have ms := hs.ms
 obtain ⟨ma, mv⟩ := ms.1.sl
 rw [List.length_map] at mv
 simp only [Sch.cells]
 by_cases g0 : (s.mets.length : Int) ≤ 32
 case neg =>
  have g0' : (32 : Int) < (s.mets.length : Int) := by omega
  rw [metaE, if_neg (by omega)] at h
  simp (disch := omega) only [kB, kcx, kdm, kdn, kel, aop, Za, Zb, Zc, reduceCtorEq, Zd, Ze, Zf, Zg, Zh, Zi, Zj, Zk, Zl, Zm, Zn, Zo, Zp, Zq, Zr, Zs, Zt, o0, o1, o2, o3, o4, o5, mv, g0']
  exact ⟨_, rfl, (Base.app0 _).ext, .tup2 .int .string, h⟩
 have g0' : ¬ (32 : Int) < (s.mets.length : Int) := by omega
 rw [metaE, if_pos (by omega)] at h
 have ms' := ms
 rw [mv] at ms'
 simp (disch := omega) only [kB, kcx, kdm, kdn, kel, aop, Za, Zb, Zc, reduceCtorEq, Zd, Ze, Zf, Zg, Zh, Zi, Zj, Zk, Zl, Zm, Zn, Zo, Zp, Zq, Zr, Zs, Zt, o0, o1, o2, o3, o4, o5, mv, g0']
 refine rfields_s ms' (hb.app _) ?_
 cases hE : fieldsE [] s.mets with
 | some e =>
  have he : (e = 0) = False := eq_false (fieldsE_ne hE)
  rw [hE] at h
  simp only [eI_some]
  simp (disch := omega) only [kB, kcx, kdm, kdn, kel, aop, Za, Zb, Zc, reduceCtorEq, Zd, Ze, Zf, Zg, Zh, Zi, Zj, Zk, Zl, Zm, Zn, Zo, Zp, Zq, Zr, Zs, Zt, he]
  exact ⟨_, rfl, (Base.app0 _).ext, .tup2 .int .string, h⟩
 | none =>
  rw [hE] at h
  simp only [eI_none]
  simp (disch := omega) only [kB, kcx, kdm, kdn, kel, aop, Za, Zb, Zc, reduceCtorEq, Zd, Ze, Zf, Zg, Zh, Zi, Zj, Zk, Zl, Zm, Zn, Zo, Zp, Zq, Zr, Zs, Zt]
  exact ⟨_, rfl, (Base.app0 _).ext, .tup2 .int .string, h⟩
def rhI (K : Heap) (bx : Nat) (s : Sch) : Nat → Env → Heap → Prop := fun z e K' =>
 ∃ i : Nat, i ≤ s.headers.length ∧ z = s.headers.length - i ∧ Base K K' ∧ hdrsE [] s.headers = hdrsE ((s.headers.take i).map Hdr.name) (s.headers.drop i) ∧ (∃ x : Nat → Value, e = [x 0, .pointer (some ⟨bx, 0, none⟩), x 2, x 3, .int .i64 (i : Int), x 5, x 6, x 7, x 8, x 9, x 10, x 11, x 12, x 13, x 14, x 15, x 16, x 17, x 18, x 19, x 20, x 21, x 22, x 23, x 24, x 25, x 26, x 27, x 28, x 29, x 30, x 31, x 32, x 33, x 34, x 35, x 36, x 37, x 38, x 39, x 40, x 41, x 42, x 43, x 44, x 45, x 46, x 47, x 48, x 49, x 50, x 51, x 52, x 53, x 54, x 55, x 56, x 57, x 58, x 59, x 60, x 61, x 62, x 63, x 64, x 65, x 66, x 67, x 68, x 69, x 70, x 71, x 72, x 73, x 74, x 75, x 76, x 77, x 78, x 79])
def rhJ (K : Heap) (bx xb : Nat) (i : Nat) (t : List UInt8) (l : List Fld) : Nat → Env → Heap → Prop := fun z e K' =>
 ∃ k : Nat, k ≤ l.length ∧ z = l.length - k ∧ K' = K ∧ (∃ x : Nat → Value, e = [x 0, .pointer (some ⟨bx, 0, none⟩), x 2, x 3, .int .i64 (i : Int), .pointer (some ⟨xb, 0, none⟩), .string (bs t), x 7, x 8, .int .i64 (sumW (l.take k)), .int .i64 (k : Int), x 11, x 12, x 13, x 14, x 15, x 16, x 17, x 18, x 19, x 20, x 21, x 22, x 23, x 24, x 25, x 26, x 27, x 28, x 29, x 30, x 31, x 32, x 33, x 34, x 35, x 36, x 37, x 38, x 39, x 40, x 41, x 42, x 43, x 44, x 45, x 46, x 47, x 48, x 49, x 50, x 51, x 52, x 53, x 54, x 55, x 56, x 57, x 58, x 59, x 60, x 61, x 62, x 63, x 64, x 65, x 66, x 67, x 68, x 69, x 70, x 71, x 72, x 73, x 74, x 75, x 76, x 77, x 78, x 79])
set_option maxHeartbeats 4000000 in
theorem rheaders_s {s : Sch} (hs : s.OK H) (hn0 : ∀ x ∈ s.headers, short x.name) (hb : Base H K) (h : R (.ret (eT (headersE s))) K) : WD T 62 [.agg s.cells.toArray] K R := by
 refine WD.gc0 (WD.of follows t62 (by simp) ?_)
 obtain ⟨o0, o1, o2, o3, o4, o5⟩ := hs.one
 obtain ⟨hr, hn, hok⟩ := hs.hs
 unfold few at hn
 obtain ⟨ad, hv⟩ := hr.sl
 rw [List.length_map] at hv
 simp only [Sch.cells]
 by_cases g0 : (s.headers.length : Int) ≤ 32
 case neg =>
  have g0' : (32 : Int) < (s.headers.length : Int) := by omega
  rw [headersE, if_neg (by omega)] at h
  simp (disch := omega) only [kB, kcx, kdm, kdn, kel, aop, Za, Zb, Zc, reduceCtorEq, Zd, Ze, Zf, Zg, Zh, Zi, Zj, Zk, Zl, Zm, Zn, Zo, Zp, Zq, Zr, Zs, Zt, o0, o1, o2, o3, o4, o5, hv, g0']
  exact ⟨_, rfl, (Base.app0 _).ext, .tup2 .int .string, h⟩
 have g0' : ¬ (32 : Int) < (s.headers.length : Int) := by omega
 rw [headersE, if_pos (by omega)] at h
 simp (disch := omega) only [kB, kcx, kdm, kdn, kel, aop, Za, Zb, Zc, reduceCtorEq, Zd, Ze, Zf, Zg, Zh, Zi, Zj, Zk, Zl, Zm, Zn, Zo, Zp, Zq, Zr, Zs, Zt, o0, o1, o2, o3, o4, o5, hv, g0']
 obtain ⟨K1, hK1⟩ : ∃ K1, K1 = K ++ [AObj.row [.slice ad s.headers.length s.headers.length, s.mv, s.sv, s.av, s.tv, s.cv] 0 true] := ⟨_, rfl⟩
 rw [← hK1]
 have b1 : Base K K1 := by rw [hK1]; exact Base.app0 _
 have hs1 : hget K1 K.length = .row [.slice ad s.headers.length s.headers.length, s.mv, s.sv, s.av, s.tv, s.cv] 0 true := by rw [hK1, hget_base0]; rfl
 clear hK1
 have nat1 : ∀ i : Nat, i < 64 → IntKind.i64.wrap ((i : Int) + 1) = ((i + 1 : Nat) : Int) := fun i hi => by rw [show (i : Int) + 1 = ((i + 1 : Nat) : Int) by omega]; exact wr_i64 (by omega) (by omega)
 refine WLoop.inv (rhI K1 K.length s) ?_ s.headers.length _ _ ⟨0, Nat.zero_le _, by omega, Base.refl, rfl, by exact ex_env rfl⟩
 rintro z e K' ⟨i, hi, rfl, bK, hx, ⟨x, rfl⟩⟩
 have hs2 := bK.rowc hs1
 have ls2 := hget_lt hs2 rfl
 have bKK := b1.trans bK
 have hbK := hb.trans bKK
 by_cases hlt : i < s.headers.length
 ·have c1 : (i : Int) < (s.headers.length : Int) := by omega
  obtain ⟨b, u0, w0, rfl, p1, p2, p3, p4, p5⟩ := (hv ▸ hr).at Hdr.len hlt
  have prow := hbK.rowc p2
  have w2 := nat1 i (by omega)
  have hyo := hok _ (List.getElem_mem hlt)
  have hys := hn0 _ (List.getElem_mem hlt)
  have htk := take_map Hdr.name hlt
  have hix := ixT_lt (l := s.headers.map Hdr.name) (p := 0) (i := i) (by simpa using hlt) rfl
  rw [List.getElem_map, Nat.zero_add, ← List.map_take] at hix
  rw [List.drop_eq_getElem_cons hlt, hdrsE, hdrE] at hx
  generalize s.headers[i] = y at *
  simp only [Hdr.cells] at p3
  clear p5
  have o := hyo.one
  have hyo' := hyo
  obtain ⟨fr, fn, fk⟩ := hyo'
  obtain ⟨fa, fv⟩ := fr.sl
  rw [List.length_map] at fv
  unfold few at fn
  unfold short at hys
  have hadd : binV .add (.string (bs [104, 101, 97, 100, 101, 114, 32])) (.string (bs y.name)) = some (.string (bs ([104, 101, 97, 100, 101, 114, 32] ++ y.name))) := bin_str_add (by simp; omega)
  have bad : ∀ e, hdrsE [] s.headers = some (e, [104, 101, 97, 100, 101, 114, 32] ++ y.name) → R (.ret (.tuple #[.int .i64 e, .string (bs ([104, 101, 97, 100, 101, 114, 32] ++ y.name))])) K := fun e q => by rw [q] at h; exact h
  simp (disch := omega) only [kB, kcx, kdm, kdn, kel, aop, Za, Zb, Zc, reduceCtorEq, Zd, Ze, Zf, Zg, Zh, Zi, Zj, Zk, Zl, Zm, Zn, Zo, Zp, Zq, Zr, Zs, Zt, hs2, c1, prow, p3, p4, o, hadd]
  obtain ⟨K3, hK3⟩ : ∃ K3, K3 = K' ++ [AObj.row [.string (bs y.name), y.fv] 0 true] := ⟨_, rfl⟩
  rw [← hK3]
  have b3 : Base K' K3 := by rw [hK3]; exact Base.app0 _
  have hy3 : hget K3 K'.length = .row [.string (bs y.name), y.fv] 0 true := by rw [hK3, hget_last]
  clear hK3
  have hs3 := b3.rowc hs2
  have bK3 := bKK.trans b3
  have hbK3 := hbK.trans b3
  have ls3 := hget_lt hs3 rfl
  have ly3 := hget_lt hy3 rfl
  refine risName_s ?_
  unfold nameE at hx
  by_cases g1 : isNm y.name = false
  case pos =>
   rw [if_pos g1] at hx
   rw [g1]
   simp (disch := omega) only [kB, kcx, kdm, kdn, kel, aop, Za, Zb, Zc, reduceCtorEq, Zd, Ze, Zf, Zg, Zh, Zi, Zj, Zk, Zl, Zm, Zn, Zo, Zp, Zq, Zr, Zs, Zt]
   exact ⟨_, rfl, bK3.ext, .tup2 .int .string, bad _ hx⟩
  rw [if_neg g1] at hx
  rw [Bool.not_eq_false] at g1
  rw [g1]
  simp (disch := omega) only [kB, kcx, kdm, kdn, kel, aop, Za, Zb, Zc, reduceCtorEq, Zd, Ze, Zf, Zg, Zh, Zi, Zj, Zk, Zl, Zm, Zn, Zo, Zp, Zq, Zr, Zs, Zt, hs3, hy3, o0, o1, o2, o3, o4, o5]
  rw [← hv]
  refine rheaderAt_s hs hbK3 ?_
  by_cases g2 : y.name ∈ (s.headers.take i).map Hdr.name
  case pos =>
   rw [if_pos g2] at hx
   have g2' : ixT y.name (s.headers.map Hdr.name) 0 < (i : Int) := hix.2 g2
   simp (disch := omega) only [kB, kcx, kdm, kdn, kel, aop, Za, Zb, Zc, reduceCtorEq, Zd, Ze, Zf, Zg, Zh, Zi, Zj, Zk, Zl, Zm, Zn, Zo, Zp, Zq, Zr, Zs, Zt, g2']
   exact ⟨_, rfl, bK3.ext, .tup2 .int .string, bad _ hx⟩
  rw [if_neg g2] at hx
  simp only at hx
  have g2' : ¬ ixT y.name (s.headers.map Hdr.name) 0 < (i : Int) := fun q => g2 (hix.1 q)
  by_cases g3 : (y.fields.length : Int) < 1
  case pos =>
   rw [if_neg (by omega)] at hx
   simp (disch := omega) only [kB, kcx, kdm, kdn, kel, aop, Za, Zb, Zc, reduceCtorEq, Zd, Ze, Zf, Zg, Zh, Zi, Zj, Zk, Zl, Zm, Zn, Zo, Zp, Zq, Zr, Zs, Zt, g2', hy3, fv, g3]
   exact ⟨_, rfl, bK3.ext, .tup2 .int .string, bad _ hx⟩
  by_cases g4 : (32 : Int) < (y.fields.length : Int)
  case pos =>
   rw [if_neg (by omega)] at hx
   simp (disch := omega) only [kB, kcx, kdm, kdn, kel, aop, Za, Zb, Zc, reduceCtorEq, Zd, Ze, Zf, Zg, Zh, Zi, Zj, Zk, Zl, Zm, Zn, Zo, Zp, Zq, Zr, Zs, Zt, g2', hy3, fv, g3, g4]
   exact ⟨_, rfl, bK3.ext, .tup2 .int .string, bad _ hx⟩
  rw [if_pos (by omega)] at hx
  simp (disch := omega) only [kB, kcx, kdm, kdn, kel, aop, Za, Zb, Zc, reduceCtorEq, Zd, Ze, Zf, Zg, Zh, Zi, Zj, Zk, Zl, Zm, Zn, Zo, Zp, Zq, Zr, Zs, Zt, g2', hy3, fv, g3, g4]
  have hyo2 := hyo
  unfold Hdr.OK at hyo2
  rw [fv] at hyo2
  refine rfields_s hyo2 hbK3 ?_
  cases hE : fieldsE [] y.fields with
  | some e =>
   have he : (e = 0) = False := eq_false (fieldsE_ne hE)
   rw [hE] at hx
   simp only [eI_some]
   simp (disch := omega) only [kB, kcx, kdm, kdn, kel, aop, Za, Zb, Zc, reduceCtorEq, Zd, Ze, Zf, Zg, Zh, Zi, Zj, Zk, Zl, Zm, Zn, Zo, Zp, Zq, Zr, Zs, Zt, he]
   exact ⟨_, rfl, bK3.ext, .tup2 .int .string, bad _ hx⟩
  | none =>
   rw [hE] at hx
   simp only [eI_none] at hx ⊢
   have wd := fieldsE_ok hE
   simp (disch := omega) only [kB, kcx, kdm, kdn, kel, aop, Za, Zb, Zc, reduceCtorEq, Zd, Ze, Zf, Zg, Zh, Zi, Zj, Zk, Zl, Zm, Zn, Zo, Zp, Zq, Zr, Zs, Zt]
   refine WLoop.inv (rhJ K3 K.length K'.length i ([104, 101, 97, 100, 101, 114, 32] ++ y.name) y.fields) ?_ y.fields.length _ _ ⟨0, Nat.zero_le _, by omega, rfl, by exact ex_env rfl⟩
   rintro z e K4 ⟨k, hk, rfl, rfl, ⟨x, rfl⟩⟩
   by_cases hkl : k < y.fields.length
   ·have c3 : (k : Int) < (y.fields.length : Int) := by omega
    obtain ⟨b', u1, w1, rfl, q1, q2, q3, q4, q5⟩ := (fv ▸ fr).at Fld.len hkl
    have qrow := hbK3.rowc q2
    have w3 := nat1 k (by omega)
    have hst := sumW_take hkl
    have hw := wd _ (List.getElem_mem hkl)
    have h7 := sumW_le (l := y.fields.take k) (fun f hf => wd f (List.mem_of_mem_take hf))
    rw [List.length_take, Nat.min_eq_left hk] at h7
    have w4 : IntKind.i64.wrap (sumW (y.fields.take k) + y.fields[k].width) = sumW (y.fields.take (k + 1)) := by rw [hst]; exact wr_i64 (by omega) (by omega)
    have s1 := q5 1 (by decide)
    clear q5 q3
    generalize y.fields[k] = f at *
    simp only [Fld.cells, List.getElem?_cons_succ, List.getElem?_cons_zero] at s1
    simp (disch := omega) only [kB, kcx, kdm, kdn, kel, aop, Za, Zb, Zc, reduceCtorEq, Zd, Ze, Zf, Zg, Zh, Zi, Zj, Zk, Zl, Zm, Zn, Zo, Zp, Zq, Zr, Zs, Zt, hy3, fv, c3, qrow, s1, w4, w3]
    exact ⟨y.fields.length - (k + 1), by omega, k + 1, by omega, rfl, rfl, by exact ex_env rfl⟩
   ·have c3 : ¬ (k : Int) < (y.fields.length : Int) := by omega
    have hk2 : y.fields.take k = y.fields := List.take_of_length_le (by omega)
    rw [hk2]
    have hrem := bin_rem8 (sumW_le wd).1
    by_cases g5 : sumW y.fields % 8 = 0
    ·rw [if_pos g5] at hx
     have g5' : (sumW y.fields % 8 = 0) = True := eq_true g5
     simp (disch := omega) only [kB, kcx, kdm, kdn, kel, aop, Za, Zb, Zc, reduceCtorEq, Zd, Ze, Zf, Zg, Zh, Zi, Zj, Zk, Zl, Zm, Zn, Zo, Zp, Zq, Zr, Zs, Zt, hy3, fv, c3, hrem, g5', w2]
     exact ⟨s.headers.length - (i + 1), by omega, i + 1, by omega, rfl, bK.trans b3, by rw [htk]; exact hx, by exact ex_env rfl⟩
    ·rw [if_neg g5] at hx
     have g5' : (sumW y.fields % 8 = 0) = False := eq_false g5
     simp (disch := omega) only [kB, kcx, kdm, kdn, kel, aop, Za, Zb, Zc, reduceCtorEq, Zd, Ze, Zf, Zg, Zh, Zi, Zj, Zk, Zl, Zm, Zn, Zo, Zp, Zq, Zr, Zs, Zt, hy3, fv, c3, hrem, g5']
     exact ⟨_, rfl, bK3.ext, .tup2 .int .string, bad _ hx⟩
 ·have c1 : ¬ (i : Int) < (s.headers.length : Int) := by omega
  rw [List.drop_eq_nil_of_le (by omega), hdrsE] at hx
  rw [hx] at h
  simp (disch := omega) only [kB, kcx, kdm, kdn, kel, aop, Za, Zb, Zc, reduceCtorEq, Zd, Ze, Zf, Zg, Zh, Zi, Zj, Zk, Zl, Zm, Zn, Zo, Zp, Zq, Zr, Zs, Zt, hs2, c1]
  exact ⟨_, rfl, bKK.ext, .tup2 .int .string, h⟩
end
section
variable {R : FRes → Heap → Prop} {H K : Heap}
/-- Fields that are there have a width. -/
def FW (s : Sch) : Prop := ∀ r f, fldOf s r = some f → 1 ≤ f.width
def PW (ps : List Fld) : Prop := ∀ f ∈ ps, 1 ≤ f.width
theorem agree_fit {s : Sch} {ps : List Fld} (hF : FW s) (hP : PW ps) {o : Opd} (ho : opdOK s ps o = true) (w : Int) : agreesV o (opwV s ps o) w = opdFit s ps o w := by
 unfold agreesV opwV opdFit
 by_cases c : o.ref = Rf.zero
 ·rw [if_pos c, if_pos c, if_pos rfl]
 ·rw [if_neg c, if_neg c]
  have h1 : (opdF s ps o).isSome = true := by
   rw [opdOK, decide_eq_false c, Bool.false_or] at ho
   exact ho
  obtain ⟨f, hf⟩ := Option.isSome_iff_exists.1 h1
  have h2 : 1 ≤ f.width := by
   unfold opdF at hf
   split at hf
   ·exact hP f (named_ok hf).1
   ·exact hF _ f hf
  have e : rwV (opdF s ps o) = f.width := by rw [hf]; rfl
  rw [if_neg (by rw [e]; omega)]
theorem made1 {x : Stp} (k : x.kind = 1) : madeS x ↔ (0 ≤ x.op ∧ x.op ≤ 5) ∧ plainO x.a = true ∧ plainO x.b = true ∧ (x.op ≠ 0 ∨ x.b = Opd.zero) := by
 unfold madeS
 constructor
 ·rintro (h | h | h | h)
  ·exact h.2
  ·exact absurd h.1 (by omega)
  ·exact absurd h.1 (by omega)
  ·exact absurd h.1 (by omega)
 ·exact fun h => .inl ⟨k, h⟩
theorem made2 {x : Stp} (k : x.kind = 2 ∨ x.kind = 6) : madeS x ↔ x.to = Rf.zero ∧ x.op = 0 ∧ x.a = Opd.zero ∧ x.b = Opd.zero := by
 have e : (x = ⟨x.kind, Rf.zero, 0, Opd.zero, Opd.zero⟩) ↔ x.to = Rf.zero ∧ x.op = 0 ∧ x.a = Opd.zero ∧ x.b = Opd.zero := by cases x; simp
 rw [← e]
 unfold madeS
 constructor
 ·rintro (h | h | h | h)
  ·exact absurd h.1 (by omega)
  ·exact h.2
  ·exact absurd h.1 (by omega)
  ·exact absurd h.1 (by omega)
 ·exact fun h => .inr (.inl ⟨k, h⟩)
theorem made3 {x : Stp} (k : x.kind = 3 ∨ x.kind = 4) : madeS x ↔ x.to.name = [] ∧ x.op = 0 ∧ x.a = Opd.zero ∧ x.b = Opd.zero := by
 have e : (x = ⟨x.kind, ⟨x.to.head, []⟩, 0, Opd.zero, Opd.zero⟩) ↔ x.to.name = [] ∧ x.op = 0 ∧ x.a = Opd.zero ∧ x.b = Opd.zero := by obtain ⟨a, ⟨b, c⟩, d, e, f⟩ := x; simp
 rw [← e]
 unfold madeS
 constructor
 ·rintro (h | h | h | h)
  ·exact absurd h.1 (by omega)
  ·exact absurd h.1 (by omega)
  ·exact h.2
  ·exact absurd h.1 (by omega)
 ·exact fun h => .inr (.inr (.inl ⟨k, h⟩))
theorem made5 {x : Stp} (k : x.kind = 5) : madeS x ↔ x.op = 0 ∧ x.a = Opd.zero ∧ x.b = Opd.zero := by
 have e : (x = ⟨x.kind, x.to, 0, Opd.zero, Opd.zero⟩) ↔ x.op = 0 ∧ x.a = Opd.zero ∧ x.b = Opd.zero := by obtain ⟨a, ⟨b, c⟩, d, e, f⟩ := x; simp
 rw [← e]
 unfold madeS
 constructor
 ·rintro (h | h | h | h)
  ·exact absurd h.1 (by omega)
  ·exact absurd h.1 (by omega)
  ·exact absurd h.1 (by omega)
  ·exact h.2
 ·exact fun h => .inr (.inr (.inr ⟨k, h⟩))
set_option maxHeartbeats 4000000 in
theorem rmade_s {x : Stp} (h : R (.ret (.bool (decide (madeS x)))) K) : WD T 177 [.agg x.cells.toArray] K R := by
 refine WD.gc0 (WD.of follows t177 (by simp) ?_)
 have fin : ∀ bb : Bool, (madeS x ↔ bb = true) → R (.ret (.bool bb)) K := fun bb e => by
  have : decide (madeS x) = bb := by cases bb <;> simp [e]
  rwa [this] at h
 simp only [Stp.cells]
 simp (disch := omega) only [kB, kcx, kdm, kdn, kel, aop, Za, Zb, Zc, reduceCtorEq, Zd, Ze, Zf, Zg, Zh, Zi, Zj, Zk, Zl, Zm, Zn, Zo, Zp, Zq, Zr, Zs, Zt]
 refine zref_s (r := x.to) ?_
 simp (disch := omega) only [kB, kcx, kdm, kdn, kel, aop, Za, Zb, Zc, reduceCtorEq, Zd, Ze, Zf, Zg, Zh, Zi, Zj, Zk, Zl, Zm, Zn, Zo, Zp, Zq, Zr, Zs, Zt]
 refine zopd_s (o := x.a) ?_
 simp (disch := omega) only [kB, kcx, kdm, kdn, kel, aop, Za, Zb, Zc, reduceCtorEq, Zd, Ze, Zf, Zg, Zh, Zi, Zj, Zk, Zl, Zm, Zn, Zo, Zp, Zq, Zr, Zs, Zt]
 refine zopd_s (o := x.b) ?_
 have tl : ∀ bb : Bool, R (.ret (.bool bb)) K → ∀ g, ∃ v, FRes.ret (.bool bb) = .ret v ∧ (∃ g', K ++ g = K ++ g') ∧ Scoped K.length v ∧ R (.ret v) K := fun bb q g => ⟨_, rfl, ⟨g, rfl⟩, .bool, q⟩
 by_cases k1 : x.kind = 1
 ·have kk : (x.kind = 1) = True := eq_true k1
  have e := made1 k1
  simp (disch := omega) only [kB, kcx, kdm, kdn, kel, aop, Za, Zb, Zc, reduceCtorEq, Zd, Ze, Zf, Zg, Zh, Zi, Zj, Zk, Zl, Zm, Zn, Zo, Zp, Zq, Zr, Zs, Zt, kk]
  refine rplain_s (o := x.a) ?_
  simp (disch := omega) only [kB, kcx, kdm, kdn, kel, aop, Za, Zb, Zc, reduceCtorEq, Zd, Ze, Zf, Zg, Zh, Zi, Zj, Zk, Zl, Zm, Zn, Zo, Zp, Zq, Zr, Zs, Zt]
  refine rplain_s (o := x.b) ?_
  by_cases a1 : 0 ≤ x.op
  case neg => simp (disch := omega) only [kB, kcx, kdm, kdn, kel, aop, Za, Zb, Zc, reduceCtorEq, Zd, Ze, Zf, Zg, Zh, Zi, Zj, Zk, Zl, Zm, Zn, Zo, Zp, Zq, Zr, Zs, Zt, a1]; exact tl _ (fin false (by rw [e]; simp; omega)) _
  by_cases a2 : x.op ≤ 5
  case neg => simp (disch := omega) only [kB, kcx, kdm, kdn, kel, aop, Za, Zb, Zc, reduceCtorEq, Zd, Ze, Zf, Zg, Zh, Zi, Zj, Zk, Zl, Zm, Zn, Zo, Zp, Zq, Zr, Zs, Zt, a1, a2]; exact tl _ (fin false (by rw [e]; simp; omega)) _
  by_cases a3 : plainO x.a = true
  case neg => rw [Bool.not_eq_true] at a3; simp (disch := omega) only [kB, kcx, kdm, kdn, kel, aop, Za, Zb, Zc, reduceCtorEq, Zd, Ze, Zf, Zg, Zh, Zi, Zj, Zk, Zl, Zm, Zn, Zo, Zp, Zq, Zr, Zs, Zt, a1, a2, a3]; exact tl _ (fin false (by rw [e, a3]; simp)) _
  by_cases a4 : plainO x.b = true
  case neg => rw [Bool.not_eq_true] at a4; simp (disch := omega) only [kB, kcx, kdm, kdn, kel, aop, Za, Zb, Zc, reduceCtorEq, Zd, Ze, Zf, Zg, Zh, Zi, Zj, Zk, Zl, Zm, Zn, Zo, Zp, Zq, Zr, Zs, Zt, a1, a2, a3, a4]; exact tl _ (fin false (by rw [e, a4]; simp)) _
  by_cases a5 : x.op = 0
  ·have a5' : (x.op = 0) = True := eq_true a5
   simp (disch := omega) only [kB, kcx, kdm, kdn, kel, aop, Za, Zb, Zc, reduceCtorEq, Zd, Ze, Zf, Zg, Zh, Zi, Zj, Zk, Zl, Zm, Zn, Zo, Zp, Zq, Zr, Zs, Zt, a1, a2, a3, a4, a5']
   exact tl _ (fin _ (by rw [e]; simp [a1, a2, a3, a4, a5])) _
  ·have a5' : (x.op = 0) = False := eq_false a5
   simp (disch := omega) only [kB, kcx, kdm, kdn, kel, aop, Za, Zb, Zc, reduceCtorEq, Zd, Ze, Zf, Zg, Zh, Zi, Zj, Zk, Zl, Zm, Zn, Zo, Zp, Zq, Zr, Zs, Zt, a1, a2, a3, a4, a5']
   exact tl _ (fin true (by rw [e]; simp [a1, a2, a3, a4, a5])) _
 have kk : (x.kind = 1) = False := eq_false k1
 by_cases k2 : x.kind = 2 ∨ x.kind = 6
 ·have e := made2 k2
  have k2a : (x.kind = 2) = True ∨ ((x.kind = 2) = False ∧ (x.kind = 6) = True) := by
   rcases k2 with k2 | k2
   ·exact .inl (eq_true k2)
   ·exact .inr ⟨eq_false (by omega), eq_true k2⟩
  by_cases a1 : x.to = Rf.zero
  case neg =>
   rcases k2a with q | ⟨q, q6⟩
   ·simp (disch := omega) only [kB, kcx, kdm, kdn, kel, aop, Za, Zb, Zc, reduceCtorEq, Zd, Ze, Zf, Zg, Zh, Zi, Zj, Zk, Zl, Zm, Zn, Zo, Zp, Zq, Zr, Zs, Zt, kk, q, decide_eq_false a1]
    exact tl _ (fin false (by rw [e]; simp [a1])) _
   ·simp (disch := omega) only [kB, kcx, kdm, kdn, kel, aop, Za, Zb, Zc, reduceCtorEq, Zd, Ze, Zf, Zg, Zh, Zi, Zj, Zk, Zl, Zm, Zn, Zo, Zp, Zq, Zr, Zs, Zt, kk, q, q6, decide_eq_false a1]
    exact tl _ (fin false (by rw [e]; simp [a1])) _
  by_cases a2 : x.op = 0
  case neg =>
   have a2' : (x.op = 0) = False := eq_false a2
   rcases k2a with q | ⟨q, q6⟩
   ·simp (disch := omega) only [kB, kcx, kdm, kdn, kel, aop, Za, Zb, Zc, reduceCtorEq, Zd, Ze, Zf, Zg, Zh, Zi, Zj, Zk, Zl, Zm, Zn, Zo, Zp, Zq, Zr, Zs, Zt, kk, q, decide_eq_true a1, a2']
    exact tl _ (fin false (by rw [e]; simp [a2])) _
   ·simp (disch := omega) only [kB, kcx, kdm, kdn, kel, aop, Za, Zb, Zc, reduceCtorEq, Zd, Ze, Zf, Zg, Zh, Zi, Zj, Zk, Zl, Zm, Zn, Zo, Zp, Zq, Zr, Zs, Zt, kk, q, q6, decide_eq_true a1, a2']
    exact tl _ (fin false (by rw [e]; simp [a2])) _
  have a2' : (x.op = 0) = True := eq_true a2
  by_cases a3 : x.a = Opd.zero
  case neg =>
   rcases k2a with q | ⟨q, q6⟩
   ·simp (disch := omega) only [kB, kcx, kdm, kdn, kel, aop, Za, Zb, Zc, reduceCtorEq, Zd, Ze, Zf, Zg, Zh, Zi, Zj, Zk, Zl, Zm, Zn, Zo, Zp, Zq, Zr, Zs, Zt, kk, q, decide_eq_true a1, a2', decide_eq_false a3]
    exact tl _ (fin false (by rw [e]; simp [a3])) _
   ·simp (disch := omega) only [kB, kcx, kdm, kdn, kel, aop, Za, Zb, Zc, reduceCtorEq, Zd, Ze, Zf, Zg, Zh, Zi, Zj, Zk, Zl, Zm, Zn, Zo, Zp, Zq, Zr, Zs, Zt, kk, q, q6, decide_eq_true a1, a2', decide_eq_false a3]
    exact tl _ (fin false (by rw [e]; simp [a3])) _
  rcases k2a with q | ⟨q, q6⟩
  ·simp (disch := omega) only [kB, kcx, kdm, kdn, kel, aop, Za, Zb, Zc, reduceCtorEq, Zd, Ze, Zf, Zg, Zh, Zi, Zj, Zk, Zl, Zm, Zn, Zo, Zp, Zq, Zr, Zs, Zt, kk, q, decide_eq_true a1, a2', decide_eq_true a3]
   exact tl _ (fin _ (by rw [e]; simp [a1, a2, a3])) _
  ·simp (disch := omega) only [kB, kcx, kdm, kdn, kel, aop, Za, Zb, Zc, reduceCtorEq, Zd, Ze, Zf, Zg, Zh, Zi, Zj, Zk, Zl, Zm, Zn, Zo, Zp, Zq, Zr, Zs, Zt, kk, q, q6, decide_eq_true a1, a2', decide_eq_true a3]
   exact tl _ (fin _ (by rw [e]; simp [a1, a2, a3])) _
 have kk2 : (x.kind = 2) = False := eq_false (by omega)
 have kk6 : (x.kind = 6) = False := eq_false (by omega)
 by_cases k3 : x.kind = 3 ∨ x.kind = 4
 ·have e := made3 k3
  have k2a : (x.kind = 3) = True ∨ ((x.kind = 3) = False ∧ (x.kind = 4) = True) := by
   rcases k3 with k2 | k2
   ·exact .inl (eq_true k2)
   ·exact .inr ⟨eq_false (by omega), eq_true k2⟩
  by_cases a1 : x.to.name = []
  case neg =>
   rcases k2a with q | ⟨q, q6⟩
   ·simp (disch := omega) only [kB, kcx, kdm, kdn, kel, aop, Za, Zb, Zc, reduceCtorEq, Zd, Ze, Zf, Zg, Zh, Zi, Zj, Zk, Zl, Zm, Zn, Zo, Zp, Zq, Zr, Zs, Zt, kk, kk2, kk6, q, decide_eq_false a1]
    exact tl _ (fin false (by rw [e]; simp [a1])) _
   ·simp (disch := omega) only [kB, kcx, kdm, kdn, kel, aop, Za, Zb, Zc, reduceCtorEq, Zd, Ze, Zf, Zg, Zh, Zi, Zj, Zk, Zl, Zm, Zn, Zo, Zp, Zq, Zr, Zs, Zt, kk, kk2, kk6, q, q6, decide_eq_false a1]
    exact tl _ (fin false (by rw [e]; simp [a1])) _
  by_cases a2 : x.op = 0
  case neg =>
   have a2' : (x.op = 0) = False := eq_false a2
   rcases k2a with q | ⟨q, q6⟩
   ·simp (disch := omega) only [kB, kcx, kdm, kdn, kel, aop, Za, Zb, Zc, reduceCtorEq, Zd, Ze, Zf, Zg, Zh, Zi, Zj, Zk, Zl, Zm, Zn, Zo, Zp, Zq, Zr, Zs, Zt, kk, kk2, kk6, q, decide_eq_true a1, a2']
    exact tl _ (fin false (by rw [e]; simp [a2])) _
   ·simp (disch := omega) only [kB, kcx, kdm, kdn, kel, aop, Za, Zb, Zc, reduceCtorEq, Zd, Ze, Zf, Zg, Zh, Zi, Zj, Zk, Zl, Zm, Zn, Zo, Zp, Zq, Zr, Zs, Zt, kk, kk2, kk6, q, q6, decide_eq_true a1, a2']
    exact tl _ (fin false (by rw [e]; simp [a2])) _
  have a2' : (x.op = 0) = True := eq_true a2
  by_cases a3 : x.a = Opd.zero
  case neg =>
   rcases k2a with q | ⟨q, q6⟩
   ·simp (disch := omega) only [kB, kcx, kdm, kdn, kel, aop, Za, Zb, Zc, reduceCtorEq, Zd, Ze, Zf, Zg, Zh, Zi, Zj, Zk, Zl, Zm, Zn, Zo, Zp, Zq, Zr, Zs, Zt, kk, kk2, kk6, q, decide_eq_true a1, a2', decide_eq_false a3]
    exact tl _ (fin false (by rw [e]; simp [a3])) _
   ·simp (disch := omega) only [kB, kcx, kdm, kdn, kel, aop, Za, Zb, Zc, reduceCtorEq, Zd, Ze, Zf, Zg, Zh, Zi, Zj, Zk, Zl, Zm, Zn, Zo, Zp, Zq, Zr, Zs, Zt, kk, kk2, kk6, q, q6, decide_eq_true a1, a2', decide_eq_false a3]
    exact tl _ (fin false (by rw [e]; simp [a3])) _
  rcases k2a with q | ⟨q, q6⟩
  ·simp (disch := omega) only [kB, kcx, kdm, kdn, kel, aop, Za, Zb, Zc, reduceCtorEq, Zd, Ze, Zf, Zg, Zh, Zi, Zj, Zk, Zl, Zm, Zn, Zo, Zp, Zq, Zr, Zs, Zt, kk, kk2, kk6, q, decide_eq_true a1, a2', decide_eq_true a3]
   exact tl _ (fin _ (by rw [e]; simp [a1, a2, a3])) _
  ·simp (disch := omega) only [kB, kcx, kdm, kdn, kel, aop, Za, Zb, Zc, reduceCtorEq, Zd, Ze, Zf, Zg, Zh, Zi, Zj, Zk, Zl, Zm, Zn, Zo, Zp, Zq, Zr, Zs, Zt, kk, kk2, kk6, q, q6, decide_eq_true a1, a2', decide_eq_true a3]
   exact tl _ (fin _ (by rw [e]; simp [a1, a2, a3])) _
 have kk3 : (x.kind = 3) = False := eq_false (by omega)
 have kk4 : (x.kind = 4) = False := eq_false (by omega)
 by_cases k5 : x.kind = 5
 ·have e := made5 k5
  have kk5 : (x.kind = 5) = True := eq_true k5
  by_cases a2 : x.op = 0
  case neg =>
   have a2' : (x.op = 0) = False := eq_false a2
   simp (disch := omega) only [kB, kcx, kdm, kdn, kel, aop, Za, Zb, Zc, reduceCtorEq, Zd, Ze, Zf, Zg, Zh, Zi, Zj, Zk, Zl, Zm, Zn, Zo, Zp, Zq, Zr, Zs, Zt, kk, kk2, kk6, kk3, kk4, kk5, a2']
   exact tl _ (fin false (by rw [e]; simp [a2])) _
  have a2' : (x.op = 0) = True := eq_true a2
  by_cases a3 : x.a = Opd.zero
  case neg => simp (disch := omega) only [kB, kcx, kdm, kdn, kel, aop, Za, Zb, Zc, reduceCtorEq, Zd, Ze, Zf, Zg, Zh, Zi, Zj, Zk, Zl, Zm, Zn, Zo, Zp, Zq, Zr, Zs, Zt, kk, kk2, kk6, kk3, kk4, kk5, a2', decide_eq_false a3]; exact tl _ (fin false (by rw [e]; simp [a3])) _
  simp (disch := omega) only [kB, kcx, kdm, kdn, kel, aop, Za, Zb, Zc, reduceCtorEq, Zd, Ze, Zf, Zg, Zh, Zi, Zj, Zk, Zl, Zm, Zn, Zo, Zp, Zq, Zr, Zs, Zt, kk, kk2, kk6, kk3, kk4, kk5, a2', decide_eq_true a3]
  exact tl _ (fin _ (by rw [e]; simp [a2, a3])) _
 ·have kk5 : (x.kind = 5) = False := eq_false k5
  simp (disch := omega) only [kB, kcx, kdm, kdn, kel, aop, Za, Zb, Zc, reduceCtorEq, Zd, Ze, Zf, Zg, Zh, Zi, Zj, Zk, Zl, Zm, Zn, Zo, Zp, Zq, Zr, Zs, Zt, kk, kk2, kk6, kk3, kk4, kk5]
  exact tl _ (fin false ⟨fun q => by
   rcases q with q | q | q | q
   ·exact absurd q.1 k1
   ·exact absurd q.1 k2
   ·exact absurd q.1 k3
   ·exact absurd q.1 k5, fun q => by cases q⟩) _
/-- What is wrong with a StepSet that is well made. -/
def setE (s : Sch) (ps : List Fld) (x : Stp) : Option Int :=
 if (fldOf s x.to).isSome = true then
  if opdOK s ps x.a = true then
   if opdOK s ps x.b = true then
    if opdFit s ps x.a (rwV (fldOf s x.to)) = true then
     if opdFit s ps x.b (rwV (fldOf s x.to)) = true then none else some 73
    else some 73
   else some 72
  else some 72
 else some 72
set_option maxHeartbeats 2000000 in
theorem rset_s {s : Sch} {pv : Value} {ps : List Fld} {x : Stp} (hs : s.OK H) (hpv : FldL H pv ps) (hx : x.OK) (hF : FW s) (hP : PW ps) (hb : Base H K) (h : R (.ret (.int .i64 (eI (setE s ps x)))) K) : WD T 178 [.agg s.cells.toArray, pv, .agg x.cells.toArray] K R := by
 refine WD.gc0 (WD.of follows t178 (by simp) ?_)
 obtain ⟨o0, o1, o2, o3, o4, o5⟩ := hs.one
 unfold setE at h
 have w64 := rwV_i64 hs x.to
 simp only [Sch.cells, Stp.cells]
 simp (disch := omega) only [kB, kcx, kdm, kdn, kel, aop, Za, Zb, Zc, reduceCtorEq, Zd, Ze, Zf, Zg, Zh, Zi, Zj, Zk, Zl, Zm, Zn, Zo, Zp, Zq, Zr, Zs, Zt, o0, o1, o2, o3, o4, o5]
 refine rwide_s (r := x.to) hs (hb.app _) ?_
 generalize rwV (fldOf s x.to) = W at *
 by_cases g1 : (fldOf s x.to).isSome = true
 case neg =>
  rw [if_neg g1] at h
  rw [Bool.not_eq_true] at g1
  simp (disch := omega) only [kB, kcx, kdm, kdn, kel, aop, Za, Zb, Zc, reduceCtorEq, Zd, Ze, Zf, Zg, Zh, Zi, Zj, Zk, Zl, Zm, Zn, Zo, Zp, Zq, Zr, Zs, Zt, g1]
  exact ⟨_, rfl, (Base.app0 _).ext, .int, h⟩
 rw [if_pos g1] at h
 simp (disch := omega) only [kB, kcx, kdm, kdn, kel, aop, Za, Zb, Zc, reduceCtorEq, Zd, Ze, Zf, Zg, Zh, Zi, Zj, Zk, Zl, Zm, Zn, Zo, Zp, Zq, Zr, Zs, Zt, g1, o0, o1, o2, o3, o4, o5]
 refine opw_s (o := x.a) hs hpv (hb.app _) ?_
 by_cases g2 : opdOK s ps x.a = true
 case neg =>
  rw [if_neg g2] at h
  rw [Bool.not_eq_true] at g2
  simp (disch := omega) only [kB, kcx, kdm, kdn, kel, aop, Za, Zb, Zc, reduceCtorEq, Zd, Ze, Zf, Zg, Zh, Zi, Zj, Zk, Zl, Zm, Zn, Zo, Zp, Zq, Zr, Zs, Zt, g2]
  exact ⟨_, rfl, (Base.app0 _).ext, .int, h⟩
 rw [if_pos g2] at h
 simp (disch := omega) only [kB, kcx, kdm, kdn, kel, aop, Za, Zb, Zc, reduceCtorEq, Zd, Ze, Zf, Zg, Zh, Zi, Zj, Zk, Zl, Zm, Zn, Zo, Zp, Zq, Zr, Zs, Zt, g2, o0, o1, o2, o3, o4, o5]
 refine opw_s (o := x.b) hs hpv (hb.app _) ?_
 by_cases g3 : opdOK s ps x.b = true
 case neg =>
  rw [if_neg g3] at h
  rw [Bool.not_eq_true] at g3
  simp (disch := omega) only [kB, kcx, kdm, kdn, kel, aop, Za, Zb, Zc, reduceCtorEq, Zd, Ze, Zf, Zg, Zh, Zi, Zj, Zk, Zl, Zm, Zn, Zo, Zp, Zq, Zr, Zs, Zt, g3]
  exact ⟨_, rfl, (Base.app0 _).ext, .int, h⟩
 rw [if_pos g3] at h
 simp (disch := omega) only [kB, kcx, kdm, kdn, kel, aop, Za, Zb, Zc, reduceCtorEq, Zd, Ze, Zf, Zg, Zh, Zi, Zj, Zk, Zl, Zm, Zn, Zo, Zp, Zq, Zr, Zs, Zt, g3]
 refine agrees_s (o := x.a) hx.2.2.1 w64 ?_
 rw [agree_fit hF hP g2]
 simp (disch := omega) only [kB, kcx, kdm, kdn, kel, aop, Za, Zb, Zc, reduceCtorEq, Zd, Ze, Zf, Zg, Zh, Zi, Zj, Zk, Zl, Zm, Zn, Zo, Zp, Zq, Zr, Zs, Zt]
 refine agrees_s (o := x.b) hx.2.2.2 w64 ?_
 rw [agree_fit hF hP g3]
 by_cases g4 : opdFit s ps x.a W = true
 case neg =>
  rw [if_neg g4] at h
  rw [Bool.not_eq_true] at g4
  simp (disch := omega) only [kB, kcx, kdm, kdn, kel, aop, Za, Zb, Zc, reduceCtorEq, Zd, Ze, Zf, Zg, Zh, Zi, Zj, Zk, Zl, Zm, Zn, Zo, Zp, Zq, Zr, Zs, Zt, g4]
  exact ⟨_, rfl, (Base.app0 _).ext, .int, h⟩
 rw [if_pos g4] at h
 by_cases g5 : opdFit s ps x.b W = true
 case neg =>
  rw [if_neg g5] at h
  rw [Bool.not_eq_true] at g5
  simp (disch := omega) only [kB, kcx, kdm, kdn, kel, aop, Za, Zb, Zc, reduceCtorEq, Zd, Ze, Zf, Zg, Zh, Zi, Zj, Zk, Zl, Zm, Zn, Zo, Zp, Zq, Zr, Zs, Zt, g4, g5]
  exact ⟨_, rfl, (Base.app0 _).ext, .int, h⟩
 rw [if_pos g5] at h
 simp (disch := omega) only [kB, kcx, kdm, kdn, kel, aop, Za, Zb, Zc, reduceCtorEq, Zd, Ze, Zf, Zg, Zh, Zi, Zj, Zk, Zl, Zm, Zn, Zo, Zp, Zq, Zr, Zs, Zt, g4, g5]
 exact ⟨_, rfl, (Base.app0 _).ext, .int, h⟩
set_option maxHeartbeats 2000000 in
theorem rstep_s {s : Sch} {pv : Value} {ps : List Fld} {x : Stp} (hs : s.OK H) (hpv : FldL H pv ps) (hx : x.OK) (hF : FW s) (hP : PW ps) (hb : Base H K) (h : R (.ret (.int .i64 (eI (stepE s ps x)))) K) : WD T 138 [.agg s.cells.toArray, pv, .agg x.cells.toArray] K R := by
 refine WD.gc0 (WD.of follows t138 (by simp) ?_)
 obtain ⟨o0, o1, o2, o3, o4, o5⟩ := hs.one
 have hst : stepE s ps x = if madeS x then (if x.kind = 1 then setE s ps x else if x.kind = 3 ∨ x.kind = 4 then (if x.to.head ∈ s.headers.map Hdr.name then none else some 72)
  else if x.kind = 5 then (if (fldOf s x.to).isSome = true ∧ x.to.head ≠ metaT then (if rwV (fldOf s x.to) = 16 then none else some 73) else some 72) else none) else some 75 := rfl
 rw [hst] at h
 clear hst
 simp only [Sch.cells, Stp.cells]
 simp (disch := omega) only [kB, kcx, kdm, kdn, kel, aop, Za, Zb, Zc, reduceCtorEq, Zd, Ze, Zf, Zg, Zh, Zi, Zj, Zk, Zl, Zm, Zn, Zo, Zp, Zq, Zr, Zs, Zt, o0, o1, o2, o3, o4, o5]
 refine rmade_s (x := x) ?_
 by_cases g0 : madeS x
 case neg =>
  rw [if_neg g0] at h
  simp (disch := omega) only [kB, kcx, kdm, kdn, kel, aop, Za, Zb, Zc, reduceCtorEq, Zd, Ze, Zf, Zg, Zh, Zi, Zj, Zk, Zl, Zm, Zn, Zo, Zp, Zq, Zr, Zs, Zt, decide_eq_false g0]
  exact ⟨_, rfl, (Base.app0 _).ext, .int, h⟩
 rw [if_pos g0] at h
 by_cases k1 : x.kind = 1
 ·have kk : (x.kind = 1) = True := eq_true k1
  rw [if_pos k1] at h
  simp (disch := omega) only [kB, kcx, kdm, kdn, kel, aop, Za, Zb, Zc, reduceCtorEq, Zd, Ze, Zf, Zg, Zh, Zi, Zj, Zk, Zl, Zm, Zn, Zo, Zp, Zq, Zr, Zs, Zt, decide_eq_true g0, kk]
  refine rset_s hs hpv hx hF hP (hb.app _) ?_
  simp (disch := omega) only [kB, kcx, kdm, kdn, kel, aop, Za, Zb, Zc, reduceCtorEq, Zd, Ze, Zf, Zg, Zh, Zi, Zj, Zk, Zl, Zm, Zn, Zo, Zp, Zq, Zr, Zs, Zt]
  exact ⟨_, rfl, (Base.app0 _).ext, .int, h⟩
 have kk : (x.kind = 1) = False := eq_false k1
 rw [if_neg k1] at h
 by_cases k3 : x.kind = 3 ∨ x.kind = 4
 ·rw [if_pos k3] at h
  rcases k3 with k3 | k3
  case' inl =>
   have kk3 : (x.kind = 3) = True := eq_true k3
   simp (disch := omega) only [kB, kcx, kdm, kdn, kel, aop, Za, Zb, Zc, reduceCtorEq, Zd, Ze, Zf, Zg, Zh, Zi, Zj, Zk, Zl, Zm, Zn, Zo, Zp, Zq, Zr, Zs, Zt, decide_eq_true g0, kk, kk3]
  case' inr =>
   have kk3 : (x.kind = 3) = False := eq_false (by omega)
   have kk4 : (x.kind = 4) = True := eq_true k3
   simp (disch := omega) only [kB, kcx, kdm, kdn, kel, aop, Za, Zb, Zc, reduceCtorEq, Zd, Ze, Zf, Zg, Zh, Zi, Zj, Zk, Zl, Zm, Zn, Zo, Zp, Zq, Zr, Zs, Zt, decide_eq_true g0, kk, kk3, kk4]
  all_goals (
   refine rheaderAt_s hs (hb.app _) ?_
   by_cases g1 : x.to.head ∈ s.headers.map Hdr.name
   ·have g1' : ¬ (ixT x.to.head (s.headers.map Hdr.name) 0 < 0) := Int.not_lt.2 ((ixT_mem _ _).2 g1)
    rw [if_pos g1] at h
    simp (disch := omega) only [kB, kcx, kdm, kdn, kel, aop, Za, Zb, Zc, reduceCtorEq, Zd, Ze, Zf, Zg, Zh, Zi, Zj, Zk, Zl, Zm, Zn, Zo, Zp, Zq, Zr, Zs, Zt, g1']
    exact ⟨_, rfl, (Base.app0 _).ext, .int, h⟩
   ·have g1' : ixT x.to.head (s.headers.map Hdr.name) 0 < 0 := Int.not_le.1 fun q => g1 ((ixT_mem _ _).1 q)
    rw [if_neg g1] at h
    simp (disch := omega) only [kB, kcx, kdm, kdn, kel, aop, Za, Zb, Zc, reduceCtorEq, Zd, Ze, Zf, Zg, Zh, Zi, Zj, Zk, Zl, Zm, Zn, Zo, Zp, Zq, Zr, Zs, Zt, g1']
    exact ⟨_, rfl, (Base.app0 _).ext, .int, h⟩)
 have kk3 : (x.kind = 3) = False := eq_false (by omega)
 have kk4 : (x.kind = 4) = False := eq_false (by omega)
 rw [if_neg k3] at h
 by_cases k5 : x.kind = 5
 ·have kk5 : (x.kind = 5) = True := eq_true k5
  rw [if_pos k5] at h
  simp (disch := omega) only [kB, kcx, kdm, kdn, kel, aop, Za, Zb, Zc, reduceCtorEq, Zd, Ze, Zf, Zg, Zh, Zi, Zj, Zk, Zl, Zm, Zn, Zo, Zp, Zq, Zr, Zs, Zt, decide_eq_true g0, kk, kk3, kk4, kk5]
  refine rwide_s (r := x.to) hs (hb.app _) ?_
  generalize rwV (fldOf s x.to) = W at *
  by_cases g1 : (fldOf s x.to).isSome = true
  case neg =>
   rw [if_neg (fun q => g1 q.1)] at h
   rw [Bool.not_eq_true] at g1
   simp (disch := omega) only [kB, kcx, kdm, kdn, kel, aop, Za, Zb, Zc, reduceCtorEq, Zd, Ze, Zf, Zg, Zh, Zi, Zj, Zk, Zl, Zm, Zn, Zo, Zp, Zq, Zr, Zs, Zt, g1]
   exact ⟨_, rfl, (Base.app0 _).ext, .int, h⟩
  by_cases g2 : x.to.head = metaT
  case pos =>
   have g3 : decide (x.to.head = [109, 101, 116, 97]) = true := decide_eq_true g2
   rw [if_neg (fun q => q.2 g2)] at h
   simp (disch := omega) only [kB, kcx, kdm, kdn, kel, aop, Za, Zb, Zc, reduceCtorEq, Zd, Ze, Zf, Zg, Zh, Zi, Zj, Zk, Zl, Zm, Zn, Zo, Zp, Zq, Zr, Zs, Zt, g1, g3]
   exact ⟨_, rfl, (Base.app0 _).ext, .int, h⟩
  have g3 : decide (x.to.head = [109, 101, 116, 97]) = false := decide_eq_false g2
  rw [if_pos ⟨g1, g2⟩] at h
  by_cases g4 : W = 16
  ·have g4' : (W = 16) = True := eq_true g4
   rw [if_pos g4] at h
   simp (disch := omega) only [kB, kcx, kdm, kdn, kel, aop, Za, Zb, Zc, reduceCtorEq, Zd, Ze, Zf, Zg, Zh, Zi, Zj, Zk, Zl, Zm, Zn, Zo, Zp, Zq, Zr, Zs, Zt, g1, g3, g4']
   exact ⟨_, rfl, (Base.app0 _).ext, .int, h⟩
  ·have g4' : (W = 16) = False := eq_false g4
   rw [if_neg g4] at h
   simp (disch := omega) only [kB, kcx, kdm, kdn, kel, aop, Za, Zb, Zc, reduceCtorEq, Zd, Ze, Zf, Zg, Zh, Zi, Zj, Zk, Zl, Zm, Zn, Zo, Zp, Zq, Zr, Zs, Zt, g1, g3, g4']
   exact ⟨_, rfl, (Base.app0 _).ext, .int, h⟩
 ·have kk5 : (x.kind = 5) = False := eq_false k5
  rw [if_neg k5] at h
  simp (disch := omega) only [kB, kcx, kdm, kdn, kel, aop, Za, Zb, Zc, reduceCtorEq, Zd, Ze, Zf, Zg, Zh, Zi, Zj, Zk, Zl, Zm, Zn, Zo, Zp, Zq, Zr, Zs, Zt, decide_eq_true g0, kk, kk3, kk4, kk5]
  exact ⟨_, rfl, (Base.app0 _).ext, .int, h⟩
theorem stepE_ne {s : Sch} {ps : List Fld} {x : Stp} {e : Int} (h : stepE s ps x = some e) : e ≠ 0 := by
 unfold stepE at h
 repeat' split at h
 all_goals (cases h; try decide)
theorem stepsE_ne {s : Sch} {ps : List Fld} : ∀ {l : List Stp} {e : Int}, stepsE s ps l = some e → e ≠ 0
 | [], e, h => by cases h
 | y :: l, e, h => by
  rw [stepsE] at h
  cases hy : stepE s ps y with
  | some e' => rw [hy] at h; cases h; exact stepE_ne hy
  | none => rw [hy] at h; exact stepsE_ne h
def raI (K : Heap) (bx : Nat) (s : Sch) : Nat → Env → Heap → Prop := fun z e K' =>
 ∃ i : Nat, i ≤ s.actions.length ∧ z = s.actions.length - i ∧ Base K K' ∧ actsE s [] s.actions = actsE s ((s.actions.take i).map Act.name) (s.actions.drop i) ∧ (∃ x : Nat → Value, e = [x 0, .pointer (some ⟨bx, 0, none⟩), x 2, x 3, .int .i64 (i : Int), x 5, x 6, x 7, x 8, x 9, x 10, x 11, x 12, x 13, x 14, x 15, x 16, x 17, x 18, x 19, x 20, x 21, x 22, x 23, x 24, x 25, x 26, x 27, x 28, x 29, x 30, x 31, x 32, x 33, x 34, x 35, x 36, x 37, x 38, x 39, x 40, x 41, x 42, x 43, x 44, x 45, x 46, x 47, x 48, x 49, x 50, x 51, x 52, x 53, x 54, x 55, x 56, x 57, x 58, x 59, x 60, x 61, x 62, x 63, x 64, x 65, x 66, x 67, x 68, x 69, x 70, x 71, x 72, x 73, x 74, x 75, x 76, x 77, x 78, x 79])
def raJ (K : Heap) (bx xb : Nat) (s : Sch) (i : Nat) (t : List UInt8) (y : Act) : Nat → Env → Heap → Prop := fun z e K' =>
 ∃ k : Nat, k ≤ y.steps.length ∧ z = y.steps.length - k ∧ K' = K ∧ stepsE s y.params y.steps = stepsE s y.params (y.steps.drop k) ∧ (∃ x : Nat → Value, e = [x 0, .pointer (some ⟨bx, 0, none⟩), x 2, x 3, .int .i64 (i : Int), .pointer (some ⟨xb, 0, none⟩), .string (bs t), x 7, x 8, .int .i64 (k : Int), x 10, x 11, x 12, x 13, x 14, x 15, x 16, x 17, x 18, x 19, x 20, x 21, x 22, x 23, x 24, x 25, x 26, x 27, x 28, x 29, x 30, x 31, x 32, x 33, x 34, x 35, x 36, x 37, x 38, x 39, x 40, x 41, x 42, x 43, x 44, x 45, x 46, x 47, x 48, x 49, x 50, x 51, x 52, x 53, x 54, x 55, x 56, x 57, x 58, x 59, x 60, x 61, x 62, x 63, x 64, x 65, x 66, x 67, x 68, x 69, x 70, x 71, x 72, x 73, x 74, x 75, x 76, x 77, x 78, x 79])
set_option maxHeartbeats 4000000 in
theorem ractions_s {s : Sch} (hs : s.OK H) (hn0 : ∀ x ∈ s.actions, short x.name) (hF : FW s) (hb : Base H K) (h : R (.ret (eT (actionsE s))) K) : WD T 65 [.agg s.cells.toArray] K R := by
 refine WD.gc0 (WD.of follows t65 (by simp) ?_)
 obtain ⟨o0, o1, o2, o3, o4, o5⟩ := hs.one
 obtain ⟨hr, hn, hok⟩ := hs.acs
 unfold few at hn
 obtain ⟨ad, hv⟩ := hr.sl
 rw [List.length_map] at hv
 simp only [Sch.cells]
 by_cases g0 : (s.actions.length : Int) ≤ 64
 case neg =>
  have g0' : (64 : Int) < (s.actions.length : Int) := by omega
  rw [actionsE, if_neg (by omega)] at h
  simp (disch := omega) only [kB, kcx, kdm, kdn, kel, aop, Za, Zb, Zc, reduceCtorEq, Zd, Ze, Zf, Zg, Zh, Zi, Zj, Zk, Zl, Zm, Zn, Zo, Zp, Zq, Zr, Zs, Zt, o0, o1, o2, o3, o4, o5, hv, g0']
  exact ⟨_, rfl, (Base.app0 _).ext, .tup2 .int .string, h⟩
 have g0' : ¬ (64 : Int) < (s.actions.length : Int) := by omega
 rw [actionsE, if_pos (by omega)] at h
 simp (disch := omega) only [kB, kcx, kdm, kdn, kel, aop, Za, Zb, Zc, reduceCtorEq, Zd, Ze, Zf, Zg, Zh, Zi, Zj, Zk, Zl, Zm, Zn, Zo, Zp, Zq, Zr, Zs, Zt, o0, o1, o2, o3, o4, o5, hv, g0']
 obtain ⟨K1, hK1⟩ : ∃ K1, K1 = K ++ [AObj.row [s.hv, s.mv, s.sv, .slice ad s.actions.length s.actions.length, s.tv, s.cv] 0 true] := ⟨_, rfl⟩
 rw [← hK1]
 have b1 : Base K K1 := by rw [hK1]; exact Base.app0 _
 have hs1 : hget K1 K.length = .row [s.hv, s.mv, s.sv, .slice ad s.actions.length s.actions.length, s.tv, s.cv] 0 true := by rw [hK1, hget_base0]; rfl
 clear hK1
 have nat1 : ∀ i : Nat, i < 128 → IntKind.i64.wrap ((i : Int) + 1) = ((i + 1 : Nat) : Int) := fun i hi => by rw [show (i : Int) + 1 = ((i + 1 : Nat) : Int) by omega]; exact wr_i64 (by omega) (by omega)
 refine WLoop.inv (raI K1 K.length s) ?_ s.actions.length _ _ ⟨0, Nat.zero_le _, by omega, Base.refl, rfl, by exact ex_env rfl⟩
 rintro z e K' ⟨i, hi, rfl, bK, hx, ⟨x, rfl⟩⟩
 have hs2 := bK.rowc hs1
 have ls2 := hget_lt hs2 rfl
 have bKK := b1.trans bK
 have hbK := hb.trans bKK
 by_cases hlt : i < s.actions.length
 ·have c1 : (i : Int) < (s.actions.length : Int) := by omega
  obtain ⟨b, u0, w0, rfl, p1, p2, p3, p4, p5⟩ := (hv ▸ hr).at Act.len hlt
  have prow := hbK.rowc p2
  have w2 := nat1 i (by omega)
  have hyo := hok _ (List.getElem_mem hlt)
  have hys := hn0 _ (List.getElem_mem hlt)
  have htk := take_map Act.name hlt
  have hix := ixT_lt (l := s.actions.map Act.name) (p := 0) (i := i) (by simpa using hlt) rfl
  rw [List.getElem_map, Nat.zero_add, ← List.map_take] at hix
  rw [List.drop_eq_getElem_cons hlt, actsE] at hx
  generalize s.actions[i] = y at *
  simp only [Act.cells] at p3
  clear p5
  obtain ⟨op, os⟩ := hyo.one
  obtain ⟨hpv, sr, sn, sk⟩ := hyo
  obtain ⟨pa, pv⟩ := hpv.1.sl
  rw [List.length_map] at pv
  obtain ⟨sa, sv⟩ := sr.sl
  rw [List.length_map] at sv
  unfold few at sn
  unfold short at hys
  have hadd : binV .add (.string (bs [97, 99, 116, 105, 111, 110, 32])) (.string (bs y.name)) = some (.string (bs ([97, 99, 116, 105, 111, 110, 32] ++ y.name))) := bin_str_add (by simp; omega)
  have bad : ∀ e, actsE s [] s.actions = some (e, [97, 99, 116, 105, 111, 110, 32] ++ y.name) → R (.ret (.tuple #[.int .i64 e, .string (bs ([97, 99, 116, 105, 111, 110, 32] ++ y.name))])) K := fun e q => by rw [q] at h; exact h
  simp (disch := omega) only [kB, kcx, kdm, kdn, kel, aop, Za, Zb, Zc, reduceCtorEq, Zd, Ze, Zf, Zg, Zh, Zi, Zj, Zk, Zl, Zm, Zn, Zo, Zp, Zq, Zr, Zs, Zt, hs2, c1, prow, p3, p4, op, os, hadd]
  obtain ⟨K3, hK3⟩ : ∃ K3, K3 = K' ++ [AObj.row [.string (bs y.name), y.pv, y.sv] 0 true] := ⟨_, rfl⟩
  rw [← hK3]
  have b3 : Base K' K3 := by rw [hK3]; exact Base.app0 _
  have hy3 : hget K3 K'.length = .row [.string (bs y.name), y.pv, y.sv] 0 true := by rw [hK3, hget_last]
  clear hK3
  have hs3 := b3.rowc hs2
  have bK3 := bKK.trans b3
  have hbK3 := hbK.trans b3
  have ls3 := hget_lt hs3 rfl
  have ly3 := hget_lt hy3 rfl
  refine risName_s ?_
  unfold nameE at hx
  by_cases g1 : isNm y.name = false
  case pos =>
   rw [if_pos g1] at hx
   rw [g1]
   simp (disch := omega) only [kB, kcx, kdm, kdn, kel, aop, Za, Zb, Zc, reduceCtorEq, Zd, Ze, Zf, Zg, Zh, Zi, Zj, Zk, Zl, Zm, Zn, Zo, Zp, Zq, Zr, Zs, Zt]
   exact ⟨_, rfl, bK3.ext, .tup2 .int .string, bad _ hx⟩
  rw [if_neg g1] at hx
  rw [Bool.not_eq_false] at g1
  rw [g1]
  simp (disch := omega) only [kB, kcx, kdm, kdn, kel, aop, Za, Zb, Zc, reduceCtorEq, Zd, Ze, Zf, Zg, Zh, Zi, Zj, Zk, Zl, Zm, Zn, Zo, Zp, Zq, Zr, Zs, Zt, hs3, hy3, o0, o1, o2, o3, o4, o5]
  rw [← hv]
  refine ractionAt_s hs hbK3 ?_
  by_cases g2 : y.name ∈ (s.actions.take i).map Act.name
  case pos =>
   rw [if_pos g2] at hx
   have g2' : ixT y.name (s.actions.map Act.name) 0 < (i : Int) := hix.2 g2
   simp (disch := omega) only [kB, kcx, kdm, kdn, kel, aop, Za, Zb, Zc, reduceCtorEq, Zd, Ze, Zf, Zg, Zh, Zi, Zj, Zk, Zl, Zm, Zn, Zo, Zp, Zq, Zr, Zs, Zt, g2']
   exact ⟨_, rfl, bK3.ext, .tup2 .int .string, bad _ hx⟩
  rw [if_neg g2] at hx
  simp only [actE] at hx
  have g2' : ¬ ixT y.name (s.actions.map Act.name) 0 < (i : Int) := fun q => g2 (hix.1 q)
  by_cases g3 : (8 : Int) < (y.params.length : Int)
  case pos =>
   rw [if_neg (by omega)] at hx
   simp (disch := omega) only [kB, kcx, kdm, kdn, kel, aop, Za, Zb, Zc, reduceCtorEq, Zd, Ze, Zf, Zg, Zh, Zi, Zj, Zk, Zl, Zm, Zn, Zo, Zp, Zq, Zr, Zs, Zt, g2', hy3, pv, g3]
   exact ⟨_, rfl, bK3.ext, .tup2 .int .string, bad _ hx⟩
  by_cases g4 : (32 : Int) < (y.steps.length : Int)
  case pos =>
   rw [if_neg (by omega)] at hx
   simp (disch := omega) only [kB, kcx, kdm, kdn, kel, aop, Za, Zb, Zc, reduceCtorEq, Zd, Ze, Zf, Zg, Zh, Zi, Zj, Zk, Zl, Zm, Zn, Zo, Zp, Zq, Zr, Zs, Zt, g2', hy3, pv, sv, g3, g4]
   exact ⟨_, rfl, bK3.ext, .tup2 .int .string, bad _ hx⟩
  rw [if_pos (by omega)] at hx
  simp (disch := omega) only [kB, kcx, kdm, kdn, kel, aop, Za, Zb, Zc, reduceCtorEq, Zd, Ze, Zf, Zg, Zh, Zi, Zj, Zk, Zl, Zm, Zn, Zo, Zp, Zq, Zr, Zs, Zt, g2', hy3, pv, sv, g3, g4]
  have hpv2 := hpv
  rw [pv] at hpv2
  refine rfields_s hpv2 hbK3 ?_
  cases hE : fieldsE [] y.params with
  | some e =>
   have he : (e = 0) = False := eq_false (fieldsE_ne hE)
   rw [hE] at hx
   simp only [eI_some]
   simp (disch := omega) only [kB, kcx, kdm, kdn, kel, aop, Za, Zb, Zc, reduceCtorEq, Zd, Ze, Zf, Zg, Zh, Zi, Zj, Zk, Zl, Zm, Zn, Zo, Zp, Zq, Zr, Zs, Zt, he]
   exact ⟨_, rfl, bK3.ext, .tup2 .int .string, bad _ hx⟩
  | none =>
   rw [hE] at hx
   simp only [eI_none] at hx ⊢
   have hP : PW y.params := fun f hf => (fieldsE_ok hE f hf).1
   simp (disch := omega) only [kB, kcx, kdm, kdn, kel, aop, Za, Zb, Zc, reduceCtorEq, Zd, Ze, Zf, Zg, Zh, Zi, Zj, Zk, Zl, Zm, Zn, Zo, Zp, Zq, Zr, Zs, Zt]
   refine WLoop.inv (raJ K3 K.length K'.length s i ([97, 99, 116, 105, 111, 110, 32] ++ y.name) y) ?_ y.steps.length _ _ ⟨0, Nat.zero_le _, by omega, rfl, rfl, by exact ex_env rfl⟩
   rintro z e K4 ⟨k, hk, rfl, rfl, hxs, ⟨x, rfl⟩⟩
   by_cases hkl : k < y.steps.length
   ·have c3 : (k : Int) < (y.steps.length : Int) := by omega
    obtain ⟨b', u1, w1, rfl, q1, q2, q3, q4, q5⟩ := (sv ▸ sr).at Stp.len hkl
    have qrow := hbK3.rowc q2
    have w3 := nat1 k (by omega)
    have hto := sk _ (List.getElem_mem hkl)
    rw [List.drop_eq_getElem_cons hkl, stepsE] at hxs
    clear q5
    generalize y.steps[k] = t at *
    simp only [Stp.cells] at q3
    simp (disch := omega) only [kB, kcx, kdm, kdn, kel, aop, Za, Zb, Zc, reduceCtorEq, Zd, Ze, Zf, Zg, Zh, Zi, Zj, Zk, Zl, Zm, Zn, Zo, Zp, Zq, Zr, Zs, Zt, hy3, hs3, pv, sv, c3, qrow, q3, q4, o0, o1, o2, o3, o4, o5]
    rw [← hv]
    refine rstep_s (x := t) hs hpv2 hto hF hP hbK3 ?_
    cases hS : stepE s y.params t with
    | some e =>
     have he : (e = 0) = False := eq_false (stepE_ne hS)
     rw [hS] at hxs
     simp only at hxs
     rw [hxs] at hx
     simp only [eI_some]
     simp (disch := omega) only [kB, kcx, kdm, kdn, kel, aop, Za, Zb, Zc, reduceCtorEq, Zd, Ze, Zf, Zg, Zh, Zi, Zj, Zk, Zl, Zm, Zn, Zo, Zp, Zq, Zr, Zs, Zt, he]
     exact ⟨_, rfl, bK3.ext, .tup2 .int .string, bad _ hx⟩
    | none =>
     rw [hS] at hxs
     simp only [eI_none] at hxs ⊢
     simp (disch := omega) only [kB, kcx, kdm, kdn, kel, aop, Za, Zb, Zc, reduceCtorEq, Zd, Ze, Zf, Zg, Zh, Zi, Zj, Zk, Zl, Zm, Zn, Zo, Zp, Zq, Zr, Zs, Zt, w3]
     exact ⟨y.steps.length - (k + 1), by omega, k + 1, by omega, rfl, rfl, hxs, by exact ex_env rfl⟩
   ·have c3 : ¬ (k : Int) < (y.steps.length : Int) := by omega
    rw [List.drop_eq_nil_of_le (by omega), stepsE] at hxs
    rw [hxs] at hx
    simp (disch := omega) only [kB, kcx, kdm, kdn, kel, aop, Za, Zb, Zc, reduceCtorEq, Zd, Ze, Zf, Zg, Zh, Zi, Zj, Zk, Zl, Zm, Zn, Zo, Zp, Zq, Zr, Zs, Zt, hy3, sv, c3, w2]
    exact ⟨s.actions.length - (i + 1), by omega, i + 1, by omega, rfl, bK.trans b3, by rw [htk]; exact hx, by exact ex_env rfl⟩
 ·have c1 : ¬ (i : Int) < (s.actions.length : Int) := by omega
  rw [List.drop_eq_nil_of_le (by omega), actsE] at hx
  rw [hx] at h
  simp (disch := omega) only [kB, kcx, kdm, kdn, kel, aop, Za, Zb, Zc, reduceCtorEq, Zd, Ze, Zf, Zg, Zh, Zi, Zj, Zk, Zl, Zm, Zn, Zo, Zp, Zq, Zr, Zs, Zt, hs2, c1]
  exact ⟨_, rfl, bKK.ext, .tup2 .int .string, h⟩
end
section
variable {R : FRes → Heap → Prop} {H K : Heap}
def keyE (s : Sch) (t : Tbl) : Option Int := if 1 ≤ t.keys.length ∧ t.keys.length ≤ 8 then keysE s (kindV t.keys) 0 t.keys else some 74
theorem keysE_ne {s : Sch} {kd : Int} : ∀ {l : List Ky} {n : Nat} {e : Int}, keysE s kd n l = some e → e ≠ 0
 | [], _, e, h => by cases h
 | k :: l, n, e, h => by
  rw [keysE] at h
  split at h
  ·split at h
   ·split at h
    ·split at h
     ·exact keysE_ne h
     ·cases h; decide
    ·exact keysE_ne h
   ·cases h; decide
  ·cases h; decide
theorem keyE_ne {s : Sch} {t : Tbl} {e : Int} (h : keyE s t = some e) : e ≠ 0 := by
 unfold keyE at h
 split at h
 ·exact keysE_ne h
 ·cases h; decide
theorem kind_two {l : List Ky} {k : Ky} (hk : k ∈ l) (h : k.kind = 2) : kindV l = 2 ∨ kindV l = 3 := by
 have : anyK l 2 = true := List.any_eq_true.2 ⟨k, hk, by simp [h]⟩
 unfold kindV
 rw [if_pos this]
 split
 ·exact .inr rfl
 ·exact .inl rfl
def rkyI (K : Heap) (bx : Nat) (s : Sch) (kd : Int) (l : List Ky) : Nat → Env → Heap → Prop := fun z e K' =>
 ∃ i n : Nat, i ≤ l.length ∧ z = l.length - i ∧ Base K K' ∧ keysE s kd 0 l = keysE s kd n (l.drop i) ∧
  (∃ x : Nat → Value, e = [x 0, x 1, .pointer (some ⟨bx, 0, none⟩), .pointer (some ⟨bx + 1, 0, none⟩), x 4, .int .i64 kd, .bool (decide (0 < n)), .int .i64 (i : Int), x 8, x 9, x 10, x 11, x 12, x 13, x 14, x 15, x 16, x 17, x 18, x 19, x 20, x 21, x 22, x 23, x 24, x 25, x 26, x 27, x 28, x 29, x 30, x 31, x 32, x 33, x 34, x 35, x 36, x 37, x 38, x 39, x 40, x 41, x 42, x 43, x 44, x 45, x 46, x 47, x 48, x 49, x 50, x 51, x 52, x 53, x 54, x 55, x 56, x 57, x 58, x 59, x 60, x 61, x 62, x 63, x 64, x 65, x 66, x 67, x 68, x 69, x 70])
set_option maxHeartbeats 2000000 in
theorem rkeys_s {s : Sch} {t : Tbl} (hs : s.OK H) (ht : t.OK H) (hb : Base H K) (h : R (.ret (.int .i64 (eI (keyE s t)))) K) : WD T 179 [.agg s.cells.toArray, .agg t.cells.toArray] K R := by
 refine WD.gc0 (WD.of follows t179 (by simp) ?_)
 obtain ⟨o0, o1, o2, o3, o4, o5⟩ := hs.one
 obtain ⟨ok1, oa1, od1⟩ := ht.one
 have ht' := ht
 obtain ⟨⟨kr, kn, kk⟩, atx, hsz, hbt⟩ := ht'
 obtain ⟨ka, kv⟩ := kr.sl
 rw [List.length_map] at kv
 unfold few at kn
 simp only [Sch.cells, Tbl.cells]
 unfold keyE at h
 by_cases g1 : (t.keys.length : Int) < 1
 case pos =>
  rw [if_neg (by omega)] at h
  simp (disch := omega) only [kB, kcx, kdm, kdn, kel, aop, Za, Zb, Zc, reduceCtorEq, Zd, Ze, Zf, Zg, Zh, Zi, Zj, Zk, Zl, Zm, Zn, Zo, Zp, Zq, Zr, Zs, Zt, o0, o1, o2, o3, o4, o5, ok1, oa1, od1, kv, g1]
  exact ⟨_, rfl, (Base.app0 _).ext, .int, h⟩
 by_cases g2 : (8 : Int) < (t.keys.length : Int)
 case pos =>
  rw [if_neg (by omega)] at h
  simp (disch := omega) only [kB, kcx, kdm, kdn, kel, aop, Za, Zb, Zc, reduceCtorEq, Zd, Ze, Zf, Zg, Zh, Zi, Zj, Zk, Zl, Zm, Zn, Zo, Zp, Zq, Zr, Zs, Zt, o0, o1, o2, o3, o4, o5, ok1, oa1, od1, kv, g1, g2]
  exact ⟨_, rfl, (Base.app0 _).ext, .int, h⟩
 rw [if_pos (by omega)] at h
 simp (disch := omega) only [kB, kcx, kdm, kdn, kel, aop, Za, Zb, Zc, reduceCtorEq, Zd, Ze, Zf, Zg, Zh, Zi, Zj, Zk, Zl, Zm, Zn, Zo, Zp, Zq, Zr, Zs, Zt, o0, o1, o2, o3, o4, o5, ok1, oa1, od1, kv, g1, g2]
 rw [← kv]
 refine rkind_s (t := t) ht (hb.app _) ?_
 obtain ⟨K1, hK1⟩ : ∃ K1, K1 = K ++ [AObj.row [s.hv, s.mv, s.sv, s.av, s.tv, s.cv] 0 true, AObj.row [.string (bs t.name), t.kv, t.av, .int .i64 t.size, .string (bs t.dact), t.dv, .bool t.fixed] 0 true] := ⟨_, rfl⟩
 rw [← hK1]
 have b1 : Base K K1 := by rw [hK1]; exact Base.app0 _
 have hs1 : hget K1 K.length = .row [s.hv, s.mv, s.sv, s.av, s.tv, s.cv] 0 true := by rw [hK1, hget_base0]; rfl
 have ht1 : hget K1 (K.length + 1) = .row [.string (bs t.name), t.kv, t.av, .int .i64 t.size, .string (bs t.dact), t.dv, .bool t.fixed] 0 true := by rw [hK1, hget_base]; rfl
 clear hK1
 have nat1 : ∀ i : Nat, i < 64 → IntKind.i64.wrap ((i : Int) + 1) = ((i + 1 : Nat) : Int) := fun i hi => by rw [show (i : Int) + 1 = ((i + 1 : Nat) : Int) by omega]; exact wr_i64 (by omega) (by omega)
 simp (disch := omega) only [kB, kcx, kdm, kdn, kel, aop, Za, Zb, Zc, reduceCtorEq, Zd, Ze, Zf, Zg, Zh, Zi, Zj, Zk, Zl, Zm, Zn, Zo, Zp, Zq, Zr, Zs, Zt]
 refine WLoop.inv (rkyI K1 K.length s (kindV t.keys) t.keys) ?_ t.keys.length _ _ ⟨0, 0, Nat.zero_le _, by omega, Base.refl, rfl, by exact ex_env rfl⟩
 rintro z e K' ⟨i, n, hi, rfl, bK, hx, ⟨x, rfl⟩⟩
 have hs2 := bK.rowc hs1
 have ht2 := bK.rowc ht1
 have ls2 := hget_lt hs2 rfl
 have lt2 := hget_lt ht2 rfl
 have bKK := b1.trans bK
 have hbK := hb.trans bKK
 by_cases hlt : i < t.keys.length
 ·have c1 : (i : Int) < (t.keys.length : Int) := by omega
  obtain ⟨b, u0, w0, rfl, p1, p2, p3, p4, p5⟩ := (kv ▸ kr).at Ky.len hlt
  have prow := hbK.rowc p2
  have w2 := nat1 i (by omega)
  have hmem : t.keys[i] ∈ t.keys := List.getElem_mem hlt
  have r2 := p5 2 (by decide)
  have cut0 : (((t.keys.map Ky.cells).flatten).drop (i * 3)).take 2 = [.string (bs t.keys[i].ref.head), .string (bs t.keys[i].ref.name)] := by
   have := congrArg (fun q : List Value => q.take 2) p3
   simpa [List.take_take, Ky.cells] using this
  have le0 : i * 3 + 2 ≤ ((t.keys.map Ky.cells).flatten).length := by omega
  rw [List.drop_eq_getElem_cons hlt, keysE] at hx
  clear p5 p3
  generalize t.keys[i] = k at *
  simp only [Ky.cells, List.getElem?_cons_succ, List.getElem?_cons_zero] at r2
  simp (disch := omega) only [kB, kcx, kdm, kdn, kel, aop, Za, Zb, Zc, reduceCtorEq, Zd, Ze, Zf, Zg, Zh, Zi, Zj, Zk, Zl, Zm, Zn, Zo, Zp, Zq, Zr, Zs, Zt, ht2, hs2, kv, c1, prow, cut0, le0, o0, o1, o2, o3, o4, o5]
  refine rwide_s (r := k.ref) hs hbK ?_
  by_cases g3 : (fldOf s k.ref).isSome = true
  case neg =>
   rw [if_neg g3] at hx
   rw [hx] at h
   rw [Bool.not_eq_true] at g3
   simp (disch := omega) only [kB, kcx, kdm, kdn, kel, aop, Za, Zb, Zc, reduceCtorEq, Zd, Ze, Zf, Zg, Zh, Zi, Zj, Zk, Zl, Zm, Zn, Zo, Zp, Zq, Zr, Zs, Zt, g3]
   exact ⟨_, rfl, bKK.ext, .int, h⟩
  rw [if_pos g3] at hx
  by_cases g4 : k.kind < 1
  case pos =>
   rw [if_neg (by omega)] at hx
   rw [hx] at h
   simp (disch := omega) only [kB, kcx, kdm, kdn, kel, aop, Za, Zb, Zc, reduceCtorEq, Zd, Ze, Zf, Zg, Zh, Zi, Zj, Zk, Zl, Zm, Zn, Zo, Zp, Zq, Zr, Zs, Zt, g3, ht2, kv, c1, prow, r2, g4]
   exact ⟨_, rfl, bKK.ext, .int, h⟩
  by_cases g5 : 4 < k.kind
  case pos =>
   rw [if_neg (by omega)] at hx
   rw [hx] at h
   simp (disch := omega) only [kB, kcx, kdm, kdn, kel, aop, Za, Zb, Zc, reduceCtorEq, Zd, Ze, Zf, Zg, Zh, Zi, Zj, Zk, Zl, Zm, Zn, Zo, Zp, Zq, Zr, Zs, Zt, g3, ht2, kv, c1, prow, r2, g4, g5]
   exact ⟨_, rfl, bKK.ext, .int, h⟩
  rw [if_pos (by omega)] at hx
  by_cases g6 : k.kind = 2
  ·have g6' : (k.kind = 2) = True := eq_true g6
   rw [if_pos g6] at hx
   by_cases g7 : 0 < n
   case pos =>
    rw [if_neg (by omega)] at hx
    rw [hx] at h
    simp (disch := omega) only [kB, kcx, kdm, kdn, kel, aop, Za, Zb, Zc, reduceCtorEq, Zd, Ze, Zf, Zg, Zh, Zi, Zj, Zk, Zl, Zm, Zn, Zo, Zp, Zq, Zr, Zs, Zt, g3, ht2, kv, c1, prow, r2, g4, g5, g6', decide_eq_true g7]
    exact ⟨_, rfl, bKK.ext, .int, h⟩
   by_cases g8 : kindV t.keys = 3
   ·rw [if_neg (by omega)] at hx
    rw [hx] at h
    have g8' : (kindV t.keys = 3) = True := eq_true g8
    simp (disch := omega) only [kB, kcx, kdm, kdn, kel, aop, Za, Zb, Zc, reduceCtorEq, Zd, Ze, Zf, Zg, Zh, Zi, Zj, Zk, Zl, Zm, Zn, Zo, Zp, Zq, Zr, Zs, Zt, g3, ht2, kv, c1, prow, r2, g4, g5, g6', decide_eq_false g7, g8']
    exact ⟨_, rfl, bKK.ext, .int, h⟩
   ·have g9 := (kind_two hmem g6).resolve_right g8
    rw [if_pos ⟨by omega, g9⟩] at hx
    have g8' : (kindV t.keys = 3) = False := eq_false g8
    simp (disch := omega) only [kB, kcx, kdm, kdn, kel, aop, Za, Zb, Zc, reduceCtorEq, Zd, Ze, Zf, Zg, Zh, Zi, Zj, Zk, Zl, Zm, Zn, Zo, Zp, Zq, Zr, Zs, Zt, g3, ht2, kv, c1, prow, r2, g4, g5, g6', decide_eq_false g7, g8', w2]
    refine ⟨t.keys.length - (i + 1), by omega, i + 1, n + 1, by omega, rfl, bK, hx, ?_⟩
    rw [decide_eq_true (Nat.succ_pos n)]
    exact ex_env rfl
  ·have g6' : (k.kind = 2) = False := eq_false g6
   rw [if_neg g6] at hx
   by_cases g7 : 0 < n
   ·simp (disch := omega) only [kB, kcx, kdm, kdn, kel, aop, Za, Zb, Zc, reduceCtorEq, Zd, Ze, Zf, Zg, Zh, Zi, Zj, Zk, Zl, Zm, Zn, Zo, Zp, Zq, Zr, Zs, Zt, g3, ht2, kv, c1, prow, r2, g4, g5, g6', decide_eq_true g7, w2]
    refine ⟨t.keys.length - (i + 1), by omega, i + 1, n, by omega, rfl, bK, hx, ?_⟩
    rw [decide_eq_true g7]
    exact ex_env rfl
   ·simp (disch := omega) only [kB, kcx, kdm, kdn, kel, aop, Za, Zb, Zc, reduceCtorEq, Zd, Ze, Zf, Zg, Zh, Zi, Zj, Zk, Zl, Zm, Zn, Zo, Zp, Zq, Zr, Zs, Zt, g3, ht2, kv, c1, prow, r2, g4, g5, g6', decide_eq_false g7, w2]
    refine ⟨t.keys.length - (i + 1), by omega, i + 1, n, by omega, rfl, bK, hx, ?_⟩
    rw [decide_eq_false g7]
    exact ex_env rfl
 ·have c1 : ¬ (i : Int) < (t.keys.length : Int) := by omega
  rw [List.drop_eq_nil_of_le (by omega), keysE] at hx
  rw [hx] at h
  simp (disch := omega) only [kB, kcx, kdm, kdn, kel, aop, Za, Zb, Zc, reduceCtorEq, Zd, Ze, Zf, Zg, Zh, Zi, Zj, Zk, Zl, Zm, Zn, Zo, Zp, Zq, Zr, Zs, Zt, ht2, kv, c1]
  exact ⟨_, rfl, bKK.ext, .int, h⟩
def rhpI (K : Heap) (ad : Option Addr) (t : List UInt8) (L : List (List UInt8)) (n : Nat) : Nat → Env → Heap → Prop := fun z e K' =>
 ∃ i : Nat, i ≤ n ∧ z = n - i ∧ K' = K ∧ (∀ j (hj : j < L.length), j < i → L[j] ≠ t) ∧ (∃ x : Nat → Value, e = [.slice ad n L.length, .string (bs t), x 2, x 3, x 4, .int .i64 (i : Int), x 6, x 7, x 8, x 9, x 10, x 11, x 12, x 13, x 14, x 15, x 16, x 17])
/-- Is a text in a list's beginning? -/
theorem rhasp_s {ad : Option Addr} {L : List (List UInt8)} {n : Nat} (hr : RoSl H (.slice ad L.length L.length) (L.map txC)) (hn : few 16 L.length) (hb : Base H K) (hnl : n ≤ L.length) {t : List UInt8} (h : R (.ret (.bool (decide (t ∈ L.take n)))) K) : WD T 121 [.slice ad n L.length, .string (bs t)] K R := by
 refine WD.of follows t121 (by simp) ?_
 unfold few at hn
 simp (disch := omega) only [kB, kcx, kdm, kdn, kel, aop, Za, Zb, Zc, reduceCtorEq, Zd, Ze, Zf, Zg, Zh, Zi, Zj, Zk, Zl, Zm, Zn, Zo, Zp, Zq, Zr, Zs, Zt]
 refine WLoop.inv (rhpI K ad t L n) ?_ n _ _ ⟨0, Nat.zero_le _, by omega, rfl, fun j hj h0 => by omega, by exact ex_env rfl⟩
 rintro z e K' ⟨i, hi, rfl, rfl, hno, ⟨x, rfl⟩⟩
 by_cases hlt : i < n
 ·have c0 : (i : Int) < (n : Int) := by omega
  have hil : i < L.length := by omega
  obtain ⟨b, u0, w0, rfl, hbl, hrow0, _, _, hat⟩ := hr.at (u := 1) txC_len hil
  have hrow : hget K' b = .row (L.map txC).flatten u0 w0 := by rw [hb.2 b hbl]; exact hrow0
  have h0 := hat 0 (by decide)
  simp only [txC, Nat.mul_one, Nat.add_zero, List.getElem?_cons_zero] at h0
  have w2 : IntKind.i64.wrap ((i : Int) + 1) = ((i + 1 : Nat) : Int) := wI (by omega)
  by_cases he : L[i] = t
  ·have hin : t ∈ L.take n := by rw [← he]; exact List.mem_take_iff_getElem.2 ⟨i, by omega, rfl⟩
   simp (disch := omega) only [kB, kcx, kdm, kdn, kel, aop, Za, Zb, Zc, reduceCtorEq, Zd, Ze, Zf, Zg, Zh, Zi, Zj, Zk, Zl, Zm, Zn, Zo, Zp, Zq, Zr, Zs, Zt, c0, hrow, h0, decide_eq_true he]
   simpa [hin] using h
  ·simp (disch := omega) only [kB, kcx, kdm, kdn, kel, aop, Za, Zb, Zc, reduceCtorEq, Zd, Ze, Zf, Zg, Zh, Zi, Zj, Zk, Zl, Zm, Zn, Zo, Zp, Zq, Zr, Zs, Zt, c0, hrow, h0, decide_eq_false he, w2]
   exact ⟨n - (i + 1), by omega, i + 1, by omega, rfl, rfl, fun j hj h1 => by
    by_cases q : j = i
    ·subst q; exact he
    ·exact hno j hj (by omega), by exact ex_env rfl⟩
 ·have c0 : ¬ (i : Int) < (n : Int) := by omega
  have hin : ¬ t ∈ L.take n := fun h => by
   obtain ⟨j, hj, rfl⟩ := List.mem_take_iff_getElem.1 h
   exact hno j (by omega) (by omega) rfl
  simp (disch := omega) only [kB, kcx, kdm, kdn, kel, aop, Za, Zb, Zc, reduceCtorEq, Zd, Ze, Zf, Zg, Zh, Zi, Zj, Zk, Zl, Zm, Zn, Zo, Zp, Zq, Zr, Zs, Zt, c0]
  simpa [hin] using h
theorem tactsE_ne {s : Sch} : ∀ {l had : List (List UInt8)} {e : Int}, tactsE s had l = some e → e ≠ 0
 | [], _, e, h => by cases h
 | a :: l, had, e, h => by
  rw [tactsE] at h
  split at h
  ·split at h
   ·cases h; decide
   ·exact tactsE_ne h
  ·cases h; decide
def rtbI (K : Heap) (bx : Nat) (s : Sch) (l : List (List UInt8)) : Nat → Env → Heap → Prop := fun z e K' =>
 ∃ i : Nat, i ≤ l.length ∧ z = l.length - i ∧ Base K K' ∧ tactsE s [] l = tactsE s (l.take i) (l.drop i) ∧
  (∃ x : Nat → Value, e = [x 0, x 1, .pointer (some ⟨bx, 0, none⟩), .pointer (some ⟨bx + 1, 0, none⟩), x 4, x 5, .int .i64 (i : Int), x 7, x 8, x 9, x 10, x 11, x 12, x 13, x 14, x 15, x 16, x 17, x 18, x 19, x 20, x 21, x 22, x 23, x 24, x 25, x 26, x 27, x 28, x 29, x 30, x 31, x 32, x 33, x 34, x 35, x 36, x 37, x 38, x 39, x 40, x 41, x 42, x 43, x 44, x 45, x 46, x 47, x 48, x 49, x 50, x 51, x 52, x 53, x 54, x 55, x 56, x 57, x 58, x 59, x 60, x 61, x 62, x 63, x 64])
set_option maxHeartbeats 2000000 in
theorem rtbl_s {s : Sch} {t : Tbl} (hs : s.OK H) (ht : t.OK H) (hb : Base H K) (h : R (.ret (.int .i64 (eI (tblE s t)))) K) : WD T 139 [.agg s.cells.toArray, .agg t.cells.toArray] K R := by
 refine WD.gc0 (WD.of follows t139 (by simp) ?_)
 obtain ⟨o0, o1, o2, o3, o4, o5⟩ := hs.one
 obtain ⟨ok1, oa1, od1⟩ := ht.one
 have ht' := ht
 obtain ⟨_, atx, hsz, hbt⟩ := ht'
 obtain ⟨aa, av⟩ := atx.1.sl
 rw [List.length_map] at av
 have an := atx.2
 have an' := an
 unfold few at an'
 have hE : tblE s t = (match keyE s t with
  | some e => some e
  | none => if 1 ≤ t.actions.length ∧ t.actions.length ≤ 64 then (match tactsE s [] t.actions with
   | some e => some e
   | none => if 1 ≤ t.size ∧ t.size ≤ 4096 then (if callE s t.name t.dact t.dargs = 0 then none else some (callE s t.name t.dact t.dargs)) else some 74) else some 74) := by
  unfold tblE keyE
  by_cases c : 1 ≤ t.keys.length ∧ t.keys.length ≤ 8
  ·rw [if_pos c, if_pos c]; rfl
  ·rw [if_neg c, if_neg c]
 rw [hE] at h
 clear hE
 simp only [Sch.cells, Tbl.cells]
 simp (disch := omega) only [kB, kcx, kdm, kdn, kel, aop, Za, Zb, Zc, reduceCtorEq, Zd, Ze, Zf, Zg, Zh, Zi, Zj, Zk, Zl, Zm, Zn, Zo, Zp, Zq, Zr, Zs, Zt, o0, o1, o2, o3, o4, o5, ok1, oa1, od1]
 refine rkeys_s hs ht (hb.app _) ?_
 cases hk : keyE s t with
 | some e =>
  have he : (e = 0) = False := eq_false (keyE_ne hk)
  rw [hk] at h
  simp only [eI_some] at h ⊢
  simp (disch := omega) only [kB, kcx, kdm, kdn, kel, aop, Za, Zb, Zc, reduceCtorEq, Zd, Ze, Zf, Zg, Zh, Zi, Zj, Zk, Zl, Zm, Zn, Zo, Zp, Zq, Zr, Zs, Zt, he]
  exact ⟨_, rfl, (Base.app0 _).ext, .int, h⟩
 | none =>
 rw [hk] at h
 simp only [eI_none] at h ⊢
 by_cases g1 : (t.actions.length : Int) < 1
 case pos =>
  rw [if_neg (by omega)] at h
  simp (disch := omega) only [kB, kcx, kdm, kdn, kel, aop, Za, Zb, Zc, reduceCtorEq, Zd, Ze, Zf, Zg, Zh, Zi, Zj, Zk, Zl, Zm, Zn, Zo, Zp, Zq, Zr, Zs, Zt, av, g1]
  exact ⟨_, rfl, (Base.app0 _).ext, .int, h⟩
 by_cases g2 : (64 : Int) < (t.actions.length : Int)
 case pos =>
  rw [if_neg (by omega)] at h
  simp (disch := omega) only [kB, kcx, kdm, kdn, kel, aop, Za, Zb, Zc, reduceCtorEq, Zd, Ze, Zf, Zg, Zh, Zi, Zj, Zk, Zl, Zm, Zn, Zo, Zp, Zq, Zr, Zs, Zt, av, g1, g2]
  exact ⟨_, rfl, (Base.app0 _).ext, .int, h⟩
 rw [if_pos (by omega)] at h
 simp (disch := omega) only [kB, kcx, kdm, kdn, kel, aop, Za, Zb, Zc, reduceCtorEq, Zd, Ze, Zf, Zg, Zh, Zi, Zj, Zk, Zl, Zm, Zn, Zo, Zp, Zq, Zr, Zs, Zt, av, g1, g2]
 rw [← av]
 obtain ⟨K1, hK1⟩ : ∃ K1, K1 = K ++ [AObj.row [s.hv, s.mv, s.sv, s.av, s.tv, s.cv] 0 true, AObj.row [.string (bs t.name), t.kv, t.av, .int .i64 t.size, .string (bs t.dact), t.dv, .bool t.fixed] 0 true] := ⟨_, rfl⟩
 rw [← hK1]
 have b1 : Base K K1 := by rw [hK1]; exact Base.app0 _
 have hs1 : hget K1 K.length = .row [s.hv, s.mv, s.sv, s.av, s.tv, s.cv] 0 true := by rw [hK1, hget_base0]; rfl
 have ht1 : hget K1 (K.length + 1) = .row [.string (bs t.name), t.kv, t.av, .int .i64 t.size, .string (bs t.dact), t.dv, .bool t.fixed] 0 true := by rw [hK1, hget_base]; rfl
 clear hK1
 refine WLoop.inv (rtbI K1 K.length s t.actions) ?_ t.actions.length _ _ ⟨0, Nat.zero_le _, by omega, Base.refl, rfl, by exact ex_env rfl⟩
 rintro z e K' ⟨i, hi, rfl, bK, hx, ⟨x, rfl⟩⟩
 have hs2 := bK.rowc hs1
 have ht2 := bK.rowc ht1
 have ls2 := hget_lt hs2 rfl
 have lt2 := hget_lt ht2 rfl
 have bKK := b1.trans bK
 have hbK := hb.trans bKK
 by_cases hlt : i < t.actions.length
 ·have c1 : (i : Int) < (t.actions.length : Int) := by omega
  have c1' : (i : Int) ≤ (t.actions.length : Int) := by omega
  obtain ⟨b, u0, w0, rfl, p1, p2, p3, p4, p5⟩ := (av ▸ atx.1).at txC_len hlt
  have prow := hbK.rowc p2
  have w2 : IntKind.i64.wrap ((i : Int) + 1) = ((i + 1 : Nat) : Int) := wI (by omega)
  have r0 : ((t.actions.map txC).flatten)[i]? = some (.string (bs t.actions[i])) := by have := p5 0 (by omega); rw [Nat.mul_one, Nat.add_zero] at this; exact this
  have htk2 : t.actions.take (i + 1) = t.actions.take i ++ [t.actions[i]] := by rw [List.take_add_one, List.getElem?_eq_getElem hlt]; rfl
  rw [List.drop_eq_getElem_cons hlt, tactsE] at hx
  clear p5 p3
  generalize t.actions[i] = a at *
  simp (disch := omega) only [kB, kcx, kdm, kdn, kel, aop, Za, Zb, Zc, reduceCtorEq, Zd, Ze, Zf, Zg, Zh, Zi, Zj, Zk, Zl, Zm, Zn, Zo, Zp, Zq, Zr, Zs, Zt, ht2, hs2, av, c1, prow, r0, o0, o1, o2, o3, o4, o5]
  refine ractionAt_s hs hbK ?_
  by_cases g3 : a ∈ s.actions.map Act.name
  case neg =>
   have g3' : ixT a (s.actions.map Act.name) 0 < 0 := Int.not_le.1 fun q => g3 ((ixT_mem _ _).1 q)
   rw [if_neg g3] at hx
   rw [hx] at h
   simp (disch := omega) only [kB, kcx, kdm, kdn, kel, aop, Za, Zb, Zc, reduceCtorEq, Zd, Ze, Zf, Zg, Zh, Zi, Zj, Zk, Zl, Zm, Zn, Zo, Zp, Zq, Zr, Zs, Zt, g3']
   exact ⟨_, rfl, bKK.ext, .int, h⟩
  have g3' : ¬ (ixT a (s.actions.map Act.name) 0 < 0) := Int.not_lt.2 ((ixT_mem _ _).2 g3)
  rw [if_pos g3] at hx
  simp (disch := omega) only [kB, kcx, kdm, kdn, kel, aop, Za, Zb, Zc, reduceCtorEq, Zd, Ze, Zf, Zg, Zh, Zi, Zj, Zk, Zl, Zm, Zn, Zo, Zp, Zq, Zr, Zs, Zt, g3', ht2, hs2, av, c1, c1', prow, r0, and_false, Nat.zero_mul, Nat.sub_zero]
  refine rhasp_s (av ▸ atx.1) an hbK hi ?_
  by_cases g4 : a ∈ t.actions.take i
  ·rw [if_pos g4] at hx
   rw [hx] at h
   simp (disch := omega) only [kB, kcx, kdm, kdn, kel, aop, Za, Zb, Zc, reduceCtorEq, Zd, Ze, Zf, Zg, Zh, Zi, Zj, Zk, Zl, Zm, Zn, Zo, Zp, Zq, Zr, Zs, Zt, decide_eq_true g4]
   exact ⟨_, rfl, bKK.ext, .int, h⟩
  ·rw [if_neg g4] at hx
   simp (disch := omega) only [kB, kcx, kdm, kdn, kel, aop, Za, Zb, Zc, reduceCtorEq, Zd, Ze, Zf, Zg, Zh, Zi, Zj, Zk, Zl, Zm, Zn, Zo, Zp, Zq, Zr, Zs, Zt, decide_eq_false g4, w2]
   exact ⟨t.actions.length - (i + 1), by omega, i + 1, by omega, rfl, bK, by rw [htk2]; exact hx, by exact ex_env rfl⟩
 ·have c1 : ¬ (i : Int) < (t.actions.length : Int) := by omega
  rw [List.drop_eq_nil_of_le (by omega), tactsE] at hx
  rw [hx] at h
  simp only at h
  by_cases g5 : t.size < 1
  case pos =>
   rw [if_neg (by omega)] at h
   simp (disch := omega) only [kB, kcx, kdm, kdn, kel, aop, Za, Zb, Zc, reduceCtorEq, Zd, Ze, Zf, Zg, Zh, Zi, Zj, Zk, Zl, Zm, Zn, Zo, Zp, Zq, Zr, Zs, Zt, ht2, av, c1, g5]
   exact ⟨_, rfl, bKK.ext, .int, h⟩
  by_cases g6 : 4096 < t.size
  case pos =>
   rw [if_neg (by omega)] at h
   simp (disch := omega) only [kB, kcx, kdm, kdn, kel, aop, Za, Zb, Zc, reduceCtorEq, Zd, Ze, Zf, Zg, Zh, Zi, Zj, Zk, Zl, Zm, Zn, Zo, Zp, Zq, Zr, Zs, Zt, ht2, av, c1, g5, g6]
   exact ⟨_, rfl, bKK.ext, .int, h⟩
  rw [if_pos (by omega)] at h
  simp (disch := omega) only [kB, kcx, kdm, kdn, kel, aop, Za, Zb, Zc, reduceCtorEq, Zd, Ze, Zf, Zg, Zh, Zi, Zj, Zk, Zl, Zm, Zn, Zo, Zp, Zq, Zr, Zs, Zt, ht2, hs2, av, c1, g5, g6, o0, o1, o2, o3, o4, o5, od1]
  refine rcall_s hs hbK hbt ?_
  have hc : eI (if callE s t.name t.dact t.dargs = 0 then none else some (callE s t.name t.dact t.dargs)) = callE s t.name t.dact t.dargs := by
   by_cases c : callE s t.name t.dact t.dargs = 0
   ·rw [if_pos c, c]; rfl
   ·rw [if_neg c]; rfl
  rw [hc] at h
  simp (disch := omega) only [kB, kcx, kdm, kdn, kel, aop, Za, Zb, Zc, reduceCtorEq, Zd, Ze, Zf, Zg, Zh, Zi, Zj, Zk, Zl, Zm, Zn, Zo, Zp, Zq, Zr, Zs, Zt]
  exact ⟨_, rfl, bKK.ext, .int, h⟩
theorem tblE_ne {s : Sch} {t : Tbl} {e : Int} (h : tblE s t = some e) : e ≠ 0 := by
 unfold tblE at h
 split at h
 ·cases hk : keysE s (kindV t.keys) 0 t.keys with
  | some e' => rw [hk] at h; cases h; exact keysE_ne hk
  | none =>
   rw [hk] at h
   simp only at h
   split at h
   ·cases ha : tactsE s [] t.actions with
    | some e' => rw [ha] at h; cases h; exact tactsE_ne ha
    | none =>
     rw [ha] at h
     simp only at h
     split at h
     ·split at h
      ·cases h
      ·rename_i hc; cases h; exact hc
     ·cases h; decide
   ·cases h; decide
 ·cases h; decide
def rtsI (K : Heap) (bx : Nat) (s : Sch) : Nat → Env → Heap → Prop := fun z e K' =>
 ∃ i : Nat, i ≤ s.tables.length ∧ z = s.tables.length - i ∧ Base K K' ∧ tblsE s [] s.tables = tblsE s ((s.tables.take i).map Tbl.name) (s.tables.drop i) ∧ (∃ x : Nat → Value, e = [x 0, .pointer (some ⟨bx, 0, none⟩), x 2, x 3, .int .i64 (i : Int), x 5, x 6, x 7, x 8, x 9, x 10, x 11, x 12, x 13, x 14, x 15, x 16, x 17, x 18, x 19, x 20, x 21, x 22, x 23, x 24, x 25, x 26, x 27, x 28, x 29, x 30, x 31, x 32, x 33, x 34, x 35, x 36, x 37, x 38, x 39, x 40, x 41, x 42, x 43, x 44, x 45, x 46, x 47, x 48, x 49, x 50, x 51, x 52, x 53, x 54, x 55, x 56, x 57])
set_option maxHeartbeats 4000000 in
theorem rtables_s {s : Sch} (hs : s.OK H) (hn0 : ∀ x ∈ s.tables, short x.name) (hb : Base H K) (h : R (.ret (eT (tablesE s))) K) : WD T 66 [.agg s.cells.toArray] K R := by
 refine WD.gc0 (WD.of follows t66 (by simp) ?_)
 obtain ⟨o0, o1, o2, o3, o4, o5⟩ := hs.one
 obtain ⟨hr, hn, hok⟩ := hs.ts
 unfold few at hn
 obtain ⟨ad, hv⟩ := hr.sl
 rw [List.length_map] at hv
 simp only [Sch.cells]
 by_cases g0 : (s.tables.length : Int) ≤ 32
 case neg =>
  have g0' : (32 : Int) < (s.tables.length : Int) := by omega
  rw [tablesE, if_neg (by omega)] at h
  simp (disch := omega) only [kB, kcx, kdm, kdn, kel, aop, Za, Zb, Zc, reduceCtorEq, Zd, Ze, Zf, Zg, Zh, Zi, Zj, Zk, Zl, Zm, Zn, Zo, Zp, Zq, Zr, Zs, Zt, o0, o1, o2, o3, o4, o5, hv, g0']
  exact ⟨_, rfl, (Base.app0 _).ext, .tup2 .int .string, h⟩
 have g0' : ¬ (32 : Int) < (s.tables.length : Int) := by omega
 rw [tablesE, if_pos (by omega)] at h
 simp (disch := omega) only [kB, kcx, kdm, kdn, kel, aop, Za, Zb, Zc, reduceCtorEq, Zd, Ze, Zf, Zg, Zh, Zi, Zj, Zk, Zl, Zm, Zn, Zo, Zp, Zq, Zr, Zs, Zt, o0, o1, o2, o3, o4, o5, hv, g0']
 obtain ⟨K1, hK1⟩ : ∃ K1, K1 = K ++ [AObj.row [s.hv, s.mv, s.sv, s.av, .slice ad s.tables.length s.tables.length, s.cv] 0 true] := ⟨_, rfl⟩
 rw [← hK1]
 have b1 : Base K K1 := by rw [hK1]; exact Base.app0 _
 have hs1 : hget K1 K.length = .row [s.hv, s.mv, s.sv, s.av, .slice ad s.tables.length s.tables.length, s.cv] 0 true := by rw [hK1, hget_base0]; rfl
 clear hK1
 have nat1 : ∀ i : Nat, i < 64 → IntKind.i64.wrap ((i : Int) + 1) = ((i + 1 : Nat) : Int) := fun i hi => by rw [show (i : Int) + 1 = ((i + 1 : Nat) : Int) by omega]; exact wr_i64 (by omega) (by omega)
 refine WLoop.inv (rtsI K1 K.length s) ?_ s.tables.length _ _ ⟨0, Nat.zero_le _, by omega, Base.refl, rfl, by exact ex_env rfl⟩
 rintro z e K' ⟨i, hi, rfl, bK, hx, ⟨x, rfl⟩⟩
 have hs2 := bK.rowc hs1
 have ls2 := hget_lt hs2 rfl
 have bKK := b1.trans bK
 have hbK := hb.trans bKK
 by_cases hlt : i < s.tables.length
 ·have c1 : (i : Int) < (s.tables.length : Int) := by omega
  obtain ⟨b, u0, w0, rfl, p1, p2, p3, p4, p5⟩ := (hv ▸ hr).at Tbl.len hlt
  have prow := hbK.rowc p2
  have w2 := nat1 i (by omega)
  have hyo := hok _ (List.getElem_mem hlt)
  have hys := hn0 _ (List.getElem_mem hlt)
  have htk := take_map Tbl.name hlt
  have hix := ixT_lt (l := s.tables.map Tbl.name) (p := 0) (i := i) (by simpa using hlt) rfl
  rw [List.getElem_map, Nat.zero_add, ← List.map_take] at hix
  have r0 := p5 0 (by decide)
  rw [List.drop_eq_getElem_cons hlt, tblsE] at hx
  generalize s.tables[i] = y at *
  simp only [Tbl.cells, List.getElem?_cons_zero, Nat.add_zero] at p3 r0
  clear p5
  unfold short at hys
  have hadd : binV .add (.string (bs [116, 97, 98, 108, 101, 32])) (.string (bs y.name)) = some (.string (bs ([116, 97, 98, 108, 101, 32] ++ y.name))) := bin_str_add (by simp; omega)
  have bad : ∀ e, tblsE s [] s.tables = some (e, [116, 97, 98, 108, 101, 32] ++ y.name) → R (.ret (.tuple #[.int .i64 e, .string (bs ([116, 97, 98, 108, 101, 32] ++ y.name))])) K := fun e q => by rw [q] at h; exact h
  simp (disch := omega) only [kB, kcx, kdm, kdn, kel, aop, Za, Zb, Zc, reduceCtorEq, Zd, Ze, Zf, Zg, Zh, Zi, Zj, Zk, Zl, Zm, Zn, Zo, Zp, Zq, Zr, Zs, Zt, hs2, c1, prow, r0, hadd]
  refine risName_s ?_
  unfold nameE at hx
  by_cases g1 : isNm y.name = false
  case pos =>
   rw [if_pos g1] at hx
   rw [g1]
   simp (disch := omega) only [kB, kcx, kdm, kdn, kel, aop, Za, Zb, Zc, reduceCtorEq, Zd, Ze, Zf, Zg, Zh, Zi, Zj, Zk, Zl, Zm, Zn, Zo, Zp, Zq, Zr, Zs, Zt]
   exact ⟨_, rfl, bKK.ext, .tup2 .int .string, bad _ hx⟩
  rw [if_neg g1] at hx
  rw [Bool.not_eq_false] at g1
  rw [g1]
  simp (disch := omega) only [kB, kcx, kdm, kdn, kel, aop, Za, Zb, Zc, reduceCtorEq, Zd, Ze, Zf, Zg, Zh, Zi, Zj, Zk, Zl, Zm, Zn, Zo, Zp, Zq, Zr, Zs, Zt, hs2, c1, prow, r0, o0, o1, o2, o3, o4, o5]
  rw [← hv]
  refine rtableAt_s hs hbK ?_
  by_cases g2 : y.name ∈ (s.tables.take i).map Tbl.name
  case pos =>
   rw [if_pos g2] at hx
   have g2' : ixT y.name (s.tables.map Tbl.name) 0 < (i : Int) := hix.2 g2
   simp (disch := omega) only [kB, kcx, kdm, kdn, kel, aop, Za, Zb, Zc, reduceCtorEq, Zd, Ze, Zf, Zg, Zh, Zi, Zj, Zk, Zl, Zm, Zn, Zo, Zp, Zq, Zr, Zs, Zt, g2']
   exact ⟨_, rfl, bKK.ext, .tup2 .int .string, bad _ hx⟩
  rw [if_neg g2] at hx
  simp only at hx
  have g2' : ¬ ixT y.name (s.tables.map Tbl.name) 0 < (i : Int) := fun q => g2 (hix.1 q)
  simp (disch := omega) only [kB, kcx, kdm, kdn, kel, aop, Za, Zb, Zc, reduceCtorEq, Zd, Ze, Zf, Zg, Zh, Zi, Zj, Zk, Zl, Zm, Zn, Zo, Zp, Zq, Zr, Zs, Zt, g2', hs2, c1, prow, p3, p4, o0, o1, o2, o3, o4, o5]
  rw [← hv]
  refine rtbl_s hs hyo hbK ?_
  cases hE : tblE s y with
  | some e =>
   have he : (e = 0) = False := eq_false (tblE_ne hE)
   rw [hE] at hx
   simp only [eI_some]
   simp (disch := omega) only [kB, kcx, kdm, kdn, kel, aop, Za, Zb, Zc, reduceCtorEq, Zd, Ze, Zf, Zg, Zh, Zi, Zj, Zk, Zl, Zm, Zn, Zo, Zp, Zq, Zr, Zs, Zt, he]
   exact ⟨_, rfl, bKK.ext, .tup2 .int .string, bad _ hx⟩
  | none =>
   rw [hE] at hx
   simp only [eI_none]
   simp (disch := omega) only [kB, kcx, kdm, kdn, kel, aop, Za, Zb, Zc, reduceCtorEq, Zd, Ze, Zf, Zg, Zh, Zi, Zj, Zk, Zl, Zm, Zn, Zo, Zp, Zq, Zr, Zs, Zt, w2]
   exact ⟨s.tables.length - (i + 1), by omega, i + 1, by omega, rfl, bK, by rw [htk]; exact hx, by exact ex_env rfl⟩
 ·have c1 : ¬ (i : Int) < (s.tables.length : Int) := by omega
  rw [List.drop_eq_nil_of_le (by omega), tblsE] at hx
  rw [hx] at h
  simp (disch := omega) only [kB, kcx, kdm, kdn, kel, aop, Za, Zb, Zc, reduceCtorEq, Zd, Ze, Zf, Zg, Zh, Zi, Zj, Zk, Zl, Zm, Zn, Zo, Zp, Zq, Zr, Zs, Zt, hs2, c1]
  exact ⟨_, rfl, bKK.ext, .tup2 .int .string, h⟩
end
section
variable {R : FRes → Heap → Prop} {H K : Heap}
/-- A stage with its depth as an element's cells. -/
def stC (y : Nat × St) : List Value := y.2.cells ++ [.int .i64 (y.1 : Int)]
theorem stC_len (y : Nat × St) : (stC y).length = 14 := by simp [stC, St.len]
def StG (n0 : Nat) (H : Heap) (sv : Value) (L : List (Nat × St)) : Prop := SLs 14 n0 H sv (L.map stC)
theorem StG.sl {n0 : Nat} {sv : Value} {L : List (Nat × St)} (h : StG n0 H sv L) : ∃ ad, sv = .slice ad L.length L.length := by
 obtain ⟨ad, q⟩ := h.len
 exact ⟨ad, by simpa using q⟩
theorem take_take_app {α : Type} (n : Nat) (A B : List α) : ((A.take n) ++ B).take n = (A ++ B).take n := by
 refine List.ext_getElem? fun j => ?_
 simp only [List.getElem?_take]
 by_cases h : j < n
 ·simp only [if_pos h]
  by_cases h1 : j < A.length
  ·rw [List.getElem?_append_left (by rw [List.length_take]; omega), List.getElem?_append_left h1, List.getElem?_take_of_lt h]
  ·rw [List.getElem?_append_right (by rw [List.length_take]; omega), List.getElem?_append_right (by omega), List.length_take, Nat.min_eq_right (by omega)]
 ·simp only [if_neg h]
def sgI (n0 d : Nat) (l : List St) (v : Value) (L0 : List (Nat × St)) (K : Heap) : Nat → Env → Heap → Prop := fun z e K' =>
 ∃ (i : Nat) (ad : Option Addr) (L : List (Nat × St)), i ≤ l.length ∧ z = l.length - i ∧ n0 ≤ K'.length ∧ (∀ c, c < n0 → hget K' c = hget K c) ∧ L = (L0 ++ flatL d (l.take i)).take 129 ∧ StG n0 K' (.slice ad L.length L.length) L ∧
  (∃ x : Nat → Value, e = [.slice ad L.length L.length, v, .int .i64 (d : Int), x 3, x 4, x 5, x 6, .int .i64 (i : Int), x 8, x 9, x 10, x 11, x 12, x 13, x 14, x 15, x 16, x 17, x 18, x 19, x 20, x 21, x 22, x 23, x 24, x 25, x 26, x 27, x 28, x 29, x 30, x 31, x 32, x 33, x 34, x 35, x 36, x 37, x 38, x 39, x 40, x 41, x 42, x 43, x 44, x 45, x 46])
set_option maxHeartbeats 2000000 in
theorem stages_s {n0 : Nat} (hn0 : H.length ≤ n0) : ∀ (N : Nat) (l : List St), SizeOf.sizeOf l ≤ N → ∀ (d : Nat) (L0 : List (Nat × St)) (K : Heap) (sv v : Value) (R : FRes → Heap → Prop), d ≤ L0.length + 1 → L0.length ≤ 129 → n0 ≤ K.length →
  (∀ c, c < H.length → hget K c = hget H c) → StG n0 K sv L0 → StSl H l v →
  (∀ ad L K', n0 ≤ K'.length → (∀ c, c < n0 → hget K' c = hget K c) → L = (L0 ++ flatL d l).take 129 → StG n0 K' (.slice ad L.length L.length) L → R (.ret (.slice ad L.length L.length)) K') → WD T 165 [sv, v, .int .i64 (d : Int)] K R := by
 intro N
 induction N with
 | zero => intro l h; cases l <;> simp at h
 | succ N ih =>
  intro l hN d L0 K sv v R hd hL0 hnk hk hs hv h
  have hlen := hv.left
  obtain ⟨ad, rfl⟩ := hv.sl
  obtain ⟨ad0, rfl⟩ := hs.sl
  refine WD.of follows t165 (by simp) ?_
  simp (disch := omega) only [kB, kcx, kdm, kdn, kel, aop, Za, Zb, Zc, reduceCtorEq, Zd, Ze, Zf, Zg, Zh, Zi, Zj, Zk, Zl, Zm, Zn, Zo, Zp, Zq, Zr, Zs, Zt]
  refine WLoop.inv (sgI n0 d l (.slice ad l.length l.length) L0 K) ?_ l.length _ _ ⟨0, ad0, L0, Nat.zero_le _, by omega, hnk, fun c _ => rfl, by rw [List.take_zero, flatL_nil, List.append_nil, List.take_of_length_le hL0], hs, by exact ex_env rfl⟩
  rintro z e K' ⟨i, ad1, L, hi, rfl, hk1, hk2, hL, hg, ⟨x, rfl⟩⟩
  by_cases hlt : i < l.length
  ·have c0 : (i : Int) < (l.length : Int) := by omega
   by_cases hfull : L.length ≤ 128
   ·have c1 : (L.length : Int) ≤ 128 := by omega
    obtain ⟨_, hsc, b, u0, w0, rfl, hb, hrow, p3, p4, p5⟩ := hv.at hlt
    have hrow' : hget K' b = .row (l.map St.cells).flatten u0 w0 := by rw [hk2 b (by omega), hk b hb]; exact hrow
    have h11 := p5 11 (by decide)
    have h12 := p5 12 (by decide)
    obtain ⟨z1, z2⟩ := St.size (List.getElem_mem hlt)
    have hw1 : IntKind.i64.wrap ((d : Int) + 1) = ((d + 1 : Nat) : Int) := wI (by omega)
    have w2 : IntKind.i64.wrap ((i : Int) + 1) = ((i + 1 : Nat) : Int) := wI (by omega)
    have sa := hsc.sa
    have sb := hsc.sb
    have oa := sa.one
    have ob := sb.one
    have htk := flatL_take (d := d) hlt
    rw [flat1_eq] at htk
    have hcells := St.cells_eq l[i]
    generalize l[i] = x at *
    simp only [Tst.cells, List.cons_append, List.nil_append] at hcells
    rw [hcells] at p3 h11 h12
    simp only [List.getElem?_cons_succ, List.getElem?_cons_zero] at h11 h12
    clear p5
    have hst : stC (d, x) = [.int .i64 x.kind, .string (bs x.table), .int .i64 x.test.kind, .string (bs x.test.a.ref.head), .string (bs x.test.a.ref.name), .int .u64 (x.test.a.const.hi : Int), .int .u64 (x.test.a.const.lo : Int), .string (bs x.test.b.ref.head), .string (bs x.test.b.ref.name), .int .u64 (x.test.b.const.hi : Int), .int .u64 (x.test.b.const.lo : Int), x.va, x.vb, .int .i64 (d : Int)] := by
     rw [stC, hcells]; rfl
    have hone : (stC (d, x)).all oneCell = true := by rw [hst]; simp only [List.all_cons, List.all_nil, oa, ob, one_int, one_string, Bool.and_true]
    obtain ⟨sv2, K2, b1, b2, b3, b4, b5⟩ := app_sl (u := 14) (n0 := n0) (bytes := 184) (K := K' ++ [.row (stC (d, x)) 14 true]) (bx := K'.length) (xs := stC (d, x)) (u2 := 14) (w2 := true) (SLs.app hg) (by simp; omega) (by rw [hget_last]) (stC_len _) hone (by simp only [roomMax, List.length_map]; omega)
    have b1' := b1
    rw [hst] at b1'
    have hLw : L = L0 ++ flatL d (l.take i) := by
     rw [hL]
     refine List.take_of_length_le ?_
     rw [hL, List.length_take] at hfull
     omega
    obtain ⟨L1, hL1e⟩ : ∃ L1, L1 = L ++ [(d, x)] := ⟨_, rfl⟩
    have hL1 : StG n0 K2 sv2 L1 := by
     rw [StG, hL1e, List.map_append]
     exact b2
    have hL1n : L1.length = L.length + 1 := by rw [hL1e]; simp
    have hL0n : L0.length ≤ L.length := by rw [hLw]; simp
    obtain ⟨ad2, rfl⟩ := hL1.sl
    have hk3 : ∀ c, c < n0 → hget K2 c = hget K c := fun c hc => by
     rw [b5 c (by simp; omega) (fun q => by have := (SLs.lt hg q).2; omega), hget_old (by omega)]
     exact hk2 c hc
    have hrow2 : hget K2 b = .row (l.map St.cells).flatten u0 w0 := by rw [hk3 b (by omega), hk b hb]; exact hrow
    have hk3n : n0 ≤ K2.length := by rw [b3]; simp; omega
    simp (disch := omega) only [kB, kcx, kdm, kdn, kel, aop, Za, Zb, Zc, reduceCtorEq, Zd, Ze, Zf, Zg, Zh, Zi, Zj, Zk, Zl, Zm, Zn, Zo, Zp, Zq, Zr, Zs, Zt, c0, c1, hrow', p3, p4, oa, ob, b1', hrow2, h11, hw1]
    refine ih _ (by omega) (d + 1) L1 K2 _ _ _ (by omega) (by omega) hk3n (fun c hc => by rw [hk3 c (by omega)]; exact hk c hc) hL1 sa ?_
    intro ad3 L2 K3 m1 m2 hL2 m3
    have hL2n : L1.length ≤ L2.length := by rw [hL2, List.length_take, List.length_append]; omega
    have hL2m : L2.length ≤ 129 := by rw [hL2, List.length_take]; omega
    have hk4 : ∀ c, c < n0 → hget K3 c = hget K c := fun c hc => by rw [m2 c hc]; exact hk3 c hc
    have hrow3 : hget K3 b = .row (l.map St.cells).flatten u0 w0 := by rw [hk4 b (by omega), hk b hb]; exact hrow
    simp (disch := omega) only [kB, kcx, kdm, kdn, kel, aop, Za, Zb, Zc, reduceCtorEq, Zd, Ze, Zf, Zg, Zh, Zi, Zj, Zk, Zl, Zm, Zn, Zo, Zp, Zq, Zr, Zs, Zt, c0, hrow3, h12, hw1]
    refine ih _ (by omega) (d + 1) L2 K3 _ _ _ (by omega) (by omega) m1 (fun c hc => by rw [hk4 c (by omega)]; exact hk c hc) m3 sb ?_
    intro ad4 L3 K4 p1 p2 hL3 p3
    simp (disch := omega) only [kB, kcx, kdm, kdn, kel, aop, Za, Zb, Zc, reduceCtorEq, Zd, Ze, Zf, Zg, Zh, Zi, Zj, Zk, Zl, Zm, Zn, Zo, Zp, Zq, Zr, Zs, Zt, w2]
    refine ⟨l.length - (i + 1), by omega, i + 1, ad4, L3, by omega, rfl, p1, fun c hc => by rw [p2 c hc]; exact hk4 c hc, ?_, p3, by exact ex_env rfl⟩
    rw [hL3, hL2, take_take_app, hL1e, hLw, htk]
    simp
   ·have c1 : ¬ (L.length : Int) ≤ 128 := by omega
    have hL2 : L = (L0 ++ flatL d l).take 129 := by
     rw [← List.take_append_drop i l, flatL_append, ← List.append_assoc, ← take_take_app, ← hL]
     rw [List.take_append_of_le_length (by rw [hL, List.length_take]; rw [hL, List.length_take] at hfull; omega), List.take_of_length_le (by rw [hL, List.length_take]; omega)]
    simp (disch := omega) only [kB, kcx, kdm, kdn, kel, aop, Za, Zb, Zc, reduceCtorEq, Zd, Ze, Zf, Zg, Zh, Zi, Zj, Zk, Zl, Zm, Zn, Zo, Zp, Zq, Zr, Zs, Zt, c0, c1]
    exact h _ _ _ hk1 hk2 hL2 hg
  ·have c0 : ¬ (i : Int) < (l.length : Int) := by omega
   have hil : i = l.length := by omega
   rw [hil, List.take_length] at hL
   simp (disch := omega) only [kB, kcx, kdm, kdn, kel, aop, Za, Zb, Zc, reduceCtorEq, Zd, Ze, Zf, Zg, Zh, Zi, Zj, Zk, Zl, Zm, Zn, Zo, Zp, Zq, Zr, Zs, Zt, c0]
   exact h _ _ _ hk1 hk2 hL hg
def dpI (K : Heap) (ad : Option Addr) (L : List (Nat × St)) : Nat → Env → Heap → Prop := fun z e K' =>
 ∃ i : Nat, i ≤ L.length ∧ z = L.length - i ∧ K' = K ∧ (∀ j (hj : j < L.length), j < i → L[j].1 ≤ 8) ∧ (∃ x : Nat → Value, e = [x 0, x 1, x 2, x 3, .slice ad L.length L.length, .int .i64 (i : Int), x 6, x 7, x 8, x 9, x 10, x 11, x 12, x 13, x 14, x 15, x 16, x 17, x 18, x 19, x 20, x 21, x 22, x 23, x 24])
set_option maxHeartbeats 1000000 in
theorem rstages_s {s : Sch} (hs : s.OK H) (hb : Base H K)
  (h0 : tallE s.control ≠ 0 → ∀ K', Base K K' → R (.ret (.tuple #[.slice none 0 0, .int .i64 (tallE s.control)])) K')
  (h : tallE s.control = 0 → ∀ K' ad, Base K K' → StG K.length K' (.slice ad (flatL 1 s.control).length (flatL 1 s.control).length) (flatL 1 s.control) → (flatL 1 s.control).length ≤ 128 → R (.ret (.tuple #[.slice ad (flatL 1 s.control).length (flatL 1 s.control).length, .int .i64 0])) K') : WD T 120 [.agg s.cells.toArray] K R := by
 refine WD.of follows t120 (by simp) ?_
 obtain ⟨o0, o1, o2, o3, o4, o5⟩ := hs.one
 simp only [Sch.cells]
 simp (disch := omega) only [kB, kcx, kdm, kdn, kel, aop, Za, Zb, Zc, reduceCtorEq, Zd, Ze, Zf, Zg, Zh, Zi, Zj, Zk, Zl, Zm, Zn, Zo, Zp, Zq, Zr, Zs, Zt, o0, o1, o2, o3, o4, o5]
 have hcs := hs.cs.base hb
 refine stages_s (H := K) (n0 := K.length) (Nat.le_refl _) _ s.control (Nat.le_refl _) 1 [] _ _ _ _ (by simp) (by simp) (by simp) (fun c hc => hget_old hc) (.inl ⟨rfl, rfl⟩) hcs ?_
 intro ad L K2 k1 k2 hL hg
 rw [List.nil_append] at hL
 have kH : Base K K2 := ⟨k1, fun c hc => by rw [k2 c hc, hget_old hc]⟩
 by_cases c0 : L.length ≤ 128
 ·have c1 : ¬ (128 : Int) < (L.length : Int) := by omega
  have hLL : L = flatL 1 s.control := by
   rw [hL]
   refine List.take_of_length_le ?_
   rw [hL, List.length_take] at c0
   omega
  simp (disch := omega) only [kB, kcx, kdm, kdn, kel, aop, Za, Zb, Zc, reduceCtorEq, Zd, Ze, Zf, Zg, Zh, Zi, Zj, Zk, Zl, Zm, Zn, Zo, Zp, Zq, Zr, Zs, Zt, c1]
  refine WLoop.inv (dpI K2 ad L) ?_ L.length _ _ ⟨0, Nat.zero_le _, by omega, rfl, fun j hj h0 => by omega, by exact ex_env rfl⟩
  rintro z e K' ⟨i, hi, rfl, rfl, hno, ⟨x, rfl⟩⟩
  by_cases hlt : i < L.length
  ·have c2 : (i : Int) < (L.length : Int) := by omega
   obtain ⟨k, u0, w0, rfl, _, hrow, _, _, hat⟩ := (RoSl.at (u := 14) (by have := hg.ro; exact this) stC_len hlt)
   have h13 := hat 13 (by decide)
   rw [stC, List.getElem?_append_right (by rw [St.len]; decide), St.len] at h13
   have h13' : ((L.map stC).flatten)[i * 14 + 13]? = some (.int .i64 (L[i].1 : Int)) := h13
   have w2 : IntKind.i64.wrap ((i : Int) + 1) = ((i + 1 : Nat) : Int) := wI (by omega)
   by_cases hd : 8 < L[i].1
   ·have c3 : (8 : Int) < (L[i].1 : Int) := by omega
    have e : tallE s.control = 77 := by
     rw [tallE, ← hLL, if_neg (by omega), if_pos (List.any_eq_true.2 ⟨L[i], List.getElem_mem hlt, by simpa using hd⟩)]
    rw [e] at h0
    have hh := h0 (by decide) K' kH
    simp (disch := omega) only [kB, kcx, kdm, kdn, kel, aop, Za, Zb, Zc, reduceCtorEq, Zd, Ze, Zf, Zg, Zh, Zi, Zj, Zk, Zl, Zm, Zn, Zo, Zp, Zq, Zr, Zs, Zt, c2, hrow, h13', c3]
    exact hh
   ·have c3 : ¬ (8 : Int) < (L[i].1 : Int) := by omega
    simp (disch := omega) only [kB, kcx, kdm, kdn, kel, aop, Za, Zb, Zc, reduceCtorEq, Zd, Ze, Zf, Zg, Zh, Zi, Zj, Zk, Zl, Zm, Zn, Zo, Zp, Zq, Zr, Zs, Zt, c2, hrow, h13', c3, w2]
    exact ⟨L.length - (i + 1), by omega, i + 1, by omega, rfl, rfl, fun j hj h1 => by
     by_cases q : j = i
     ·subst q; omega
     ·exact hno j hj (by omega), by exact ex_env rfl⟩
  ·have c2 : ¬ (i : Int) < (L.length : Int) := by omega
   have e : tallE s.control = 0 := by
    rw [tallE, ← hLL, if_neg (by omega), if_neg]
    intro q
    obtain ⟨y, hy, h8⟩ := List.any_eq_true.1 q
    obtain ⟨j, hj, rfl⟩ := List.getElem_of_mem hy
    have := hno j hj (by omega)
    simp at h8
    omega
   have hh := h e K' ad kH (hLL ▸ hg) (hLL ▸ c0)
   simp (disch := omega) only [kB, kcx, kdm, kdn, kel, aop, Za, Zb, Zc, reduceCtorEq, Zd, Ze, Zf, Zg, Zh, Zi, Zj, Zk, Zl, Zm, Zn, Zo, Zp, Zq, Zr, Zs, Zt, c2]
   rw [hLL]
   exact hh
 ·have c1 : (128 : Int) < (L.length : Int) := by omega
  have e : tallE s.control = 74 := by
   rw [tallE, if_pos]
   rw [hL, List.length_take] at c0
   omega
  rw [e] at h0
  have hh := h0 (by decide) K2 kH
  simp (disch := omega) only [kB, kcx, kdm, kdn, kel, aop, Za, Zb, Zc, reduceCtorEq, Zd, Ze, Zf, Zg, Zh, Zi, Zj, Zk, Zl, Zm, Zn, Zo, Zp, Zq, Zr, Zs, Zt, c1]
  exact hh
end
section
variable {R : FRes → Heap → Prop} {H K : Heap}
theorem tst_zero (t : Tst) : (t = Tst.zero) ↔ t.kind = 0 ∧ t.a = Opd.zero ∧ t.b = Opd.zero := by cases t; simp [Tst.zero]
theorem zerot_s {t : Tst} (h : R (.ret (.bool (decide (t = Tst.zero)))) K) : WD T 180 [.agg t.cells.toArray] K R := by
 refine WD.gc0 (WD.of follows t180 (by simp) ?_)
 simp only [Tst.cells]
 simp (disch := omega) only [kB, kcx, kdm, kdn, kel, aop, Za, Zb, Zc, reduceCtorEq, Zd, Ze, Zf, Zg, Zh, Zi, Zj, Zk, Zl, Zm, Zn, Zo, Zp, Zq, Zr, Zs, Zt]
 refine zopd_s (o := t.a) ?_
 simp (disch := omega) only [kB, kcx, kdm, kdn, kel, aop, Za, Zb, Zc, reduceCtorEq, Zd, Ze, Zf, Zg, Zh, Zi, Zj, Zk, Zl, Zm, Zn, Zo, Zp, Zq, Zr, Zs, Zt]
 refine zopd_s (o := t.b) ?_
 by_cases c1 : t.kind = 0
 ·have c1' : (t.kind = 0) = True := eq_true c1
  by_cases c2 : t.a = Opd.zero
  ·have e : decide (t.b = Opd.zero) = decide (t = Tst.zero) := by
    congr 1
    rw [tst_zero]
    simp [c1, c2]
   simp (disch := omega) only [kB, kcx, kdm, kdn, kel, aop, Za, Zb, Zc, reduceCtorEq, Zd, Ze, Zf, Zg, Zh, Zi, Zj, Zk, Zl, Zm, Zn, Zo, Zp, Zq, Zr, Zs, Zt, c1', decide_eq_true c2, e]
   exact ⟨_, rfl, (Base.app0 _).ext, .bool, h⟩
  ·rw [decide_eq_false (fun q => c2 ((tst_zero t).1 q).2.1)] at h
   simp (disch := omega) only [kB, kcx, kdm, kdn, kel, aop, Za, Zb, Zc, reduceCtorEq, Zd, Ze, Zf, Zg, Zh, Zi, Zj, Zk, Zl, Zm, Zn, Zo, Zp, Zq, Zr, Zs, Zt, c1', decide_eq_false c2]
   exact ⟨_, rfl, (Base.app0 _).ext, .bool, h⟩
 ·have c1' : (t.kind = 0) = False := eq_false c1
  rw [decide_eq_false (fun q => c1 ((tst_zero t).1 q).1)] at h
  simp (disch := omega) only [kB, kcx, kdm, kdn, kel, aop, Za, Zb, Zc, reduceCtorEq, Zd, Ze, Zf, Zg, Zh, Zi, Zj, Zk, Zl, Zm, Zn, Zo, Zp, Zq, Zr, Zs, Zt, c1']
  exact ⟨_, rfl, (Base.app0 _).ext, .bool, h⟩
/-- Is a test well made? -/
def madeTV (t : Tst) : Prop := if t.kind = 1 then t = ⟨t.kind, ⟨⟨t.a.ref.head, []⟩, Bt.zero⟩, Opd.zero⟩ else madeT t
instance (t : Tst) : Decidable (madeTV t) := by unfold madeTV; infer_instance
theorem tst_one (t : Tst) : (t = ⟨t.kind, ⟨⟨t.a.ref.head, []⟩, Bt.zero⟩, Opd.zero⟩) ↔ t.a.ref.name = [] ∧ t.a.const = Bt.zero ∧ t.b = Opd.zero := by
 obtain ⟨k, ⟨⟨a, b⟩, c⟩, d⟩ := t
 simp [and_assoc]
theorem rmadet_s {t : Tst} (h : R (.ret (.bool (decide (madeTV t)))) K) : WD T 181 [.agg t.cells.toArray] K R := by
 refine WD.gc0 (WD.of follows t181 (by simp) ?_)
 have fin : ∀ bb : Bool, (madeTV t ↔ bb = true) → R (.ret (.bool bb)) K := fun bb e => by
  have : decide (madeTV t) = bb := by cases bb <;> simp [e]
  rwa [this] at h
 simp only [Tst.cells]
 simp (disch := omega) only [kB, kcx, kdm, kdn, kel, aop, Za, Zb, Zc, reduceCtorEq, Zd, Ze, Zf, Zg, Zh, Zi, Zj, Zk, Zl, Zm, Zn, Zo, Zp, Zq, Zr, Zs, Zt]
 refine zbits_s (b := t.a.const) ?_
 simp (disch := omega) only [kB, kcx, kdm, kdn, kel, aop, Za, Zb, Zc, reduceCtorEq, Zd, Ze, Zf, Zg, Zh, Zi, Zj, Zk, Zl, Zm, Zn, Zo, Zp, Zq, Zr, Zs, Zt]
 refine zopd_s (o := t.b) ?_
 by_cases k1 : t.kind = 1
 ·have kk : (t.kind = 1) = True := eq_true k1
  have e : madeTV t ↔ t.a.ref.name = [] ∧ t.a.const = Bt.zero ∧ t.b = Opd.zero := by rw [madeTV, if_pos k1]; exact tst_one t
  by_cases a1 : t.a.ref.name = []
  case neg =>
   have hh := fin false (by rw [e]; simp [a1])
   simp (disch := omega) only [kB, kcx, kdm, kdn, kel, aop, Za, Zb, Zc, reduceCtorEq, Zd, Ze, Zf, Zg, Zh, Zi, Zj, Zk, Zl, Zm, Zn, Zo, Zp, Zq, Zr, Zs, Zt, kk, decide_eq_false a1]
   exact ⟨_, rfl, (Base.app0 _).ext, .bool, hh⟩
  by_cases a2 : t.a.const = Bt.zero
  case neg =>
   have hh := fin false (by rw [e]; simp [a2])
   simp (disch := omega) only [kB, kcx, kdm, kdn, kel, aop, Za, Zb, Zc, reduceCtorEq, Zd, Ze, Zf, Zg, Zh, Zi, Zj, Zk, Zl, Zm, Zn, Zo, Zp, Zq, Zr, Zs, Zt, kk, decide_eq_true a1, decide_eq_false a2]
   exact ⟨_, rfl, (Base.app0 _).ext, .bool, hh⟩
  have hh := fin (decide (t.b = Opd.zero)) (by rw [e]; simp [a1, a2])
  simp (disch := omega) only [kB, kcx, kdm, kdn, kel, aop, Za, Zb, Zc, reduceCtorEq, Zd, Ze, Zf, Zg, Zh, Zi, Zj, Zk, Zl, Zm, Zn, Zo, Zp, Zq, Zr, Zs, Zt, kk, decide_eq_true a1, decide_eq_true a2]
  exact ⟨_, rfl, (Base.app0 _).ext, .bool, hh⟩
 ·have kk : (t.kind = 1) = False := eq_false k1
  have e : madeTV t ↔ madeT t := by rw [madeTV, if_neg k1]
  unfold madeT at e
  simp (disch := omega) only [kB, kcx, kdm, kdn, kel, aop, Za, Zb, Zc, reduceCtorEq, Zd, Ze, Zf, Zg, Zh, Zi, Zj, Zk, Zl, Zm, Zn, Zo, Zp, Zq, Zr, Zs, Zt, kk]
  refine rplain_s (o := t.a) ?_
  simp (disch := omega) only [kB, kcx, kdm, kdn, kel, aop, Za, Zb, Zc, reduceCtorEq, Zd, Ze, Zf, Zg, Zh, Zi, Zj, Zk, Zl, Zm, Zn, Zo, Zp, Zq, Zr, Zs, Zt]
  refine rplain_s (o := t.b) ?_
  by_cases a1 : 2 ≤ t.kind
  case neg =>
   have hh := fin false (by rw [e]; simp; omega)
   simp (disch := omega) only [kB, kcx, kdm, kdn, kel, aop, Za, Zb, Zc, reduceCtorEq, Zd, Ze, Zf, Zg, Zh, Zi, Zj, Zk, Zl, Zm, Zn, Zo, Zp, Zq, Zr, Zs, Zt, a1]
   exact ⟨_, rfl, (Base.app0 _).ext, .bool, hh⟩
  by_cases a2 : t.kind ≤ 5
  case neg =>
   have hh := fin false (by rw [e]; simp; omega)
   simp (disch := omega) only [kB, kcx, kdm, kdn, kel, aop, Za, Zb, Zc, reduceCtorEq, Zd, Ze, Zf, Zg, Zh, Zi, Zj, Zk, Zl, Zm, Zn, Zo, Zp, Zq, Zr, Zs, Zt, a1, a2]
   exact ⟨_, rfl, (Base.app0 _).ext, .bool, hh⟩
  by_cases a3 : plainO t.a = true
  case neg =>
   rw [Bool.not_eq_true] at a3
   have hh := fin false (by rw [e, a3]; simp)
   simp (disch := omega) only [kB, kcx, kdm, kdn, kel, aop, Za, Zb, Zc, reduceCtorEq, Zd, Ze, Zf, Zg, Zh, Zi, Zj, Zk, Zl, Zm, Zn, Zo, Zp, Zq, Zr, Zs, Zt, a1, a2, a3]
   exact ⟨_, rfl, (Base.app0 _).ext, .bool, hh⟩
  have hh := fin (plainO t.b) (by rw [e, a3]; simp [a1, a2])
  simp (disch := omega) only [kB, kcx, kdm, kdn, kel, aop, Za, Zb, Zc, reduceCtorEq, Zd, Ze, Zf, Zg, Zh, Zi, Zj, Zk, Zl, Zm, Zn, Zo, Zp, Zq, Zr, Zs, Zt, a1, a2, a3]
  exact ⟨_, rfl, (Base.app0 _).ext, .bool, hh⟩
/-- Is a stage well made? -/
def madeX (x : St) : Prop := (x.kind = 1 ∧ x.test = Tst.zero) ∨ (x.kind = 2 ∧ x.table = [] ∧ madeTV x.test) ∨ (x.kind = 3 ∧ x.table = [] ∧ x.test = Tst.zero ∧ x.thn.length = 0 ∧ x.els.length = 0)
instance (x : St) : Decidable (madeX x) := by unfold madeX; infer_instance
set_option maxHeartbeats 1000000 in
theorem rmadex_s {x : St} (hx : StOK H x) (h : R (.ret (.bool (decide (madeX x)))) K) : WD T 140 [.agg x.cells.toArray] K R := by
 refine WD.gc0 (WD.of follows t140 (by simp) ?_)
 have fin : ∀ bb : Bool, (madeX x ↔ bb = true) → R (.ret (.bool bb)) K := fun bb e => by
  have : decide (madeX x) = bb := by cases bb <;> simp [e]
  rwa [this] at h
 have hcells := St.cells_eq x
 have sa := hx.sa
 have sb := hx.sb
 obtain ⟨aa, ha⟩ := sa.sl
 obtain ⟨ab, hb'⟩ := sb.sl
 simp only [Tst.cells, List.cons_append, List.nil_append] at hcells
 rw [hcells]
 simp (disch := omega) only [kB, kcx, kdm, kdn, kel, aop, Za, Zb, Zc, reduceCtorEq, Zd, Ze, Zf, Zg, Zh, Zi, Zj, Zk, Zl, Zm, Zn, Zo, Zp, Zq, Zr, Zs, Zt]
 refine zerot_s (t := x.test) ?_
 simp (disch := omega) only [kB, kcx, kdm, kdn, kel, aop, Za, Zb, Zc, reduceCtorEq, Zd, Ze, Zf, Zg, Zh, Zi, Zj, Zk, Zl, Zm, Zn, Zo, Zp, Zq, Zr, Zs, Zt]
 refine rmadet_s (t := x.test) ?_
 by_cases k1 : x.kind = 1
 ·have kk : (x.kind = 1) = True := eq_true k1
  have hh := fin (decide (x.test = Tst.zero)) (by unfold madeX; simp [k1])
  simp (disch := omega) only [kB, kcx, kdm, kdn, kel, aop, Za, Zb, Zc, reduceCtorEq, Zd, Ze, Zf, Zg, Zh, Zi, Zj, Zk, Zl, Zm, Zn, Zo, Zp, Zq, Zr, Zs, Zt, kk]
  exact ⟨_, rfl, (Base.app0 _).ext, .bool, hh⟩
 have kk : (x.kind = 1) = False := eq_false k1
 by_cases k2 : x.kind = 2
 ·have kk2 : (x.kind = 2) = True := eq_true k2
  by_cases a1 : x.table = []
  ·have hh := fin (decide (madeTV x.test)) (by unfold madeX; simp [k2, a1])
   simp (disch := omega) only [kB, kcx, kdm, kdn, kel, aop, Za, Zb, Zc, reduceCtorEq, Zd, Ze, Zf, Zg, Zh, Zi, Zj, Zk, Zl, Zm, Zn, Zo, Zp, Zq, Zr, Zs, Zt, kk, kk2, decide_eq_true a1]
   exact ⟨_, rfl, (Base.app0 _).ext, .bool, hh⟩
  ·have hh := fin false (by unfold madeX; simp [k2, a1])
   simp (disch := omega) only [kB, kcx, kdm, kdn, kel, aop, Za, Zb, Zc, reduceCtorEq, Zd, Ze, Zf, Zg, Zh, Zi, Zj, Zk, Zl, Zm, Zn, Zo, Zp, Zq, Zr, Zs, Zt, kk, kk2, decide_eq_false a1]
   exact ⟨_, rfl, (Base.app0 _).ext, .bool, hh⟩
 have kk2 : (x.kind = 2) = False := eq_false k2
 by_cases k3 : x.kind = 3
 ·have kk3 : (x.kind = 3) = True := eq_true k3
  by_cases a1 : x.table = []
  case neg =>
   have hh := fin false (by unfold madeX; simp [k3, a1])
   simp (disch := omega) only [kB, kcx, kdm, kdn, kel, aop, Za, Zb, Zc, reduceCtorEq, Zd, Ze, Zf, Zg, Zh, Zi, Zj, Zk, Zl, Zm, Zn, Zo, Zp, Zq, Zr, Zs, Zt, kk, kk2, kk3, decide_eq_false a1]
   exact ⟨_, rfl, (Base.app0 _).ext, .bool, hh⟩
  by_cases a2 : x.test = Tst.zero
  case neg =>
   have hh := fin false (by unfold madeX; simp [k3, a2])
   simp (disch := omega) only [kB, kcx, kdm, kdn, kel, aop, Za, Zb, Zc, reduceCtorEq, Zd, Ze, Zf, Zg, Zh, Zi, Zj, Zk, Zl, Zm, Zn, Zo, Zp, Zq, Zr, Zs, Zt, kk, kk2, kk3, decide_eq_true a1, decide_eq_false a2]
   exact ⟨_, rfl, (Base.app0 _).ext, .bool, hh⟩
  by_cases a3 : x.thn.length = 0
  case neg =>
   have a3' : ((x.thn.length : Int) = 0) = False := eq_false (by omega)
   have hh := fin false (by unfold madeX; simp [k3]; intro _ _ q; exact absurd (by rw [q]; rfl) a3)
   simp (disch := omega) only [kB, kcx, kdm, kdn, kel, aop, Za, Zb, Zc, reduceCtorEq, Zd, Ze, Zf, Zg, Zh, Zi, Zj, Zk, Zl, Zm, Zn, Zo, Zp, Zq, Zr, Zs, Zt, kk, kk2, kk3, decide_eq_true a1, decide_eq_true a2, ha, a3']
   exact ⟨_, rfl, (Base.app0 _).ext, .bool, hh⟩
  have a3' : ((x.thn.length : Int) = 0) = True := eq_true (by omega)
  by_cases a4 : x.els.length = 0
  ·have a4' : ((x.els.length : Int) = 0) = True := eq_true (by omega)
   have hh := fin true ⟨fun _ => rfl, fun _ => .inr (.inr ⟨k3, a1, a2, a3, a4⟩)⟩
   simp (disch := omega) only [kB, kcx, kdm, kdn, kel, aop, Za, Zb, Zc, reduceCtorEq, Zd, Ze, Zf, Zg, Zh, Zi, Zj, Zk, Zl, Zm, Zn, Zo, Zp, Zq, Zr, Zs, Zt, kk, kk2, kk3, decide_eq_true a1, decide_eq_true a2, ha, hb', a3', a4']
   exact ⟨_, rfl, (Base.app0 _).ext, .bool, hh⟩
  ·have a4' : ((x.els.length : Int) = 0) = False := eq_false (by omega)
   have hh := fin false (by unfold madeX; simp [k3]; intro _ _ _ q; exact absurd (by rw [q]; rfl) a4)
   simp (disch := omega) only [kB, kcx, kdm, kdn, kel, aop, Za, Zb, Zc, reduceCtorEq, Zd, Ze, Zf, Zg, Zh, Zi, Zj, Zk, Zl, Zm, Zn, Zo, Zp, Zq, Zr, Zs, Zt, kk, kk2, kk3, decide_eq_true a1, decide_eq_true a2, ha, hb', a3', a4']
   exact ⟨_, rfl, (Base.app0 _).ext, .bool, hh⟩
 ·have kk3 : (x.kind = 3) = False := eq_false k3
  have hh := fin false (by unfold madeX; simp [k1, k2, k3])
  simp (disch := omega) only [kB, kcx, kdm, kdn, kel, aop, Za, Zb, Zc, reduceCtorEq, Zd, Ze, Zf, Zg, Zh, Zi, Zj, Zk, Zl, Zm, Zn, Zo, Zp, Zq, Zr, Zs, Zt, kk, kk2, kk3]
  exact ⟨_, rfl, (Base.app0 _).ext, .bool, hh⟩
/-- What is wrong with a test that is well made. -/
def testR (s : Sch) (t : Tst) : Option Int :=
 if t.kind = 1 then (if t.a.ref.head ∈ s.headers.map Hdr.name then none else some 72)
 else if opdOK s [] t.a = true then
   if opdOK s [] t.b = true then
    if (fldOf s t.a.ref).isSome = true then (if opdFit s [] t.b (rwV (fldOf s t.a.ref)) = true then none else some 73)
    else if (fldOf s t.b.ref).isSome = true then (if opdFit s [] t.a (rwV (fldOf s t.b.ref)) = true then none else some 73)
    else some 73
   else some 72
  else some 72
theorem testE_eq (s : Sch) (t : Tst) : testE s t = if madeTV t then testR s t else some 75 := by
 unfold testE madeTV testR
 by_cases k : t.kind = 1
 ·simp only [if_pos k]
 ·simp only [if_neg k]
theorem testR_ne {s : Sch} {t : Tst} {e : Int} (h : testR s t = some e) : e ≠ 0 := by
 unfold testR at h
 repeat' split at h
 all_goals (cases h; try decide)
theorem opw_i64 {s : Sch} (hs : s.OK H) (o : Opd) : I64 (opwV s [] o) := by
 unfold opwV
 split
 ·exact ⟨by decide, by decide⟩
 ·unfold opdF
  split
  ·have e : named Fld.name [] o.ref.name = none := rfl
   rw [e]
   exact ⟨by decide, by decide⟩
  ·exact rwV_i64 hs _
/-- An operand of a test: a constant, or a field. -/
theorem opd_nil {s : Sch} (hF : FW s) {o : Opd} (ho : opdOK s [] o = true) : (o.ref = Rf.zero ∧ fldOf s o.ref = none ∧ opwV s [] o = 0) ∨ (o.ref ≠ Rf.zero ∧ (fldOf s o.ref).isSome = true ∧ opwV s [] o = rwV (fldOf s o.ref) ∧ opwV s [] o ≠ 0) := by
 by_cases c : o.ref = Rf.zero
 ·exact .inl ⟨c, by rw [fldOf, if_pos (by rw [c]; rfl)], by rw [opwV, if_pos c]⟩
 ·rw [opdOK, decide_eq_false c, Bool.false_or] at ho
  unfold opdF at ho
  split at ho
  ·cases ho
  ·rename_i hn
   obtain ⟨f, hf⟩ := Option.isSome_iff_exists.1 ho
   have e : opwV s [] o = rwV (fldOf s o.ref) := by rw [opwV, if_neg c, opdF, if_neg hn]
   have := hF _ f hf
   refine .inr ⟨c, ho, e, ?_⟩
   rw [e, hf]
   simp only [rwV]
   omega
set_option maxHeartbeats 2000000 in
theorem rtest_s {s : Sch} {t : Tst} (hs : s.OK H) (ht : t.OK) (hF : FW s) (hb : Base H K) (h : R (.ret (.int .i64 (eI (testR s t)))) K) : WD T 141 [.agg s.cells.toArray, .agg t.cells.toArray] K R := by
 refine WD.gc0 (WD.of follows t141 (by simp) ?_)
 obtain ⟨o0, o1, o2, o3, o4, o5⟩ := hs.one
 have hnil : FldL H (.slice none 0 0) [] := ⟨.inl ⟨rfl, .inl rfl⟩, by simp [few], by simp⟩
 have hP : PW [] := fun f hf => by cases hf
 simp only [Sch.cells, Tst.cells]
 unfold testR at h
 by_cases k1 : t.kind = 1
 ·have kk : (t.kind = 1) = True := eq_true k1
  rw [if_pos k1] at h
  simp (disch := omega) only [kB, kcx, kdm, kdn, kel, aop, Za, Zb, Zc, reduceCtorEq, Zd, Ze, Zf, Zg, Zh, Zi, Zj, Zk, Zl, Zm, Zn, Zo, Zp, Zq, Zr, Zs, Zt, kk, o0, o1, o2, o3, o4, o5]
  refine rheaderAt_s hs (hb.app _) ?_
  by_cases g1 : t.a.ref.head ∈ s.headers.map Hdr.name
  ·have g1' : ¬ (ixT t.a.ref.head (s.headers.map Hdr.name) 0 < 0) := Int.not_lt.2 ((ixT_mem _ _).2 g1)
   rw [if_pos g1] at h
   simp (disch := omega) only [kB, kcx, kdm, kdn, kel, aop, Za, Zb, Zc, reduceCtorEq, Zd, Ze, Zf, Zg, Zh, Zi, Zj, Zk, Zl, Zm, Zn, Zo, Zp, Zq, Zr, Zs, Zt, g1']
   exact ⟨_, rfl, (Base.app0 _).ext, .int, h⟩
  ·have g1' : ixT t.a.ref.head (s.headers.map Hdr.name) 0 < 0 := Int.not_le.1 fun q => g1 ((ixT_mem _ _).1 q)
   rw [if_neg g1] at h
   simp (disch := omega) only [kB, kcx, kdm, kdn, kel, aop, Za, Zb, Zc, reduceCtorEq, Zd, Ze, Zf, Zg, Zh, Zi, Zj, Zk, Zl, Zm, Zn, Zo, Zp, Zq, Zr, Zs, Zt, g1']
   exact ⟨_, rfl, (Base.app0 _).ext, .int, h⟩
 have kk : (t.kind = 1) = False := eq_false k1
 rw [if_neg k1] at h
 simp (disch := omega) only [kB, kcx, kdm, kdn, kel, aop, Za, Zb, Zc, reduceCtorEq, Zd, Ze, Zf, Zg, Zh, Zi, Zj, Zk, Zl, Zm, Zn, Zo, Zp, Zq, Zr, Zs, Zt, kk, o0, o1, o2, o3, o4, o5]
 refine opw_s (o := t.a) hs hnil (hb.app _) ?_
 by_cases g2 : opdOK s [] t.a = true
 case neg =>
  rw [if_neg g2] at h
  rw [Bool.not_eq_true] at g2
  simp (disch := omega) only [kB, kcx, kdm, kdn, kel, aop, Za, Zb, Zc, reduceCtorEq, Zd, Ze, Zf, Zg, Zh, Zi, Zj, Zk, Zl, Zm, Zn, Zo, Zp, Zq, Zr, Zs, Zt, g2]
  exact ⟨_, rfl, (Base.app0 _).ext, .int, h⟩
 rw [if_pos g2] at h
 simp (disch := omega) only [kB, kcx, kdm, kdn, kel, aop, Za, Zb, Zc, reduceCtorEq, Zd, Ze, Zf, Zg, Zh, Zi, Zj, Zk, Zl, Zm, Zn, Zo, Zp, Zq, Zr, Zs, Zt, g2, o0, o1, o2, o3, o4, o5]
 refine opw_s (o := t.b) hs hnil (hb.app _) ?_
 by_cases g3 : opdOK s [] t.b = true
 case neg =>
  rw [if_neg g3] at h
  rw [Bool.not_eq_true] at g3
  simp (disch := omega) only [kB, kcx, kdm, kdn, kel, aop, Za, Zb, Zc, reduceCtorEq, Zd, Ze, Zf, Zg, Zh, Zi, Zj, Zk, Zl, Zm, Zn, Zo, Zp, Zq, Zr, Zs, Zt, g3]
  exact ⟨_, rfl, (Base.app0 _).ext, .int, h⟩
 rw [if_pos g3] at h
 have wa := opw_i64 hs t.a
 have wb := opw_i64 hs t.b
 simp (disch := omega) only [kB, kcx, kdm, kdn, kel, aop, Za, Zb, Zc, reduceCtorEq, Zd, Ze, Zf, Zg, Zh, Zi, Zj, Zk, Zl, Zm, Zn, Zo, Zp, Zq, Zr, Zs, Zt, g3]
 refine agrees_s (o := t.a) ht.2.1 wb ?_
 simp (disch := omega) only [kB, kcx, kdm, kdn, kel, aop, Za, Zb, Zc, reduceCtorEq, Zd, Ze, Zf, Zg, Zh, Zi, Zj, Zk, Zl, Zm, Zn, Zo, Zp, Zq, Zr, Zs, Zt]
 refine agrees_s (o := t.b) ht.2.2 wa ?_
 rw [agree_fit hF hP g2, agree_fit hF hP g3]
 rcases opd_nil hF g2 with ⟨a1, a2, a3⟩ | ⟨a1, a2, a3, a4⟩
 ·rw [a2] at h
  rw [if_neg (by simp)] at h
  have a3' : (opwV s [] t.a = 0) = True := eq_true a3
  rcases opd_nil hF g3 with ⟨b1, b2, b3⟩ | ⟨b1, b2, b3, b4⟩
  ·have b3' : (opwV s [] t.b = 0) = True := eq_true b3
   rw [b2, if_neg (by simp)] at h
   simp (disch := omega) only [kB, kcx, kdm, kdn, kel, aop, Za, Zb, Zc, reduceCtorEq, Zd, Ze, Zf, Zg, Zh, Zi, Zj, Zk, Zl, Zm, Zn, Zo, Zp, Zq, Zr, Zs, Zt, a3', b3']
   exact ⟨_, rfl, (Base.app0 _).ext, .int, h⟩
  ·have b4' : (opwV s [] t.b = 0) = False := eq_false b4
   rw [if_pos b2] at h
   rw [← b3] at h
   by_cases g4 : opdFit s [] t.a (opwV s [] t.b) = true
   ·rw [if_pos g4] at h
    simp (disch := omega) only [kB, kcx, kdm, kdn, kel, aop, Za, Zb, Zc, reduceCtorEq, Zd, Ze, Zf, Zg, Zh, Zi, Zj, Zk, Zl, Zm, Zn, Zo, Zp, Zq, Zr, Zs, Zt, a3', b4', g4]
    exact ⟨_, rfl, (Base.app0 _).ext, .int, h⟩
   ·rw [if_neg g4] at h
    rw [Bool.not_eq_true] at g4
    simp (disch := omega) only [kB, kcx, kdm, kdn, kel, aop, Za, Zb, Zc, reduceCtorEq, Zd, Ze, Zf, Zg, Zh, Zi, Zj, Zk, Zl, Zm, Zn, Zo, Zp, Zq, Zr, Zs, Zt, a3', b4', g4]
    exact ⟨_, rfl, (Base.app0 _).ext, .int, h⟩
 ·have a4' : (opwV s [] t.a = 0) = False := eq_false a4
  rw [if_pos a2, ← a3] at h
  by_cases g4 : opdFit s [] t.b (opwV s [] t.a) = true
  ·rw [if_pos g4] at h
   simp (disch := omega) only [kB, kcx, kdm, kdn, kel, aop, Za, Zb, Zc, reduceCtorEq, Zd, Ze, Zf, Zg, Zh, Zi, Zj, Zk, Zl, Zm, Zn, Zo, Zp, Zq, Zr, Zs, Zt, a4', g4]
   exact ⟨_, rfl, (Base.app0 _).ext, .int, h⟩
  ·rw [if_neg g4] at h
   rw [Bool.not_eq_true] at g4
   simp (disch := omega) only [kB, kcx, kdm, kdn, kel, aop, Za, Zb, Zc, reduceCtorEq, Zd, Ze, Zf, Zg, Zh, Zi, Zj, Zk, Zl, Zm, Zn, Zo, Zp, Zq, Zr, Zs, Zt, a4', g4]
   exact ⟨_, rfl, (Base.app0 _).ext, .int, h⟩
/-- The tables that stages ask. -/
def askedL (l : List (Nat × St)) : List (List UInt8) := (l.filter fun x => decide (x.2.kind = 1)).map fun x => x.2.table
theorem askedL_take {l : List (Nat × St)} {i : Nat} (h : i < l.length) : askedL (l.take (i + 1)) = if l[i].2.kind = 1 then askedL (l.take i) ++ [l[i].2.table] else askedL (l.take i) := by
 rw [List.take_add_one, List.getElem?_eq_getElem h]
 simp only [Option.toList, askedL, List.filter_append, List.map_append]
 by_cases c : l[i].2.kind = 1
 ·rw [if_pos c, List.filter_cons_of_pos (by simpa using c)]; rfl
 ·rw [if_neg c, List.filter_cons_of_neg (by simpa using c)]; simp
theorem askedL_mem {l : List (Nat × St)} {i : Nat} {t : List UInt8} : t ∈ askedL (l.take i) ↔ ∃ k, ∃ h : k < l.length, k < i ∧ l[k].2.kind = 1 ∧ l[k].2.table = t := by
 simp only [askedL, List.mem_map, List.mem_filter, decide_eq_true_eq]
 constructor
 ·rintro ⟨x, ⟨hx, hk⟩, rfl⟩
  obtain ⟨k, hk2, rfl⟩ := List.mem_take_iff_getElem.1 hx
  exact ⟨k, by omega, by omega, hk, rfl⟩
 ·rintro ⟨k, h, hki, hk, rfl⟩
  exact ⟨l[k], ⟨List.mem_take_iff_getElem.2 ⟨k, by omega, rfl⟩, hk⟩, rfl⟩
theorem stage_not {s : Sch} {a : List (List UInt8)} {x : St} (h : ¬ madeX x) : stageE s a x = .error 75 := by
 unfold stageE
 unfold madeX at h
 by_cases k1 : x.kind = 1
 ·rw [if_pos k1, if_neg (fun q => h (.inl ⟨k1, q⟩))]
 ·rw [if_neg k1]
  by_cases k3 : x.kind = 3
  ·rw [if_pos k3, if_neg (fun q => h (.inr (.inr ⟨k3, q.2.1, q.1, by omega, by omega⟩)))]
  ·rw [if_neg k3]
   by_cases k2 : x.kind = 2
   ·rw [if_pos k2]
    by_cases a2 : x.table = []
    ·rw [if_pos a2, testE_eq, if_neg (fun q => h (.inr (.inl ⟨k2, a2, q⟩)))]
    ·rw [if_neg a2]
   ·rw [if_neg k2]
theorem stOKs_flat : ∀ (N : Nat) (l : List St), SizeOf.sizeOf l ≤ N → ∀ {v : Value} {d : Nat}, StSl H l v → ∀ y ∈ flatL d l, StOK H y.2 := by
 intro N
 induction N with
 | zero => intro l h; cases l <;> simp at h
 | succ N ih =>
  intro l hN v d hv
  have key : ∀ m : List St, (∀ x ∈ m, x ∈ l) → StOKs H m → ∀ y ∈ flatL d m, StOK H y.2 := by
   intro m
   induction m with
   | nil => intro _ _ y hy; rw [flatL_nil] at hy; cases hy
   | cons x m ihm =>
    intro hm ho y hy
    simp only [StOKs] at ho
    rw [flatL_cons, flat1_eq] at hy
    obtain ⟨z1, z2⟩ := St.size (hm x (by simp))
    simp only [List.mem_append, List.mem_cons] at hy
    rcases hy with (rfl | hy | hy) | hy
    ·exact ho.1
    ·exact ih _ (by omega) ho.1.sa y hy
    ·exact ih _ (by omega) ho.1.sb y hy
    ·exact ihm (fun q hq => hm q (by simp [hq])) ho.2 y hy
  refine key l (fun x hx => hx) ?_
  cases l with
  | nil => trivial
  | cons x l => simp only [StSl] at hv; simp only [StOKs]; exact hv.2.2
theorem stC_0 {y : Nat × St} : (stC y)[0]? = some (.int .i64 y.2.kind) := by rw [stC, St.cells_eq]; rfl
theorem stC_1 {y : Nat × St} : (stC y)[1]? = some (.string (bs y.2.table)) := by rw [stC, St.cells_eq]; rfl
def rcI (K : Heap) (bx : Nat) (s : Sch) (ad : Option Addr) (L : List (Nat × St)) : Nat → Env → Heap → Prop := fun z e K' =>
 ∃ i : Nat, i ≤ L.length ∧ z = L.length - i ∧ K' = K ∧ stagesE s [] L = stagesE s (askedL (L.take i)) (L.drop i) ∧ (∃ x : Nat → Value, e = [x 0, .pointer (some ⟨bx, 0, none⟩), x 2, .slice ad L.length L.length, x 4, .int .i64 (i : Int), x 6, x 7, x 8, x 9, x 10, x 11, x 12, x 13, x 14, x 15, x 16, x 17, x 18, x 19, x 20, x 21, x 22, x 23, x 24, x 25, x 26, x 27, x 28, x 29, x 30, x 31, x 32, x 33, x 34, x 35, x 36, x 37, x 38, x 39, x 40, x 41, x 42, x 43, x 44, x 45, x 46, x 47, x 48, x 49, x 50, x 51, x 52, x 53, x 54, x 55, x 56, x 57, x 58, x 59, x 60, x 61, x 62, x 63, x 64, x 65, x 66, x 67, x 68, x 69, x 70, x 71, x 72, x 73, x 74, x 75, x 76, x 77, x 78, x 79, x 80, x 81, x 82, x 83, x 84, x 85, x 86])
def rcJ (K : Heap) (bx : Nat) (ad : Option Addr) (L : List (Nat × St)) (i : Nat) (t : List UInt8) : Nat → Env → Heap → Prop := fun z e K' =>
 ∃ k : Nat, k ≤ i ∧ z = i - k ∧ K' = K ∧ (∀ j (h : j < L.length), j < k → ¬ (L[j].2.kind = 1 ∧ L[j].2.table = t)) ∧ (∃ x : Nat → Value, e = [x 0, .pointer (some ⟨bx, 0, none⟩), x 2, .slice ad L.length L.length, x 4, .int .i64 (i : Int), x 6, .int .i64 (k : Int), x 8, x 9, x 10, x 11, x 12, x 13, x 14, x 15, x 16, x 17, x 18, x 19, x 20, x 21, x 22, x 23, x 24, x 25, x 26, x 27, x 28, x 29, x 30, x 31, x 32, x 33, x 34, x 35, x 36, x 37, x 38, x 39, x 40, x 41, x 42, x 43, x 44, x 45, x 46, x 47, x 48, x 49, x 50, x 51, x 52, x 53, x 54, x 55, x 56, x 57, x 58, x 59, x 60, x 61, x 62, x 63, x 64, x 65, x 66, x 67, x 68, x 69, x 70, x 71, x 72, x 73, x 74, x 75, x 76, x 77, x 78, x 79, x 80, x 81, x 82, x 83, x 84, x 85, x 86])
set_option maxHeartbeats 4000000 in
theorem rcontrol_s {s : Sch} (hs : s.OK H) (hF : FW s) (hb : Base H K) (h : R (.ret (.int .i64 (eI ((ctlE s).map Prod.fst)))) K) : WD T 67 [.agg s.cells.toArray] K R := by
 refine WD.gc0 (WD.of follows t67 (by simp) ?_)
 obtain ⟨o0, o1, o2, o3, o4, o5⟩ := hs.one
 simp only [Sch.cells]
 unfold ctlE at h
 simp (disch := omega) only [kB, kcx, kdm, kdn, kel, aop, Za, Zb, Zc, reduceCtorEq, Zd, Ze, Zf, Zg, Zh, Zi, Zj, Zk, Zl, Zm, Zn, Zo, Zp, Zq, Zr, Zs, Zt, o0, o1, o2, o3, o4, o5]
 refine rstages_s hs (hb.app _) ?_ ?_
 ·intro c0 K2 b2
  have c1 : (tallE s.control = 0) = False := eq_false c0
  rw [if_neg c0] at h
  simp (disch := omega) only [kB, kcx, kdm, kdn, kel, aop, Za, Zb, Zc, reduceCtorEq, Zd, Ze, Zf, Zg, Zh, Zi, Zj, Zk, Zl, Zm, Zn, Zo, Zp, Zq, Zr, Zs, Zt, c1]
  exact ⟨_, rfl, ((Base.app0 _).trans b2).ext, .int, h⟩
 ·intro c0 K2 ad b2 hg hW
  rw [if_pos c0] at h
  have hok := stOKs_flat _ s.control (Nat.le_refl _) (d := 1) hs.cs
  have hs2 : hget K2 K.length = .row [s.hv, s.mv, s.sv, s.av, s.tv, s.cv] 0 true := b2.rowc (by rw [hget_base0]; rfl)
  have bKK := (Base.app0 _).trans b2
  have hbK := (hb.app _).trans b2
  have ls2 := hget_lt hs2 rfl
  have nat1 : ∀ i : Nat, i < 256 → IntKind.i64.wrap ((i : Int) + 1) = ((i + 1 : Nat) : Int) := fun i hi => by rw [show (i : Int) + 1 = ((i + 1 : Nat) : Int) by omega]; exact wr_i64 (by omega) (by omega)
  generalize flatL 1 s.control = L at *
  have hgr := hg.ro
  have hE : ∀ e, stagesE s [] L = some e → R (.ret (.int .i64 e)) K := fun e q => by rw [q] at h; exact h
  simp (disch := omega) only [kB, kcx, kdm, kdn, kel, aop, Za, Zb, Zc, reduceCtorEq, Zd, Ze, Zf, Zg, Zh, Zi, Zj, Zk, Zl, Zm, Zn, Zo, Zp, Zq, Zr, Zs, Zt]
  refine WLoop.inv (rcI K2 K.length s ad L) ?_ L.length _ _ ⟨0, Nat.zero_le _, by omega, rfl, rfl, by exact ex_env rfl⟩
  rintro z e K' ⟨i, hi, rfl, rfl, hx, ⟨x, rfl⟩⟩
  by_cases hlt : i < L.length
  ·have c2 : (i : Int) < (L.length : Int) := by omega
   obtain ⟨k, u0, w0, rfl, _, hrow, p3, p4, hat⟩ := (RoSl.at (u := 14) hgr stC_len hlt)
   have r0 := hat 0 (by decide)
   have r1 := hat 1 (by decide)
   rw [stC_0] at r0
   rw [stC_1] at r1
   rw [Nat.add_zero] at r0
   have hxo := hok _ (List.getElem_mem hlt)
   have w2 := nat1 i (by omega)
   have hask := askedL_take hlt
   rw [List.drop_eq_getElem_cons hlt, stagesE] at hx
   clear hat
   generalize hxx : L[i] = xt at *
   have hcells := St.cells_eq xt.2
   simp only [Tst.cells, List.cons_append, List.nil_append] at hcells
   have cut13 : (((L.map stC).flatten).drop (i * 14)).take 13 = xt.2.cells := by
    have := congrArg (fun q : List Value => q.take 13) p3
    simp only [List.take_take, stC] at this
    rw [show min 13 14 = 13 from rfl] at this
    rw [this, List.take_append_of_le_length (by rw [St.len]; decide), List.take_of_length_le (by rw [St.len]; decide)]
   have cut9 : (((L.map stC).flatten).drop (i * 14 + 2)).take 9 = xt.2.test.cells := by
    have := congrArg (fun q : List Value => (q.drop 2).take 9) p3
    simp only [stC, hcells] at this
    rw [List.drop_take, List.drop_drop, List.take_take] at this
    exact this
   have le13 : i * 14 + 13 ≤ ((L.map stC).flatten).length := by omega
   have le9 : i * 14 + 2 + 9 ≤ ((L.map stC).flatten).length := by omega
   have ht : xt.2.test.OK := by
    have := hxo
    cases hq : xt.2
    rw [hq] at this
    simp only [StOK] at this
    exact this.1.2
   simp (disch := omega) only [kB, kcx, kdm, kdn, kel, aop, Za, Zb, Zc, reduceCtorEq, Zd, Ze, Zf, Zg, Zh, Zi, Zj, Zk, Zl, Zm, Zn, Zo, Zp, Zq, Zr, Zs, Zt, c2, hrow, cut13, le13]
   refine rmadex_s hxo ?_
   by_cases g0 : madeX xt.2
   case neg =>
    rw [stage_not g0] at hx
    simp (disch := omega) only [kB, kcx, kdm, kdn, kel, aop, Za, Zb, Zc, reduceCtorEq, Zd, Ze, Zf, Zg, Zh, Zi, Zj, Zk, Zl, Zm, Zn, Zo, Zp, Zq, Zr, Zs, Zt, decide_eq_false g0]
    exact ⟨_, rfl, bKK.ext, .int, hE _ hx⟩
   have g0' := g0
   rcases g0 with ⟨k1, t1⟩ | ⟨k2, t2, m2⟩ | ⟨k3, t3, m3, n3, n3'⟩
   ·have kk : (xt.2.kind = 1) = True := eq_true k1
    rw [stageE, if_pos k1, if_pos t1] at hx
    rw [if_pos k1] at hask
    simp (disch := omega) only [kB, kcx, kdm, kdn, kel, aop, Za, Zb, Zc, reduceCtorEq, Zd, Ze, Zf, Zg, Zh, Zi, Zj, Zk, Zl, Zm, Zn, Zo, Zp, Zq, Zr, Zs, Zt, decide_eq_true g0', c2, hrow, r0, r1, kk, hs2, o0, o1, o2, o3, o4, o5]
    refine rtableAt_s hs hbK ?_
    by_cases g1 : xt.2.table ∈ s.tables.map Tbl.name
    case neg =>
     have g1' : ixT xt.2.table (s.tables.map Tbl.name) 0 < 0 := Int.not_le.1 fun q => g1 ((ixT_mem _ _).1 q)
     rw [if_neg g1] at hx
     simp (disch := omega) only [kB, kcx, kdm, kdn, kel, aop, Za, Zb, Zc, reduceCtorEq, Zd, Ze, Zf, Zg, Zh, Zi, Zj, Zk, Zl, Zm, Zn, Zo, Zp, Zq, Zr, Zs, Zt, g1']
     exact ⟨_, rfl, bKK.ext, .int, hE _ hx⟩
    have g1' : ¬ (ixT xt.2.table (s.tables.map Tbl.name) 0 < 0) := Int.not_lt.2 ((ixT_mem _ _).2 g1)
    rw [if_pos g1] at hx
    simp (disch := omega) only [kB, kcx, kdm, kdn, kel, aop, Za, Zb, Zc, reduceCtorEq, Zd, Ze, Zf, Zg, Zh, Zi, Zj, Zk, Zl, Zm, Zn, Zo, Zp, Zq, Zr, Zs, Zt, g1']
    refine WLoop.inv (rcJ K' K.length (some ⟨k, 0, none⟩) L i xt.2.table) ?_ i _ _ ⟨0, Nat.zero_le _, by omega, rfl, fun j _ q => by omega, by exact ex_env rfl⟩
    rintro z e K3 ⟨m, hm, rfl, rfl, hno, ⟨x, rfl⟩⟩
    by_cases hmi : m < i
    ·have c3 : (m : Int) < (i : Int) := by omega
     have hml : m < L.length := by omega
     have c4 : (m : Int) < (L.length : Int) := by omega
     obtain ⟨k', u1, w1, e1, _, hrow1, q3, q4, hat1⟩ := (RoSl.at (u := 14) hgr stC_len hml)
     have s0 := hat1 0 (by decide)
     have s1 := hat1 1 (by decide)
     rw [stC_0] at s0
     rw [stC_1] at s1
     rw [Nat.add_zero] at s0
     have w3 := nat1 m (by omega)
     have step : ¬ (L[m].2.kind = 1 ∧ L[m].2.table = xt.2.table) → ∀ j (h : j < L.length), j < m + 1 → ¬ (L[j].2.kind = 1 ∧ L[j].2.table = xt.2.table) := fun q j hj h1 => by
      by_cases hjm : j = m
      ·subst hjm; exact q
      ·exact hno j hj (by omega)
     have hin : L[m].2.kind = 1 ∧ L[m].2.table = xt.2.table → xt.2.table ∈ askedL (L.take i) := fun q => askedL_mem.2 ⟨m, hml, hmi, q.1, q.2⟩
     clear hat1 q3
     generalize L[m] = y at *
     by_cases g2 : y.2.kind = 1
     ·have g2' : (y.2.kind = 1) = True := eq_true g2
      by_cases g3 : y.2.table = xt.2.table
      ·rw [if_pos (hin ⟨g2, g3⟩)] at hx
       simp (disch := omega) only [kB, kcx, kdm, kdn, kel, aop, Za, Zb, Zc, reduceCtorEq, Zd, Ze, Zf, Zg, Zh, Zi, Zj, Zk, Zl, Zm, Zn, Zo, Zp, Zq, Zr, Zs, Zt, c3, c4, c2, hrow, s0, s1, r1, g2', decide_eq_true g3]
       exact ⟨_, rfl, bKK.ext, .int, hE _ hx⟩
      ·simp (disch := omega) only [kB, kcx, kdm, kdn, kel, aop, Za, Zb, Zc, reduceCtorEq, Zd, Ze, Zf, Zg, Zh, Zi, Zj, Zk, Zl, Zm, Zn, Zo, Zp, Zq, Zr, Zs, Zt, c3, c4, c2, hrow, s0, s1, r1, g2', decide_eq_false g3, w3]
       exact ⟨i - (m + 1), by omega, m + 1, by omega, rfl, rfl, step (fun q => g3 q.2), by exact ex_env rfl⟩
     ·have g2' : (y.2.kind = 1) = False := eq_false g2
      simp (disch := omega) only [kB, kcx, kdm, kdn, kel, aop, Za, Zb, Zc, reduceCtorEq, Zd, Ze, Zf, Zg, Zh, Zi, Zj, Zk, Zl, Zm, Zn, Zo, Zp, Zq, Zr, Zs, Zt, c3, c4, c2, hrow, s0, g2', w3]
      exact ⟨i - (m + 1), by omega, m + 1, by omega, rfl, rfl, step (fun q => g2 q.1), by exact ex_env rfl⟩
    ·have c3 : ¬ (m : Int) < (i : Int) := by omega
     have hni : ¬ xt.2.table ∈ askedL (L.take i) := fun q => by
      obtain ⟨j, hj, hji, q1, q2⟩ := askedL_mem.1 q
      exact hno j hj (by omega) ⟨q1, q2⟩
     rw [if_neg hni] at hx
     simp (disch := omega) only [kB, kcx, kdm, kdn, kel, aop, Za, Zb, Zc, reduceCtorEq, Zd, Ze, Zf, Zg, Zh, Zi, Zj, Zk, Zl, Zm, Zn, Zo, Zp, Zq, Zr, Zs, Zt, c3, w2]
     exact ⟨L.length - (i + 1), by omega, i + 1, by omega, rfl, rfl, by rw [hask]; exact hx, by exact ex_env rfl⟩
   ·have kk : (xt.2.kind = 1) = False := eq_false (by omega)
    have kk2 : (xt.2.kind = 2) = True := eq_true k2
    rw [stageE, if_neg (by omega), if_neg (by omega), if_pos k2, if_pos t2, testE_eq, if_pos m2] at hx
    rw [if_neg (by omega)] at hask
    simp (disch := omega) only [kB, kcx, kdm, kdn, kel, aop, Za, Zb, Zc, reduceCtorEq, Zd, Ze, Zf, Zg, Zh, Zi, Zj, Zk, Zl, Zm, Zn, Zo, Zp, Zq, Zr, Zs, Zt, decide_eq_true g0', c2, hrow, r0, kk, kk2, hs2, cut9, le9, o0, o1, o2, o3, o4, o5]
    refine rtest_s (t := xt.2.test) hs ht hF hbK ?_
    cases hT : testR s xt.2.test with
    | some e =>
     have he : (e = 0) = False := eq_false (testR_ne hT)
     rw [hT] at hx
     simp only [eI_some]
     simp (disch := omega) only [kB, kcx, kdm, kdn, kel, aop, Za, Zb, Zc, reduceCtorEq, Zd, Ze, Zf, Zg, Zh, Zi, Zj, Zk, Zl, Zm, Zn, Zo, Zp, Zq, Zr, Zs, Zt, he]
     exact ⟨_, rfl, bKK.ext, .int, hE _ hx⟩
    | none =>
     rw [hT] at hx
     simp only [eI_none]
     simp (disch := omega) only [kB, kcx, kdm, kdn, kel, aop, Za, Zb, Zc, reduceCtorEq, Zd, Ze, Zf, Zg, Zh, Zi, Zj, Zk, Zl, Zm, Zn, Zo, Zp, Zq, Zr, Zs, Zt, w2]
     exact ⟨L.length - (i + 1), by omega, i + 1, by omega, rfl, rfl, by rw [hask]; exact hx, by exact ex_env rfl⟩
   ·have kk : (xt.2.kind = 1) = False := eq_false (by omega)
    have kk2 : (xt.2.kind = 2) = False := eq_false (by omega)
    rw [stageE, if_neg (by omega), if_pos k3, if_pos ⟨m3, t3, by omega⟩] at hx
    rw [if_neg (by omega)] at hask
    simp (disch := omega) only [kB, kcx, kdm, kdn, kel, aop, Za, Zb, Zc, reduceCtorEq, Zd, Ze, Zf, Zg, Zh, Zi, Zj, Zk, Zl, Zm, Zn, Zo, Zp, Zq, Zr, Zs, Zt, decide_eq_true g0', c2, hrow, r0, kk, kk2, w2]
    exact ⟨L.length - (i + 1), by omega, i + 1, by omega, rfl, rfl, by rw [hask]; exact hx, by exact ex_env rfl⟩
  ·have c2 : ¬ (i : Int) < (L.length : Int) := by omega
   rw [List.drop_eq_nil_of_le (by omega), stagesE] at hx
   rw [hx] at h
   simp (disch := omega) only [kB, kcx, kdm, kdn, kel, aop, Za, Zb, Zc, reduceCtorEq, Zd, Ze, Zf, Zg, Zh, Zi, Zj, Zk, Zl, Zm, Zn, Zo, Zp, Zq, Zr, Zs, Zt, c2]
   exact ⟨_, rfl, bKK.ext, .int, h⟩
end
section
variable {R : FRes → Heap → Prop} {H K : Heap}
/-! ### Errors are no 0 -/
theorem hdrE_ne {met : List (List UInt8)} {y : Hdr} {e : Int} (h : hdrE met y = some e) : e ≠ 0 := by
 unfold hdrE at h
 cases hn : nameE met y.name with
 | some e' => rw [hn] at h; cases h; exact nameE_ne hn
 | none =>
  rw [hn] at h
  simp only at h
  split at h
  ·cases hf : fieldsE [] y.fields with
   | some e' => rw [hf] at h; cases h; exact fieldsE_ne hf
   | none =>
    rw [hf] at h
    simp only at h
    split at h
    ·cases h
    ·cases h; decide
  ·cases h; decide
theorem hdrsE_ne : ∀ {l : List Hdr} {met : List (List UInt8)} {x : Int × List UInt8}, hdrsE met l = some x → x.1 ≠ 0
 | [], _, x, h => by cases h
 | y :: l, met, x, h => by
  rw [hdrsE] at h
  cases hy : hdrE met y with
  | some e => rw [hy] at h; cases h; exact hdrE_ne hy
  | none => rw [hy] at h; exact hdrsE_ne h
theorem headersE_ne {s : Sch} {x : Int × List UInt8} (h : headersE s = some x) : x.1 ≠ 0 := by
 unfold headersE at h
 split at h
 ·exact hdrsE_ne h
 ·cases h; decide
theorem metaE_ne {s : Sch} {x : Int × List UInt8} (h : metaE s = some x) : x.1 ≠ 0 := by
 unfold metaE at h
 split at h
 ·obtain ⟨e, he, rfl⟩ := Option.map_eq_some_iff.1 h
  exact fieldsE_ne he
 ·cases h; decide
theorem stasE_ne {s : Sch} : ∀ {l : List Sta} {met : List (List UInt8)} {x : Int × List UInt8}, stasE s met l = some x → x.1 ≠ 0
 | [], _, x, h => by cases h
 | y :: l, met, x, h => by
  rw [stasE] at h
  cases hn : nameE met y.name with
  | some e => rw [hn] at h; cases h; exact nameE_ne hn
  | none =>
   rw [hn] at h
   simp only at h
   cases hy : staE s y with
   | some e => rw [hy] at h; cases h; exact staE_ne hy
   | none => rw [hy] at h; exact stasE_ne h
theorem rndE_ne {s : Sch} : ∀ {l : List Sta} {i : Nat} {x : Int × List UInt8}, rndE s i l = some x → x.1 ≠ 0
 | [], _, x, h => by cases h
 | y :: l, i, x, h => by
  rw [rndE] at h
  split at h
  ·cases h; show (78 : Int) ≠ 0; decide
  ·exact rndE_ne h
theorem statesE_ne {s : Sch} {x : Int × List UInt8} (h : statesE s = some x) : x.1 ≠ 0 := by
 unfold statesE at h
 split at h
 ·cases hs : stasE s [] s.states with
  | some e => rw [hs] at h; cases h; exact stasE_ne hs
  | none => rw [hs] at h; exact rndE_ne h
 ·cases h; decide
theorem actE_ne {s : Sch} {y : Act} {e : Int} (h : actE s y = some e) : e ≠ 0 := by
 unfold actE at h
 split at h
 ·cases hf : fieldsE [] y.params with
  | some e' => rw [hf] at h; cases h; exact fieldsE_ne hf
  | none => rw [hf] at h; exact stepsE_ne h
 ·cases h; decide
theorem actsE_ne {s : Sch} : ∀ {l : List Act} {met : List (List UInt8)} {x : Int × List UInt8}, actsE s met l = some x → x.1 ≠ 0
 | [], _, x, h => by cases h
 | y :: l, met, x, h => by
  rw [actsE] at h
  cases hn : nameE met y.name with
  | some e => rw [hn] at h; cases h; exact nameE_ne hn
  | none =>
   rw [hn] at h
   simp only at h
   cases hy : actE s y with
   | some e => rw [hy] at h; cases h; exact actE_ne hy
   | none => rw [hy] at h; exact actsE_ne h
theorem actionsE_ne {s : Sch} {x : Int × List UInt8} (h : actionsE s = some x) : x.1 ≠ 0 := by
 unfold actionsE at h
 split at h
 ·exact actsE_ne h
 ·cases h; decide
theorem tblsE_ne {s : Sch} : ∀ {l : List Tbl} {met : List (List UInt8)} {x : Int × List UInt8}, tblsE s met l = some x → x.1 ≠ 0
 | [], _, x, h => by cases h
 | y :: l, met, x, h => by
  rw [tblsE] at h
  cases hn : nameE met y.name with
  | some e => rw [hn] at h; cases h; exact nameE_ne hn
  | none =>
   rw [hn] at h
   simp only at h
   cases hy : tblE s y with
   | some e => rw [hy] at h; cases h; exact tblE_ne hy
   | none => rw [hy] at h; exact tblsE_ne h
theorem tablesE_ne {s : Sch} {x : Int × List UInt8} (h : tablesE s = some x) : x.1 ≠ 0 := by
 unfold tablesE at h
 split at h
 ·exact tblsE_ne h
 ·cases h; decide
theorem testE_ne {s : Sch} {t : Tst} {e : Int} (h : testE s t = some e) : e ≠ 0 := by
 rw [testE_eq] at h
 split at h
 ·exact testR_ne h
 ·cases h; decide
theorem stageE_ne {s : Sch} {a : List (List UInt8)} {x : St} {e : Int} (h : stageE s a x = .error e) : e ≠ 0 := by
 unfold stageE at h
 split at h
 ·split at h
  ·split at h
   ·split at h
    ·cases h; decide
    ·cases h
   ·cases h; decide
  ·cases h; decide
 ·split at h
  ·split at h
   ·cases h
   ·cases h; decide
  ·split at h
   ·split at h
    ·cases ht : testE s x.test with
     | some e' => rw [ht] at h; cases h; exact testE_ne ht
     | none => rw [ht] at h; cases h
    ·cases h; decide
   ·cases h; decide
theorem stagesE_ne {s : Sch} : ∀ {l : List (Nat × St)} {a : List (List UInt8)} {e : Int}, stagesE s a l = some e → e ≠ 0
 | [], _, e, h => by cases h
 | x :: l, a, e, h => by
  rw [stagesE] at h
  cases hx : stageE s a x.2 with
  | error e' => rw [hx] at h; cases h; exact stageE_ne hx
  | ok a' => rw [hx] at h; exact stagesE_ne h
theorem ctlE_ne {s : Sch} {x : Int × List UInt8} (h : ctlE s = some x) : x.1 ≠ 0 ∧ x.2 = ctT := by
 unfold ctlE at h
 split at h
 ·obtain ⟨e, he, rfl⟩ := Option.map_eq_some_iff.1 h
  exact ⟨stagesE_ne he, rfl⟩
 ·rename_i c; cases h; exact ⟨c, rfl⟩
/-! ### Fields of sound headers -/
theorem hdrsE_fields : ∀ {l : List Hdr} {met : List (List UInt8)}, hdrsE met l = none → ∀ y ∈ l, fieldsE [] y.fields = none
 | [], _, _, y, hy => by cases hy
 | z :: l, met, h, y, hy => by
  rw [hdrsE] at h
  cases hz : hdrE met z with
  | some e => rw [hz] at h; cases h
  | none =>
   rw [hz] at h
   rcases List.mem_cons.1 hy with rfl | hy
   ·unfold hdrE at hz
    cases hn : nameE met y.name with
    | some e => rw [hn] at hz; cases hz
    | none =>
     rw [hn] at hz
     simp only at hz
     split at hz
     ·cases hf : fieldsE [] y.fields with
      | some e => rw [hf] at hz; cases hz
      | none => rfl
     ·cases hz
   ·exact hdrsE_fields h y hy
theorem fw_of {s : Sch} (h1 : headersE s = none) (h2 : metaE s = none) : FW s := by
 have hh : ∀ y ∈ s.headers, fieldsE [] y.fields = none := by
  unfold headersE at h1
  split at h1
  ·exact hdrsE_fields h1
  ·cases h1
 have hm : fieldsE [] s.mets = none := by
  unfold metaE at h2
  split at h2
  ·exact Option.map_eq_none_iff.1 h2
  ·cases h2
 intro r f hf
 unfold fldOf at hf
 split at hf
 ·cases hf
 ·split at hf
  ·exact (fieldsE_ok hm f (named_ok hf).1).1
  ·obtain ⟨y, hy, hf⟩ := Option.bind_eq_some_iff.1 hf
   exact (fieldsE_ok (hh y (named_ok hy).1) f (named_ok hf).1).1
/-! ### The walk -/
set_option maxHeartbeats 2000000 in
theorem rcheck_s {s : Sch} (hs : s.OK H) (hsh : s.Short) (hb : Base H K) (h : R (.ret (.tuple #[.int .i64 (checkV s).1, .string (bs (checkV s).2)])) K) : WD T 11 [.agg s.cells.toArray] K R := by
 refine WD.gc0 (WD.of follows t11 (by simp) ?_)
 obtain ⟨o0, o1, o2, o3, o4, o5⟩ := hs.one
 have bad : ∀ x, checkO s = some x → R (.ret (.tuple #[.int .i64 x.1, .string (bs x.2)])) K := fun x q => by rw [checkV, q] at h; exact h
 have good : checkO s = none → R (.ret (.tuple #[.int .i64 0, .string (bs [])])) K := fun q => by rw [checkV, q] at h; exact h
 clear h
 unfold checkO at bad good
 simp only [Sch.cells]
 simp (disch := omega) only [kB, kcx, kdm, kdn, kel, aop, Za, Zb, Zc, reduceCtorEq, Zd, Ze, Zf, Zg, Zh, Zi, Zj, Zk, Zl, Zm, Zn, Zo, Zp, Zq, Zr, Zs, Zt, o0, o1, o2, o3, o4, o5]
 refine rheaders_s hs hsh.sh (hb.app _) ?_
 cases e1 : headersE s with
 | some x =>
  have he : (x.1 = 0) = False := eq_false (headersE_ne e1)
  have hh := bad x (by rw [e1]; rfl)
  simp only [eT]
  simp (disch := omega) only [kB, kcx, kdm, kdn, kel, aop, Za, Zb, Zc, reduceCtorEq, Zd, Ze, Zf, Zg, Zh, Zi, Zj, Zk, Zl, Zm, Zn, Zo, Zp, Zq, Zr, Zs, Zt, he]
  exact ⟨_, rfl, (Base.app0 _).ext, .tup2 .int .string, hh⟩
 | none =>
 rw [e1] at bad good
 simp only [Option.none_or] at bad good
 simp only [eT]
 simp (disch := omega) only [kB, kcx, kdm, kdn, kel, aop, Za, Zb, Zc, reduceCtorEq, Zd, Ze, Zf, Zg, Zh, Zi, Zj, Zk, Zl, Zm, Zn, Zo, Zp, Zq, Zr, Zs, Zt, o0, o1, o2, o3, o4, o5]
 refine rmeta_s hs (hb.app _) ?_
 cases e2 : metaE s with
 | some x =>
  have he : (x.1 = 0) = False := eq_false (metaE_ne e2)
  have hh := bad x (by rw [e2]; rfl)
  simp only [eT]
  simp (disch := omega) only [kB, kcx, kdm, kdn, kel, aop, Za, Zb, Zc, reduceCtorEq, Zd, Ze, Zf, Zg, Zh, Zi, Zj, Zk, Zl, Zm, Zn, Zo, Zp, Zq, Zr, Zs, Zt, he]
  exact ⟨_, rfl, (Base.app0 _).ext, .tup2 .int .string, hh⟩
 | none =>
 have hF := fw_of e1 e2
 rw [e2] at bad good
 simp only [Option.none_or] at bad good
 simp only [eT]
 simp (disch := omega) only [kB, kcx, kdm, kdn, kel, aop, Za, Zb, Zc, reduceCtorEq, Zd, Ze, Zf, Zg, Zh, Zi, Zj, Zk, Zl, Zm, Zn, Zo, Zp, Zq, Zr, Zs, Zt, o0, o1, o2, o3, o4, o5]
 refine rstates_s hs hsh.ss (hb.app _) ?_
 cases e3 : statesE s with
 | some x =>
  have he : (x.1 = 0) = False := eq_false (statesE_ne e3)
  have hh := bad x (by rw [e3]; rfl)
  simp only [eT]
  simp (disch := omega) only [kB, kcx, kdm, kdn, kel, aop, Za, Zb, Zc, reduceCtorEq, Zd, Ze, Zf, Zg, Zh, Zi, Zj, Zk, Zl, Zm, Zn, Zo, Zp, Zq, Zr, Zs, Zt, he]
  exact ⟨_, rfl, (Base.app0 _).ext, .tup2 .int .string, hh⟩
 | none =>
 rw [e3] at bad good
 simp only [Option.none_or] at bad good
 simp only [eT]
 simp (disch := omega) only [kB, kcx, kdm, kdn, kel, aop, Za, Zb, Zc, reduceCtorEq, Zd, Ze, Zf, Zg, Zh, Zi, Zj, Zk, Zl, Zm, Zn, Zo, Zp, Zq, Zr, Zs, Zt, o0, o1, o2, o3, o4, o5]
 refine ractions_s hs hsh.sa hF (hb.app _) ?_
 cases e4 : actionsE s with
 | some x =>
  have he : (x.1 = 0) = False := eq_false (actionsE_ne e4)
  have hh := bad x (by rw [e4]; rfl)
  simp only [eT]
  simp (disch := omega) only [kB, kcx, kdm, kdn, kel, aop, Za, Zb, Zc, reduceCtorEq, Zd, Ze, Zf, Zg, Zh, Zi, Zj, Zk, Zl, Zm, Zn, Zo, Zp, Zq, Zr, Zs, Zt, he]
  exact ⟨_, rfl, (Base.app0 _).ext, .tup2 .int .string, hh⟩
 | none =>
 rw [e4] at bad good
 simp only [Option.none_or] at bad good
 simp only [eT]
 simp (disch := omega) only [kB, kcx, kdm, kdn, kel, aop, Za, Zb, Zc, reduceCtorEq, Zd, Ze, Zf, Zg, Zh, Zi, Zj, Zk, Zl, Zm, Zn, Zo, Zp, Zq, Zr, Zs, Zt, o0, o1, o2, o3, o4, o5]
 refine rtables_s hs hsh.st (hb.app _) ?_
 cases e5 : tablesE s with
 | some x =>
  have he : (x.1 = 0) = False := eq_false (tablesE_ne e5)
  have hh := bad x (by rw [e5]; rfl)
  simp only [eT]
  simp (disch := omega) only [kB, kcx, kdm, kdn, kel, aop, Za, Zb, Zc, reduceCtorEq, Zd, Ze, Zf, Zg, Zh, Zi, Zj, Zk, Zl, Zm, Zn, Zo, Zp, Zq, Zr, Zs, Zt, he]
  exact ⟨_, rfl, (Base.app0 _).ext, .tup2 .int .string, hh⟩
 | none =>
 rw [e5] at bad good
 simp only [Option.none_or] at bad good
 simp only [eT]
 simp (disch := omega) only [kB, kcx, kdm, kdn, kel, aop, Za, Zb, Zc, reduceCtorEq, Zd, Ze, Zf, Zg, Zh, Zi, Zj, Zk, Zl, Zm, Zn, Zo, Zp, Zq, Zr, Zs, Zt, o0, o1, o2, o3, o4, o5]
 refine rcontrol_s hs hF (hb.app _) ?_
 cases e6 : ctlE s with
 | some x =>
  obtain ⟨q1, q2⟩ := ctlE_ne e6
  have he : (x.1 = 0) = False := eq_false q1
  have hh := bad x e6
  rw [q2] at hh
  simp only [Option.map_some, eI_some]
  simp (disch := omega) only [kB, kcx, kdm, kdn, kel, aop, Za, Zb, Zc, reduceCtorEq, Zd, Ze, Zf, Zg, Zh, Zi, Zj, Zk, Zl, Zm, Zn, Zo, Zp, Zq, Zr, Zs, Zt, he]
  exact ⟨_, rfl, (Base.app0 _).ext, .tup2 .int .string, hh⟩
 | none =>
 have hh := good e6
 simp only [Option.map_none, eI_none]
 simp (disch := omega) only [kB, kcx, kdm, kdn, kel, aop, Za, Zb, Zc, reduceCtorEq, Zd, Ze, Zf, Zg, Zh, Zi, Zj, Zk, Zl, Zm, Zn, Zo, Zp, Zq, Zr, Zs, Zt]
 exact ⟨_, rfl, (Base.app0 _).ext, .tup2 .int .string, hh⟩
def cksI (K0 : Heap) (v : Value) (l : List Sch) : Nat → Env → Heap → Prop := fun z e K' =>
 ∃ i : Nat, i ≤ l.length ∧ z = l.length - i ∧ K' = K0 ∧ (∃ x : Nat → Value, e = [v, x 1, x 2, .int .i64 (i : Int), x 4, x 5, x 6, x 7, x 8, x 9, x 10, x 11, x 12, x 13, x 14, x 15, x 16, x 17, x 18, x 19, x 20, x 21, x 22, x 23, x 24, x 25, x 26, x 27, x 28, x 29, x 30, x 31, x 32, x 33, x 34, x 35, x 36, x 37, x 38, x 39])
theorem Sch.len (s : Sch) : s.cells.length = 6 := rfl
theorem checks_w (shown_s : ∀ {R : FRes → Heap → Prop} {H : Heap}, R (.ret (.bool true)) H → WD T 9 [] H R) {v : Value} {l : List Sch} (hr : RoSl H v (l.map Sch.cells)) (hn : few 144 l.length) (hok : ∀ s ∈ l, s.OK H ∧ s.Short) :
  WD T 3 [v] H (fun r _ => r = .ret (.bool true)) := by
 unfold few at hn
 refine WD.of follows t3 (by simp) ?_
 obtain ⟨ad, rfl⟩ := hr.sl
 rw [List.length_map] at hr ⊢
 simp (disch := omega) only [kB, kcx, kdm, kdn, kel, aop, Za, Zb, Zc, reduceCtorEq, Zd, Ze, Zf, Zg, Zh, Zi, Zj, Zk, Zl, Zm, Zn, Zo, Zp, Zq, Zr, Zs, Zt]
 refine shown_s ?_
 simp (disch := omega) only [kB, kcx, kdm, kdn, kel, aop, Za, Zb, Zc, reduceCtorEq, Zd, Ze, Zf, Zg, Zh, Zi, Zj, Zk, Zl, Zm, Zn, Zo, Zp, Zq, Zr, Zs, Zt]
 refine WLoop.inv (cksI H (.slice ad l.length l.length) l) ?_ l.length _ _ ⟨0, Nat.zero_le _, by omega, rfl, by exact ex_env rfl⟩
 rintro z e K' ⟨i, hi, rfl, rfl, ⟨x, rfl⟩⟩
 by_cases hlt : i < l.length
 ·have c1 : (i : Int) < (l.length : Int) := by omega
  obtain ⟨b, u0, w0, rfl, p1, p2, p3, p4, p5⟩ := hr.at Sch.len hlt
  have w2 : IntKind.i64.wrap ((i : Int) + 1) = ((i + 1 : Nat) : Int) := wI (by omega)
  obtain ⟨hs, hsh⟩ := hok _ (List.getElem_mem hlt)
  generalize l[i] = s at *
  simp (disch := omega) only [kB, kcx, kdm, kdn, kel, aop, Za, Zb, Zc, reduceCtorEq, Zd, Ze, Zf, Zg, Zh, Zi, Zj, Zk, Zl, Zm, Zn, Zo, Zp, Zq, Zr, Zs, Zt, c1, p2, p3, p4]
  refine check_s hs hsh Base.refl ?_
  simp (disch := omega) only [kB, kcx, kdm, kdn, kel, aop, Za, Zb, Zc, reduceCtorEq, Zd, Ze, Zf, Zg, Zh, Zi, Zj, Zk, Zl, Zm, Zn, Zo, Zp, Zq, Zr, Zs, Zt, c1, p2, p3, p4]
  refine rcheck_s hs hsh Base.refl ?_
  simp (disch := omega) only [kB, kcx, kdm, kdn, kel, aop, Za, Zb, Zc, reduceCtorEq, Zd, Ze, Zf, Zg, Zh, Zi, Zj, Zk, Zl, Zm, Zn, Zo, Zp, Zq, Zr, Zs, Zt, w2]
  exact ⟨l.length - (i + 1), by omega, i + 1, by omega, rfl, rfl, by exact ex_env rfl⟩
 ·have c1 : ¬ (i : Int) < (l.length : Int) := by omega
  simp (disch := omega) only [kB, kcx, kdm, kdn, kel, aop, Za, Zb, Zc, reduceCtorEq, Zd, Ze, Zf, Zg, Zh, Zi, Zj, Zk, Zl, Zm, Zn, Zo, Zp, Zq, Zr, Zs, Zt, c1]
end
end Go.Proofs.YtpllhhaeclnngaaGreat.Ev
