/- The pure operations of the evaluator are the model's, one by one. Conditions: none. -/
import Derived.Test.YtedemfmafdilmaaDoorEvD
namespace Go.Proofs.YtedemfmafdilmaaDoor.Ev

variable {P : Program} {N G n : Nat} {ρ : Nat → Place}

structure Fits (G N n : Nat) (ρ : Nat → Place) (e : Env) (a : Act) : Prop where
  er : ER n ρ N e a.tmps
  many : G ≤ n
  glob : ∀ g, g < G → ρ g = ⟨g, 0, 0⟩

theorem Fits.op {e : Env} {a : Act} (h : Fits G N n ρ e a) {x : Operand} (hx : okO N G x = true) : VR n ρ (aev e x) (a.eval x) := VR.operand h.er hx h.many h.glob

variable {e : Env} {a : Act} {H H' : Heap} {v : Value} {dst : Option Nat} {ty : TypeId} {pos : String} {after : Array Edge} {guard : Option (Nat × Bool)}

/-- What has to be shown of a pure operation. -/
def PureOK (P : Program) (N G n : Nat) (ρ : Nat → Place) (o : Oper) (ao : AOp) : Prop :=
  ∀ (e : Env) (a : Act) (H H' : Heap) (v : Value), Fits G N n ρ e a → aop e H ao = .val v H' → H' = H ∧ ∃ v', VR n ρ v v' ∧ Says P o a.eval v'

theorem pure_mov {x : Operand} (hx : okO N G x = true) (o : Oper) (ho : ∀ ev, execOp ev o = pure (.value (ev x))) : PureOK P N G n ρ o (.mov x) := by
  intro e a H H' v hf h
  simp only [aop, ARes.val.injEq] at h
  obtain ⟨rfl, rfl⟩ := h
  exact ⟨rfl, _, hf.op hx, fun w => by rw [ho]; rfl⟩

theorem pure_pick {c x y : Operand} (hc : okO N G c = true) (hx : okO N G x = true) (hy : okO N G y = true) : PureOK P N G n ρ ⟨dst, .pick c x y, ty, pos, after, guard⟩ (.pick c x y) := by
  intro e a H H' v hf h
  simp only [aop] at h
  split at h
  · rename_i t ht
    simp only [ARes.val.injEq] at h
    obtain ⟨rfl, rfl⟩ := h
    have h1 := hf.op hc
    rw [ht] at h1
    refine ⟨rfl, if t then a.eval x else a.eval y, ?_, fun w => ?_⟩
    · cases t
      · exact hf.op hy
      · exact hf.op hx
    · simp only [execOp, h1.inv_bool, asBool]; cases t <;> simp
  · cases h

theorem pure_build {t : TypeId} {parts : Array (Nat × Operand)} {ao : AOp} (hp : prepOp P N G (.build t parts) = some ao) :
    PureOK P N G n ρ ⟨dst, .build t parts, ty, pos, after, guard⟩ ao := by
  intro e a H H' v hf h
  simp only [prepOp] at hp
  split at hp
  · rename_i z fs hz hu
    split at hp
    · rename_i pl hpl
      obtain ⟨ps, hps, rfl⟩ := Option.map_eq_some_iff.1 hp
      simp only [aop] at h
      split at h
      · rename_i cs hcs
        simp only [ARes.val.injEq] at h
        obtain ⟨rfl, rfl⟩ := h
        obtain ⟨zv, hz', hzc, _, _⟩ := run_zero (P := P) hz
        obtain ⟨out, hout, hvl⟩ := fill_sound (cs' := zv.cells) parts.toList hps hf.er hf.many hf.glob (by rw [hzc]; exact VL.closed (zero_closed hz)) hcs
        refine ⟨rfl, .agg out, VL.agg hvl, fun w => ?_⟩
        have hpa := run_places' (P := P) w hpl
        simp only [execOp, Instr.build, Sem.run_bind, hz', run_und hu, Result.andThen_ok, hpa]
        have e1 : (fun i : Nat => pl.toArray[i]?) = fun i : Nat => pl[i]? := by funext i; simp
        simp only [e1]
        rw [show (Array.map (fun x => match x with | (i, x) => (i, a.eval x)) parts).toList = parts.toList.map fun p => (p.1, a.eval p.2) by simp, hout]
        rfl
      · cases h
    · cases hp
  · rename_i z n' el hz hu
    split at hp
    · rename_i s hs
      obtain ⟨ps, hps, rfl⟩ := Option.map_eq_some_iff.1 hp
      simp only [aop] at h
      split at h
      · rename_i cs hcs
        simp only [ARes.val.injEq] at h
        obtain ⟨rfl, rfl⟩ := h
        obtain ⟨zv, hz', hzc, _, _⟩ := run_zero (P := P) hz
        obtain ⟨out, hout, hvl⟩ := fill_sound (cs' := zv.cells) parts.toList hps hf.er hf.many hf.glob (by rw [hzc]; exact VL.closed (zero_closed hz)) hcs
        refine ⟨rfl, .agg out, VL.agg hvl, fun w => ?_⟩
        simp only [execOp, Instr.build, Sem.run_bind, hz', run_und hu, Result.andThen_ok, run_size hs]
        rw [show (Array.map (fun x => match x with | (i, x) => (i, a.eval x)) parts).toList = parts.toList.map fun p => (p.1, a.eval p.2) by simp, hout]
        rfl
      · cases h
    · cases hp
  · cases hp

theorem pure_nilChk {x : Operand} (hx : okO N G x = true) : PureOK P N G n ρ ⟨dst, .nilCheck x, ty, pos, after, guard⟩ (.nilChk x) := by
  intro e a H H' v hf h
  have h1 := hf.op hx
  simp only [aop] at h
  split at h <;> first | (cases h; done) | skip
  all_goals
    rename_i hq
    simp only [ARes.val.injEq] at h
    obtain ⟨rfl, rfl⟩ := h
    rw [hq] at h1
    refine ⟨rfl, a.eval x, h1, fun w => ?_⟩
  · obtain ⟨b, o, rfl, _, hv⟩ := h1.inv_ptrSome
    simp [execOp, hv]
  · obtain ⟨f', c', hv, _, _⟩ := h1.inv_func
    simp [execOp, hv]
  · obtain ⟨x', hv, _⟩ := h1.inv_iface
    simp [execOp, hv]

theorem run_intBin {op : BinOp} {k k' : IntKind} {x y : Int} {v : Value} {t : TypeId} (h : intBin op k x k' y = some v) (w : World) :
    (binOp op t (.int k x) (.int k' y)).run P w = .ok v w := by
  unfold intBin at h
  cases op <;> simp only at h <;> (repeat' split at h) <;> first | (cases h; done) | skip
  all_goals
    simp only [binOp]
    try subst k'
    try rw [if_neg (by simp)]
    exact pr_run h w

theorem closed_intBin {op : BinOp} {k k' : IntKind} {x y : Int} {v : Value} (h : intBin op k x k' y = some v) : closed1 v = true := by
  unfold intBin at h
  cases op <;> simp only at h <;> (repeat' split at h) <;> first | (cases h; done) | skip
  all_goals
    have h2 := pr_some h
    simp only [Op.shift, Op.intArith, Op.intDiv, Op.intBits, Op.intCmp] at h2
    (repeat' split at h2) <;> first | (injection h2 with h2; subst h2; rfl) | (cases h2; done) | contradiction

theorem run_strBin {op : BinOp} {x y : ByteArray} {v : Value} {t : TypeId} (h : strBin op x y = some v) (w : World) :
    (binOp op t (.string x) (.string y)).run P w = .ok v w ∧ closed1 v = true := by
  unfold strBin at h
  cases op <;> simp only at h <;> (try (split at h)) <;> first | (cases h; done) | skip
  all_goals
    injection h with h
    subst h
    refine ⟨?_, rfl⟩
    simp only [binOp, Op.stringOp, ByteArray.toList_eq]
    try rfl
  rename_i hs
  rw [if_neg ?_]
  · rfl
  · simp only [IntKind.max, IntKind.signed, IntKind.bits]
    simp
    omega

theorem run_eqGuard {op : BinOp} {t : TypeId} {x y : Operand} {u v : Value} (w : World)
    (h1 : ∀ c d, ¬ (u = .agg c ∧ v = .agg d)) (h2 : ¬ (u = .nilIface ∧ v = .nilIface)) : (eqGuard op t x y u v).run P w = .ok () w := by
  unfold eqGuard
  cases op <;> dsimp only [Bool.not_true, Bool.not_false] <;> first
    | rfl
    | (rw [if_neg (by simp)]
       split
       · exact absurd ⟨rfl, rfl⟩ h2
       · exact absurd ⟨rfl, rfl⟩ (h1 _ _)
       · rfl)

theorem pure_bin {op : BinOp} {t yt : TypeId} {x y : Operand} (hx : okO N G x = true) (hy : okO N G y = true) : PureOK P N G n ρ ⟨dst, .binOp op t x y yt, ty, pos, after, guard⟩ (.bin op x y) := by
  intro e a H H' v hf h
  have h1 := hf.op hx
  have h2 := hf.op hy
  simp only [aop] at h
  obtain ⟨h3, rfl⟩ := ofO_val h
  unfold binV at h3
  split at h3
  · rename_i k i k' j hi hj
    rw [hi] at h1; rw [hj] at h2
    refine ⟨rfl, v, .of_closed1 (closed_intBin h3), fun w => ?_⟩
    simp only [execOp, Sem.run_bind, h1.inv_int, h2.inv_int]
    rw [run_eqGuard w (fun c d hh => by cases hh.1) (fun hh => by cases hh.1)]
    simp [run_intBin h3]
  · rename_i s s' hi hj
    rw [hi] at h1; rw [hj] at h2
    refine ⟨rfl, v, .of_closed1 (run_strBin (P := P) (t := t) h3 default).2, fun w => ?_⟩
    simp only [execOp, Sem.run_bind, h1.inv_string, h2.inv_string]
    rw [run_eqGuard w (fun c d hh => by cases hh.1) (fun hh => by cases hh.1)]
    simp [(run_strBin (P := P) (t := t) h3 w).1]
  · cases h3

theorem equalIn_bool {d : Nat} {t : TypeId} {x y : Bool} (hu : P.underlying t = some .bool) (w : World) : (Op.equalIn (d + 1) t (.bool x) (.bool y)).run P w = .ok (x == y) w := by
  simp only [Op.equalIn, Sem.run_bind, run_und hu, Result.andThen_ok]
  rfl

theorem run_equal_bool {t : TypeId} {x y : Bool} (hu : P.underlying t = some .bool) (w : World) : (Op.equal t (.bool x) (.bool y)).run P w = .ok (x == y) w :=
  equalIn_bool (d := 9999) hu w

theorem eqb_model {op : BinOp} {t : TypeId} {x y : Bool} (hu : P.underlying t = some .bool) (hop : op = .eql ∨ op = .neq) (w : World) :
    (binOp op t (.bool x) (.bool y)).run P w = .ok (.bool ((x == y) != isNeq op)) w := by
  rcases hop with rfl | rfl <;> simp only [binOp, Sem.run_bind, run_equal_bool hu, Result.andThen_ok, isNeq] <;> simp

theorem pure_eqb {op : BinOp} {t yt : TypeId} {x y : Operand} (hx : okO N G x = true) (hy : okO N G y = true) (hu : P.underlying t = some .bool) (hop : op = .eql ∨ op = .neq) :
    PureOK P N G n ρ ⟨dst, .binOp op t x y yt, ty, pos, after, guard⟩ (.eqb (isNeq op) x y) := by
  intro e a H H' v hf h
  have h1 := hf.op hx
  have h2 := hf.op hy
  simp only [aop] at h
  obtain ⟨h3, rfl⟩ := ofO_val h
  obtain ⟨b, hb, rfl⟩ := Option.map_eq_some_iff.1 h3
  refine ⟨rfl, _, .bool _, fun w => ?_⟩
  unfold eq1 at hb
  split at hb
  · rename_i p q hi hj
    rw [hi] at h1; rw [hj] at h2
    injection hb with hb
    subst hb
    simp only [execOp, Sem.run_bind, h1.inv_bool, h2.inv_bool]
    rw [run_eqGuard w (fun c d hh => by cases hh.1) (fun hh => by cases hh.1)]
    simp only [Result.andThen_ok, eqb_model hu hop, Sem.run_pure]
  · rename_i k p k' q hi hj
    split at hb
    · rename_i hk
      subst hk
      injection hb with hb
      subst hb
      rw [hi] at h1; rw [hj] at h2
      simp only [execOp, Sem.run_bind, h1.inv_int, h2.inv_int]
      rw [run_eqGuard w (fun c d hh => by cases hh.1) (fun hh => by cases hh.1)]
      rcases hop with rfl | rfl <;> simp [binOp, Op.intCmp, isNeq, bne]
    · cases hb
  · rename_i p q hi hj
    injection hb with hb
    subst hb
    rw [hi] at h1; rw [hj] at h2
    simp only [execOp, Sem.run_bind, h1.inv_string, h2.inv_string]
    rw [run_eqGuard w (fun c d hh => by cases hh.1) (fun hh => by cases hh.1)]
    rcases hop with rfl | rfl <;> simp [binOp, Op.stringOp, ByteArray.toList_eq, isNeq]
  · cases hb

theorem pure_un {op : UnOp} {t : TypeId} {x : Operand} (hx : okO N G x = true) : PureOK P N G n ρ ⟨dst, .unOp op t x, ty, pos, after, guard⟩ (.un op x) := by
  intro e a H H' v hf h
  have h1 := hf.op hx
  simp only [aop] at h
  split at h
  · rename_i k i hi
    obtain ⟨h3, rfl⟩ := ofO_val h
    rw [hi] at h1
    have h2 := pr_some h3
    simp only [Op.intArith] at h2
    injection h2 with h2
    subst h2
    exact ⟨rfl, _, .int _ _, fun w => by simp [execOp, h1.inv_int, Op.unary, Op.intArith]⟩
  · rename_i k i hi
    obtain ⟨h3, rfl⟩ := ofO_val h
    rw [hi] at h1
    have h2 := pr_some h3
    simp only [Op.intBits] at h2
    injection h2 with h2
    subst h2
    exact ⟨rfl, _, .int _ _, fun w => by simp [execOp, h1.inv_int, Op.unary, Op.intBits]⟩
  · rename_i b hi
    simp only [ARes.val.injEq] at h
    obtain ⟨rfl, rfl⟩ := h
    rw [hi] at h1
    exact ⟨rfl, _, .bool _, fun w => by simp [execOp, h1.inv_bool, Op.unary]⟩
  · cases h

end Go.Proofs.YtedemfmafdilmaaDoor.Ev
