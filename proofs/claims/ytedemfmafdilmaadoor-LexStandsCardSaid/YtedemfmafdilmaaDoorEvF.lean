/- The pure operations of the evaluator are the model's: conversions, slices, places, parts. Conditions: none. -/
import Derived.Test.YtedemfmafdilmaaDoorEvE
namespace Go.Proofs.YtedemfmafdilmaaDoor.Ev

variable {P : Program} {N G n : Nat} {ρ : Nat → Place}
variable {dst : Option Nat} {ty : TypeId} {pos : String} {after : Array Edge} {guard : Option (Nat × Bool)}

theorem pure_conv {s d : TypeId} {j k : IntKind} {x : Operand} (hx : okO N G x = true) (hs : P.underlying s = some (.int j)) (hd : P.underlying d = some (.int k)) :
    PureOK P N G n ρ ⟨dst, .convert s d x, ty, pos, after, guard⟩ (.conv k x) := by
  intro e a H H' v hf h
  have h1 := hf.op hx
  simp only [aop] at h
  split at h
  · rename_i q i hi
    simp only [ARes.val.injEq] at h
    obtain ⟨rfl, rfl⟩ := h
    rw [hi] at h1
    refine ⟨rfl, _, .int _ _, fun w => ?_⟩
    simp [execOp, h1.inv_int, convert, run_und hs, run_und hd, Conv.intToInt]
  · cases h

theorem pure_convId {s d : TypeId} {x : Operand} (hx : okO N G x = true) (hs : P.underlying s = some .string) (hd : P.underlying d = some .string) :
    PureOK P N G n ρ ⟨dst, .convert s d x, ty, pos, after, guard⟩ (.idStr x) := by
  intro e a H H' v hf h
  have h1 := hf.op hx
  simp only [aop] at h
  split at h
  · rename_i t ht
    simp only [ARes.val.injEq] at h
    obtain ⟨rfl, rfl⟩ := h
    rw [ht] at h1
    refine ⟨rfl, _, .string _, fun w => ?_⟩
    simp [execOp, h1.inv_string, convert, run_und hs, run_und hd]
  · cases h

theorem pure_mkIface {t : TypeId} {d : TypeDesc} {x : Operand} (hx : okO N G x = true) (hu : P.underlying t = some d) (hd : ∀ m, d ≠ .interface m) :
    PureOK P N G n ρ ⟨dst, .makeInterface t x, ty, pos, after, guard⟩ (.mkIface t x) := by
  intro e a H H' v hf h
  simp only [aop, ARes.val.injEq] at h
  obtain ⟨rfl, rfl⟩ := h
  refine ⟨rfl, _, .iface _ _ _ (hf.op hx), fun w => ?_⟩
  simp only [execOp, Instr.makeInterface, Sem.run_bind, run_und hu, Result.andThen_ok]
  rfl

theorem vl_ops {e : Env} {a : Act} (hf : Fits G N n ρ e a) (l : List Operand) (h : l.all (okO N G) = true) : VL n ρ (l.map (aev e)) (l.map a.eval) :=
  VL.map l _ _ fun x hx => hf.op (List.all_eq_true.1 h x hx)

theorem pure_mkFunc {f : FuncId} {first captured : Array Operand} (h1 : first.toList.all (okO N G) = true) (h2 : captured.toList.all (okO N G) = true) :
    PureOK P N G n ρ ⟨dst, .makeFunc (.func f) first captured, ty, pos, after, guard⟩ (.mkFunc f first.toList captured.toList) := by
  intro e a H H' v hf h
  simp only [aop, ARes.val.injEq] at h
  obtain ⟨rfl, rfl⟩ := h
  have a1 := VL.arrays (c := ((first.toList.map (aev e)).toArray)) (c' := first.map a.eval) (by simpa using vl_ops hf _ h1)
  have a2 := VL.arrays (c := ((captured.toList.map (aev e)).toArray)) (c' := captured.map a.eval) (by simpa using vl_ops hf _ h2)
  exact ⟨rfl, _, .func _ _ _ _ _ a1.1 a2.1 a1.2 a2.2, fun w => by simp [execOp, Instr.makeFunc]⟩

theorem bound_none {e : Env} {d m r : Nat} (h : bound e none d m = some r) : r = d := by simp only [bound] at h; exact (Option.some.inj h).symm

theorem bound_some {e : Env} {x : Operand} {d m r : Nat} (h : bound e (some x) d m = some r) : ∃ k i, aev e x = .int k i ∧ 0 ≤ i ∧ i ≤ m ∧ r = i.toNat := by
  simp only [bound] at h
  split at h
  · rename_i k i hi
    split at h
    · rename_i hc
      exact ⟨k, i, hi, hc.1, hc.2, (Option.some.inj h).symm⟩
    · cases h
  · cases h

theorem run_bound {e : Env} {a : Act} (hf : Fits G N n ρ e a) {x : Operand} (hx : okO N G x = true) {d m m' r : Nat} {c : BoundsCode} (h : bound e (some x) d m = some r) (hm : m ≤ m') (w : World) :
    (Instr.sliceBound (a.eval x) m' c).run P w = .ok r w := by
  obtain ⟨k, i, hi, h0, h1, rfl⟩ := bound_some h
  have h2 := hf.op hx
  rw [hi] at h2
  simp only [Instr.sliceBound, h2.inv_int, asIntOf]
  simp only [Sem.run_bind, Sem.run_pure, Result.andThen_ok]
  rw [if_pos ⟨h0, by omega⟩]
  rfl

theorem bound_le {e : Env} {x : Option Operand} {d m r : Nat} (h : bound e x d m = some r) (hd : d ≤ m) : r ≤ m := by
  cases x with
  | none => rw [bound_none h]; exact hd
  | some x => obtain ⟨k, i, hi, h0, h1, rfl⟩ := bound_some h; omega

/-- The model's bounds, where there is no third one: the capacity may be greater than ours. -/
theorem run_bounds {e : Env} {a : Act} (hf : Fits G N n ρ e a) {lo hi : Option Operand} (hlo : optOk N G lo = true) (hhi : optOk N G hi = true) {len cap cap' h l : Nat} {isS : Bool}
    (hh : bound e hi len cap = some h) (hl : bound e lo 0 h = some l) (hc : cap ≤ cap') (w : World) :
    (Instr.sliceBounds isS len cap' (lo.map a.eval) (hi.map a.eval) none).run P w = .ok (l, h, cap') w := by
  unfold Instr.sliceBounds
  cases hi with
  | none =>
    have := bound_none hh
    subst this
    cases lo with
    | none => have := bound_none hl; subst this; rfl
    | some x =>
      simp only [Option.map_none, Option.map_some, Sem.run_bind, Sem.run_pure, Result.andThen_ok]
      simp only [run_bound hf hlo hl (Nat.le_refl _), Result.andThen_ok]
  | some y =>
    simp only [Option.map_some, Sem.run_bind, Sem.run_pure, Result.andThen_ok]
    rw [run_bound hf hhi hh hc]
    cases lo with
    | none => have := bound_none hl; subst this; rfl
    | some x =>
      simp only [Option.map_some, Sem.run_bind, Sem.run_pure, Result.andThen_ok]
      simp only [run_bound hf hlo hl (Nat.le_refl _), Result.andThen_ok]

theorem pure_slStr {t : TypeId} {x : Operand} {lo hi : Option Operand} (hx : okO N G x = true) (hlo : optOk N G lo = true) (hhi : optOk N G hi = true) (hu : P.underlying t = some .string) :
    PureOK P N G n ρ ⟨dst, .slice t x lo hi none, ty, pos, after, guard⟩ (.slStr x lo hi) := by
  intro e a H H' v hf h
  have h1 := hf.op hx
  simp only [aop] at h
  split at h
  · rename_i s hs
    rw [hs] at h1
    split at h
    · cases h
    · rename_i hh hhb
      split at h
      · cases h
      · rename_i l hlb
        simp only [ARes.val.injEq] at h
        obtain ⟨rfl, rfl⟩ := h
        refine ⟨rfl, _, .string _, fun w => ?_⟩
        simp only [execOp, Instr.sliceAt, Instr.slice, Sem.run_bind, run_und hu, Result.andThen_ok, h1.inv_string, Option.map_none, Option.isSome_none]
        rw [if_neg (by simp)]
        simp only [Sem.run_bind, run_bounds hf hlo hhi hhb hlb (Nat.le_refl _), Result.andThen_ok]
        rfl
  · cases h

theorem pure_slSl {t el : TypeId} {u : Nat} {x : Operand} {lo hi : Option Operand} (hx : okO N G x = true) (hlo : optOk N G lo = true) (hhi : optOk N G hi = true)
    (hu : P.underlying t = some (.slice el)) (hs : szOf P el = some u) : PureOK P N G n ρ ⟨dst, .slice t x lo hi none, ty, pos, after, guard⟩ (.slSl u x lo hi) := by
  intro e a H H' v hf h
  have h1 := hf.op hx
  simp only [aop] at h
  split at h
  · rename_i ad len c hs2
    rw [hs2] at h1
    split at h
    · cases h
    · rename_i hh hhb
      split at h
      · cases h
      · rename_i l hlb
        rcases h1.inv_slice with ⟨rfl, rfl, rfl, hv⟩ | ⟨b, o, c', rfl, hb, hc0, hc1, hc2, hv⟩ | ⟨b, o, k, a', c', rfl, rfl, rfl, hv⟩
        · simp only [ARes.val.injEq] at h
          obtain ⟨rfl, rfl⟩ := h
          have e1 := bound_le hhb (Nat.le_refl _)
          have e2 := bound_le hlb (Nat.zero_le _)
          have : hh = 0 := by omega
          subst this
          have : l = 0 := by omega
          subst this
          refine ⟨rfl, _, .slNil, fun w => ?_⟩
          simp only [execOp, Instr.sliceAt, Instr.slice, Sem.run_bind, run_und hu, Result.andThen_ok, hv, Option.map_none, run_bounds hf hlo hhi hhb hlb (Nat.le_refl _), run_size hs]
          rfl
        · simp only [ARes.val.injEq] at h
          obtain ⟨rfl, rfl⟩ := h
          have e2 : l ≤ hh := bound_le hlb (Nat.zero_le _)
          by_cases hcl : c = l ∧ l ≠ 0
          · rw [if_pos hcl]
            have e1 : hh ≤ c ∨ hh = len := by
              cases hi with
              | none => exact .inr (bound_none hhb)
              | some y => obtain ⟨k, i, hi, h0, h1, rfl⟩ := bound_some hhb; exact .inl (by omega)
            refine ⟨rfl, .slice (some (if c' = l then ⟨(ρ b).blk, (ρ b).off + o, none⟩ else ⟨(ρ b).blk, (ρ b).off + o + l * u, none⟩)) (hh - l) (c' - l), ?_, fun w => ?_⟩
            · have z1 : hh - l = 0 := by omega
              have z2 : c - l = 0 := by omega
              rw [z1, z2]
              exact .slE _ _ _ _ _
            · simp only [execOp, Instr.sliceAt, Instr.slice, Sem.run_bind, run_und hu, Result.andThen_ok, hv, Option.map_none, run_bounds hf hlo hhi hhb hlb hc1, run_size hs, Option.map_some, add_spot, Sem.run_pure]
              split <;> rfl
          · rw [if_neg hcl]
            have e1 : hh ≤ c := bound_le hhb hc0
            refine ⟨rfl, .slice (some ⟨(ρ b).blk, (ρ b).off + (o + l * u), none⟩) (hh - l) (c' - l), (.sl _ _ _ _ _ hb ?_ (by omega) ?_), fun w => ?_⟩
            · omega
            · omega
            simp only [execOp, Instr.sliceAt, Instr.slice, Sem.run_bind, run_und hu, Result.andThen_ok, hv, Option.map_none, run_bounds hf hlo hhi hhb hlb hc1, run_size hs, Option.map_some, add_spot, Sem.run_pure]
            split
            · rename_i hcl2
              have : l = 0 := by omega
              subst this
              simp
            · simp [Nat.add_assoc]
        · simp only [ARes.val.injEq] at h
          obtain ⟨rfl, rfl⟩ := h
          have e1 := bound_le hhb (Nat.le_refl _)
          have e2 := bound_le hlb (Nat.zero_le _)
          have : hh = 0 := by omega
          subst this
          have : l = 0 := by omega
          subst this
          refine ⟨rfl, .slice (some (if c' = 0 then a' else a'.add (0 * u))) 0 c', .slE _ _ _ _ _, fun w => ?_⟩
          simp only [execOp, Instr.sliceAt, Instr.slice, Sem.run_bind, run_und hu, Result.andThen_ok, hv, Option.map_none, run_bounds hf hlo hhi hhb hlb (Nat.zero_le _), run_size hs, Option.map_some, Sem.run_pure]
          split <;> rfl
  · cases h

end Go.Proofs.YtedemfmafdilmaaDoor.Ev
