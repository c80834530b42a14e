/- Every operation that the evaluator takes is the model's. Conditions: none. -/
import Derived.Test.YtedemfmafdilmaaDoorEvL
namespace Go.Proofs.YtedemfmafdilmaaDoor.Ev

variable {P : Program} {N G n : Nat} {ρ : Nat → Place}
variable {dst : Option Nat} {ty : TypeId} {pos : String} {after : Array Edge} {guard : Option (Nat × Bool)}

/-- What has to be shown of an operation: it does as the model's; if it is still and no load, in every world alike. -/
def Shape (ao : AOp) : Prop := ∀ e H, (∃ v H', aop e H ao = .val v H') ∨ aop e H ao = .no

def OpOK (P : Program) (N G : Nat) (o : Oper) (ao : AOp) : Prop :=
  HeapOK P N G o ao ∧ (stillOp P o.op = true → isLoad o.op = false → ∀ n ρ, PureOK P N G n ρ o ao) ∧ (stillOp P o.op = true → Shape ao)

theorem OpOK.pure {o : Oper} {ao : AOp} (hs : ∀ e H, (∃ v H', aop e H ao = .val v H') ∨ aop e H ao = .no) (h : ∀ n ρ, PureOK P N G n ρ o ao) : OpOK P N G o ao := ⟨HeapOK.of_pure hs h, fun _ _ => h, fun _ => hs⟩

theorem OpOK.heap {o : Oper} {ao : AOp} (h : HeapOK P N G o ao) (hs : stillOp P o.op = false ∨ (isLoad o.op = true ∧ Shape ao)) : OpOK P N G o ao :=
  ⟨h, fun h1 h2 => by rcases hs with hs | hs <;> simp_all, fun h1 => by rcases hs with hs | hs <;> simp_all⟩

theorem ofO_shape (o : Option Value) (H : Heap) : (∃ v H', ofO o H = .val v H') ∨ ofO o H = .no := by
  cases o with
  | none => exact .inr rfl
  | some v => exact .inl ⟨_, _, rfl⟩

theorem bin_ok {op : BinOp} {t yt : TypeId} {x y : Operand} {ao : AOp} (hx : okO N G x = true) (hy : okO N G y = true) (h : prepBin P op t x y = some ao) : OpOK P N G ⟨dst, .binOp op t x y yt, ty, pos, after, guard⟩ ao := by
  have hbin : OpOK P N G ⟨dst, .binOp op t x y yt, ty, pos, after, guard⟩ (.bin op x y) := OpOK.pure (fun e H => ofO_shape _ _) fun n ρ => pure_bin hx hy
  have eqv : (op = .eql ∨ op = .neq) → OpOK P N G ⟨dst, .binOp op t x y yt, ty, pos, after, guard⟩ ao := by
    intro hop
    have h2 : (match P.underlying t with
      | some (.int _) | some .string => some (AOp.bin op x y)
      | some .bool => some (.eqb (isNeq op) x y)
      | some (.pointer el) =>
        match szOf P el with
        | some (_ + 1) => some (.eqp 0 (isNeq op) x y)
        | _ => none
      | some (.slice _) => some (.eqp 1 (isNeq op) x y)
      | some (.func _ _ _) => some (.eqp 2 (isNeq op) x y)
      | some (.struct _) | some (.array _ _) => match fitsFlat P t, szOf P t with
        | some l, some sz => some (.eqs (isNeq op) sz l x y)
        | _, _ => none
      | _ => none) = some ao := by
      rcases hop with rfl | rfl <;> exact h
    split at h2
    · cases h2; exact hbin
    · cases h2; exact hbin
    · rename_i hu
      cases h2
      exact OpOK.pure (fun e H => ofO_shape _ _) fun n ρ => pure_eqb hx hy hu hop
    · rename_i el hu
      split at h2
      · rename_i s hs
        cases h2
        exact OpOK.heap (heap_eqp hx hy hop (.inl ⟨rfl, el, s, hu, hs⟩)) (.inl (by simp only [stillOp, hu]; rcases hop with rfl | rfl <;> rfl))
      · cases h2
    · rename_i el hu
      cases h2
      exact OpOK.heap (heap_eqp hx hy hop (.inr (.inl ⟨rfl, el, hu⟩))) (.inl (by simp only [stillOp, hu]; rcases hop with rfl | rfl <;> rfl))
    · rename_i ps rs vv hu
      cases h2
      exact OpOK.heap (heap_eqp hx hy hop (.inr (.inr ⟨rfl, ps, rs, vv, hu⟩))) (.inl (by simp only [stillOp, hu]; rcases hop with rfl | rfl <;> rfl))
    · rename_i fs hu
      split at h2
      · rename_i l sz hl hsz
        cases h2
        exact OpOK.pure (fun e H => by simp only [aop]; (repeat' split) <;> first | exact .inr rfl | exact ofO_shape _ _) fun n ρ => pure_eqs hx hy hl hsz (by simp [aggT, hu]) hop
      · cases h2
    · rename_i m el hu
      split at h2
      · rename_i l sz hl hsz
        cases h2
        exact OpOK.pure (fun e H => by simp only [aop]; (repeat' split) <;> first | exact .inr rfl | exact ofO_shape _ _) fun n ρ => pure_eqs hx hy hl hsz (by simp [aggT, hu]) hop
      · cases h2
    · cases h2
  cases op <;> first
    | exact eqv (.inl rfl)
    | exact eqv (.inr rfl)
    | (simp only [prepBin] at h; cases h; exact hbin)

theorem call_ok {c : Call} {ao : AOp} (h : prepCall P N G c = some ao) : OpOK P N G ⟨dst, .call c, ty, pos, after, guard⟩ ao := by
  unfold prepCall at h
  split at h
  · cases h
  · rename_i hargs
    have hx : c.args.toList.all (okO N G) = true := by simpa using hargs
    have one : ∀ {x : Operand}, c.args.toList = [x] → okO N G x = true := fun e => by rw [e] at hx; simpa using hx
    have two : ∀ {x y : Operand}, c.args.toList = [x, y] → okO N G x = true ∧ okO N G y = true := fun e => by rw [e] at hx; simpa using hx
    split at h
    · rename_i f hc
      split at h
      · rename_i hf
        cases h
        exact OpOK.heap (heap_callv hc hf hx) (.inl (by simp [stillOp, hc]))
      · cases h
    · cases h
    · rename_i hc
      split at h
      · rename_i t x ht ha
        split at h
        · rename_i hu
          cases h
          exact OpOK.pure (fun e H => by simp only [aop]; (repeat' split) <;> first | exact .inr rfl | exact .inl ⟨_, _, rfl⟩) fun n ρ => pure_lenStr hc ha ht (one ha) hu
        · rename_i el hu
          cases h
          exact OpOK.pure (fun e H => by simp only [aop]; (repeat' split) <;> first | exact .inr rfl | exact .inl ⟨_, _, rfl⟩) fun n ρ => pure_lenSl hc ha ht (one ha) hu
        · rename_i m el hu
          cases h
          exact OpOK.pure (fun e H => .inl ⟨_, _, rfl⟩) fun n ρ => pure_lenK hc ha ht (.inl hu)
        · rename_i t' hu
          split at h
          · rename_i m el hu'
            cases h
            exact OpOK.pure (fun e H => .inl ⟨_, _, rfl⟩) fun n ρ => pure_lenK hc ha ht (.inr ⟨t', hu, hu'⟩)
          · cases h
        · cases h
      · cases h
    · rename_i hc
      split at h
      · rename_i t u s x ht hu' ha
        split at h
        · rename_i el xl hu hxt
          split at h
          · rename_i n b z hs hb hz
            split at h
            · rename_i hzl
              cases h
              exact OpOK.heap (heap_append hc ha (two ha).1 (two ha).2 ht hu' hu hxt (fun k e => by cases e) hs hb hz (by omega) (by omega) hzl) (.inl (by simp [stillOp, hc]))
            · cases h
          · cases h
        · rename_i el hu hxt
          split at h
          · rename_i n b z hs hb hz
            split at h
            · rename_i hzl
              cases h
              exact OpOK.heap (heap_append hc ha (two ha).1 (two ha).2 ht hu' hu hxt (fun k e => by cases e) hs hb hz (by omega) (by omega) hzl) (.inl (by simp [stillOp, hc]))
            · cases h
          · cases h
        · cases h
      · cases h
    · rename_i hc
      split at h
      · rename_i t d s ht ha
        split at h
        · rename_i el hu
          obtain ⟨m, hm, rfl⟩ := Option.map_eq_some_iff.1 h
          exact OpOK.heap (heap_copy hc ha (two ha).1 (two ha).2 ht hu hm) (.inl (by simp [stillOp, hc]))
        · cases h
      · cases h
    · rename_i hc
      cases h
      exact OpOK.pure (fun e H => by simp only [aop]; split <;> first | exact .inr rfl | exact ofO_shape _ _) fun n ρ => pure_mm (big := true) hc hx
    · rename_i hc
      cases h
      exact OpOK.pure (fun e H => by simp only [aop]; split <;> first | exact .inr rfl | exact ofO_shape _ _) fun n ρ => pure_mm (big := false) hc hx
    · rename_i hc
      split at h
      · rename_i x ha
        cases h
        refine OpOK.heap (heap_panic (one ha) fun a w => ?_) (.inl (by simp [stillOp, hc]))
        have : c.args = #[x] := by rw [← Array.toArray_toList (xs := c.args), ha]
        simp [execOp, resolve, hc, invoke, builtin, this]
      · cases h
    · cases h

end Go.Proofs.YtedemfmafdilmaaDoor.Ev
