/- Every operation that the evaluator takes is the model's: the whole. Conditions: none. -/
import Derived.Test.YtedemfmafdilmaaDoorEvM
namespace Go.Proofs.YtedemfmafdilmaaDoor.Ev

variable {P : Program} {N G n : Nat} {ρ : Nat → Place}

theorem op_ok {o : Oper} {ao : AOp} (h : prepOp P N G o.op = some ao) : OpOK P N G o ao := by
  obtain ⟨dst, op, ty, pos, after, guard⟩ := o
  unfold prepOp at h
  simp only at h
  split at h
  · -- move
    rename_i x
    split at h
    · cases h; exact OpOK.pure (fun e H => .inl ⟨_, _, rfl⟩) fun n ρ => pure_mov (by assumption) _ fun ev => rfl
    · cases h
  · -- assign
    split at h
    · cases h; exact OpOK.pure (fun e H => .inl ⟨_, _, rfl⟩) fun n ρ => pure_mov (by assumption) _ fun ev => rfl
    · cases h
  · -- pick
    split at h
    · rename_i hq
      cases h
      simp only [Bool.and_eq_true] at hq
      exact OpOK.pure (fun e H => by simp only [aop]; split <;> first | exact .inr rfl | exact .inl ⟨_, _, rfl⟩) fun n ρ => pure_pick hq.1.1 hq.1.2 hq.2
    · cases h
  · -- alloc
    obtain ⟨z, hz, rfl⟩ := Option.map_eq_some_iff.1 h
    exact OpOK.heap (heap_alloc hz) (.inl rfl)
  · -- box
    split at h
    · cases h; exact OpOK.heap (heap_box (by assumption)) (.inl rfl)
    · cases h
  · -- build
    rename_i t parts
    have hp : prepOp P N G (.build t parts) = some ao := by unfold prepOp; exact h
    refine OpOK.pure ?_ fun n ρ => pure_build hp
    split at h
    · split at h
      · obtain ⟨ps, _, rfl⟩ := Option.map_eq_some_iff.1 h
        exact fun e H => by simp only [aop]; split <;> first | exact .inr rfl | exact .inl ⟨_, _, rfl⟩
      · cases h
    · split at h
      · obtain ⟨ps, _, rfl⟩ := Option.map_eq_some_iff.1 h
        exact fun e H => by simp only [aop]; split <;> first | exact .inr rfl | exact .inl ⟨_, _, rfl⟩
      · cases h
    · cases h
  · -- buildSlice
    rename_i t len parts
    split at h
    · rename_i el hu
      split at h
      · rename_i s z hs hz
        split at h
        · rename_i hc
          obtain ⟨ps, hps, rfl⟩ := Option.map_eq_some_iff.1 h
          exact OpOK.heap (heap_buildSlice hu hs hz hc.1 hc.2.2.2 (.inr hc.2.1) rfl hps) (.inl rfl)
        · split at h
          · rename_i hc
            obtain ⟨ps, hps, rfl⟩ := Option.map_eq_some_iff.1 h
            obtain ⟨h0, rfl⟩ := hc
            exact OpOK.heap (heap_buildSlice hu hs hz h0 (by omega) (.inl rfl) rfl hps) (.inl rfl)
          · cases h
      · cases h
    · cases h
  · -- load
    rename_i t x
    split at h
    · rename_i hx
      split at h
      · rename_i m ha hs
        cases h; exact OpOK.heap (heap_loadN hx ha hs) (.inr ⟨rfl, fun e H => by simp only [aop]; (repeat' split) <;> first | exact .inr rfl | exact .inl ⟨_, _, rfl⟩⟩)
      · rename_i ha
        cases h; exact OpOK.heap (heap_load1 hx ha) (.inr ⟨rfl, fun e H => by simp only [aop]; (repeat' split) <;> first | exact .inr rfl | exact ofO_shape _ _⟩)
      · cases h
    · cases h
  · -- store
    split at h
    · rename_i hq
      simp only [Bool.and_eq_true] at hq
      obtain ⟨m, hm, rfl⟩ := Option.map_eq_some_iff.1 h
      exact OpOK.heap (heap_store hq.1 hq.2 hm) (.inl rfl)
    · cases h
  · -- nilCheck
    split at h
    · cases h
      exact OpOK.pure (fun e H => by simp only [aop]; split <;> first | exact .inr rfl | exact .inl ⟨_, _, rfl⟩) fun n ρ => pure_nilChk (by assumption)
    · cases h
  · -- binOp
    split at h
    · rename_i hq
      simp only [Bool.and_eq_true] at hq
      exact bin_ok hq.1 hq.2 h
    · cases h
  · -- unOp
    split at h
    · cases h
      exact OpOK.pure (fun e H => by simp only [aop]; split <;> first | exact .inr rfl | exact ofO_shape _ _ | exact .inl ⟨_, _, rfl⟩) fun n ρ => pure_un (by assumption)
    · cases h
  · -- convert
    rename_i s d x
    split at h
    · rename_i hx
      split at h
      · rename_i j k hs hd
        cases h
        exact OpOK.pure (fun e H => by simp only [aop]; split <;> first | exact .inr rfl | exact .inl ⟨_, _, rfl⟩) fun n ρ => pure_conv hx hs hd
      · rename_i hs hd
        cases h
        exact OpOK.pure (fun e H => by simp only [aop]; split <;> first | exact .inr rfl | exact .inl ⟨_, _, rfl⟩) fun n ρ => pure_convId hx hs hd
      · rename_i el hs hd
        split at h
        · rename_i hel
          cases h
          exact OpOK.heap (heap_s2b hx hs hd hel) (.inl (by simp [stillOp, hs, hd]))
        · cases h
      · rename_i el hs hd
        split at h
        · rename_i hel
          cases h
          exact OpOK.heap (heap_b2s hx hs hd hel) (.inl (by simp [stillOp, hs, hd]))
        · cases h
      · cases h
    · cases h
  · -- makeInterface
    split at h
    · rename_i hx
      split at h
      · cases h
      · rename_i d hn hu
        cases h
        exact OpOK.pure (fun e H => .inl ⟨_, _, rfl⟩) fun n ρ => pure_mkIface hx hu fun m e => hn m e
      · cases h
    · cases h
  · -- makeFunc
    split at h
    · rename_i hq
      simp only [Bool.and_eq_true] at hq
      cases h
      exact OpOK.pure (fun e H => .inl ⟨_, _, rfl⟩) fun n ρ => pure_mkFunc hq.1 hq.2
    · cases h
  · -- makeSlice
    split at h
    · rename_i hq
      simp only [Bool.and_eq_true] at hq
      split at h
      · rename_i el hu
        split at h
        · rename_i s b z hs hb hz
          split at h
          · rename_i hc
            cases h
            exact OpOK.heap (heap_mkSlice hq.1 hq.2 hu hs hb hz hc.1 hc.2) (.inl rfl)
          · cases h
        · cases h
      · cases h
    · cases h
  · -- slice
    split at h
    · rename_i hq
      simp only [Bool.and_eq_true] at hq
      split at h
      · rename_i hu
        cases h
        exact OpOK.pure (fun e H => by simp only [aop]; (repeat' split) <;> first | exact .inr rfl | exact .inl ⟨_, _, rfl⟩) fun n ρ => pure_slStr hq.1.1 hq.1.2 hq.2 hu
      · rename_i el hu
        obtain ⟨s, hs, rfl⟩ := Option.map_eq_some_iff.1 h
        exact OpOK.pure (fun e H => by simp only [aop]; (repeat' split) <;> first | exact .inr rfl | exact .inl ⟨_, _, rfl⟩) fun n ρ => pure_slSl hq.1.1 hq.1.2 hq.2 hu hs
      · rename_i m el hu
        obtain ⟨s, hs, rfl⟩ := Option.map_eq_some_iff.1 h
        exact OpOK.pure (fun e H => by simp only [aop]; (repeat' split) <;> first | exact .inr rfl | exact .inl ⟨_, _, rfl⟩) fun n ρ => pure_slArr hq.1.1 hq.1.2 hq.2 hs (.inl hu)
      · rename_i t' hu
        split at h
        · rename_i m el hu'
          obtain ⟨s, hs, rfl⟩ := Option.map_eq_some_iff.1 h
          exact OpOK.pure (fun e H => by simp only [aop]; (repeat' split) <;> first | exact .inr rfl | exact .inl ⟨_, _, rfl⟩) fun n ρ => pure_slArr hq.1.1 hq.1.2 hq.2 hs (.inr ⟨t', hu, hu'⟩)
        · cases h
      · cases h
    · cases h
  · -- fieldAddr
    split at h
    · rename_i hx
      split at h
      · rename_i fs hu
        split at h
        · rename_i f hf
          split at h
          · rename_i k hk
            cases h
            exact OpOK.pure (fun e H => by simp only [aop]; split <;> first | exact .inr rfl | exact .inl ⟨_, _, rfl⟩) fun n ρ => pure_fAddr hx hu hf hk
          · cases h
        · cases h
      · cases h
    · cases h
  · -- field
    split at h
    · rename_i hx
      split at h
      · rename_i fs hu
        split at h
        · rename_i f hf
          split at h
          · rename_i m ha hs
            cases h
            exact OpOK.pure (fun e H => by simp only [aop]; (repeat' split) <;> first | exact .inr rfl | exact .inl ⟨_, _, rfl⟩) fun n ρ => pure_fieldN hx hu hf ha hs
          · rename_i ha
            cases h
            exact OpOK.pure (fun e H => by simp only [aop]; split <;> first | exact .inr rfl | exact ofO_shape _ _) fun n ρ => pure_field1 hx hu hf ha
          · cases h
        · cases h
      · cases h
    · cases h
  · -- indexAddr
    split at h
    · rename_i hq
      simp only [Bool.and_eq_true] at hq
      split at h
      · rename_i m el hu
        obtain ⟨s, hs, rfl⟩ := Option.map_eq_some_iff.1 h
        exact OpOK.pure (fun e H => by simp only [aop]; (repeat' split) <;> first | exact .inr rfl | exact .inl ⟨_, _, rfl⟩) fun n ρ => pure_iAddrArr hq.1 hq.2 hu hs
      · rename_i el hu
        obtain ⟨s, hs, rfl⟩ := Option.map_eq_some_iff.1 h
        exact OpOK.pure (fun e H => by simp only [aop]; (repeat' split) <;> first | exact .inr rfl | exact .inl ⟨_, _, rfl⟩) fun n ρ => pure_iAddrSl hq.1 hq.2 hu hs
      · cases h
    · cases h
  · -- index
    split at h
    · rename_i hq
      simp only [Bool.and_eq_true] at hq
      split at h
      · rename_i hu
        cases h
        exact OpOK.pure (fun e H => by simp only [aop]; (repeat' split) <;> first | exact .inr rfl | exact ofO_shape _ _) fun n ρ => pure_idxStr hq.1 hq.2 hu
      · rename_i m el hu
        split at h
        · rename_i s ha hs
          cases h
          exact OpOK.pure (fun e H => by simp only [aop]; (repeat' split) <;> first | exact .inr rfl | exact .inl ⟨_, _, rfl⟩) fun n ρ => pure_idxArrN hq.1 hq.2 hu ha hs
        · rename_i ha hs
          cases h
          exact OpOK.pure (fun e H => by simp only [aop]; (repeat' split) <;> first | exact .inr rfl | exact ofO_shape _ _) fun n ρ => pure_idxArr1 hq.1 hq.2 hu ha hs
        · cases h
      · cases h
    · cases h
  · -- range
    split at h
    · rename_i hx
      split at h
      · rename_i hu
        cases h
        exact OpOK.heap (heap_rng hx hu) (.inl rfl)
      · cases h
    · cases h
  · -- next
    split at h
    · cases h; exact OpOK.heap (heap_nxt (by assumption)) (.inl rfl)
    · cases h
  · -- extract
    split at h
    · cases h
      exact OpOK.pure (fun e H => by simp only [aop]; split <;> first | exact .inr rfl | exact ofO_shape _ _) fun n ρ => pure_extract (by assumption)
    · cases h
  · -- typeAssert
    split at h
    · rename_i hx
      split at h
      · cases h
      · rename_i d hn hu
        cases h
        exact OpOK.pure (fun e H => by simp only [aop]; (repeat' split) <;> first | exact .inr rfl | exact .inl ⟨_, _, rfl⟩) fun n ρ => pure_tAssert hx hu fun m e => hn m e
      · cases h
    · cases h
  · exact call_ok h
  · -- panic
    split at h
    · cases h
      exact OpOK.heap (heap_panic (by assumption) fun a w => rfl) (.inl rfl)
    · cases h
  · cases h

end Go.Proofs.YtedemfmafdilmaaDoor.Ev
