/- Functions without a body, as the model runs them. Conditions: none. -/
import Derived.Test.YtedemfmafdilmaaDoorEvU
import Derived.KernelRfl
import Derived.Laws.Externs
namespace Go.Proofs.YtedemfmafdilmaaDoor.Ev

variable {P : Program}

def add64 : List Value → Option Value
  | [.int .u64 x, .int .u64 y, .int .u64 c] =>
    if 0 ≤ x ∧ 0 ≤ y ∧ 0 ≤ c ∧ c ≤ 1 then some (.tuple #[.int .u64 ((x + y + c) % 18446744073709551616), .int .u64 ((x + y + c) / 18446744073709551616)]) else none
  | _ => none

theorem vl_three {n : Nat} {ρ : Nat → Place} {a b c : Value} {args' : Array Value} (h : VL n ρ [a, b, c] args'.toList) : ∃ a' b' c', args' = #[a', b', c'] ∧ VR n ρ a a' ∧ VR n ρ b b' ∧ VR n ρ c c' := by
  obtain ⟨l⟩ := args'
  rcases l with _ | ⟨a', _ | ⟨b', _ | ⟨c', _ | ⟨d, l⟩⟩⟩⟩ <;> first | (have := h.1; simp at this; done) | skip
  exact ⟨a', b', c', rfl, h.head, h.tail.head, h.tail.tail.head⟩

theorem add64_ok {f : FuncId} {fn : Func} (hf : P.funcs[f]? = some fn) (hb : fn.body.isNone = true) (hn : (fn.name == "runtime.NumGoroutine") = false)
    (hnext : Extern.findNext fn = none) (hfind : Extern.find fn = some add64Entry) :
    ∀ (args : List Value) (v : Value), add64 args = some v → closedV v = true ∧ ∀ (n : Nat) (ρ : Nat → Place) (args' : Array Value), VL n ρ args args'.toList → ∀ w, (callFunc f args').run P w = .ok (.value v) w := by
  intro args v h
  unfold add64 at h
  split at h
  · rename_i x y c
    split at h
    · rename_i hc
      cases h
      refine ⟨by simp [closedV, closed1], ?_⟩
      intro n ρ args' hl w
      obtain ⟨a', b', c', rfl, ha, hb', hc'⟩ := vl_three hl
      cases ha; cases hb'; cases hc'
      rw [run_callFunc_extern hf hn hb hnext hfind, run_add64 x y c hc.1 hc.2.1 hc.2.2.1 hc.2.2.2 w]
      rfl
    · cases h
  · cases h

end Go.Proofs.YtedemfmafdilmaaDoor.Ev
