/- From the evaluator's answer to what a call does: the law's row wants no more. Conditions: none. -/
import Derived.Test.YtedemfmafdilmaaDoorEvU
import Derived.Below
namespace Go.Proofs.YtedemfmafdilmaaDoor.Ev
open Go.RowKit
variable {P : Program} {G : Nat}

theorem run_enter {T : Table} (hT : TableOK P G T) {f : FuncId} {n : Nat} {body : ACode} {rs : List AResult} (hf : T f = some (.code n body rs)) (args' : Array Value) (w : World) :
    (callFunc f args').run P w = .ok (.enter f args') w := by
  obtain ⟨fn, hfn, hprep⟩ := hT f _ hf
  unfold prepFn at hprep
  split at hprep
  · cases hprep
  · rename_i c hbody
    split at hprep
    · cases hprep
    · rename_i hname
      have hn2 : (fn.name == "runtime.NumGoroutine") = false := by simpa using hname
      unfold callFunc
      simp only [Sem.run_bind, run_program, Result.andThen_ok, hfn, hn2, Bool.false_eq_true, if_false, hbody, Option.isNone_some, Sem.run_pure]

theorem ev_calls {T : Table} (hm : P.follows .mixedOrders = true) (hT : TableOK P G T) {k : Nat} {f : FuncId} {n : Nat} {body : ACode} {rs : List AResult} (hf : T f = some (.code n body rs))
    {args : List Value} {H H1 : Heap} {res : FRes} (hev : evalFn T k f args H = some (res, H1)) {ρ : Nat → Place} {w : World} {args' : Array Value} (hr : Rel G ρ H w) (ha : VL H.length ρ args args'.toList) :
    Calls P f args' w (RetOK G ρ H w res H1) := by
  rcases fn_sound hm hT k f args H res H1 hev ρ w args' hr ha with ⟨v, v', _, _, h, _⟩ | ⟨_, h⟩
  · rw [run_enter hT hf] at h
    cases h
  · exact h

/-- A heap in which nothing may be written: the call leaves all that stood as it was. -/
theorem ev_true {T : Table} (hm : P.follows .mixedOrders = true) (hT : TableOK P G T) {k : Nat} {f : FuncId} {n : Nat} {body : ACode} {rs : List AResult} (hf : T f = some (.code n body rs))
    {args : List Value} {H H1 : Heap} {b : Bool} (hev : evalFn T k f args H = some (.ret (.bool b), H1)) {ρ : Nat → Place} {w : World} {args' : Array Value} (hr : Rel G ρ H w) (ha : VL H.length ρ args args'.toList)
    (hro : ∀ o ∈ H, o.wrt = false) : Calls P f args' w fun e w' => e = .returned (.bool b) ∧ Below w.heap.size w w' := by
  refine (ev_calls hm hT hf hev hr ha).mono fun e w' h => ?_
  obtain ⟨ρ', hs, v', rfl, hv⟩ := h
  refine ⟨by rw [hv.inv_bool], hs.os, hs.tape, hs.output, hs.size, fun c hc => hs.frame c hc ?_⟩
  rintro ⟨b, o, hb, ho, _⟩
  have := hro o (List.mem_of_getElem? hb)
  rw [ho] at this
  cases this

theorem VL.nil' {n : Nat} {ρ : Nat → Place} : VL n ρ [] [] := ⟨rfl, fun i a b h => by simp at h⟩

theorem VL.cons' {n : Nat} {ρ : Nat → Place} {a b : Value} {l m : List Value} (h : VR n ρ a b) (hl : VL n ρ l m) : VL n ρ (a :: l) (b :: m) := by
  refine ⟨by simp [hl.1], fun i x y hx hy => ?_⟩
  cases i with
  | zero =>
    simp at hx hy
    subst hx; subst hy
    exact h
  | succ i => exact hl.2 i x y (by simpa using hx) (by simpa using hy)

end Go.Proofs.YtedemfmafdilmaaDoor.Ev
