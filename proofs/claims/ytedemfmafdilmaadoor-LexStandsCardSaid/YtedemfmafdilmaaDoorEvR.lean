/- The evaluator's lists of operations are the model's regions, in whatever order these are run. Conditions: none. -/
import Derived.Test.YtedemfmafdilmaaDoorEvQ
namespace Go.Proofs.YtedemfmafdilmaaDoor.Ev

variable {P : Program} {N G : Nat} {ρ : Nat → Place} {ops : Array Oper}

/-- What a call's end has to be. -/
def RetOK (G : Nat) (ρ : Nat → Place) (H : Heap) (w : World) (res : FRes) (H1 : Heap) : Ending → World → Prop := fun e w' =>
  ∃ ρ', Step G ρ H w ρ' H1 w' ∧ match res with
    | .ret v => ∃ v', e = .returned v' ∧ VR H1.length ρ' v v'
    | .pan v => ∃ v', e = .panicked [{ v := v', recovered := false }] ∧ VR H1.length ρ' v v'

def CallOK (P : Program) (G : Nat) (cf : CallFn) : Prop :=
  ∀ (f : FuncId) (args : List Value) (H : Heap) (res : FRes) (H1 : Heap), cf f args H = some (res, H1) → ∀ (ρ : Nat → Place) (w : World) (args' : Array Value), Rel G ρ H w → VL H.length ρ args args'.toList →
    (∃ v v', res = .ret v ∧ H1 = H ∧ (callFunc f args').run P w = .ok (.value v') w ∧ VR H.length ρ v v') ∨
    ((callFunc f args').run P w = .ok (.enter f args') w ∧ Calls P f args' w (RetOK G ρ H w res H1))

def PostOK (G : Nat) (ρ : Nat → Place) (H : Heap) (w : World) (N : Nat) (ds : List Deferred) (r : AExit) (e' : Env) (H' : Heap) : Exit → Act → World → Prop := fun ex a' w' =>
  ∃ ρ', Step G ρ H w ρ' H' w' ∧ a'.defers = ds ∧ match r with
    | .norm => ex = .normal ∧ ER H'.length ρ' N e' a'.tmps
    | .exit id => ex = .exit id ∧ ER H'.length ρ' N e' a'.tmps
    | .ret => ex = .ret ∧ ER H'.length ρ' N e' a'.tmps
    | .pan v => ∃ v', ex = .panic [{ v := v', recovered := false }] ∧ VR H'.length ρ' v v'

theorem PostOK.panic {H : Heap} {w : World} {ds : List Deferred} {r : AExit} {e' : Env} {H' : Heap} {c : List PanicEntry} {a a' : Act} {w' : World} (h : PostOK G ρ H w N ds r e' H' (.panic c) a w') (hd : a'.defers = a.defers) :
    PostOK G ρ H w N ds r e' H' (.panic c) a' w' := by
  obtain ⟨ρ', h1, h2, h3⟩ := h
  refine ⟨ρ', h1, by rw [hd]; exact h2, ?_⟩
  cases r with
  | norm => cases h3.1
  | exit id => cases h3.1
  | ret => cases h3.1
  | pan v => exact h3

theorem PostOK.out {H : Heap} {w : World} {ds : List Deferred} {r : AExit} {e' : Env} {H' : Heap} : ¬ LetsOut (PostOK G ρ H w N ds r e' H') := by
  rintro ⟨a, w', ρ', h1, h2, h3⟩
  cases r with
  | norm => cases h3.1
  | exit id => cases h3.1
  | ret => cases h3.1
  | pan v => obtain ⟨v', h4, _⟩ := h3; cases h4

theorem Fits.step {H H1 : Heap} {ρ1 : Nat → Place} {w w1 : World} {e : Env} {a : Act} (h : Fits G N H.length ρ e a) (hs : Step G ρ H w ρ1 H1 w1) : Fits G N H1.length ρ1 e a :=
  ⟨h.er.mono hs.len hs.same, hs.rel.many, hs.rel.glob⟩

theorem Fits.put {H : Heap} {e : Env} {a : Act} {d : Option Nat} {v v' : Value} (h : Fits G N H.length ρ e a) (hv : VR H.length ρ v v') : Fits G N H.length ρ (putO e d v) (a.put d v') :=
  ⟨h.er.putO hv, h.many, h.glob⟩

theorem wanted_ok {n : Nat} {o : Oper} {ao : AOper} {chk : List (Nat × Nat)} {e : Env} {a : Act} {b : Bool} (hp : prepOper P N G ops o chk = some ao) (hf : Fits G N n ρ e a) (h : wantedA e ao.guard = some b) :
    Region.wanted o (yielded ops a.tmps) = b := by
  unfold prepOper at hp
  split at hp
  · cases hp
  · split at hp
    · split at hp
      · rename_i hg
        cases hp
        simp only [wantedA] at h
        cases h
        simp [Region.wanted, hg]
      · rename_i j want hg
        split at hp
        · rename_i t ht
          split at hp
          · rename_i hlt
            cases hp
            simp only [wantedA] at h
            split at h
            · rename_i q hq
              cases h
              have h1 := hf.er.2 t hlt
              rw [hq] at h1
              have h2 := h1.inv_bool
              have hlt2 : t < a.tmps.size := by rw [hf.er.1]; exact hlt
              have h3 : a.tmps[t]? = some (.bool q) := by
                rw [Array.getD_eq_getD_getElem?, Array.getElem?_eq_getElem hlt2] at h2
                rw [Array.getElem?_eq_getElem hlt2]
                simpa using h2
              simp only [Region.wanted, hg, yielded, ht, Option.bind_some, h3]
              rw [Bool.eq_iff_iff]
              simp
            · rename_i hq
              cases h
              have h1 := hf.er.2 t hlt
              have hlt2 : t < a.tmps.size := by rw [hf.er.1]; exact hlt
              rw [Array.getD_eq_getD_getElem?, Array.getElem?_eq_getElem hlt2] at h1
              simp only [Option.getD_some] at h1
              simp only [Region.wanted, hg, yielded, ht, Option.bind_some, Array.getElem?_eq_getElem hlt2]
              have h2 : ∀ b, a.tmps[t] ≠ .bool b := by
                intro b hb
                rw [hb] at h1
                generalize get e t = x at h1 hq
                cases h1
                exact hq b rfl
              split
              · rename_i b hb
                exact absurd (Option.some.inj hb) (h2 b)
              · rfl
          · cases hp
        · cases hp
    · cases hp

theorem prepOper_op {o : Oper} {ao : AOper} {chk : List (Nat × Nat)} (hp : prepOper P N G ops o chk = some ao) : prepOp P N G o.op = some ao.op ∧ ao.dst = o.dst ∧ ao.chk = chk ∧ (∀ c ∈ chk, c.1 < N) := by
  unfold prepOper at hp
  split at hp
  · cases hp
  · rename_i op hop
    split at hp
    · rename_i hq
      simp only [Bool.and_eq_true] at hq
      have hc : ∀ c ∈ chk, c.1 < N := fun c hc => by simpa using List.all_eq_true.1 hq.2 c hc
      split at hp
      · cases hp; exact ⟨hop, rfl, rfl, hc⟩
      · split at hp
        · split at hp
          · cases hp; exact ⟨hop, rfl, rfl, hc⟩
          · cases hp
        · cases hp
    · cases hp

theorem op_step {cf : CallFn} (hcf : CallOK P G cf) {o : Oper} {ao : AOper} {chk : List (Nat × Nat)} {rest : List AOper} {e e' : Env} {H H' : Heap} {r : AExit} {a : Act} {w : World} {i : Nat} {Q : Exit → Act → World → Prop} {K : Act → World → Prop}
    (hp : prepOper P N G ops o chk = some ao) (hi : ops[i]? = some o) (hr : Rel G ρ H w) (hf : Fits G N H.length ρ e a) (hev : evalOps cf (ao :: rest) e H = some (r, e', H'))
    (hK : ∀ e1 H1 ρ1 a1 w1, evalOps cf rest e1 H1 = some (r, e', H') → Step G ρ H w ρ1 H1 w1 → Fits G N H1.length ρ1 e1 a1 → a1.defers = a.defers → K a1 w1)
    (hP : ∀ v v' ρ1 w1, r = .pan v → Step G ρ H w ρ1 H' w1 → VR H'.length ρ1 v v' → Q (.panic [{ v := v', recovered := false }]) a w1) : wpOp P ops Q i K a w := by
  obtain ⟨hop, hdst, _, _⟩ := prepOper_op hp
  have hok := (op_ok (o := o) hop).1 e a H ρ w hr hf
  unfold wpOp
  simp only [hi]
  simp only [evalOps] at hev
  split at hev
  · cases hev
  · rename_i hw
    rw [wanted_ok hp hf hw]
    simp only [Bool.false_eq_true, if_false]
    rw [hdst] at hev
    exact hK _ _ ρ _ _ hev (Step.refl hr) (hf.put .undef) (put_defers _ _ _)
  · rename_i hw
    rw [wanted_ok hp hf hw]
    simp only [if_true]
    left
    split at hev
    · cases hev
    · rw [hdst] at hev
      unfold Oper.wp
      split at hev
      · rename_i v H1 ha
        obtain ⟨ρ1, v', w1, hrun, hs, hv⟩ := hok.1 v H1 ha
        rw [hrun]
        exact hK _ _ ρ1 _ _ hev hs ((hf.step hs).put hv) (put_defers _ _ _)
      · rename_i H1 ha
        obtain ⟨ρ1, w1, hrun, hs⟩ := hok.2.1 H1 ha
        rw [hrun]
        exact hK _ _ ρ1 _ _ hev hs ((hf.step hs).put .undef) (put_defers _ _ _)
      · rename_i f args ha
        obtain ⟨args', hrun, hvl⟩ := hok.2.2.1 f args ha
        rw [hrun]
        split at hev
        · rename_i v H1 hcall
          rcases hcf f args H _ H1 hcall ρ w args' hr hvl with ⟨v1, v', hv1, rfl, hrun2, hvr⟩ | ⟨hrun2, hcalls⟩
          · cases hv1
            rw [hrun2]
            exact hK _ _ ρ _ _ hev (Step.refl hr) (hf.put hvr) (put_defers _ _ _)
          · rw [hrun2]
            refine Calls.mono hcalls fun en w1 hen => ?_
            obtain ⟨ρ1, hs, v', rfl, hvr⟩ := hen
            exact hK _ _ ρ1 _ _ hev hs ((hf.step hs).put hvr) (put_defers _ _ _)
        · rename_i v H1 hcall
          cases hev
          rcases hcf f args H _ _ hcall ρ w args' hr hvl with ⟨v1, v', hv1, _⟩ | ⟨hrun2, hcalls⟩
          · cases hv1
          · rw [hrun2]
            refine Calls.mono hcalls fun en w1 hen => ?_
            obtain ⟨ρ1, hs, v', rfl, hvr⟩ := hen
            exact hP _ _ ρ1 _ rfl hs hvr
        · cases hev
      · rename_i v ha
        cases hev
        obtain ⟨v', hrun, hvr⟩ := hok.2.2.2 v ha
        rw [hrun]
        exact hP _ _ ρ _ rfl (Step.refl hr) hvr
      · cases hev

end Go.Proofs.YtedemfmafdilmaaDoor.Ev
