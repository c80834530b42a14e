/- Regions that draw their order: which operation may be taken first. Conditions: none. -/
import Derived.Test.YtedemfmafdilmaaDoorEvP
namespace Go.Proofs.YtedemfmafdilmaaDoor.Ev

variable {P : Program} {ops : Array Oper} {Q : Exit → Act → World → Prop}

/-- All that a listed operation stands behind is listed. -/
def Closed (ops : Array Oper) (listed : Array Bool) : Prop := ∀ (j : Nat) (o : Oper), ops[j]? = some o → listed.getD j true = true → ∀ e ∈ o.after, Region.binds .any e = true → listed.getD e.on false = true

theorem closed_start (ops : Array Oper) : Closed ops (Array.replicate ops.size false) := by
  intro j o ho h
  have hj : j < ops.size := (Array.getElem?_eq_some_iff.1 ho).1
  simp [hj] at h

theorem closed_list {listed : Array Bool} {i : Nat} (h : Closed ops listed) (hr : i ∈ Region.ready .any ops listed) : Closed ops (listed.setIfInBounds i true) := by
  intro j o ho hj e he hb
  obtain ⟨h0, oi, hoi, hall⟩ := mem_ready.1 hr
  by_cases hij : j = i
  · subst hij
    rw [hoi] at ho; cases ho
    exact getD_set_true (hall e he hb)
  · rw [getD_set_ne true (Ne.symm hij)] at hj
    exact getD_set_true (h j o ho hj e he hb)

theorem fold_bits (acc : Array Nat) : ∀ (l : List Edge) (s i : Nat), (l.foldl (fun s e => if Region.binds .any e then s ||| 2 ^ e.on ||| acc.getD e.on 0 else s) s).testBit i = true →
    s.testBit i = true ∨ ∃ e ∈ l, Region.binds .any e = true ∧ (e.on = i ∨ (acc.getD e.on 0).testBit i = true) := by
  intro l
  induction l with
  | nil => intro s i h; exact .inl h
  | cons e l ih =>
    intro s i h
    rw [List.foldl_cons] at h
    rcases ih _ i h with h1 | ⟨e', he', hb, hq⟩
    · split at h1
      · rename_i hb
        rw [Nat.testBit_or, Nat.testBit_or, Bool.or_eq_true, Bool.or_eq_true] at h1
        rcases h1 with (h1 | h1) | h1
        · exact .inl h1
        · refine .inr ⟨e, by simp, hb, .inl ?_⟩
          rw [Nat.testBit_two_pow] at h1
          simpa using h1
        · exact .inr ⟨e, by simp, hb, .inr h1⟩
      · exact .inl h1
    · exact .inr ⟨e', by simp [he'], hb, hq⟩

/-- What 'before' says, step by step. -/
def BeforeOK (ops : List Oper) (acc : Array Nat) : Prop := acc.size = ops.length ∧ ∀ (j i : Nat), (acc.getD j 0).testBit i = true → ∃ o, ops[j]? = some o ∧ ∃ e ∈ o.after, Region.binds .any e = true ∧ (e.on = i ∨ (e.on < j ∧ (acc.getD e.on 0).testBit i = true))

theorem push_getD (acc : Array Nat) (x k : Nat) : (acc.push x).getD k 0 = if k < acc.size then acc.getD k 0 else if k = acc.size then x else 0 := by
  simp only [Array.getD_eq_getD_getElem?, Array.getElem?_push]
  by_cases h : k = acc.size
  · subst h; simp
  · rw [if_neg h]
    split
    · rfl
    · rw [Array.getElem?_eq_none (by omega)]; rfl

theorem before_fold : ∀ (rest done : List Oper) (acc : Array Nat), BeforeOK done acc →
    BeforeOK (done ++ rest) (rest.foldl (fun acc o => acc.push (o.after.foldl (fun s e => if Region.binds .any e then s ||| 2 ^ e.on ||| acc.getD e.on 0 else s) 0)) acc) := by
  intro rest
  induction rest with
  | nil => intro done acc h; simpa using h
  | cons o rest ih =>
    intro done acc h
    rw [List.foldl_cons, show done ++ o :: rest = (done ++ [o]) ++ rest by simp]
    refine ih (done ++ [o]) _ ⟨by simp [h.1], fun j i hb => ?_⟩
    obtain ⟨hs, hall⟩ := h
    rw [push_getD] at hb
    by_cases hj : j < acc.size
    · rw [if_pos hj] at hb
      obtain ⟨o', ho', e, he, hbind, hq⟩ := hall j i hb
      refine ⟨o', by rw [List.getElem?_append_left (by omega)]; exact ho', e, he, hbind, ?_⟩
      rcases hq with hq | ⟨hlt, hq⟩
      · exact .inl hq
      · exact .inr ⟨hlt, by rw [push_getD, if_pos (by omega)]; exact hq⟩
    · rw [if_neg hj] at hb
      split at hb
      · rename_i hj2
        subst hj2
        rw [← Array.foldl_toList] at hb
        rcases fold_bits acc o.after.toList 0 i hb with h1 | ⟨e, he, hbind, hq⟩
        · simp at h1
        · refine ⟨o, by rw [hs]; simp, e, by simpa using he, hbind, ?_⟩
          rcases hq with hq | hq
          · exact .inl hq
          · have hlt : e.on < acc.size := by
              rcases Nat.lt_or_ge e.on acc.size with q | q
              · exact q
              · simp [Array.getElem?_eq_none q] at hq
            exact .inr ⟨hlt, by rw [push_getD, if_pos hlt]; exact hq⟩
      · simp at hb

theorem before_ok (ops : Array Oper) : BeforeOK ops.toList (Region.before ops) := by
  have h := before_fold ops.toList [] #[] ⟨rfl, fun j i h => by simp at h⟩
  unfold Region.before
  rw [← Array.foldl_toList]
  exact h

/-- What stands behind an operation that isn't listed isn't ready. -/
theorem behind_listed {listed : Array Bool} (hc : Closed ops listed) : ∀ (j i : Nat), ((Region.before ops).getD j 0).testBit i = true → (∀ o, ops[j]? = some o → ∀ e ∈ o.after, Region.binds .any e = true → listed.getD e.on false = true) → listed.getD i false = true := by
  intro j
  induction j using Nat.strongRecOn with
  | _ j ih =>
    intro i hb hd
    obtain ⟨o, ho, e, he, hbind, hq⟩ := (before_ok ops).2 j i hb
    have ho' : ops[j]? = some o := by simpa using ho
    have h1 := hd o ho' e he hbind
    rcases hq with rfl | ⟨hlt, hq⟩
    · exact h1
    · refine ih e.on hlt i hq fun o2 ho2 e2 he2 hb2 => ?_
      refine hc e.on o2 ho2 ?_ e2 he2 hb2
      rcases Nat.lt_or_ge e.on listed.size with q | q
      · simpa [q] using h1
      · simp [Array.getElem?_eq_none q] at h1

theorem unlisted_getD {listed : Array Bool} {i : Nat} (h : listed.getD i true = false) : listed.getD i false = false := by
  rcases Nat.lt_or_ge i listed.size with q | q
  · simpa [Array.getD, q] using h
  · simp [Array.getElem?_eq_none q] at h

theorem wpAny_firstC {i : Nat} {oi : Oper} {v : Value} (C : Act → World → Prop) (U : Nat → Prop)
    (hy : ∀ a w, C a w → ∀ K : Act → World → Prop, K (a.put oi.dst v) w → wpOp P ops Q i K a w)
    (hstep : ∀ j, U j → ∀ a w (K : Act → World → Prop), C a w → wpOp P ops Q j K (a.put oi.dst v) w → wpOp P ops Q j (fun a' w' => C a' w' ∧ K (a'.put oi.dst v) w') a w) :
    ∀ (fuel : Nat) (listed : Array Bool) (a : Act) (w : World), Closed ops listed →
      (∀ (j : Nat) (oj : Oper), ops[j]? = some oj → j ≠ i → listed.getD j true = false → ((Region.before ops).getD j 0).testBit i = false → (∀ e ∈ oj.after, Region.binds .any e = true → e.on ≠ i) → U j) →
      i ∈ Region.ready .any ops listed → C a w →
      wpAny P .any ops Q fuel (listed.setIfInBounds i true) (a.put oi.dst v) w → wpAny P .any ops Q (fuel + 1) listed a w := by
  intro fuel
  induction fuel with
  | zero =>
    intro listed a w hc _ hr hC H
    refine ⟨fun h => (by rw [h] at hr; cases hr), fun j hj => ?_⟩
    by_cases hji : j = i
    · subst hji; exact hy a w hC _ H
    · have := ready_mono hj hji
      rw [H.1] at this
      cases this
  | succ fuel ih =>
    intro listed a w hc hV hr hC H
    refine ⟨fun h => (by rw [h] at hr; cases hr), fun j hj => ?_⟩
    by_cases hji : j = i
    · subst hji; exact hy a w hC _ H
    · have h1 := H.2 j (ready_mono hj hji)
      have hun := unlisted_getD (mem_ready.1 hr).1
      obtain ⟨hj0, oj, hoj, hall⟩ := mem_ready.1 hj
      have hUj : U j := by
        refine hV j oj hoj hji hj0 ?_ fun e he hb heq => ?_
        · cases hb : ((Region.before ops).getD j 0).testBit i with
          | false => rfl
          | true =>
            have := behind_listed hc j i hb fun o ho => by rw [hoj] at ho; cases ho; exact hall
            rw [hun] at this; cases this
        · have := hall e he hb
          rw [heq, hun] at this; cases this
      have h2 := hstep j hUj a w _ hC h1
      refine wpOp_mono (fun a' w' h3 => ?_) h2
      refine ih (listed.setIfInBounds j true) a' w' (closed_list hc hj) (fun k ok hk hki hkun hb hd => ?_) (ready_mono hr (Ne.symm hji)) h3.1 ?_
      · refine hV k ok hk hki ?_ hb hd
        by_cases hjk : j = k
        · subst hjk; exact hj0
        · rw [getD_set_ne true hjk] at hkun; exact hkun
      · rw [Array.setIfInBounds_comm _ _ hji]
        exact h3.2

end Go.Proofs.YtedemfmafdilmaaDoor.Ev
