/- The evaluator's operations on memory: what is read, what is written, what is new. Conditions: none. -/
import Derived.Test.YtedemfmafdilmaaDoorEvH
namespace Go.Proofs.YtedemfmafdilmaaDoor.Ev

variable {P : Program} {N G n : Nat} {ρ : Nat → Place}
variable {dst : Option Nat} {ty : TypeId} {pos : String} {after : Array Edge} {guard : Option (Nat × Bool)}

theorem cell_of {w : World} {k o : Nat} {c : Array Value} {t : TypeId} {f : Nat × Nat} (h : w.heap[k]? = some (.cells c t f)) : w.cell? ⟨k, o, none⟩ = c[o]? := by
  simp [World.cell?, h]

theorem frozen_of {w : World} {k o : Nat} {c : Array Value} {t : TypeId} {f : Nat × Nat} (h : w.heap[k]? = some (.cells c t f)) : w.frozen? ⟨k, o, none⟩ = (decide (f.1 ≤ o) && decide (o < f.2)) := by
  obtain ⟨f1, f2⟩ := f
  simp [World.frozen?, h]

/-- A block's cells anew. -/
def setRow (w : World) (k : Nat) (c : Array Value) (t : TypeId) (f : Nat × Nat) : World := { w with heap := w.heap.setIfInBounds k (.cells c t f) }

theorem modify_eq {α : Type} (xs : Array α) (k : Nat) (g : α → α) (x : α) (h : xs[k]? = some x) : xs.modify k g = xs.setIfInBounds k (g x) := by
  apply Array.ext_getElem?
  intro i
  rw [Array.getElem?_modify, Array.getElem?_setIfInBounds]
  obtain ⟨hk, rfl⟩ := Array.getElem?_eq_some_iff.1 h
  split
  · subst i; simp [hk]
  · rfl

theorem setCell_row {w : World} {k o : Nat} {c : Array Value} {t : TypeId} {f : Nat × Nat} {v : Value} (h : w.heap[k]? = some (.cells c t f)) :
    w.setCell ⟨k, o, none⟩ v = setRow w k (c.setIfInBounds o v) t f := by
  unfold World.setCell setRow
  rw [modify_eq _ _ _ _ h]
  rfl

theorem setRow_at {w : World} {k : Nat} {c : Array Value} {t : TypeId} {f : Nat × Nat} (h : k < w.heap.size) : (setRow w k c t f).heap[k]? = some (.cells c t f) := by
  simp [setRow, h]

theorem setRow_ne {w : World} {k j : Nat} {c : Array Value} {t : TypeId} {f : Nat × Nat} (h : j ≠ k) : (setRow w k c t f).heap[j]? = w.heap[j]? := by
  simp [setRow, Array.getElem?_setIfInBounds_ne (Ne.symm h)]

theorem setRow_setRow (w : World) (k : Nat) (c d : Array Value) (t u : TypeId) (f g : Nat × Nat) : setRow (setRow w k c t f) k d u g = setRow w k d u g := by
  simp [setRow]

theorem setRow_self {w : World} {k : Nat} {c : Array Value} {t : TypeId} {f : Nat × Nat} (h : w.heap[k]? = some (.cells c t f)) : setRow w k c t f = w := by
  obtain ⟨hk, hx⟩ := Array.getElem?_eq_some_iff.1 h
  unfold setRow
  have : w.heap.setIfInBounds k (.cells c t f) = w.heap := by
    apply Array.ext_getElem?
    intro i
    rw [Array.getElem?_setIfInBounds]
    split
    · subst i; rw [h]
    · rfl
  rw [this]

theorem run_stores {k off : Nat} {t : TypeId} {f : Nat × Nat} : ∀ (vs : List Value) (i : Nat) (c : Array Value) (w : World), w.heap[k]? = some (.cells c t f) → (∀ v ∈ vs, v.oneCell' = true) →
    off + i + vs.length ≤ c.size → (∀ j, j < c.size → ¬ (f.1 ≤ j ∧ j < f.2)) → (storeCells ⟨k, off, none⟩ vs i).run P w = .ok () (setRow w k (setL c.toList (off + i) vs).toArray t f) := by
  intro vs
  induction vs with
  | nil => intro i c w h _ _ _; simp [storeCells, setL, setRow_self h]
  | cons v vs ih =>
    intro i c w h hv hl hf
    simp only [List.length_cons] at hl
    have hk : k < w.heap.size := (Array.getElem?_eq_some_iff.1 h).1
    have hin : off + i < c.size := by omega
    simp only [storeCells, Sem.run_bind, add_spot, setL]
    rw [run_store P w _ v _ (hv v (by simp)), cell_of h, Array.getElem?_eq_getElem hin]
    simp only [frozen_of h]
    rw [if_neg (by simpa using hf (off + i) hin)]
    simp only [Result.andThen_ok, setCell_row h]
    rw [ih (i + 1) (c.setIfInBounds (off + i) v) _ (setRow_at hk) (fun u hu => hv u (by simp [hu])) (by simp; omega) (by simpa using hf)]
    rw [setRow_setRow]
    simp [Nat.add_assoc]

theorem row_list {cs : List Value} {w : World} {b o m : Nat} {cells : Array Value} {t : TypeId} {fr : Nat × Nat} (hh : w.heap[(ρ b).blk]? = some (.cells cells t fr))
    (hc : ∀ (i : Nat) (v : Value), cs[i]? = some v → ∃ v', cells[(ρ b).off + i]? = some v' ∧ VR n ρ v v') (hm : o + m ≤ cs.length) :
    VL n ρ (cutCells cs o m) ((cells.toList.drop ((ρ b).off + o)).take m) ∧ ((cells.toList.drop ((ρ b).off + o)).take m).length = m ∧
    ∀ (P : Program) (w' : World), w'.heap = w.heap → (loadCells ⟨(ρ b).blk, (ρ b).off + o, none⟩ m).run P w' = .ok ((cells.toList.drop ((ρ b).off + o)).take m).toArray w' := by
  have hsz : ∀ i, i < cs.length → (ρ b).off + i < cells.size := fun i hi => by
    obtain ⟨v', hv, _⟩ := hc i _ (List.getElem?_eq_getElem hi)
    exact (Array.getElem?_eq_some_iff.1 hv).1
  have hlen : ((cells.toList.drop ((ρ b).off + o)).take m).length = m := by
    cases m with
    | zero => simp
    | succ m =>
      have := hsz (o + m) (by omega)
      simp
      omega
  refine ⟨⟨?_, fun i x y hx hy => ?_⟩, hlen, fun P w' hw' => ?_⟩
  · rw [hlen]; simp [cutCells]; omega
  · simp only [cutCells, List.getElem?_take, List.getElem?_drop] at hx hy
    split at hx
    · rename_i hi
      rw [if_pos hi] at hy
      obtain ⟨v', hv, hr⟩ := hc _ _ hx
      have : cells.toList[(ρ b).off + o + i]? = some v' := by simpa [Nat.add_assoc] using hv
      rw [this] at hy; cases hy
      exact hr
    · cases hx
  · have := run_loadCells_list (P := P) w' ⟨(ρ b).blk, (ρ b).off + o, none⟩ ((cells.toList.drop ((ρ b).off + o)).take m) (fun j v hj => by
      rw [add_spot, cell_of (by rw [hw']; exact hh)]
      rw [List.getElem?_take] at hj
      split at hj
      · rw [List.getElem?_drop] at hj; simpa using hj
      · cases hj)
    rw [hlen] at this
    exact this

/-- What has to be shown of an operation on memory. -/
def HeapOK (P : Program) (N G : Nat) (o : Oper) (ao : AOp) : Prop :=
  ∀ (e : Env) (a : Act) (H : Heap) (ρ : Nat → Place) (w : World), Rel G ρ H w → Fits G N H.length ρ e a →
    (∀ v H', aop e H ao = .val v H' → ∃ ρ' v' w', (execOp a.eval o).run P w = .ok (.value v') w' ∧ Step G ρ H w ρ' H' w' ∧ VR H'.length ρ' v v') ∧
    (∀ H', aop e H ao = .skip H' → ∃ ρ' w', (execOp a.eval o).run P w = .ok .skip w' ∧ Step G ρ H w ρ' H' w') ∧
    (∀ f args, aop e H ao = .call f args → ∃ args', (execOp a.eval o).run P w = (callFunc f args').run P w ∧ VL H.length ρ args args'.toList) ∧
    (∀ v, aop e H ao = .pan v → ∃ v', (execOp a.eval o).run P w = .halt (.panic v') w ∧ VR H.length ρ v v')

/-- An operation that only ever answers a value. -/
theorem HeapOK.of_val {o : Oper} {ao : AOp} (hs : ∀ e H, (∃ v H', aop e H ao = .val v H') ∨ aop e H ao = .no)
    (h : ∀ (e : Env) (a : Act) (H : Heap) (ρ : Nat → Place) (w : World), Rel G ρ H w → Fits G N H.length ρ e a →
      ∀ v H', aop e H ao = .val v H' → ∃ ρ' v' w', (execOp a.eval o).run P w = .ok (.value v') w' ∧ Step G ρ H w ρ' H' w' ∧ VR H'.length ρ' v v') : HeapOK P N G o ao := by
  intro e a H ρ w hr hf
  refine ⟨h e a H ρ w hr hf, fun H' h' => ?_, fun f args h' => ?_, fun v h' => ?_⟩ <;>
    (rcases hs e H with ⟨v, H', hv⟩ | hv <;> rw [hv] at h' <;> cases h')

theorem HeapOK.of_pure {o : Oper} {ao : AOp} (hs : ∀ e H, (∃ v H', aop e H ao = .val v H') ∨ aop e H ao = .no) (h : ∀ n ρ, PureOK P N G n ρ o ao) : HeapOK P N G o ao := by
  refine HeapOK.of_val hs fun e a H ρ w hr hf v H' hv => ?_
  obtain ⟨rfl, v', hvr, hsay⟩ := h H.length ρ e a H H' v hf hv
  exact ⟨ρ, v', w, hsay w, Step.refl hr, hvr⟩

theorem heap_load1 {t : TypeId} {x : Operand} (hx : okO N G x = true) (ht : aggT P t = some false) : HeapOK P N G ⟨dst, .load t x, ty, pos, after, guard⟩ (.load1 x) := by
  refine HeapOK.of_val (fun e H => ?_) fun e a H ρ w hr hf v H' h => ?_
  · simp only [aop]; (repeat' split) <;> first | exact .inr rfl | (unfold ofO; split <;> first | exact .inl ⟨_, _, rfl⟩ | exact .inr rfl)
  · have h1 := hf.op hx
    simp only [aop] at h
    split at h
    · rename_i b o hb
      rw [hb] at h1
      obtain ⟨hbn, hv⟩ := h1.inv_ptr
      split at h
      · rename_i cs u wr hrow
        obtain ⟨h3, rfl⟩ := ofO_val h
        obtain ⟨cells, t', fr, hh, hc, _⟩ := hr.obj b _ (hget_some hrow rfl)
        obtain ⟨v', hv', hvr⟩ := hc o v h3
        refine ⟨ρ, v', w, ?_, Step.refl hr, hvr⟩
        simp [execOp, Instr.loadAt, hv, Instr.sureAddr, loadVar, run_agg ht, cell_of hh, hv']
      · cases h
    · cases h

theorem heap_loadN {t : TypeId} {m : Nat} {x : Operand} (hx : okO N G x = true) (ht : aggT P t = some true) (hs : szOf P t = some m) : HeapOK P N G ⟨dst, .load t x, ty, pos, after, guard⟩ (.loadN m x) := by
  refine HeapOK.of_val (fun e H => ?_) fun e a H ρ w hr hf v H' h => ?_
  · simp only [aop]; (repeat' split) <;> first | exact .inr rfl | exact .inl ⟨_, _, rfl⟩
  · have h1 := hf.op hx
    simp only [aop] at h
    split at h
    · rename_i b o hb
      rw [hb] at h1
      obtain ⟨hbn, hv⟩ := h1.inv_ptr
      split at h
      · rename_i cs u wr hrow
        split at h
        · rename_i hle
          simp only [ARes.val.injEq] at h
          obtain ⟨rfl, rfl⟩ := h
          obtain ⟨cells, t', fr, hh, hc, _⟩ := hr.obj b _ (hget_some hrow rfl)
          obtain ⟨hvl, hlen, hrun⟩ := row_list hh hc hle
          refine ⟨ρ, _, w, ?_, Step.refl hr, hvl.agg⟩
          simp [execOp, Instr.loadAt, hv, Instr.sureAddr, loadVar, run_agg ht, run_size hs, hrun P w rfl]
        · cases h
      · cases h
    · cases h

theorem setL_get (xs : List Value) : ∀ (us : List Value) (o i : Nat), (setL xs o us)[i]? = if o ≤ i ∧ i < o + us.length ∧ i < xs.length then us[i - o]? else xs[i]? := by
  intro us
  induction us generalizing xs with
  | nil => intro o i; simp [setL]; intro h1 h2; omega
  | cons u us ih =>
    intro o i
    simp only [setL, ih, List.length_set, List.length_cons]
    by_cases h1 : o + 1 ≤ i ∧ i < o + 1 + us.length ∧ i < xs.length
    · rw [if_pos h1, if_pos (by omega)]
      obtain ⟨k, rfl⟩ : ∃ k, i = o + 1 + k := ⟨i - (o + 1), by omega⟩
      rw [show o + 1 + k - (o + 1) = k by omega, show o + 1 + k - o = k + 1 by omega]
      simp
    · rw [if_neg h1, List.getElem?_set]
      by_cases h2 : o = i
      · subst h2
        by_cases h3 : o < xs.length
        · rw [if_pos rfl, if_pos h3, if_pos (by omega)]; simp
        · rw [if_pos rfl, if_neg h3, if_neg (by omega)]; simp; omega
      · rw [if_neg h2, if_neg (by omega)]

/-- A row written in its place. -/
theorem row_put {H : Heap} {w : World} {b o u : Nat} {cs new new' : List Value} (hr : Rel G ρ H w) (hb : H[b]? = some (.row cs u true)) (hn : VL H.length ρ new new') (ho : new.all oneCell = true)
    (hle : o + new.length ≤ cs.length) : ∃ w', (∀ P : Program, (storeCells ⟨(ρ b).blk, (ρ b).off + o, none⟩ new').run P w = .ok () w') ∧ Step G ρ H w ρ (H.set b (.row (setL cs o new) u true)) w' := by
  obtain ⟨cells, t, fr, hh, hc, hw⟩ := hr.obj b _ hb
  obtain ⟨hw1, hw2, hw3⟩ := hw rfl
  have hk : (ρ b).blk < w.heap.size := (Array.getElem?_eq_some_iff.1 hh).1
  have hone : ∀ v ∈ new', v.oneCell' = true := fun v hv => by
    obtain ⟨i, hi⟩ := List.getElem?_of_mem hv
    have hi' : i < new.length := by have := (List.getElem?_eq_some_iff.1 hi).1; rw [hn.1]; exact this
    have h1 := hn.2 i _ v (List.getElem?_eq_getElem hi') hi
    rw [h1.one]
    exact List.all_eq_true.1 ho _ (List.getElem_mem hi')
  have hl : new'.length = new.length := hn.1.symm
  refine ⟨_, fun P => run_stores new' 0 cells w hh hone (by rw [hl]; omega) hw2, ?_⟩
  refine Step.upd hr hb rfl rfl (by simp [setRow]) (fun c hc => setRow_ne hc) rfl rfl rfl ?_
  refine ⟨_, t, fr, setRow_at hk, fun i v hv => ?_, fun _ => ⟨?_, ?_, hw3⟩⟩
  · simp only [List.getElem?_toArray, setL_get, Array.length_toList] at hv ⊢
    by_cases hin : o ≤ i ∧ i < o + new.length ∧ i < cs.length
    · rw [if_pos hin] at hv
      rw [if_pos (by rw [hl]; omega)]
      obtain ⟨y, hy, hvr⟩ := hn.get hv
      exact ⟨y, by rw [show (ρ b).off + i - ((ρ b).off + o + 0) = i - o by omega]; exact hy, hvr⟩
    · rw [if_neg hin] at hv
      obtain ⟨v', hv', hvr⟩ := hc i v hv
      have hi : i < cs.length := (List.getElem?_eq_some_iff.1 hv).1
      rw [if_neg (by rw [hl]; omega)]
      exact ⟨v', by simpa using hv', hvr⟩
  · simp only [List.size_toArray, setL_length]; simpa using hw1
  · simpa [setL_length] using hw2

theorem heap_store {t : TypeId} {m : Nat} {x y : Operand} (hx : okO N G x = true) (hy : okO N G y = true) (hs : szOf P t = some m) : HeapOK P N G ⟨dst, .store t x y, ty, pos, after, guard⟩ (.store m x y) := by
  intro e a H ρ w hr hf
  have h1 := hf.op hx
  have h2 := (hf.op hy).cells
  refine ⟨fun v H' h => ?_, fun H' h => ?_, fun f args h => ?_, fun v h => ?_⟩
  · simp only [aop] at h; (repeat' split at h) <;> cases h
  · simp only [aop] at h
    split at h
    · rename_i b o hb
      rw [hb] at h1
      obtain ⟨hbn, hv⟩ := h1.inv_ptr
      split at h
      · rename_i cs u hrow
        split at h
        · rename_i hc
          cases h
          obtain ⟨w', hrun, hstep⟩ := row_put hr (hget_some hrow rfl) h2 hc.2.2 (by rw [hc.1]; exact hc.2.1)
          refine ⟨ρ, w', ?_, hstep⟩
          have hl : (a.eval y).cells.size = m := by have := h2.1; simp only [Array.length_toList] at this; omega
          simp only [execOp, Instr.storeAt, hv, Instr.sureAddr, storeVar, Sem.run_bind, Sem.run_pure, Result.andThen_ok, run_size hs]
          rw [if_neg (by simp [hl])]
          simp [hrun]
        · cases h
      · cases h
    · cases h
  · simp only [aop] at h; (repeat' split at h) <;> cases h
  · simp only [aop] at h; (repeat' split at h) <;> cases h

end Go.Proofs.YtedemfmafdilmaaDoor.Ev
