/- The evaluator's operations that ask nothing of memory answer what the model's answer. Conditions: none. -/
import Derived.Test.YtedemfmafdilmaaDoorEvC
namespace Go.Proofs.YtedemfmafdilmaaDoor.Ev

variable {P : Program} {N G n : Nat} {ρ : Nat → Place}

theorem VR.inv_ptr {b o : Nat} {v : Value} (h : VR n ρ (.pointer (some ⟨b, o, none⟩)) v) : b < n ∧ v = .pointer (some ⟨(ρ b).blk, (ρ b).off + o, none⟩) := by
  cases h with | ptr b o h => exact ⟨h, rfl⟩
theorem VR.inv_ptrSome {a : Addr} {v : Value} (h : VR n ρ (.pointer (some a)) v) : ∃ b o, a = ⟨b, o, none⟩ ∧ b < n ∧ v = .pointer (some ⟨(ρ b).blk, (ρ b).off + o, none⟩) := by
  cases h with | ptr b o h => exact ⟨b, o, rfl, h, rfl⟩
theorem VR.inv_ptrNil {v : Value} (h : VR n ρ (.pointer none) v) : v = .pointer none := by cases h; rfl
theorem VR.inv_int {k : IntKind} {x : Int} {v : Value} (h : VR n ρ (.int k x) v) : v = .int k x := by cases h; rfl
theorem VR.inv_bool {b : Bool} {v : Value} (h : VR n ρ (.bool b) v) : v = .bool b := by cases h; rfl
theorem VR.inv_string {s : ByteArray} {v : Value} (h : VR n ρ (.string s) v) : v = .string s := by cases h; rfl
theorem VR.inv_nilFunc {v : Value} (h : VR n ρ .nilFunc v) : v = .nilFunc := by cases h; rfl
theorem VR.inv_agg {c : Array Value} {v : Value} (h : VR n ρ (.agg c) v) : ∃ c', v = .agg c' ∧ VL n ρ c.toList c'.toList := by
  cases h with | agg c c' hc h => exact ⟨c', rfl, VL.of_arrays hc h⟩
theorem VR.inv_tuple {c : Array Value} {v : Value} (h : VR n ρ (.tuple c) v) : ∃ c', v = .tuple c' ∧ VL n ρ c.toList c'.toList := by
  cases h with | tuple c c' hc h => exact ⟨c', rfl, VL.of_arrays hc h⟩
theorem VR.inv_func {fn : Fn} {f c : Array Value} {v : Value} (h : VR n ρ (.func fn f c) v) : ∃ f' c', v = .func fn f' c' ∧ VL n ρ f.toList f'.toList ∧ VL n ρ c.toList c'.toList := by
  cases h with | func fn f f' c c' hf hc h1 h2 => exact ⟨f', c', rfl, VL.of_arrays hf h1, VL.of_arrays hc h2⟩
theorem VR.inv_iface {t : TypeId} {x v : Value} (h : VR n ρ (.iface t x) v) : ∃ x', v = .iface t x' ∧ VR n ρ x x' := by
  cases h with | iface t v v' h => exact ⟨v', rfl, h⟩
theorem VR.inv_slice {a : Option Addr} {l c : Nat} {v : Value} (h : VR n ρ (.slice a l c) v) :
    (a = none ∧ l = 0 ∧ c = 0 ∧ v = .slice none 0 0) ∨
    (∃ b o c', a = some ⟨b, o, none⟩ ∧ b < n ∧ l ≤ c ∧ c ≤ c' ∧ c' ≤ c + (ρ b).ext ∧ v = .slice (some ⟨(ρ b).blk, (ρ b).off + o, none⟩) l c') ∨
    (∃ b o k a' c', a = some ⟨b, o, some k⟩ ∧ l = 0 ∧ c = 0 ∧ v = .slice (some a') 0 c') := by
  cases h with
  | slNil => exact .inl ⟨rfl, rfl, rfl, rfl⟩
  | sl b o l c c' h h0 h1 h2 => exact .inr (.inl ⟨b, o, c', rfl, h, h0, h1, h2, rfl⟩)
  | slE b o k a c' => exact .inr (.inr ⟨b, o, k, a, c', rfl, rfl, rfl, rfl⟩)

theorem VR.operand {e : Env} {a : Act} {x : Operand} (h : ER n ρ N e a.tmps) (hx : okO N G x = true) (hG : G ≤ n) (hg : ∀ g, g < G → ρ g = ⟨g, 0, 0⟩) : VR n ρ (aev e x) (a.eval x) := by
  cases x with
  | tmp t => exact h.2 t (by simpa [okO] using hx)
  | const v => exact .of_closed hx
  | global g =>
    have hlt : g < G := by simpa [okO] using hx
    have := VR.ptr (n := n) (ρ := ρ) g 0 (Nat.lt_of_lt_of_le hlt hG)
    rw [hg g hlt] at this
    exact this
  | func f => exact .func _ _ _ _ _ rfl rfl (fun i a => by simp at a) (fun i a => by simp at a)

theorem run_und {t : TypeId} {d : TypeDesc} {w : World} (h : P.underlying t = some d) : (underlying t).run P w = .ok d w := by
  simp [underlying, h]
theorem run_info {t : TypeId} {i : TypeInfo} {w : World} (h : P.info? t = some i) : (typeInfo t).run P w = .ok i w := by
  simp [typeInfo, h]
theorem run_size {t : TypeId} {s : Nat} {w : World} (h : szOf P t = some s) : (sizeOf t).run P w = .ok s w := by
  unfold szOf at h
  obtain ⟨i, hi, rfl⟩ := Option.map_eq_some_iff.1 h
  simp [sizeOf, run_info hi]
theorem run_bytes {t : TypeId} {s : Nat} {w : World} (h : bytesOfT P t = some s) : ∃ i, P.info? t = some i ∧ i.bytes = s ∧ (typeInfo t).run P w = .ok i w := by
  unfold bytesOfT at h
  obtain ⟨i, hi, rfl⟩ := Option.map_eq_some_iff.1 h
  exact ⟨i, hi, rfl, run_info hi⟩
theorem run_agg {t : TypeId} {b : Bool} {w : World} (h : aggT P t = some b) : (isAgg t).run P w = .ok b w := by
  unfold aggT at h
  unfold isAgg
  split at h
  · rename_i d hd; cases h; simp [run_und hd]
  · rename_i d hd; cases h; simp [run_und hd]
  · rename_i d hn1 hn2 hd
    cases h
    simp only [Sem.run_bind, run_und hd, Result.andThen_ok]
    rfl
  · cases h

theorem run_zero {t : TypeId} {z : List Value} (h : zeroOf P t = some z) : ∃ v, (∀ w, (zeroValue t).run P w = .ok v w) ∧ v.cells.toList = z ∧ closedV v = true ∧ cellsOf v = z := by
  unfold zeroOf at h
  split at h
  · rename_i v hv
    split at h
    · rename_i hc
      cases h
      obtain ⟨i, hi, hz⟩ := Option.bind_eq_some_iff.1 hv
      refine ⟨v, fun w => by simp [zeroValue, run_info hi, hz], ?_, hc, rfl⟩
      cases v <;> rfl
    · cases h
  · cases h

theorem closed_cells {v : Value} (h : closedV v = true) : ∀ x ∈ cellsOf v, closedV x = true := by
  intro x hx
  unfold closedV at h
  have up : ∀ y, closed1 y = true → closedV y = true := fun y hy => by
    unfold closed1 at hy
    split at hy <;> first | rfl | cases hy
  split at h
  · exact up _ (List.all_eq_true.1 h _ (by simpa [cellsOf] using hx))
  · simp only [cellsOf, List.mem_singleton] at hx; subst hx; simpa [closedV] using h
  · simp only [cellsOf, List.mem_singleton] at hx; subst hx; simpa [closedV] using h
  · rename_i h1 h2 h3
    have : cellsOf v = [v] := by
      unfold cellsOf
      split
      · exact absurd rfl (h1 _)
      · rfl
    rw [this, List.mem_singleton] at hx
    subst hx
    exact up _ h

theorem zero_closed {t : TypeId} {z : List Value} (h : zeroOf P t = some z) : ∀ x ∈ z, closedV x = true := by
  unfold zeroOf at h
  split at h
  · rename_i v hv
    split at h
    · rename_i hc; cases h; exact closed_cells hc
    · cases h
  · cases h

theorem run_places : ∀ (l : List Field) {pl : List (Nat × Nat)} (w : World), placesOf P l = some pl →
    (l.mapM fun f => do pure (f.offset, ← sizeOf f.type) : Sem (List (Nat × Nat))).run P w = .ok pl w := by
  intro l
  induction l with
  | nil => intro pl w h; simp only [placesOf] at h; cases h; rfl
  | cons f l ih =>
    intro pl w h
    simp only [placesOf] at h
    split at h
    · rename_i s m hs hm
      cases h
      simp only [List.mapM_cons, Sem.run_bind, run_size hs, Result.andThen_ok, Sem.run_pure, ih w hm]
    · cases h

theorem run_places' {fs : Array Field} {pl : List (Nat × Nat)} (w : World) (h : placesOf P fs.toList = some pl) :
    (fs.mapM fun f => do pure (f.offset, ← sizeOf f.type) : Sem (Array (Nat × Nat))).run P w = .ok pl.toArray w := by
  rw [Array.mapM_eq_mapM_toList]
  simp only [Sem.run_map, run_places fs.toList w h, Result.andThen_ok]

theorem pr_some {α : Type} {s : Sem α} {v : α} (h : pr s = some v) : s = .pure v := by
  cases s <;> simp [pr] at h
  rw [h]

theorem pr_run {α : Type} {s : Sem α} {v : α} (h : pr s = some v) (w : World) : s.run P w = .ok v w := by rw [pr_some h]; rfl

theorem ofO_val {o : Option Value} {H H' : Heap} {v : Value} (h : ofO o H = .val v H') : o = some v ∧ H' = H := by
  unfold ofO at h
  split at h
  · simp at h; exact ⟨by rw [h.1], h.2.symm⟩
  · cases h

theorem add_spot (b o : Nat) (m : Nat) : (⟨b, o, none⟩ : Addr).add m = ⟨b, o + m, none⟩ := by
  unfold Addr.add; split
  · subst m; rfl
  · rfl

/-- What a pure operation answers, in every world. -/
def Says (P : Program) (o : Oper) (ev : Operand → Value) (v : Value) : Prop := ∀ w, (execOp ev o).run P w = .ok (.value v) w

theorem setL_vl {xs ys : List Value} : ∀ {us vs : List Value} {o : Nat}, VL n ρ xs ys → VL n ρ us vs → VL n ρ (setL xs o us) (setL ys o vs) := by
  intro us
  induction us generalizing xs ys with
  | nil =>
    intro vs o h k
    have : vs = [] := by have := k.1; simp at this; exact List.eq_nil_of_length_eq_zero this.symm
    subst this; exact h
  | cons u us ih =>
    intro vs o h k
    cases vs with
    | nil => have := k.1; simp at this
    | cons v vs =>
      simp only [setL]
      refine ih ⟨by simp [h.1], fun i a b ha hb => ?_⟩ k.tail
      rw [List.getElem?_set] at ha hb
      split at ha
      · rw [if_pos (by assumption)] at hb
        split at ha
        · cases ha
          split at hb
          · cases hb; exact k.head
          · cases hb
        · cases ha
      · rw [if_neg (by assumption)] at hb; exact h.2 i a b ha hb

theorem setL_length (xs : List Value) : ∀ (us : List Value) (o : Nat), (setL xs o us).length = xs.length := by
  intro us
  induction us generalizing xs with
  | nil => intro o; rfl
  | cons u us ih => intro o; simp [setL, ih]

/-- The model's way to lay a part into cells. -/
theorem fold_set (cs : Array Value) : ∀ (vs : List Value) (k off : Nat), ((vs.zipIdx k).foldl (fun cs (p : Value × Nat) => cs.setIfInBounds (off + p.2) p.1) cs).toList = setL cs.toList (off + k) vs := by
  intro vs
  induction vs generalizing cs with
  | nil => intro k off; simp [setL]
  | cons v vs ih =>
    intro k off
    simp only [List.zipIdx_cons, List.foldl_cons, setL]
    rw [ih]
    simp [Nat.add_assoc]

theorem fill_sound {place : Nat → Option (Nat × Nat)} : ∀ (parts : List (Nat × Operand)) {ps : List (Nat × Nat × Operand)} {e : Env} {a : Act} {cs out : List Value} {cs' : Array Value}
    (_ : partsOf P N G place parts = some ps) (_ : ER n ρ N e a.tmps) (_ : G ≤ n) (_ : ∀ g, g < G → ρ g = ⟨g, 0, 0⟩) (_ : VL n ρ cs cs'.toList)
    (_ : fillL cs (ps.map fun p => (p.1, p.2.1, aev e p.2.2)) = some out),
    ∃ out', Instr.fill place cs' (parts.map fun p => (p.1, a.eval p.2)) = some out' ∧ VL n ρ out out'.toList := by
  intro parts
  induction parts with
  | nil =>
    intro ps e a cs out cs' hp he hG hg hc hf
    simp only [partsOf] at hp
    cases hp
    simp only [List.map_nil, fillL] at hf
    cases hf
    exact ⟨cs', rfl, hc⟩
  | cons p parts ih =>
    intro ps e a cs out cs' hp he hG hg hc hf
    obtain ⟨i, x⟩ := p
    simp only [partsOf] at hp
    split at hp
    · rename_i o m r hpl hr
      split at hp
      · rename_i hok
        cases hp
        simp only [List.map_cons, fillL] at hf
        split at hf
        · rename_i hsz
          have hv := VR.operand he hok hG hg
          have hvc := hv.cells
          have hl : (a.eval x).cells.size = m := by
            have := hvc.1
            simp only [Array.length_toList] at this
            omega
          have hlen : cs.length = cs'.size := by have := hc.1; simpa using this
          simp only [List.map_cons, Instr.fill, hpl]
          rw [if_neg (by simp [hl]; omega)]
          refine ih hr he hG hg ?_ hf
          rw [← Array.foldl_toList, Array.toList_zipIdx, fold_set]
          simpa using setL_vl (o := o) hc hvc
        · cases hf
      · cases hp
    · cases hp

end Go.Proofs.YtedemfmafdilmaaDoor.Ev
