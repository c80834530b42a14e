/- The evaluator's append, copy, iterators over texts, comparisons of places, calls. Conditions: none. -/
import Derived.Test.YtedemfmafdilmaaDoorEvJ
namespace Go.Proofs.YtedemfmafdilmaaDoor.Ev

variable {P : Program} {N G n : Nat} {ρ : Nat → Place}
variable {dst : Option Nat} {ty : TypeId} {pos : String} {after : Array Edge} {guard : Option (Nat × Bool)}

theorem src_sound {H : Heap} {w : World} {u m : Nat} {x x' : Value} {new : List Value} (hr : Rel G ρ H w) (hx : VR H.length ρ x x') (h : srcCells H u m x = some new) :
    ∃ new', VL H.length ρ new new' ∧ ∀ (P : Program) (w' : World), w'.heap = w.heap → (Builtin.firstCells u m x').run P w' = .ok new'.toArray w' := by
  unfold srcCells at h
  split at h
  · rename_i b o l c
    rcases hx.inv_slice with ⟨h3, _⟩ | ⟨b', o', c', h3, hbn, hc0, hc1, hc2, hv⟩ | ⟨b', o', k', a', c', h3, _⟩
    · cases h3
    · cases h3
      split at h
      · rename_i cs u' wr hrow
        split at h
        · rename_i hle
          cases h
          obtain ⟨cells, t', fr, hh, hc, _⟩ := hr.obj b _ (hget_some hrow rfl)
          obtain ⟨hvl, hlen, hrun⟩ := row_list hh hc hle
          exact ⟨_, hvl, fun P w' hw' => by rw [hv]; exact hrun P w' hw'⟩
        · cases h
      · cases h
    · cases h3
  · split at h
    · rename_i hm
      cases h
      rcases hx.inv_slice with ⟨_, _, _, hv⟩ | ⟨b', o', c', h3, _⟩ | ⟨b', o', k', a', c', h3, _⟩
      · exact ⟨[], VL.nil, fun P w' _ => by rw [hv]; rfl⟩
      · cases h3
      · cases h3
    · cases h
  · split at h
    · rename_i hm
      cases h
      subst hm
      rcases hx.inv_slice with ⟨h3, _⟩ | ⟨b', o', c', h3, _⟩ | ⟨b', o', k', a', c', h3, _, _, hv⟩
      · cases h3
      · cases h3
      · exact ⟨[], VL.nil, fun P w' _ => by rw [hv]; simp [Builtin.firstCells, loadCells, loadCellsFrom]⟩
    · cases h
  · rename_i s
    split at h
    · rename_i hm
      cases h
      refine ⟨_, VL.map _ _ _ fun x _ => .int _ _, fun P w' _ => ?_⟩
      rw [hx.inv_string]
      simp only [Builtin.firstCells, Sem.run_pure]
      congr 1
      apply Array.ext'
      simp [List.extract_eq_take_drop, List.map_take]
    · cases h
  · cases h

theorem len_sound {w : World} {x x' : Value} {m : Nat} (hx : VR n ρ x x') (h : lenV x = some m) : (Builtin.lenOf x').run P w = .ok m w := by
  unfold lenV at h
  split at h
  · cases h
    rcases hx.inv_slice with ⟨_, h3, _, h2⟩ | ⟨b, o, c', _, _, _, _, _, h2⟩ | ⟨b, o, k, a', c', _, h3, _, h2⟩ <;> rw [h2] <;> (try rw [h3]) <;> rfl
  · cases h; rw [hx.inv_string]; rfl
  · cases h

theorem take_flat {cs ys : List Value} (h : VL n ρ cs ys) (zs : List Value) : VL n ρ cs ((ys ++ zs).take cs.length) := by
  rw [h.1, List.take_left]; exact h

theorem next_cap (need cap : Nat) (h : cap < need) : Builtin.nextslicecap need cap ≤ 16 * need := by
  have grow : ∀ (r c : Nat), 256 ≤ c → Builtin.growBy need r c ≤ 2 ^ r * c := by
    intro r
    induction r with
    | zero => intro c _; simp [Builtin.growBy]
    | succ r ih =>
      intro c hc
      simp only [Builtin.growBy]
      split
      · calc c ≤ 1 * c := by omega
          _ ≤ 2 ^ (r + 1) * c := Nat.mul_le_mul_right c (Nat.one_le_two_pow)
      · have h1 := ih (c + (c + 768) / 4) (by omega)
        have h2 : c + (c + 768) / 4 ≤ 2 * c := by omega
        calc Builtin.growBy need r (c + (c + 768) / 4) ≤ 2 ^ r * (c + (c + 768) / 4) := h1
          _ ≤ 2 ^ r * (2 * c) := Nat.mul_le_mul_left _ h2
          _ = 2 ^ (r + 1) * c := by rw [Nat.pow_succ, Nat.mul_assoc]
  unfold Builtin.nextslicecap
  split
  · omega
  · split
    · omega
    · have := grow 4 cap (by omega)
      simp at this
      omega

/-- The model's append where there is no room. -/
theorem run_grow {sType xType el : TypeId} {u b m l cap need : Nat} {base : Option Addr} {x : Value} {old new : List Value} {z : List Value} {w : World} {argTypes : Array TypeId} {d : TypeDesc}
    (h0 : argTypes[0]? = some sType) (h1 : argTypes[1]? = some xType) (hu : P.underlying sType = some (.slice el)) (hx : P.underlying xType = some d) (hd : ∀ k, d ≠ .int k) (hs : szOf P el = some u) (hb : bytesOfT P el = some b) (hz : zeroOf P el = some z)
    (hb0 : b ≠ 0) (hlen : (Builtin.lenOf x).run P w = .ok m w) (hneed : need = l + m) (hcap : cap < need) (hroom : need * b ≤ roomMax)
    (hold : ∀ w' : World, w'.heap = w.heap → (Builtin.firstCells u l (.slice base l cap)).run P w' = .ok old.toArray w') (hnew : ∀ w' : World, w'.heap = w.heap → (Builtin.firstCells u m x).run P w' = .ok new.toArray w') :
    ∃ q, (Builtin.append_ argTypes ty #[.slice base l cap, x]).run P w = .ok (.slice (some ⟨w.heap.size, 0, none⟩) need (need + q))
      { w with heap := w.heap.push (.cells ((old ++ new).toArray ++ Builtin.zeroCells z.toArray q) el (0, 0)), drawn := w.drawn + 1 } := by
  obtain ⟨zv, hzr, hzc, _, _⟩ := run_zero hz
  have hzv : zv.cells = z.toArray := by rw [← hzc]
  obtain ⟨inf, hinf, hib, _⟩ := run_bytes (w := w) hb
  let tape := w.tape w.drawn (.appendCap need cap el)
  refine ⟨tape % (2 ^ 63 - need), ?_⟩
  have e0 : (#[Value.slice base l cap, x] : Array Value)[0]? = some (.slice base l cap) := rfl
  have e1 : (#[Value.slice base l cap, x] : Array Value)[1]? = some x := rfl
  have hbn : ¬ (Builtin.nextslicecap need cap * b > 2 ^ 48) := by
    have h2 := next_cap need cap hcap
    have h3 : Builtin.nextslicecap need cap * b ≤ 16 * need * b := Nat.mul_le_mul_right b h2
    rw [Nat.mul_assoc] at h3
    simp only [roomMax] at hroom
    omega
  unfold Builtin.append_
  simp only [h0, h1, e0, e1, Sem.run_bind, run_und hu, run_und hx, Result.andThen_ok, run_size hs, Sem.run_pure]
  simp only [Bool.false_eq_true, if_false, Sem.run_bind, hlen, Result.andThen_ok]
  rw [if_neg (by omega)]
  simp only [Sem.run_bind, run_info hinf, Result.andThen_ok, hib, false_or, hb0, and_false, if_false]
  rw [← hneed, if_neg hbn]
  simp only [Sem.run_bind, run_choose, Question.forced, Bool.false_eq_true, if_false, Result.andThen_ok, run_info hinf, run_askRoom, Question.cut]
  rw [hold { w with drawn := w.drawn + 1 } rfl]
  simp only [Result.andThen_ok, Bool.not_false, if_true]
  rw [hnew { w with drawn := w.drawn + 1 } rfl]
  simp only [Result.andThen_ok, hzr, newRow, Sem.run_bind, run_newObj, Sem.run_pure, hzv, Nat.add_sub_cancel_left]
  simp [tape]

theorem run_room {sType xType el : TypeId} {u m l cap : Nat} {base : Option Addr} {x : Value} {new : List Value} {w w' : World} {argTypes : Array TypeId} {d : TypeDesc}
    (h0 : argTypes[0]? = some sType) (h1 : argTypes[1]? = some xType) (hu : P.underlying sType = some (.slice el)) (hx : P.underlying xType = some d) (hd : ∀ k, d ≠ .int k) (hs : szOf P el = some u)
    (hlen : (Builtin.lenOf x).run P w = .ok m w) (hcap : l + m ≤ cap) (hnew : (Builtin.firstCells u m x).run P w = .ok new.toArray w)
    (hst : (match base with | some a => storeCells (a.add (l * u)) new | none => pure () : Sem Unit).run P w = .ok () w') :
    (Builtin.append_ argTypes ty #[.slice base l cap, x]).run P w = .ok (.slice base (l + m) cap) w' := by
  have e0 : (#[Value.slice base l cap, x] : Array Value)[0]? = some (.slice base l cap) := rfl
  have e1 : (#[Value.slice base l cap, x] : Array Value)[1]? = some x := rfl
  unfold Builtin.append_
  simp only [h0, h1, e0, e1, Sem.run_bind, run_und hu, run_und hx, Result.andThen_ok, run_size hs, Sem.run_pure]
  simp only [Bool.false_eq_true, if_false, Sem.run_bind, hlen, Result.andThen_ok]
  rw [if_pos hcap]
  simp only [Sem.run_bind, Bool.not_false, if_true, hnew, Result.andThen_ok]
  cases base with
  | none => cases hst; rfl
  | some a => simp only [Sem.run_bind, hst, Result.andThen_ok]; rfl

theorem args_two {a : Act} {c : Call} {x y : Operand} (ha : c.args.toList = [x, y]) : c.args.map a.eval = #[a.eval x, a.eval y] := by
  have : c.args = #[x, y] := by rw [← Array.toArray_toList (xs := c.args), ha]
  simp [this]

theorem run_append {a : Act} {c : Call} {x y : Operand} {v : Value} {w w' : World} (hc : c.callee = .builtin .append) (ha : c.args.toList = [x, y])
    (h : (Builtin.append_ c.argTypes ty #[a.eval x, a.eval y]).run P w = .ok v w') : (execOp a.eval ⟨dst, .call c, ty, pos, after, guard⟩).run P w = .ok (.value v) w' := by
  simp only [execOp, resolve, hc, Sem.run_bind, Sem.run_pure, Result.andThen_ok, invoke, builtin, args_two ha, h]

theorem Step.newDrawn {H : Heap} {w : World} {ρ' : Nat → Place} {H' : Heap} {o : Obj} (h : Step G ρ H w ρ' H' { w with heap := w.heap.push o }) : Step G ρ H w ρ' H' { w with heap := w.heap.push o, drawn := w.drawn + 1 } :=
  h.trans (Step.drawn h.rel rfl rfl rfl rfl)

theorem zeroCells_size (z : Array Value) (q : Nat) : (Builtin.zeroCells z q).size = q * z.size := by simp [Builtin.zeroCells]

theorem grown_row {H : Heap} {w : World} (hr : Rel G ρ H w) {cs ys : List Value} (h : VL H.length ρ cs ys) (z : List Value) (el : TypeId) (u q : Nat) (hz : z.length = u) (hu : u ≠ 0) :
    Step G ρ H w (ext ρ H.length ⟨w.heap.size, 0, q⟩) (H ++ [.row cs u true]) { w with heap := w.heap.push (.cells (ys.toArray ++ Builtin.zeroCells z.toArray q) el (0, 0)), drawn := w.drawn + 1 } := by
  refine Step.newDrawn (new_row hr cs _ el (0, 0) u q ?_ ?_ (by simp) (fun e => absurd e hu))
  · rw [Array.toList_append]
    exact take_flat h _
  · simp [zeroCells_size, hz, h.1]

theorem heap_append {sType xType el : TypeId} {d : TypeDesc} {u b : Nat} {z : List Value} {c : Call} {x y : Operand} (hc : c.callee = .builtin .append) (ha : c.args.toList = [x, y])
    (hx : okO N G x = true) (hy : okO N G y = true) (h0 : c.argTypes[0]? = some sType) (h1 : c.argTypes[1]? = some xType) (hu : P.underlying sType = some (.slice el)) (hxt : P.underlying xType = some d)
    (hd : ∀ k, d ≠ .int k) (hs : szOf P el = some u) (hb : bytesOfT P el = some b) (hz : zeroOf P el = some z) (hu0 : u ≠ 0) (hb0 : b ≠ 0) (hzl : z.length = u) :
    HeapOK P N G ⟨dst, .call c, ty, pos, after, guard⟩ (.append u b x y) := by
  refine HeapOK.of_val (fun e H => ?_) fun e a H ρ w hr hf v H' h => ?_
  · simp only [aop, appendV]; (repeat' split) <;> first | exact .inr rfl | exact .inl ⟨_, _, rfl⟩
  · have v1 := hf.op hx
    have v2 := hf.op hy
    simp only [aop, appendV] at h
    split at h
    · cases h
    · rename_i m hm
      have hlen := fun w' : World => len_sound (P := P) (w := w') v2 hm
      split at h
      · -- a nil list
        rename_i new hnew hnil
        obtain ⟨new', hvl, hrun⟩ := src_sound hr v2 hnew
        rw [hnil] at v1
        have e1 : a.eval x = .slice none 0 0 := by
          rcases v1.inv_slice with ⟨_, _, _, hv⟩ | ⟨b', o', c', h3, _⟩ | ⟨b', o', k', a', c', h3, _⟩
          · exact hv
          · cases h3
          · cases h3
        split at h
        · rename_i hm0
          subst hm0
          simp only [ARes.val.injEq] at h
          obtain ⟨rfl, rfl⟩ := h
          refine ⟨ρ, .slice none 0 0, w, run_append hc ha ?_, Step.refl hr, .slNil⟩
          rw [e1]
          exact run_room (new := new') h0 h1 hu hxt hd hs (hlen w) (by omega) (hrun P w rfl) rfl
        · rename_i hm0
          split at h
          · rename_i hroom
            simp only [ARes.val.injEq] at h
            obtain ⟨rfl, rfl⟩ := h
            obtain ⟨q, hq⟩ := run_grow (ty := ty) (old := []) (new := new') (base := none) (cap := 0) (l := 0) (need := m) h0 h1 hu hxt hd hs hb hz hb0 (hlen w) (by omega) (by omega) hroom.1
              (fun w' _ => rfl) (fun w' hw' => hrun P w' hw')
            exact ⟨_, _, _, run_append hc ha (by rw [e1]; exact hq), grown_row hr hvl z el u q hzl hu0, sl_new _ _ _ _ (Nat.le_refl _)⟩
          · cases h
      · -- a list
        rename_i new bb o l cp hnew hsl
        obtain ⟨new', hvl, hrun⟩ := src_sound hr v2 hnew
        have v1' := v1
        rw [hsl] at v1'
        obtain ⟨hbn, hc0, c', hc1, hc2, e1⟩ : bb < H.length ∧ l ≤ cp ∧ ∃ c', cp ≤ c' ∧ c' ≤ cp + (ρ bb).ext ∧ a.eval x = .slice (some ⟨(ρ bb).blk, (ρ bb).off + o, none⟩) l c' := by
          rcases v1'.inv_slice with ⟨h3, _⟩ | ⟨b', o', c', h3, q1, q2, q3, q4, q5⟩ | ⟨b', o', k', a', c', h3, _⟩
          · cases h3
          · cases h3; exact ⟨q1, q2, c', q3, q4, q5⟩
          · cases h3
        split at h
        · rename_i hm0
          subst hm0
          simp only [ARes.val.injEq] at h
          obtain ⟨rfl, rfl⟩ := h
          refine ⟨ρ, a.eval x, w, run_append hc ha ?_, Step.refl hr, v1⟩
          rw [e1]
          have hn0 : new' = [] := by
            have : new = [] := by
              unfold srcCells at hnew
              split at hnew
              · split at hnew
                · split at hnew
                  · cases hnew; simp
                  · cases hnew
                · cases hnew
              · split at hnew
                · cases hnew; rfl
                · cases hnew
              · split at hnew
                · cases hnew; rfl
                · cases hnew
              · split at hnew
                · cases hnew; simp
                · cases hnew
              · cases hnew
            subst this
            exact List.eq_nil_of_length_eq_zero hvl.1.symm
          subst hn0
          have := run_room (P := P) (ty := ty) (base := some ⟨(ρ bb).blk, (ρ bb).off + o, none⟩) (l := l) (cap := c') (x := a.eval y) (new := []) h0 h1 hu hxt hd hs (hlen w) (by omega) (hrun P w rfl) rfl
          simpa using this
        · rename_i hm0
          split at h
          · rename_i cs u' hrow
            have hb' := hget_some hrow rfl
            split at h
            · rename_i hcond
              obtain ⟨rfl, hlc, hcap, hnl⟩ := hcond
              split at h
              · -- room that we know of
                rename_i hroom
                split at h
                · rename_i hone
                  simp only [ARes.val.injEq] at h
                  obtain ⟨rfl, rfl⟩ := h
                  have hle : o + l * u' + new.length ≤ cs.length := by
                    have : (l + m) * u' ≤ cp * u' := Nat.mul_le_mul_right u' hroom
                    rw [Nat.add_mul] at this
                    omega
                  obtain ⟨w', hst, hstep⟩ := row_put hr hb' hvl hone hle
                  refine ⟨ρ, .slice (some ⟨(ρ bb).blk, (ρ bb).off + o, none⟩) (l + m) c', w', run_append hc ha ?_, hstep, ?_⟩
                  · rw [e1]
                    refine run_room (new := new') h0 h1 hu hxt hd hs (hlen w) (by omega) (hrun P w rfl) ?_
                    simp only [add_spot]
                    rw [Nat.add_assoc]
                    exact hst P
                  · exact .sl _ _ _ _ _ (by simpa using hbn) (by omega) hc1 hc2
                · cases h
              · rename_i hroom
                split at h
                · rename_i hcond2
                  obtain ⟨hr1, hr2, hone⟩ := hcond2
                  simp only [ARes.val.injEq] at h
                  obtain ⟨rfl, rfl⟩ := h
                  obtain ⟨cells, t', fr, hh, hcc, hw0⟩ := hr.obj bb _ hb'
                  obtain ⟨hw1, hw2, hw3⟩ := hw0 rfl
                  have hlcap : l * u' ≤ cp * u' := Nat.mul_le_mul_right u' hlc
                  obtain ⟨hvo, hlo, hrold⟩ := row_list (m := l * u') hh hcc (show o + l * u' ≤ cs.length by omega)
                  by_cases hreal : l + m ≤ c'
                  · -- room that we don't know of: the memory is taken over
                    have hk : (ρ bb).blk < w.heap.size := (Array.getElem?_eq_some_iff.1 hh).1
                    have hone' : ∀ v ∈ new', v.oneCell' = true := fun v hv => by
                      obtain ⟨i, hi⟩ := List.getElem?_of_mem hv
                      have hi' : i < new.length := by have := (List.getElem?_eq_some_iff.1 hi).1; rw [hvl.1]; exact this
                      rw [(hvl.2 i _ v (List.getElem?_eq_getElem hi') hi).one]
                      exact List.all_eq_true.1 hone _ (List.getElem_mem hi')
                    have hnl' : new'.length = m * u' := by rw [← hvl.1]; exact hnl
                    have hmul : (l + m) * u' ≤ c' * u' := Nat.mul_le_mul_right u' hreal
                    have hmul2 : c' * u' ≤ cp * u' + (ρ bb).ext * u' := by rw [← Nat.add_mul]; exact Nat.mul_le_mul_right u' hc2
                    have hsz : (ρ bb).off + (o + l * u') + 0 + new'.length ≤ cells.size := by rw [Nat.add_mul] at hmul; omega
                    have hst := run_stores (P := P) (off := (ρ bb).off + (o + l * u')) new' 0 cells w hh hone' hsz hw2
                    refine ⟨ext ρ H.length ⟨(ρ bb).blk, (ρ bb).off + o, c' - (l + m)⟩, .slice (some ⟨(ρ bb).blk, (ρ bb).off + o, none⟩) (l + m) c', setRow w (ρ bb).blk (setL cells.toList ((ρ bb).off + (o + l * u') + 0) new').toArray t' fr, run_append hc ha ?_, ?_, ?_⟩
                    · rw [e1]
                      refine run_room (new := new') h0 h1 hu hxt hd hs (hlen w) hreal (hrun P w rfl) ?_
                      simp only [add_spot]
                      rw [Nat.add_assoc]
                      exact hst
                    · refine Step.take hr hb' rfl _ rfl (by simp [setRow]) (fun c hc => setRow_ne hc) rfl rfl rfl ?_
                      refine ⟨_, t', fr, by rw [ext_same]; exact setRow_at hk, fun i v hv => ?_, fun _ => ⟨?_, ?_, hw3⟩⟩
                      · rw [ext_same]
                        simp only [List.getElem?_toArray, setL_get, Array.length_toList]
                        have up : ∀ {v v' : Value}, VR H.length ρ v v' → VR (H.length + 1) (ext ρ H.length ⟨(ρ bb).blk, (ρ bb).off + o, c' - (l + m)⟩) v v' := fun h => h.mono (by omega) (fun b hb => ext_lt hb)
                        by_cases hi : i < l * u'
                        · rw [List.getElem?_append_left (by simp; omega)] at hv
                          rw [if_neg (by omega)]
                          rw [List.getElem?_take, if_pos hi, List.getElem?_drop] at hv
                          obtain ⟨v', hv', hvr⟩ := hcc _ _ hv
                          exact ⟨v', by simpa [Nat.add_assoc] using hv', up hvr⟩
                        · have hdl : ((cs.drop o).take (l * u')).length = l * u' := by simp; omega
                          rw [List.getElem?_append_right (by omega), hdl] at hv
                          obtain ⟨v', hv', hvr⟩ := hvl.get hv
                          have hi2 : i - l * u' < new.length := (List.getElem?_eq_some_iff.1 hv).1
                          rw [if_pos (by omega)]
                          exact ⟨v', by rw [show (ρ bb).off + o + i - ((ρ bb).off + (o + l * u') + 0) = i - l * u' by omega]; exact hv', up hvr⟩
                      · rw [ext_same]
                        simp only [List.size_toArray, setL_length, Array.length_toList, List.length_append, List.length_take, List.length_drop]
                        have : (c' - (l + m)) * u' = c' * u' - (l + m) * u' := Nat.sub_mul _ _ _
                        rw [this, hnl]
                        rw [Nat.add_mul] at *
                        omega
                      · simpa [setL_length] using hw2
                    · have := VR.sl (n := (H.set bb .dead ++ [AObj.row ((cs.drop o).take (l * u') ++ new) u' true]).length) (ρ := ext ρ H.length ⟨(ρ bb).blk, (ρ bb).off + o, c' - (l + m)⟩) H.length 0 (l + m) (l + m) c' (by simp) (Nat.le_refl _) hreal (by simp [ext_same]; omega)
                      simpa [ext_same] using this
                  · -- no room
                    obtain ⟨q, hq⟩ := run_grow (P := P) (ty := ty) (old := (cells.toList.drop ((ρ bb).off + o)).take (l * u')) (new := new') (base := some ⟨(ρ bb).blk, (ρ bb).off + o, none⟩) (cap := c') (l := l) (need := l + m)
                      h0 h1 hu hxt hd hs hb hz hb0 (hlen w) rfl (by omega) hr1 (fun w' hw' => hrold P w' hw') (fun w' hw' => hrun P w' hw')
                    have hkill := Step.kill hr bb
                    have hvall : VL (H.set bb .dead).length ρ ((cs.drop o).take (l * u') ++ new) ((cells.toList.drop ((ρ bb).off + o)).take (l * u') ++ new') := by
                      rw [List.length_set]; exact hvo.append hvl
                    have hgrow := grown_row hkill.rel hvall z el u' q hzl hu0
                    refine ⟨_, _, _, run_append hc ha (by rw [e1]; exact hq), hkill.trans hgrow, ?_⟩
                    have := sl_new (H := H.set bb .dead) (ρ := ρ) (x := AObj.row ((cs.drop o).take (l * u') ++ new) u' true) w.heap.size q (l + m) (l + m) (Nat.le_refl _)
                    simpa using this
                · cases h
            · cases h
          · cases h
      · cases h

end Go.Proofs.YtedemfmafdilmaaDoor.Ev
