/- The evaluator's texts and bytes, iterators, copies, comparisons of places, calls. Conditions: none. -/
import Derived.Test.YtedemfmafdilmaaDoorEvK
namespace Go.Proofs.YtedemfmafdilmaaDoor.Ev

variable {P : Program} {N G n : Nat} {ρ : Nat → Place}
variable {dst : Option Nat} {ty : TypeId} {pos : String} {after : Array Edge} {guard : Option (Nat × Bool)}

theorem heap_s2b {s d el : TypeId} {x : Operand} (hx : okO N G x = true) (hs : P.underlying s = some .string) (hd : P.underlying d = some (.slice el)) (hel : P.underlying el = some (.int .u8)) :
    HeapOK P N G ⟨dst, .convert s d x, ty, pos, after, guard⟩ (.s2b x) := by
  refine HeapOK.of_val (fun e H => ?_) fun e a H ρ w hr hf v H' h => ?_
  · simp only [aop]; (repeat' split) <;> first | exact .inr rfl | exact .inl ⟨_, _, rfl⟩
  · have h1 := hf.op hx
    simp only [aop] at h
    split at h
    · rename_i str hstr
      simp only [ARes.val.injEq] at h
      obtain ⟨rfl, rfl⟩ := h
      rw [hstr] at h1
      let q := w.tape w.drawn (.appendCap str.size 0 el) % (2 ^ 63 - str.size)
      let arr : Array Value := str.data.map (fun b => Value.int .u8 b.toNat) ++ Array.replicate q (.int .u8 0)
      have hstep : Step G ρ H w (ext ρ H.length ⟨w.heap.size, 0, q⟩) (H ++ [.row (str.data.toList.map fun b => .int .u8 b.toNat) 1 true]) { w with heap := w.heap.push (.cells arr el (arr.size, arr.size + 1)) } := by
        refine new_row hr _ arr el _ 1 q ?_ ?_ (fun i hi => by simp; omega) (by simp)
        · simp only [arr, Array.toList_append, Array.toList_map]
          exact take_flat (VL.map _ _ _ fun x _ => .int _ _) _
        · simp [arr]
      refine ⟨_, .slice (some ⟨w.heap.size, 0, none⟩) str.size (str.size + q), _, ?_, Step.newDrawn hstep, sl_new _ _ _ _ (Nat.le_refl _)⟩
      simp only [execOp, Sem.run_bind, convert, run_und hs, run_und hd, run_und hel, Result.andThen_ok, h1.inv_string, Conv.stringToBytes, run_choose, Question.forced, Bool.false_eq_true, if_false, Question.cut, newRow, run_newObj, Sem.run_pure, markStringish, run_shape]
      have hshape : ∀ (os : Array Obj) (a : Array Value) (t : TypeId), ({ heap := os.push (.cells a t), tape := w.tape, drawn := w.drawn + 1, os := w.os, output := w.output } : World).shape? os.size = some (t, a.size) := fun os a t => by
        simp [World.shape?]
      rw [hshape]
      simp only [run_freeze, Result.andThen_ok]
      have hfr : ∀ (a : Array Value), ({ heap := w.heap.push (.cells a el), tape := w.tape, drawn := w.drawn + 1, os := w.os, output := w.output } : World).freeze ⟨w.heap.size, a.size, none⟩ 1 =
          { heap := w.heap.push (.cells a el (a.size, a.size + 1)), tape := w.tape, drawn := w.drawn + 1, os := w.os, output := w.output } := fun a => by
        unfold World.freeze
        rw [if_neg (by simp)]
        simp only [World.mk.injEq, and_true]
        rw [modify_eq _ _ _ (.cells a el (0, 0)) (by simp)]
        apply Array.ext_getElem?
        intro i
        rw [Array.getElem?_setIfInBounds]
        by_cases hi : w.heap.size = i
        · subst hi; simp
        · rw [if_neg hi, Array.getElem?_push, Array.getElem?_push, if_neg (fun e => hi e.symm), if_neg (fun e => hi e.symm)]
      rw [hfr]
      simp [arr, q]
    · cases h

theorem bytes_same : ∀ {xs ys : List Value} {l : List UInt8}, VL n ρ xs ys → bytesOf xs = some l → bytesOf ys = some l := by
  intro xs
  induction xs with
  | nil => intro ys l h hb; have : ys = [] := List.eq_nil_of_length_eq_zero h.1.symm; subst this; exact hb
  | cons x xs ih =>
    intro ys l h hb
    cases ys with
    | nil => have := h.1; simp at this
    | cons y ys =>
      unfold bytesOf at hb
      split at hb
      · rename_i h1; cases h1
      · rename_i m l' h1
        cases h1
        obtain ⟨r, hr, rfl⟩ := Option.map_eq_some_iff.1 hb
        rw [h.head.inv_int]
        simp [bytesOf, ih h.tail hr]
      · cases hb

theorem run_bytes2 {w : World} {body : Value → ByteArray → Sem (ForInStep ByteArray)} (hbody : ∀ (n : Int) (s : ByteArray) (w : World), (body (.int .u8 n) s).run P w = .ok (.yield (s.push (UInt8.ofNat n.toNat))) w) :
    ∀ (ys : List Value) (l : List UInt8) (s : ByteArray), bytesOf ys = some l → (forIn ys s body : Sem ByteArray).run P w = .ok ⟨s.data ++ l.toArray⟩ w := by
  intro ys
  induction ys with
  | nil => intro l s h; simp only [bytesOf] at h; cases h; simp
  | cons y ys ih =>
    intro l s h
    unfold bytesOf at h
    split at h
    · rename_i h1; cases h1
    · rename_i m l' h1
      cases h1
      obtain ⟨r, hr, rfl⟩ := Option.map_eq_some_iff.1 h
      rw [List.forIn_cons]
      simp only [Sem.run_bind, hbody, Result.andThen_ok]
      rw [ih r _ hr]
      simp [ByteArray.push]
    · cases h

theorem heap_b2s {s d el : TypeId} {x : Operand} (hx : okO N G x = true) (hs : P.underlying s = some (.slice el)) (hd : P.underlying d = some .string) (hel : P.underlying el = some (.int .u8)) :
    HeapOK P N G ⟨dst, .convert s d x, ty, pos, after, guard⟩ (.b2s x) := by
  refine HeapOK.of_val (fun e H => ?_) fun e a H ρ w hr hf v H' h => ?_
  · simp only [aop]; (repeat' split) <;> first | exact .inr rfl | exact .inl ⟨_, _, rfl⟩
  · have h1 := hf.op hx
    simp only [aop] at h
    split at h
    · cases h
    · rename_i m hm
      split at h
      · rename_i ad l c hsl
        split at h
        · rename_i l' hl
          simp only [ARes.val.injEq] at h
          obtain ⟨rfl, rfl⟩ := h
          obtain ⟨cs, hcs, hb⟩ := Option.bind_eq_some_iff.1 hl
          obtain ⟨new', hvl, hrun⟩ := src_sound hr h1 hcs
          have hb' := bytes_same hvl hb
          rw [hsl] at h1 hm
          simp only [lenV] at hm
          cases hm
          refine ⟨ρ, .string ⟨l'.toArray⟩, w, ?_, Step.refl hr, .string _⟩
          have hr2 := hrun P w rfl
          simp only [execOp, Sem.run_bind, convert, run_und hs, run_und hd, Result.andThen_ok]
          rcases h1.inv_slice with ⟨rfl, rfl, rfl, hv⟩ | ⟨b, o, c', rfl, hbn, hc0, hc1, hc2, hv⟩ | ⟨b, o, k, a', c', rfl, rfl, rfl, hv⟩
          · rw [hv] at hr2 ⊢
            simp only [Builtin.firstCells, Sem.run_pure] at hr2
            injection hr2 with hr2
            have : new' = [] := by simpa using hr2.symm
            subst this
            simp only [bytesOf] at hb'
            cases hb'
            simp only [Sem.run_bind, run_und hel, Result.andThen_ok, Conv.bytesToString, Sem.run_pure]
            rfl
          · rw [hv] at hr2 ⊢
            simp only [Builtin.firstCells, Nat.mul_one] at hr2
            simp only [Sem.run_bind, run_und hel, Conv.bytesToString, hr2, Result.andThen_ok, List.forIn_toArray]
            rw [run_bytes2 (fun n s w => rfl) new' l' _ hb']
            simp [ByteArray.empty, ByteArray.emptyWithCapacity]
            try rfl
          · rw [hv] at hr2 ⊢
            simp only [Builtin.firstCells, Nat.mul_one] at hr2
            simp only [Sem.run_bind, run_und hel, Conv.bytesToString, hr2, Result.andThen_ok, List.forIn_toArray]
            rw [run_bytes2 (fun n s w => rfl) new' l' _ hb']
            simp [ByteArray.empty, ByteArray.emptyWithCapacity]
            try rfl
        · cases h
      · cases h

theorem heap_rng {t : TypeId} {x : Operand} (hx : okO N G x = true) (ht : P.underlying t = some .string) : HeapOK P N G ⟨dst, .range t x, ty, pos, after, guard⟩ (.rng x) := by
  refine HeapOK.of_val (fun e H => ?_) fun e a H ρ w hr hf v H' h => ?_
  · simp only [aop]; (repeat' split) <;> first | exact .inr rfl | exact .inl ⟨_, _, rfl⟩
  · have h1 := hf.op hx
    simp only [aop] at h
    split at h
    · rename_i s hs
      simp only [ARes.val.injEq] at h
      obtain ⟨rfl, rfl⟩ := h
      rw [hs] at h1
      refine ⟨_, .pointer (some ⟨w.heap.size, 0, none⟩), _, ?_, Step.new hr (.stringIter s 0) (.iter s 0) 0 ⟨by simp [ext_same], by simp [ext_same]⟩, ptr_new _ _⟩
      simp [execOp, Instr.range, run_und ht, h1.inv_string]
    · cases h

theorem heap_nxt {x : Operand} (hx : okO N G x = true) : HeapOK P N G ⟨dst, .next x true, ty, pos, after, guard⟩ (.nxt x) := by
  refine HeapOK.of_val (fun e H => ?_) fun e a H ρ w hr hf v H' h => ?_
  · simp only [aop]; (repeat' split) <;> first | exact .inr rfl | exact .inl ⟨_, _, rfl⟩
  · have h1 := hf.op hx
    simp only [aop] at h
    split at h
    · rename_i b hb
      rw [hb] at h1
      obtain ⟨hbn, hv⟩ := h1.inv_ptr
      split at h
      · rename_i s p hit
        have hb' := hget_some hit rfl
        obtain ⟨hh, hoff⟩ := hr.obj b _ hb'
        have hk : (ρ b).blk < w.heap.size := (Array.getElem?_eq_some_iff.1 hh).1
        have hgo : ∀ w : World, w.heap[(ρ b).blk]? = some (.stringIter s p) → (getObj (ρ b).blk).run P w = .ok (.stringIter s p) w := fun w h => by simp [getObj, Sem.run, h]
        rw [hoff] at hv
        split at h
        · rename_i hp
          simp only [ARes.val.injEq] at h
          obtain ⟨rfl, rfl⟩ := h
          refine ⟨ρ, _, { w with heap := w.heap.setIfInBounds (ρ b).blk (.stringIter s (p + (Utf8.decode s p).2)) }, ?_, Step.upd hr hb' rfl rfl (by simp) (fun c hc => by simp [Array.getElem?_setIfInBounds_ne (Ne.symm hc)]) rfl rfl rfl ⟨by simp [hk], hoff⟩,
            VL.tuple (xs := [.bool true, .int .i64 p, .int .i32 (Utf8.decode s p).1]) (ys := [.bool true, .int .i64 p, .int .i32 (Utf8.decode s p).1]) (VL.cons (.bool _) (VL.cons (.int _ _) (VL.cons (.int _ _) VL.nil)))⟩
          simp only [execOp, hv, Instr.next, Sem.run_bind, hgo w hh, Result.andThen_ok, if_pos hp]
          simp [setObj, Sem.run, hh, goInt]
        · rename_i hp
          simp only [ARes.val.injEq] at h
          obtain ⟨rfl, rfl⟩ := h
          refine ⟨ρ, _, w, ?_, Step.refl hr, VL.tuple (xs := [.bool false]) (ys := [.bool false]) (VL.cons (.bool _) VL.nil)⟩
          simp only [execOp, hv, Instr.next, Sem.run_bind, hgo w hh, Result.andThen_ok, if_neg hp]
          rfl
      · cases h
    · cases h

theorem heap_copy {dType el : TypeId} {u : Nat} {c : Call} {x y : Operand} (hc : c.callee = .builtin .copy) (ha : c.args.toList = [x, y]) (hx : okO N G x = true) (hy : okO N G y = true)
    (h0 : c.argTypes[0]? = some dType) (hu : P.underlying dType = some (.slice el)) (hs : szOf P el = some u) : HeapOK P N G ⟨dst, .call c, ty, pos, after, guard⟩ (.copy u x y) := by
  refine HeapOK.of_val (fun e H => ?_) fun e a H ρ w hr hf v H' h => ?_
  · simp only [aop]; (repeat' split) <;> first | exact .inr rfl | exact .inl ⟨_, _, rfl⟩
  · have v1 := hf.op hx
    have v2 := hf.op hy
    have e0 : ∀ p q : Value, (#[p, q] : Array Value)[0]? = some p := fun _ _ => rfl
    have e1 : ∀ p q : Value, (#[p, q] : Array Value)[1]? = some q := fun _ _ => rfl
    simp only [aop] at h
    split at h
    · rename_i b o dl dc m hd hm
      have hlen := len_sound (P := P) (w := w) v2 hm
      rw [hd] at v1
      split at h
      · rename_i cs u' hrow
        split at h
        · rename_i new hnew
          split at h
          · rename_i hcond
            simp only [ARes.val.injEq] at h
            obtain ⟨rfl, rfl⟩ := h
            obtain ⟨new', hvl, hrun⟩ := src_sound hr v2 hnew
            obtain ⟨w', hst, hstep⟩ := row_put hr (hget_some hrow rfl) hvl hcond.1 hcond.2
            rcases v1.inv_slice with ⟨h3, _⟩ | ⟨b', o', c', h3, q1, q2, q3, q4, q5⟩ | ⟨b', o', k', a', c', h3, _⟩
            · cases h3
            · cases h3
              refine ⟨ρ, .int .i64 (min m dl : Nat), w', ?_, hstep, .int _ _⟩
              simp only [execOp, resolve, hc, Sem.run_bind, Sem.run_pure, Result.andThen_ok, invoke, builtin, args_two ha, Builtin.copy_, h0, e0, e1, run_und hu, q5, hlen, run_size hs]
              have hr2 := hrun P w rfl
              have : Nat.min m dl = min m dl := rfl
              rw [this, hr2]
              simp [hst, goInt]
            · cases h3
          · cases h
        · cases h
      · cases h
    · rename_i m hd hm
      have hlen := len_sound (P := P) (w := w) v2 hm
      simp only [ARes.val.injEq] at h
      obtain ⟨rfl, rfl⟩ := h
      rw [hd] at v1
      have hz : (Builtin.firstCells u 0 (a.eval y)).run P w = .ok #[] w := by
        unfold lenV at hm
        split at hm
        · rename_i hsl
          rw [hsl] at v2
          rcases v2.inv_slice with ⟨_, _, _, h2⟩ | ⟨b, o, c', _, _, _, _, _, h2⟩ | ⟨b, o, k, a', c', _, _, _, h2⟩ <;> rw [h2] <;> simp [Builtin.firstCells, loadCells, loadCellsFrom]
        · rename_i hst
          rw [hst] at v2
          rw [v2.inv_string]
          simp [Builtin.firstCells]
        · cases hm
      rcases v1.inv_slice with ⟨_, _, _, hv⟩ | ⟨b', o', c', h3, _⟩ | ⟨b', o', k', a', c', h3, _⟩
      · refine ⟨ρ, .int .i64 0, w, ?_, Step.refl hr, .int _ _⟩
        simp only [execOp, resolve, hc, Sem.run_bind, Sem.run_pure, Result.andThen_ok, invoke, builtin, args_two ha, Builtin.copy_, h0, e0, e1, run_und hu, hv, hlen, run_size hs]
        have : Nat.min m 0 = 0 := Nat.min_zero m
        rw [this, hz]
        simp [goInt]
      · cases h3
      · cases h3
    · cases h

theorem heap_callv {c : Call} {f : Operand} (hc : c.callee = .value f) (hf0 : okO N G f = true) (hx : c.args.toList.all (okO N G) = true) : HeapOK P N G ⟨dst, .call c, ty, pos, after, guard⟩ (.callv f c.args.toList) := by
  intro e a H ρ w hr hf
  have h1 := hf.op hf0
  have h2 := vl_ops hf _ hx
  refine ⟨fun v H' h => ?_, fun H' h => ?_, fun g args h => ?_, fun v h => ?_⟩
  · simp only [aop] at h; split at h <;> cases h
  · simp only [aop] at h; split at h <;> cases h
  · simp only [aop] at h
    split at h
    · rename_i g' first captured hfv
      cases h
      rw [hfv] at h1
      obtain ⟨first', cap', hv, hvl1, hvl2⟩ := h1.inv_func
      refine ⟨first' ++ c.args.map a.eval ++ cap', ?_, ?_⟩
      · simp [execOp, resolve, hc, hv, Deferred.ofValue, invoke]
      · simp only [Array.toList_append, Array.toList_map]
        exact (hvl1.append h2).append hvl2
    · cases h
  · simp only [aop] at h; split at h <;> cases h

theorem heap_panic {o : Oper} {x : Operand} (hx : okO N G x = true) (ho : ∀ (a : Act) (w : World), (execOp a.eval o).run P w = (do pure (.value (← Instr.panic (a.eval x))) : Sem Next).run P w) : HeapOK P N G o (.panic x) := by
  intro e a H ρ w hr hf
  have h1 := hf.op hx
  refine ⟨fun v H' h => ?_, fun H' h => ?_, fun g args h => ?_, fun v h => ?_⟩
  · simp only [aop] at h; split at h <;> cases h
  · simp only [aop] at h; split at h <;> cases h
  · simp only [aop] at h; split at h <;> cases h
  · simp only [aop] at h
    split at h
    · rename_i t y hv
      cases h
      rw [hv] at h1
      obtain ⟨y', hv', hvr⟩ := h1.inv_iface
      refine ⟨.iface t y', ?_, .iface _ _ _ hvr⟩
      rw [ho, hv']
      simp [Instr.panic]
    · cases h

theorem unit_row {H : Heap} {w : World} {b : Nat} (hr : Rel G ρ H w) (h : unitRow (hget H b) = true) : ∃ cs cells t, H[b]? = some (.row cs 0 true) ∧ w.heap[(ρ b).blk]? = some (.cells cells t (0, 0)) ∧ cells.size ≠ 0 := by
  unfold unitRow at h
  split at h
  · rename_i cs hrow
    have hb := hget_some hrow rfl
    obtain ⟨cells, t, fr, hh, hc, hw⟩ := hr.obj b _ hb
    obtain ⟨h1, h2, h3⟩ := hw rfl
    rw [h3 rfl] at hh
    simp at h
    exact ⟨cs, cells, t, hb, hh, by have := List.length_pos_iff.2 h; omega⟩
  · cases h

theorem run_sameAddr {H : Heap} {w : World} {b c o p : Nat} {r : Bool} (hr : Rel G ρ H w) (h : (if b = c then some (o == p) else if unitRow (hget H b) && unitRow (hget H c) then some false else none) = some r) :
    (sameAddr ⟨(ρ b).blk, (ρ b).off + o, none⟩ ⟨(ρ c).blk, (ρ c).off + p, none⟩).run P w = .ok r w := by
  unfold sameAddr
  split at h
  · rename_i hbc
    subst hbc
    cases h
    simp only [beq_self_eq_true, if_true, Sem.run_pure]
    congr 1
    rw [Bool.eq_iff_iff]
    simp
  · rename_i hbc
    split at h
    · rename_i hu
      cases h
      simp only [Bool.and_eq_true] at hu
      obtain ⟨cs1, ce1, t1, g1, g2, g3⟩ := unit_row hr hu.1
      obtain ⟨cs2, ce2, t2, g4, g5, g6⟩ := unit_row hr hu.2
      have hne : (ρ b).blk ≠ (ρ c).blk := hr.inj b c _ _ g1 g4 hbc rfl rfl
      have f1 : ∀ k, w.frozen? ⟨(ρ b).blk, k, none⟩ = false := fun k => by rw [frozen_of g2]; simp
      have f2 : ∀ k, w.frozen? ⟨(ρ c).blk, k, none⟩ = false := fun k => by rw [frozen_of g5]; simp
      have s1 : w.shape? (ρ b).blk = some (t1, ce1.size) := by simp [World.shape?, g2]
      have s2 : w.shape? (ρ c).blk = some (t2, ce2.size) := by simp [World.shape?, g5]
      have n1 : ((some (t1, ce1.size) : Option (TypeId × Nat)) matches some (_, 0)) = false := by
        cases hs : ce1.size with
        | zero => exact absurd hs g3
        | succ k => rfl
      have n2 : ((some (t2, ce2.size) : Option (TypeId × Nat)) matches some (_, 0)) = false := by
        cases hs : ce2.size with
        | zero => exact absurd hs g6
        | succ k => rfl
      have b1 : ((ρ b).blk == (ρ c).blk) = false := by simpa using hne
      simp only [b1, Bool.false_eq_true, if_false, Sem.run_bind, run_frozen, f1, f2, Result.andThen_ok, Bool.and_self, noView, viewAt, run_shape, s1, s2, Option.isSome_some, if_true, Sem.run_pure, Option.isSome_none, mayBeOne, stringish, Bool.false_and, Bool.or_self]
    · cases h

theorem run_equal_ptr {d : Nat} {t el : TypeId} {s : Nat} {p q : Option Addr} {w : World} (hu : P.underlying t = some (.pointer el)) (hs : szOf P el = some (s + 1)) :
    (Op.equalIn (d + 1) t (.pointer p) (.pointer q)).run P w = match p, q with
      | none, q => .ok q.isNone w
      | some _, none => .ok false w
      | some a, some b => (sameAddr a b).run P w := by
  simp only [Op.equalIn, Sem.run_bind, run_und hu, Result.andThen_ok]
  cases p <;> cases q
  · rfl
  · rfl
  · rfl
  · simp only [Sem.run_bind, run_size hs, Result.andThen_ok]
    rw [if_pos (by omega)]

theorem run_equal_sl {d : Nat} {t el : TypeId} {p q : Option Addr} {l c l' c' : Nat} {w : World} (hu : P.underlying t = some (.slice el)) (h : p = none ∨ q = none) :
    (Op.equalIn (d + 1) t (.slice p l c) (.slice q l' c')).run P w = .ok (p.isNone && q.isNone) w := by
  simp only [Op.equalIn, Sem.run_bind, run_und hu, Result.andThen_ok]
  cases p <;> cases q
  · rfl
  · rfl
  · rfl
  · rcases h with h | h <;> cases h

theorem eq_of_equal {op : BinOp} {t : TypeId} {x y : Value} {r : Bool} {w : World} (hop : op = .eql ∨ op = .neq) (h : (Op.equal t x y).run P w = .ok r w)
    (hk : (∃ p q, x = .pointer p ∧ y = .pointer q) ∨ (∃ p l c q l' c', x = .slice p l c ∧ y = .slice q l' c') ∨ (x = .nilFunc ∧ y = .nilFunc) ∨ (∃ f a b, x = .nilFunc ∧ y = .func f a b) ∨ (∃ f a b, x = .func f a b ∧ y = .nilFunc)) :
    (binOp op t x y).run P w = .ok (.bool (r != isNeq op)) w := by
  rcases hk with ⟨p, q, rfl, rfl⟩ | ⟨p, l, c, q, l', c', rfl, rfl⟩ | ⟨rfl, rfl⟩ | ⟨f, a, b, rfl, rfl⟩ | ⟨f, a, b, rfl, rfl⟩ <;> rcases hop with rfl | rfl <;> simp only [binOp, Sem.run_bind, h, Result.andThen_ok, isNeq] <;> simp

theorem heap_eqp {op : BinOp} {t yt : TypeId} {kind : Nat} {x y : Operand} (hx : okO N G x = true) (hy : okO N G y = true) (hop : op = .eql ∨ op = .neq)
    (hk : (kind = 0 ∧ ∃ el s, P.underlying t = some (.pointer el) ∧ szOf P el = some (s + 1)) ∨ (kind = 1 ∧ ∃ el, P.underlying t = some (.slice el)) ∨ (kind = 2 ∧ ∃ ps rs v, P.underlying t = some (.func ps rs v))) :
    HeapOK P N G ⟨dst, .binOp op t x y yt, ty, pos, after, guard⟩ (.eqp kind (isNeq op) x y) := by
  refine HeapOK.of_val (fun e H => ?_) fun e a H ρ w hr hf v H' h => ?_
  · simp only [aop, ofO]; split <;> first | exact .inr rfl | exact .inl ⟨_, _, rfl⟩
  · have v1 := hf.op hx
    have v2 := hf.op hy
    simp only [aop] at h
    obtain ⟨h3, rfl⟩ := ofO_val h
    obtain ⟨b, hb, rfl⟩ := Option.map_eq_some_iff.1 h3
    have fin : ∀ (h1 : (Op.equal t (a.eval x) (a.eval y)).run P w = .ok b w)
        (h2 : (∃ p q, a.eval x = .pointer p ∧ a.eval y = .pointer q) ∨ (∃ p l c q l' c', a.eval x = .slice p l c ∧ a.eval y = .slice q l' c') ∨ (a.eval x = .nilFunc ∧ a.eval y = .nilFunc) ∨ (∃ f a' b, a.eval x = .nilFunc ∧ a.eval y = .func f a' b) ∨ (∃ f a' b, a.eval x = .func f a' b ∧ a.eval y = .nilFunc)),
        ∃ ρ' v' w', (execOp a.eval ⟨dst, .binOp op t x y yt, ty, pos, after, guard⟩).run P w = .ok (.value v') w' ∧ Step G ρ H' w ρ' H' w' ∧ VR H'.length ρ' (.bool (b != isNeq op)) v' := by
      intro h1 h2
      refine ⟨ρ, .bool (b != isNeq op), w, ?_, Step.refl hr, .bool _⟩
      simp only [execOp, Sem.run_bind]
      rw [run_eqGuard w]
      · simp only [Result.andThen_ok, eq_of_equal hop h1 h2, Sem.run_pure]
      · intro c d hh
        rcases h2 with ⟨p, q, g1, g2⟩ | ⟨p, l, c, q, l', c', g1, g2⟩ | ⟨g1, g2⟩ | ⟨f, a', b, g1, g2⟩ | ⟨f, a', b, g1, g2⟩ <;> rw [g1] at hh <;> cases hh.1
      · intro hh
        rcases h2 with ⟨p, q, g1, g2⟩ | ⟨p, l, c, q, l', c', g1, g2⟩ | ⟨g1, g2⟩ | ⟨f, a', b, g1, g2⟩ | ⟨f, a', b, g1, g2⟩ <;> rw [g1] at hh <;> cases hh.1
    rcases hk with ⟨rfl, el, s, hu, hs⟩ | ⟨rfl, el, hu⟩ | ⟨rfl, ps, rs, vv, hu⟩
    · -- places
      simp only [eqP] at hb
      unfold eqPtr at hb
      split at hb
      · rename_i g1 g2
        rw [g1] at v1; rw [g2] at v2
        cases hb
        refine fin ?_ (.inl ⟨_, _, v1.inv_ptrNil, v2.inv_ptrNil⟩)
        rw [v1.inv_ptrNil, v2.inv_ptrNil]
        exact run_equal_ptr (d := 9999) hu hs
      · rename_i q g1 g2
        rw [g1] at v1; rw [g2] at v2
        cases hb
        obtain ⟨bb, o, _, _, hv⟩ := v2.inv_ptrSome
        refine fin ?_ (.inl ⟨_, _, v1.inv_ptrNil, hv⟩)
        rw [v1.inv_ptrNil, hv]
        exact run_equal_ptr (d := 9999) hu hs
      · rename_i q g1 g2
        rw [g1] at v1; rw [g2] at v2
        cases hb
        obtain ⟨bb, o, _, _, hv⟩ := v1.inv_ptrSome
        refine fin ?_ (.inl ⟨_, _, hv, v2.inv_ptrNil⟩)
        rw [v2.inv_ptrNil, hv]
        exact run_equal_ptr (d := 9999) hu hs
      · rename_i b1 o1 c1 p1 g1 g2
        rw [g1] at v1; rw [g2] at v2
        have hv1 := v1.inv_ptr.2
        have hv2 := v2.inv_ptr.2
        refine fin ?_ (.inl ⟨_, _, hv1, hv2⟩)
        rw [hv1, hv2]
        exact (run_equal_ptr (d := 9999) hu hs).trans (run_sameAddr hr hb)
      · cases hb
    · simp only [eqP] at hb
      unfold eqSl at hb
      have shape : ∀ {q : Option Addr} {l c : Nat} {z : Value}, VR H'.length ρ (.slice q l c) z → ∃ q' l' c', z = .slice q' l' c' ∧ q'.isNone = q.isNone := fun h => by
        rcases h.inv_slice with ⟨rfl, _, _, hv⟩ | ⟨_, _, _, rfl, _, _, _, _, hv⟩ | ⟨_, _, _, _, _, rfl, _, _, hv⟩ <;> exact ⟨_, _, _, hv, rfl⟩
      have both : ∀ {q r : Option Addr} {l c l' c' : Nat}, VR H'.length ρ (.slice q l c) (a.eval x) → VR H'.length ρ (.slice r l' c') (a.eval y) → q = none ∨ r = none → b = (q.isNone && r.isNone) →
          ∃ ρ' v' w', (execOp a.eval ⟨dst, .binOp op t x y yt, ty, pos, after, guard⟩).run P w = .ok (.value v') w' ∧ Step G ρ H' w ρ' H' w' ∧ VR H'.length ρ' (.bool (b != isNeq op)) v' := by
        intro q r l c l' c' w1 w2 hn hbq
        obtain ⟨q1, l1, c1, hv1, hq1⟩ := shape w1
        obtain ⟨q2, l2, c2, hv2, hq2⟩ := shape w2
        refine fin ?_ (.inr (.inl ⟨_, _, _, _, _, _, hv1, hv2⟩))
        rw [hv1, hv2, hbq, ← hq1, ← hq2]
        refine run_equal_sl (d := 9999) hu ?_
        rcases hn with rfl | rfl
        · exact .inl (by simpa using hq1)
        · exact .inr (by simpa using hq2)
      split at hb
      · rename_i g1 g2
        rw [g1] at v1; rw [g2] at v2
        cases hb
        exact both v1 v2 (.inl rfl) rfl
      · rename_i g1 g2
        rw [g1] at v1; rw [g2] at v2
        cases hb
        exact both v1 v2 (.inl rfl) rfl
      · rename_i g1 g2
        rw [g1] at v1; rw [g2] at v2
        cases hb
        exact both v1 v2 (.inr rfl) rfl
      · cases hb
    · simp only [eqP] at hb
      unfold eqFn at hb
      have run2 : ∀ (u v : Value) (r : Bool), ((u = .nilFunc ∧ v = .nilFunc ∧ r = true) ∨ (∃ f c d, u = .nilFunc ∧ v = .func f c d ∧ r = false) ∨ (∃ f c d, u = .func f c d ∧ v = .nilFunc ∧ r = false)) → (Op.equalIn (9999 + 1) t u v).run P w = .ok r w := by
        intro u v r h
        generalize 9999 = d0
        simp only [Op.equalIn, Sem.run_bind, run_und hu, Result.andThen_ok]
        rcases h with ⟨rfl, rfl, rfl⟩ | ⟨_, _, _, rfl, rfl, rfl⟩ | ⟨_, _, _, rfl, rfl, rfl⟩ <;> rfl
      split at hb
      · rename_i g1 g2
        rw [g1] at v1; rw [g2] at v2
        cases hb
        exact fin (run2 _ _ _ (.inl ⟨v1.inv_nilFunc, v2.inv_nilFunc, rfl⟩)) (.inr (.inr (.inl ⟨v1.inv_nilFunc, v2.inv_nilFunc⟩)))
      · rename_i f c d g1 g2
        rw [g1] at v1; rw [g2] at v2
        cases hb
        obtain ⟨f', c', hv, _, _⟩ := v2.inv_func
        exact fin (run2 _ _ _ (.inr (.inl ⟨_, _, _, v1.inv_nilFunc, hv, rfl⟩))) (.inr (.inr (.inr (.inl ⟨_, _, _, v1.inv_nilFunc, hv⟩))))
      · rename_i f c d g1 g2
        rw [g1] at v1; rw [g2] at v2
        cases hb
        obtain ⟨f', c', hv, _, _⟩ := v1.inv_func
        exact fin (run2 _ _ _ (.inr (.inr ⟨_, _, _, hv, v2.inv_nilFunc, rfl⟩))) (.inr (.inr (.inr (.inr ⟨_, _, _, hv, v2.inv_nilFunc⟩))))
      · cases hb

end Go.Proofs.YtedemfmafdilmaaDoor.Ev
