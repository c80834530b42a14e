/- The pure operations of the evaluator are the model's: places, parts, lengths. Conditions: none. -/
import Derived.Test.YtedemfmafdilmaaDoorEvF
namespace Go.Proofs.YtedemfmafdilmaaDoor.Ev

variable {P : Program} {N G n : Nat} {ρ : Nat → Place}
variable {dst : Option Nat} {ty : TypeId} {pos : String} {after : Array Edge} {guard : Option (Nat × Bool)}

theorem pure_slArr {t el : TypeId} {m u : Nat} {x : Operand} {lo hi : Option Operand} (hx : okO N G x = true) (hlo : optOk N G lo = true) (hhi : optOk N G hi = true)
    (hs : szOf P el = some u) (hu : P.underlying t = some (.array m el) ∨ ∃ t', P.underlying t = some (.pointer t') ∧ P.underlying t' = some (.array m el)) :
    PureOK P N G n ρ ⟨dst, .slice t x lo hi none, ty, pos, after, guard⟩ (.slArr m u x lo hi) := by
  intro e a H H' v hf h
  have h1 := hf.op hx
  simp only [aop] at h
  split at h
  · rename_i b o hb
    rw [hb] at h1
    obtain ⟨hbn, hv⟩ := h1.inv_ptr
    split at h
    · cases h
    · rename_i hh hhb
      split at h
      · cases h
      · rename_i l hlb
        simp only [ARes.val.injEq] at h
        obtain ⟨rfl, rfl⟩ := h
        have e2 : l ≤ hh := bound_le hlb (Nat.zero_le _)
        have e1 : hh ≤ m := bound_le hhb (Nat.le_refl _)
        have run : ∀ w, (execOp a.eval ⟨dst, .slice t x lo hi none, ty, pos, after, guard⟩).run P w = .ok (.value (.slice (some (if m = l then ⟨(ρ b).blk, (ρ b).off + o, none⟩ else ⟨(ρ b).blk, (ρ b).off + o + l * u, none⟩)) (hh - l) (m - l))) w := by
          intro w
          rcases hu with hu | ⟨t', hu, hu'⟩
          · simp only [execOp, Instr.sliceAt, Sem.run_bind, run_und hu, Result.andThen_ok, hv, Instr.sureAddr, Sem.run_pure, Option.map_none, run_bounds hf hlo hhi hhb hlb (Nat.le_refl _), run_size hs, add_spot]
          · simp only [execOp, Instr.sliceAt, Instr.slice, Sem.run_bind, run_und hu, run_und hu', Result.andThen_ok, hv, asAddr, Sem.run_pure, Option.map_none, run_bounds hf hlo hhi hhb hlb (Nat.le_refl _), run_size hs, add_spot]
        by_cases hcl : m = l ∧ l ≠ 0
        · rw [if_pos hcl]
          have z1 : hh - l = 0 := by omega
          have z2 : m - l = 0 := by omega
          refine ⟨rfl, _, ?_, run⟩
          rw [z1, z2]
          exact .slE _ _ _ _ _
        · rw [if_neg hcl]
          refine ⟨rfl, .slice (some ⟨(ρ b).blk, (ρ b).off + (o + l * u), none⟩) (hh - l) (m - l), .sl _ _ _ _ _ hbn (by omega) (Nat.le_refl _) (Nat.le_add_right _ _), fun w => ?_⟩
          rw [run w]
          split
          · have : l = 0 := by omega
            subst this
            simp
          · simp [Nat.add_assoc]
  · cases h

theorem pure_fAddr {s : TypeId} {fs : Array Field} {i k : Nat} {f : Field} {x : Operand} (hx : okO N G x = true) (hu : P.underlying s = some (.struct fs)) (hf1 : fs[i]? = some f) (hk : szOf P f.type = some (k + 1)) :
    PureOK P N G n ρ ⟨dst, .fieldAddr s x i, ty, pos, after, guard⟩ (.fAddr f.offset x) := by
  intro e a H H' v hf h
  have h1 := hf.op hx
  simp only [aop] at h
  split at h
  · rename_i b o hb
    simp only [ARes.val.injEq] at h
    obtain ⟨rfl, rfl⟩ := h
    rw [hb] at h1
    obtain ⟨hbn, hv⟩ := h1.inv_ptr
    refine ⟨rfl, .pointer (some ⟨(ρ b).blk, (ρ b).off + (o + f.offset), none⟩), .ptr _ _ hbn, fun w => ?_⟩
    simp only [execOp, Instr.fieldAt, Sem.run_bind, run_und hu, Result.andThen_ok, hf1, hv, Instr.sureAddr, Sem.run_pure, fieldPlace, run_size hk, add_spot, Nat.add_assoc]
    rw [if_neg (by omega)]
    rfl
  · cases h

theorem extract_vl {c c' : Array Value} (h : VL n ρ c.toList c'.toList) (off k : Nat) : VL n ρ (cutCells c.toList off k) (c'.extract off (off + k)).toList := by
  rw [Array.toList_extract]
  simp only [cutCells, List.extract_eq_take_drop, Nat.add_sub_cancel_left]
  exact (h.drop off).take k

theorem pure_field1 {s : TypeId} {fs : Array Field} {i : Nat} {f : Field} {x : Operand} (hx : okO N G x = true) (hu : P.underlying s = some (.struct fs)) (hf1 : fs[i]? = some f) (hk : aggT P f.type = some false) :
    PureOK P N G n ρ ⟨dst, .field s x i, ty, pos, after, guard⟩ (.field1 f.offset x) := by
  intro e a H H' v hf h
  have h1 := hf.op hx
  simp only [aop] at h
  split at h
  · rename_i cs hcs
    obtain ⟨h3, rfl⟩ := ofO_val h
    rw [hcs] at h1
    obtain ⟨c', hv, hvl⟩ := h1.inv_agg
    obtain ⟨y, hy, hr⟩ := hvl.get h3
    refine ⟨rfl, y, hr, fun w => ?_⟩
    have hy' : c'[f.offset]? = some y := by simpa using hy
    simp [execOp, Instr.field, run_und hu, hf1, hv, asAgg, part, run_agg hk, hy']
  · cases h

theorem pure_fieldN {s : TypeId} {fs : Array Field} {i k : Nat} {f : Field} {x : Operand} (hx : okO N G x = true) (hu : P.underlying s = some (.struct fs)) (hf1 : fs[i]? = some f) (hk : aggT P f.type = some true) (hs : szOf P f.type = some k) :
    PureOK P N G n ρ ⟨dst, .field s x i, ty, pos, after, guard⟩ (.fieldN f.offset k x) := by
  intro e a H H' v hf h
  have h1 := hf.op hx
  simp only [aop] at h
  split at h
  · rename_i cs hcs
    split at h
    · simp only [ARes.val.injEq] at h
      obtain ⟨rfl, rfl⟩ := h
      rw [hcs] at h1
      obtain ⟨c', hv, hvl⟩ := h1.inv_agg
      refine ⟨rfl, .agg (c'.extract f.offset (f.offset + k)), ?_, fun w => ?_⟩
      · have := VL.agg (extract_vl hvl f.offset k)
        rwa [Array.toArray_toList] at this
      · simp [execOp, Instr.field, run_und hu, hf1, hv, asAgg, part, run_agg hk, run_size hs]
    · cases h
  · cases h

theorem pure_iAddrArr {t el : TypeId} {m u : Nat} {x i : Operand} (hx : okO N G x = true) (hi : okO N G i = true) (hu : P.underlying t = some (.array m el)) (hs : szOf P el = some u) :
    PureOK P N G n ρ ⟨dst, .indexAddr t x i, ty, pos, after, guard⟩ (.iAddrArr m u x i) := by
  intro e a H H' v hf h
  have h1 := hf.op hx
  have h2 := hf.op hi
  simp only [aop] at h
  split at h
  · rename_i b o k j hb hj
    split at h
    · rename_i hc
      simp only [ARes.val.injEq] at h
      obtain ⟨rfl, rfl⟩ := h
      rw [hb] at h1; rw [hj] at h2
      obtain ⟨hbn, hv⟩ := h1.inv_ptr
      refine ⟨rfl, .pointer (some ⟨(ρ b).blk, (ρ b).off + (o + j.toNat * u), none⟩), .ptr _ _ hbn, fun w => ?_⟩
      simp only [execOp, Instr.indexAt, h2.inv_int, asIntOf, Sem.run_bind, Sem.run_pure, Result.andThen_ok, run_und hu, hv, Instr.sureAddr]
      simp only [if_pos hc, Sem.run_bind, run_size hs, Result.andThen_ok, Sem.run_pure, add_spot, Nat.add_assoc]
    · cases h
  · cases h

theorem pure_iAddrSl {t el : TypeId} {u : Nat} {x i : Operand} (hx : okO N G x = true) (hi : okO N G i = true) (hu : P.underlying t = some (.slice el)) (hs : szOf P el = some u) :
    PureOK P N G n ρ ⟨dst, .indexAddr t x i, ty, pos, after, guard⟩ (.iAddrSl u x i) := by
  intro e a H H' v hf h
  have h1 := hf.op hx
  have h2 := hf.op hi
  simp only [aop] at h
  split at h
  · rename_i b o len c k j hb hj
    split at h
    · rename_i hc
      simp only [ARes.val.injEq] at h
      obtain ⟨rfl, rfl⟩ := h
      rw [hb] at h1; rw [hj] at h2
      rcases h1.inv_slice with ⟨h3, _⟩ | ⟨b', o', c', h3, hbn, hc0, hc1, hc2, hv⟩ | ⟨b', o', k', a', c', h3, _⟩
      · cases h3
      · cases h3
        refine ⟨rfl, .pointer (some ⟨(ρ b).blk, (ρ b).off + (o + j.toNat * u), none⟩), .ptr _ _ hbn, fun w => ?_⟩
        simp only [execOp, Instr.indexAt, h2.inv_int, asIntOf, Sem.run_bind, Sem.run_pure, Result.andThen_ok, run_und hu, hv]
        simp only [if_pos hc, Sem.run_bind, run_size hs, Result.andThen_ok, Sem.run_pure, add_spot, Nat.add_assoc]
      · cases h3
    · cases h
  · cases h

theorem pure_idxStr {t : TypeId} {x i : Operand} (hx : okO N G x = true) (hi : okO N G i = true) (hu : P.underlying t = some .string) :
    PureOK P N G n ρ ⟨dst, .index t x i, ty, pos, after, guard⟩ (.idxStr x i) := by
  intro e a H H' v hf h
  have h1 := hf.op hx
  have h2 := hf.op hi
  simp only [aop] at h
  split at h
  · rename_i s k j hs hj
    split at h
    · rename_i hc
      obtain ⟨h3, rfl⟩ := ofO_val h
      obtain ⟨b, hb, rfl⟩ := Option.map_eq_some_iff.1 h3
      rw [hs] at h1; rw [hj] at h2
      refine ⟨rfl, _, .int _ _, fun w => ?_⟩
      have hb' : s[j.toNat]? = some b := by
        obtain ⟨q, rfl⟩ := List.getElem?_eq_some_iff.1 hb
        have hq : j.toNat < s.size := by simpa using q
        rw [getElem?_pos s j.toNat hq]
        rfl
      simp only [execOp, Instr.index, h2.inv_int, asIntOf, Sem.run_bind, Sem.run_pure, Result.andThen_ok, run_und hu, h1.inv_string, if_pos hc, hb']
    · cases h
  · cases h

theorem pure_idxArr1 {t el : TypeId} {m : Nat} {x i : Operand} (hx : okO N G x = true) (hi : okO N G i = true) (hu : P.underlying t = some (.array m el)) (hk : aggT P el = some false) (hs : szOf P el = some 1) :
    PureOK P N G n ρ ⟨dst, .index t x i, ty, pos, after, guard⟩ (.idxArr1 m x i) := by
  intro e a H H' v hf h
  have h1 := hf.op hx
  have h2 := hf.op hi
  simp only [aop] at h
  split at h
  · rename_i cs k j hs2 hj
    split at h
    · rename_i hc
      obtain ⟨h3, rfl⟩ := ofO_val h
      rw [hs2] at h1; rw [hj] at h2
      obtain ⟨c', hv, hvl⟩ := h1.inv_agg
      obtain ⟨y, hy, hr⟩ := hvl.get h3
      have hy' : c'[j.toNat * 1]? = some y := by simpa using hy
      refine ⟨rfl, y, hr, fun w => ?_⟩
      simp only [execOp, Instr.index, h2.inv_int, asIntOf, Sem.run_bind, Sem.run_pure, Result.andThen_ok, run_und hu, hv, if_pos hc, run_size hs, part, run_agg hk, Bool.false_eq_true, if_false, hy']
    · cases h
  · cases h

theorem pure_idxArrN {t el : TypeId} {m u : Nat} {x i : Operand} (hx : okO N G x = true) (hi : okO N G i = true) (hu : P.underlying t = some (.array m el)) (hk : aggT P el = some true) (hs : szOf P el = some u) :
    PureOK P N G n ρ ⟨dst, .index t x i, ty, pos, after, guard⟩ (.idxArrN m u x i) := by
  intro e a H H' v hf h
  have h1 := hf.op hx
  have h2 := hf.op hi
  simp only [aop] at h
  split at h
  · rename_i cs k j hs2 hj
    split at h
    · rename_i hc
      simp only [ARes.val.injEq] at h
      obtain ⟨rfl, rfl⟩ := h
      rw [hs2] at h1; rw [hj] at h2
      obtain ⟨c', hv, hvl⟩ := h1.inv_agg
      refine ⟨rfl, .agg (c'.extract (j.toNat * u) (j.toNat * u + u)), ?_, fun w => ?_⟩
      · have := VL.agg (extract_vl hvl (j.toNat * u) u)
        rwa [Array.toArray_toList] at this
      · simp only [execOp, Instr.index, h2.inv_int, asIntOf, Sem.run_bind, Sem.run_pure, Result.andThen_ok, run_und hu, hv, if_pos (show 0 ≤ j ∧ j < (m : Int) from ⟨hc.1, hc.2.1⟩), run_size hs, part, run_agg hk, if_true]
    · cases h
  · cases h

theorem pure_extract {x : Operand} {i : Nat} (hx : okO N G x = true) : PureOK P N G n ρ ⟨dst, .extract x i, ty, pos, after, guard⟩ (.extract x i) := by
  intro e a H H' v hf h
  have h1 := hf.op hx
  simp only [aop] at h
  split at h
  · rename_i vs hvs
    obtain ⟨h3, rfl⟩ := ofO_val h
    rw [hvs] at h1
    obtain ⟨c', hv, hvl⟩ := h1.inv_tuple
    obtain ⟨y, hy, hr⟩ := hvl.get h3
    have hy' : c'[i]? = some y := by simpa using hy
    exact ⟨rfl, y, hr, fun w => by simp [execOp, Instr.extract, hv, hy']⟩
  · cases h

theorem pure_tAssert {xt t : TypeId} {d : TypeDesc} {x : Operand} (hx : okO N G x = true) (hu : P.underlying t = some d) (hd : ∀ m, d ≠ .interface m) :
    PureOK P N G n ρ ⟨dst, .typeAssert x xt t false, ty, pos, after, guard⟩ (.tAssert t x) := by
  intro e a H H' v hf h
  have h1 := hf.op hx
  simp only [aop] at h
  split at h
  · rename_i u y hy
    split at h
    · rename_i he
      simp only [ARes.val.injEq] at h
      obtain ⟨rfl, rfl⟩ := h
      rw [hy] at h1
      obtain ⟨y', hv, hr⟩ := h1.inv_iface
      refine ⟨rfl, y', hr, fun w => ?_⟩
      simp only [execOp, Instr.typeAssert, Sem.run_bind, run_und hu, Result.andThen_ok, hv]
      cases d <;> first
        | exact absurd rfl (hd _)
        | (simp only [if_pos he]; rfl)
    · cases h
  · cases h

theorem pure_lenStr {t : TypeId} {c : Call} {x : Operand} (hc : c.callee = .builtin .len) (ha : c.args.toList = [x]) (ht : c.argTypes[0]? = some t) (hx : okO N G x = true) (hu : P.underlying t = some .string) :
    PureOK P N G n ρ ⟨dst, .call c, ty, pos, after, guard⟩ (.lenStr x) := by
  intro e a H H' v hf h
  have h1 := hf.op hx
  simp only [aop] at h
  split at h
  · rename_i s hs
    simp only [ARes.val.injEq] at h
    obtain ⟨rfl, rfl⟩ := h
    rw [hs] at h1
    have hargs : (c.args.map a.eval)[0]? = some (a.eval x) := by
      have : c.args = #[x] := by rw [← Array.toArray_toList (xs := c.args), ha]
      simp [this]
    exact ⟨rfl, _, .int _ _, fun w => by simp [execOp, resolve, hc, invoke, builtin, Builtin.len_, ht, hargs, run_und hu, h1.inv_string, goInt, -Array.getElem?_map]⟩
  · cases h

theorem pure_lenSl {t el : TypeId} {c : Call} {x : Operand} (hc : c.callee = .builtin .len) (ha : c.args.toList = [x]) (ht : c.argTypes[0]? = some t) (hx : okO N G x = true) (hu : P.underlying t = some (.slice el)) :
    PureOK P N G n ρ ⟨dst, .call c, ty, pos, after, guard⟩ (.lenSl x) := by
  intro e a H H' v hf h
  have h1 := hf.op hx
  simp only [aop] at h
  split at h
  · rename_i ad l cc hs
    simp only [ARes.val.injEq] at h
    obtain ⟨rfl, rfl⟩ := h
    rw [hs] at h1
    have hargs : (c.args.map a.eval)[0]? = some (a.eval x) := by
      have : c.args = #[x] := by rw [← Array.toArray_toList (xs := c.args), ha]
      simp [this]
    have hlen : ∃ ad' cc', a.eval x = .slice ad' l cc' := by
      rcases h1.inv_slice with ⟨_, h3, _, h2⟩ | ⟨b, o, c', _, _, _, _, _, h2⟩ | ⟨b, o, k, a', c', _, h3, _, h2⟩
      · exact ⟨_, _, by rw [h2, h3]⟩
      · exact ⟨_, _, h2⟩
      · exact ⟨_, _, by rw [h2, h3]⟩
    obtain ⟨ad', cc', h2⟩ := hlen
    exact ⟨rfl, _, .int _ _, fun w => by simp [execOp, resolve, hc, invoke, builtin, Builtin.len_, ht, hargs, run_und hu, h2, goInt, -Array.getElem?_map]⟩
  · cases h

theorem pure_lenK {t el : TypeId} {m : Nat} {c : Call} {x : Operand} (hc : c.callee = .builtin .len) (ha : c.args.toList = [x]) (ht : c.argTypes[0]? = some t)
    (hu : P.underlying t = some (.array m el) ∨ ∃ t', P.underlying t = some (.pointer t') ∧ P.underlying t' = some (.array m el)) :
    PureOK P N G n ρ ⟨dst, .call c, ty, pos, after, guard⟩ (.lenK m) := by
  intro e a H H' v hf h
  simp only [aop, ARes.val.injEq] at h
  obtain ⟨rfl, rfl⟩ := h
  have hargs : (c.args.map a.eval)[0]? = some (a.eval x) := by
    have : c.args = #[x] := by rw [← Array.toArray_toList (xs := c.args), ha]
    simp [this]
  refine ⟨rfl, _, .int _ _, fun w => ?_⟩
  rcases hu with hu | ⟨t', hu, hu'⟩
  · simp [execOp, resolve, hc, invoke, builtin, Builtin.len_, ht, hargs, run_und hu, goInt, -Array.getElem?_map]
  · simp [execOp, resolve, hc, invoke, builtin, Builtin.len_, ht, hargs, run_und hu, run_und hu', goInt, -Array.getElem?_map]

theorem mm_sound {big : Bool} : ∀ (l l' : List Value) (x x' z : Value), VR n ρ x x' → VL n ρ l l' → mmL big x l = some z →
    ∃ z', VR n ρ z z' ∧ ∀ w, (l'.foldlM (fun a b => if big then Builtin.max2 a b else Builtin.min2 a b) x' : Sem Value).run P w = .ok z' w := by
  intro l
  induction l with
  | nil =>
    intro l' x x' z hx hl h
    have : l' = [] := List.eq_nil_of_length_eq_zero (by have := hl.1; simpa using this.symm)
    subst this
    simp only [mmL] at h
    cases h
    exact ⟨x', hx, fun w => rfl⟩
  | cons y l ih =>
    intro l' x x' z hx hl h
    cases l' with
    | nil => have := hl.1; simp at this
    | cons y' l' =>
      simp only [mmL] at h
      split at h
      · rename_i q hq
        unfold mm2 at hq
        split at hq
        · rename_i k i k' j
          split at hq
          · rename_i hk
            subst hk
            injection hq with hq
            subst hq
            have e1 := hx.inv_int
            have e2 := hl.head.inv_int
            obtain ⟨z', hz, hrun⟩ := ih l' _ _ z (.int k _) hl.tail h
            refine ⟨z', hz, fun w => ?_⟩
            rw [List.foldlM_cons, e1, e2]
            cases big <;> simp [Builtin.max2, Builtin.min2] at hrun ⊢ <;> exact hrun w
          · cases hq
        · cases hq
      · cases h

theorem pure_mm {big : Bool} {c : Call} (hc : c.callee = .builtin (if big then .max else .min)) (hx : c.args.toList.all (okO N G) = true) :
    PureOK P N G n ρ ⟨dst, .call c, ty, pos, after, guard⟩ (.mm big c.args.toList) := by
  intro e a H H' v hf h
  simp only [aop] at h
  have hl := vl_ops hf _ hx
  split at h
  · cases h
  · rename_i x l hxl
    obtain ⟨h3, rfl⟩ := ofO_val h
    rw [hxl] at hl
    cases hm : c.args.toList.map a.eval with
    | nil => rw [hm] at hl; have := hl.1; simp at this
    | cons x' l' =>
      rw [hm] at hl
      obtain ⟨z', hz, hrun⟩ := mm_sound (P := P) l l' x x' v hl.head hl.tail h3
      refine ⟨rfl, z', hz, fun w => ?_⟩
      have hm' : (c.args.map a.eval).toList = x' :: l' := by simpa using hm
      have := hrun w
      cases big
      · simp only [Bool.false_eq_true, if_false] at hc this
        simp [execOp, resolve, hc, invoke, builtin, Builtin.min_, hm', this, -Array.toList_map]
      · simp only [if_true] at hc this
        simp [execOp, resolve, hc, invoke, builtin, Builtin.max_, hm', this, -Array.toList_map]

end Go.Proofs.YtedemfmafdilmaaDoor.Ev
